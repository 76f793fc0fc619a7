/- The abstract machine: memory, reading, making blocks, storing, appending. No conditions beyond those each theorem states. -/
import Derived.Test.YtpngimbillnjdaaAmB
import Derived.MapKept
import Derived.Laws.Cells
import Derived.Laws.BytesArg
import Derived.Deep.AppendSrc
import Derived.Laws.MakeOwn
import Derived.Laws.IdiomStrings
import Derived.Maps.RangeRun
import Derived.Deep.Upon
import Derived.Laws.Append
/- Abstract and real memory related; what stays; reading. -/
namespace Go.Am
open Go

/-- No cell of the first n is frozen. -/
def unfrozen (fr : Nat × Nat) (n : Nat) : Prop := fr.1 = fr.2 ∨ n ≤ fr.1

/-- Slots whose value is known, and the real ones. -/
def TRel (ρ : Ren) (t : Tmps) (tmps : Array Value) : Prop := ∀ i v, t.get i = some v → i < tmps.size ∧ VRel ρ v (tmps.getD i undef)
theorem TRel.mono {ρ ρ' : Ren} {t : Tmps} {tmps : Array Value} (h : TRel ρ t tmps) (hm : ∀ a q, ρ a = some q → ρ' a = some q) : TRel ρ' t tmps := fun i v hv => ⟨(h i v hv).1, (h i v hv).2.mono hm⟩

/-! ### What must hold of code -/
def codeOk (n : Nat) : Code → Bool
  | .region _ ops _ => ops.toList.all fun o => match o.dst with
    | some d => Nat.blt d n
    | none => true
  | .seq a b => codeOk n a && codeOk n b
  | .cond _ a b => codeOk n a && codeOk n b
  | .block _ b => codeOk n b
  | .loop b => codeOk n b
  | .scope b => codeOk n b
  | .rangeFunc _ ps a b => (ps.toList.all fun p => Nat.blt p n) && (codeOk n a && codeOk n b)
  | _ => true

/-- A loop's record. -/
structure LoopRel (ρ : Ren) (w : World) (q : RB) (st : LoopState) (x : AExit) (t : Tmps) (ps : Array Tmp) (assign body : Code) (d : Nat) (jump : Option Code) (r : Loop) (p : RB) : Prop where
  at_ : w.heap[q.r]? = some (.loop r)
  st_ : r.state = st
  pend : r.pending = jump
  tmps : TRel ρ t r.tmps
  ps_ : r.params = ps
  assign_ : r.assign = assign
  body_ : r.body = body
  blk : ρ d = some p
  defers : r.defers = p.r
  ok0 : (ps.toList.all fun p => Nat.blt p r.tmps.size) = true
  ok1 : codeOk r.tmps.size assign = true
  ok2 : codeOk r.tmps.size body = true

def jumpOf : AExit → Option Code
  | .normal => none
  | .exit i => some (.exit i)
  | .ret => some .ret

/-- An abstract block and the real one. -/
def RelCells (P : Program) (ρ : Ren) (w : World) (q : RB) (c : List Value) (e : TypeId) (ro : Bool) : Prop :=
  ∃ rc fr, w.heap[q.r]? = some (.cells rc e fr) ∧ q.size = rc.size ∧ sz P e = some q.esz ∧ q.base + c.length ≤ rc.size ∧
    (∀ (i : Nat) (v : Value), c[i]? = some v → ∃ v', rc[q.base + i]? = some v' ∧ VRel ρ v v') ∧ (ro = false → unfrozen fr rc.size)

def isRo : AObj → Bool
  | .cells _ _ r => r
  | .map _ _ r => r
  | .iter .. => false
  | .loop .. => false
  | .defd => false

/-- Related entries of maps. -/
structure EntRel (ρ : Ren) (e e' : MapEntry) : Prop where
  key : VRel ρ e.key e'.key
  val : VRel ρ e.val e'.val
  born : e'.born = e.born
def ERel (ρ : Ren) (es es' : List MapEntry) : Prop := es.length = es'.length ∧ ∀ (i : Nat) (e e' : MapEntry), es[i]? = some e → es'[i]? = some e' → EntRel ρ e e'
theorem EntRel.mono {ρ ρ' : Ren} {e e' : MapEntry} (h : EntRel ρ e e') (hm : ∀ a q, ρ a = some q → ρ' a = some q) : EntRel ρ' e e' := ⟨h.key.mono hm, h.val.mono hm, h.born⟩
theorem ERel.mono {ρ ρ' : Ren} {es es' : List MapEntry} (h : ERel ρ es es') (hm : ∀ a q, ρ a = some q → ρ' a = some q) : ERel ρ' es es' := ⟨h.1, fun i e e' a b => (h.2 i e e' a b).mono hm⟩

def RelObj (P : Program) (ρ : Ren) (w : World) (q : RB) : AObj → Prop
  | .cells c e ro => RelCells P ρ w q c e ro
  | .map es clock _ => ∃ res, w.heap[q.r]? = some (.map res clock) ∧ ERel ρ es res.toList
  | .iter m since seen last => ∃ m', w.heap[q.r]? = some (.mapIter m' since seen.toArray last) ∧ q.base = 0 ∧ (m = none ∧ m' = none ∨ ∃ a p, m = some a ∧ m' = some p.r ∧ ρ a = some p)
  | .loop st x t ps assign body d => ∃ r p, LoopRel ρ w q st x t ps assign body d (jumpOf x) r p
  | .defd => w.heap[q.r]? = some (.deferred (some []))

structure Rel (P : Program) (ρ : Ren) (h : AH) (w : World) : Prop where
  dom : ∀ a q, ρ a = some q → a < h.next ∧ q.r < w.heap.size
  blk : ∀ a q o, ρ a = some q → h.get a = some o → RelObj P ρ w q o
  sep : ∀ a a' q q' o o', ρ a = some q → ρ a' = some q' → h.get a = some o → isRo o = false → h.get a' = some o' → q.r = q'.r → a = a'
  out : ∀ a, h.next ≤ a → h.get a = none

/-- A real block that a live block stands for that may be written. -/
def Held (ρ : Ren) (h : AH) (i : Nat) : Prop := ∃ a q o, ρ a = some q ∧ q.r = i ∧ h.get a = some o ∧ isRo o = false

/-- What a step leaves. -/
structure Step (P : Program) (ρ : Ren) (h : AH) (w : World) (ρ' : Ren) (h' : AH) (w' : World) : Prop where
  rel : Rel P ρ' h' w'
  mono : ∀ a q, ρ a = some q → ρ' a = some q
  old : ∀ a, a < h.next → ρ a = none → ρ' a = none ∧ h'.get a = h.get a
  dead : ∀ a, a < h.next → h.get a = none → h'.get a = none
  ro : ∀ a o, h.get a = some o → isRo o = true → h'.get a = some o
  new : ∀ a q, h.next ≤ a → ρ' a = some q → w.heap.size ≤ q.r ∨ Held ρ h q.r
  next : h.next ≤ h'.next
  keep : ∀ i, i < w.heap.size → ¬ Held ρ h i → w'.heap[i]? = w.heap[i]?
  grow : w.heap.size ≤ w'.heap.size
  os : w'.os = w.os
  tape : w'.tape = w.tape
  output : w'.output = w.output

section
variable {P : Program} {ρ ρ1 ρ2 : Ren} {h h1 h2 : AH} {w w1 w2 : World}

theorem Step.refl (r : Rel P ρ h w) : Step P ρ h w ρ h w where
  rel := r
  mono := fun _ _ h => h
  old := fun _ _ h => ⟨h, rfl⟩
  dead := fun _ _ h => h
  ro := fun _ _ h _ => h
  new := fun a q ha hq => absurd (r.dom a q hq).1 (by omega)
  next := Nat.le_refl _
  keep := fun _ _ _ => rfl
  grow := Nat.le_refl _
  os := rfl
  tape := rfl
  output := rfl

theorem Step.trans (x : Step P ρ h w ρ1 h1 w1) (y : Step P ρ1 h1 w1 ρ2 h2 w2) : Step P ρ h w ρ2 h2 w2 := by
  have held : ∀ i, i < w.heap.size → Held ρ1 h1 i → Held ρ h i := by
    rintro i hi ⟨a, q, o, hq, hr, ha, ho⟩
    by_cases hlt : a < h.next
    · cases h0 : ρ a with
      | none => rw [(x.old a hlt h0).1] at hq; cases hq
      | some q0 =>
        have := x.mono a q0 h0
        rw [hq] at this; injection this with this; subst this
        cases hb : h.get a with
        | none => rw [x.dead a hlt hb] at ha; cases ha
        | some o0 =>
          cases hro : isRo o0 with
          | true => rw [x.ro a o0 hb hro] at ha; injection ha with ha; subst ha; rw [hro] at ho; cases ho
          | false => exact ⟨a, q, o0, h0, hr, hb, hro⟩
    · rcases x.new a q (by omega) hq with h' | h'
      · omega
      · rw [← hr]; exact h'
  exact {
    rel := y.rel
    mono := fun a q hq => y.mono a q (x.mono a q hq)
    old := fun a ha hq => by
      obtain ⟨e1, e2⟩ := x.old a ha hq
      obtain ⟨e3, e4⟩ := y.old a (Nat.lt_of_lt_of_le ha x.next) e1
      exact ⟨e3, e4.trans e2⟩
    dead := fun a ha hd => y.dead a (Nat.lt_of_lt_of_le ha x.next) (x.dead a ha hd)
    ro := fun a o ha hr => y.ro a o (x.ro a o ha hr) hr
    new := fun a q ha hq => by
      by_cases hlt : a < h1.next
      · cases h0 : ρ1 a with
        | none => rw [(y.old a hlt h0).1] at hq; cases hq
        | some q0 =>
          have := y.mono a q0 h0
          rw [hq] at this; injection this with this; subst this
          exact x.new a q ha h0
      · rcases y.new a q (by omega) hq with h' | h'
        · exact .inl (Nat.le_trans x.grow h')
        · by_cases hi : q.r < w.heap.size
          · exact .inr (held _ hi h')
          · exact .inl (by omega)
    next := Nat.le_trans x.next y.next
    keep := fun i hi hn => (y.keep i (Nat.lt_of_lt_of_le hi x.grow) (fun hh => hn (held i hi hh))).trans (x.keep i hi hn)
    grow := Nat.le_trans x.grow y.grow
    os := y.os.trans x.os
    tape := y.tape.trans x.tape
    output := y.output.trans x.output }
end
end Go.Am

/- Maps that are read. -/
namespace Go.Am
open Go

section
variable {P : Program} {ρ : Ren} {h : AH} {w : World}

theorem keyOk_eq {kind : TypeDesc} {k k' : Value} (hk : keyOk kind k = true) (hr : VRel ρ k k') : k' = k := by
  cases hr <;> first | rfl | (cases kind <;> simp [keyOk] at hk)

theorem sameNow_rel {kind : TypeDesc} {k a a' : Value} (hk : keyOk kind k = true) (hr : VRel ρ a a') : Instr.sameNow kind k a' = Instr.sameNow kind k a := by
  cases kind <;> cases k <;> first | (simp [keyOk] at hk; done) | (cases hr <;> rfl)

theorem findNow_rel {kind : TypeDesc} {k : Value} (hk : keyOk kind k = true) : ∀ (es es' : List MapEntry) (i : Nat), ERel ρ es es' → ∀ r, Instr.findNow kind k es i = some r →
    match r with
    | none => Instr.findNow kind k es' i = some none
    | some (j, v) => ∃ v', Instr.findNow kind k es' i = some (some (j, v')) ∧ VRel ρ v v' := by
  intro es
  induction es with
  | nil =>
    intro es' i hr r hf
    have : es' = [] := by have := hr.1; cases es' with | nil => rfl | cons a l => simp at this
    subst this
    simp only [Instr.findNow] at hf
    injection hf with hf; subst hf
    rfl
  | cons e es ih =>
    intro es' i hr r hf
    cases es' with
    | nil => have := hr.1; simp at this
    | cons e' es' =>
      have he := hr.2 0 e e' rfl rfl
      have ht : ERel ρ es es' := ⟨by have := hr.1; simpa using this, fun i a b ha hb => hr.2 (i + 1) a b (by simpa using ha) (by simpa using hb)⟩
      simp only [Instr.findNow] at hf ⊢
      have hsn := sameNow_rel hk he.key
      cases hs : Instr.sameNow kind k e.key with
      | none => rw [hs] at hf; cases hf
      | some b =>
        rw [hs] at hsn hf
        cases b with
        | true =>
          simp only at hf
          injection hf with hf; subst hf
          simp only [hsn]
          exact ⟨_, rfl, he.val⟩
        | false =>
          simp only at hf
          simp only [hsn]
          exact ih es' (i + 1) ht r hf

theorem entries_rel (r : Rel P ρ h w) {x x' : Value} {es : List MapEntry} (he : entriesOf h x = some es) (hx : VRel ρ x x') :
    (x' = .map none ∧ es = []) ∨ ∃ b res clock, x' = .map (some b) ∧ w.heap[b]? = some (.map res clock) ∧ ERel ρ es res.toList := by
  unfold entriesOf at he
  split at he
  · injection he with he; subst he
    cases hx
    exact .inl ⟨rfl, rfl⟩
  · split at he
    · rename_i a _ es' clock ro hg
      injection he with he; subst he
      cases hx with
      | map a q hq =>
        obtain ⟨res, h1, h2⟩ := r.blk a q _ hq hg
        exact .inr ⟨q.r, res, clock, rfl, h1, h2⟩
    · cases he
  · cases he

theorem run_checkKey {kt : TypeId} {kind : TypeDesc} {k : Value} (hu : P.underlying kt = some kind) (hk : keyOk kind k = true) (b : Bool) (w : World) : (Instr.checkKey b 10000 kt k).run P w = .ok () w := by
  show (Instr.checkKey b (9999 + 1) kt k).run P w = .ok () w
  unfold Instr.checkKey
  simp only [Sem.run_bind, run_underlying hu, Result.andThen_ok]
  cases kind <;> cases k <;> first | (simp [keyOk] at hk; done) | rfl

theorem run_findKey {kt : TypeId} {kind : TypeDesc} {k : Value} {es : List MapEntry} {r : Option (Nat × Value)} (hu : P.underlying kt = some kind) (hf : Instr.findNow kind k es 0 = some r) (w : World) : (Instr.findKey kt k es).run P w = .ok r w := by
  unfold Instr.findKey
  simp only [Sem.run_bind, run_underlying hu, Result.andThen_ok, hf, Sem.run_pure]

theorem afind_inv {kt : TypeId} {k : Value} {es : List MapEntry} {r : Option (Nat × Value)} (hf : afind P kt k es = some r) : ∃ kind, P.underlying kt = some kind ∧ keyOk kind k = true ∧ Instr.findNow kind k es 0 = some r := by
  unfold afind at hf
  split at hf
  · rename_i kind hu
    cases hk : keyOk kind k with
    | false => rw [hk] at hf; cases hf
    | true => rw [hk] at hf; exact ⟨kind, hu, hk, hf⟩
  · cases hf

theorem run_lookup {t kt et : TypeId} {kind : TypeDesc} {k x : Value} {ok : Bool} {es' : Array MapEntry} {r1 : Option (Nat × Value)} (hu : P.underlying t = some (.map kt et)) (hku : P.underlying kt = some kind) (hko : keyOk kind k = true)
    (hx : (x = .map none ∧ es' = #[]) ∨ ∃ b clock, x = .map (some b) ∧ w.heap[b]? = some (.map es' clock)) (hfn : Instr.findNow kind k es'.toList 0 = some r1) :
    (∀ j v, r1 = some (j, v) → (Instr.lookup t x k ok).run P w = .ok (if ok then .tuple #[v, .bool true] else v) w) ∧ (∀ z, r1 = none → zeroOf P et = some z → (Instr.lookup t x k ok).run P w = .ok (if ok then .tuple #[z, .bool false] else z) w) := by
  refine ⟨?_, ?_⟩
  · rintro j v rfl
    rcases hx with ⟨rfl, rfl⟩ | ⟨b, clock, rfl, e2⟩
    · simp only [Instr.lookup, Sem.run_bind, run_underlying hu, Result.andThen_ok, Sem.run_pure, run_checkKey hku hko, run_findKey hku hfn]
    · simp only [Instr.lookup, Sem.run_bind, run_underlying hu, Result.andThen_ok, Sem.run_pure, MapKept.run_getObj_map e2, run_checkKey hku hko, run_findKey hku hfn]
  · rintro z rfl hz
    rcases hx with ⟨rfl, rfl⟩ | ⟨b, clock, rfl, e2⟩
    · simp only [Instr.lookup, Sem.run_bind, run_underlying hu, Result.andThen_ok, Sem.run_pure, run_checkKey hku hko, run_findKey hku hfn, run_zero hz]
    · simp only [Instr.lookup, Sem.run_bind, run_underlying hu, Result.andThen_ok, Sem.run_pure, MapKept.run_getObj_map e2, run_checkKey hku hko, run_findKey hku hfn, run_zero hz]

theorem ERel.cons_inv' {ρ : Ren} {e e' : MapEntry} {es es' : List MapEntry} (h : ERel ρ (e :: es) (e' :: es')) : EntRel ρ e e' ∧ ERel ρ es es' :=
  ⟨h.2 0 e e' rfl rfl, by simpa using h.1, fun i a b ha hb => h.2 (i + 1) a b (by simpa using ha) (by simpa using hb)⟩
theorem ERel.find {ρ : Ren} {n : Nat} : ∀ (es es' : List MapEntry), ERel ρ es es' → ∀ e, es.find? (fun e => Nat.beq e.born n) = some e → ∃ e', es'.find? (fun e => e.born == n) = some e' ∧ EntRel ρ e e' := by
  intro es
  induction es with
  | nil => intro es' _ e h; cases h
  | cons x es ih =>
    intro es' hr e h
    cases es' with
    | nil => have := hr.1; simp at this
    | cons x' es' =>
      obtain ⟨h1, h2⟩ := hr.cons_inv'
      simp only [List.find?_cons] at h ⊢
      have hb : (x'.born == n) = Nat.beq x.born n := by
        rw [h1.born]
        by_cases e : x.born = n
        · rw [beqt e]; simp [e]
        · rw [beqf e]; simp [e]
      rw [hb]
      cases hx : Nat.beq x.born n with
      | true => rw [hx] at h; injection h with h; subst h; exact ⟨x', rfl, h1⟩
      | false => rw [hx] at h; exact ih es' h2 e h
theorem anEntry_sound (r : Rel P ρ h w) {x x' v : Value} (hx : VRel ρ x x') (hr : anEntry h x = some v) : ∃ v', (Instr.entry x').run P w = .ok v' w ∧ VRel ρ v v' := by
  unfold anEntry at hr
  split at hr
  · rename_i b
    cases hx with
    | ptr _ _ q hq =>
    split at hr
    · rename_i m since seen stepped hg
      obtain ⟨m', hres, hbase, hm⟩ := r.blk b q _ hq hg
      obtain ⟨am', p, e1, e2, e3⟩ : ∃ a' p, some m = some a' ∧ m' = some p.r ∧ ρ a' = some p := by
        rcases hm with ⟨h, _⟩ | h
        · cases h
        · exact h
      injection e1 with e1; subst e1; subst e2
      split at hr
      · rename_i stamp es clock ro hlast hgm
        obtain ⟨res, hmap, her⟩ := r.blk m p _ e3 hgm
        cases hc : Nat.beq clock stepped with
        | false => rw [hc] at hr; cases hr
        | true =>
        rw [hc] at hr
        simp only [cond_true] at hr
        have hcs := of_beq hc
        subst hcs
        split at hr
        · rename_i e hf
          injection hr with hr; subst hr
          obtain ⟨e', he', hrel⟩ := ERel.find _ _ her e hf
          have hback : seen.toArray.back? = some stamp := by rw [List.back?_toArray]; exact hlast
          have hfind : res.find? (fun e => e.born == stamp) = some e' := by rw [← Array.find?_toList]; exact he'
          refine ⟨.tuple #[e'.key, e'.val], ?_, .tuple _ _ rfl (LRel.cons hrel.key (LRel.cons hrel.val LRel.nil)).toArrays.2⟩
          simp [Instr.entry, hbase, getObj, Sem.run, hres, Result.andThen, hback, hmap, hfind]
        · cases hr
      · cases hr
    · cases hr
  · cases hr

theorem amread_sound {ev : Operand → Option Value} {parts : List (Nat × Operand) → Option (List (Nat × Value))} {evs : List Operand → Option (List Value)} {rv : Operand → Value} (he : EvRel ρ ev parts evs rv)
    (r : Rel P ρ h w) {o : Oper} {v : Value} (hr : amread P h ev o.op = some v) : ∃ v', (execOp rv o).run P w = .ok (.value v') w ∧ VRel ρ v v' := by
  unfold amread at hr
  split at hr
  · rename_i t x i ok hop
    split at hr
    · rename_i kt et m k hu hx hi
      split at hr
      · rename_i es hes
        have hkr := he.ev _ _ hi
        have hxr := he.ev _ _ hx
        cases hfi : afind P kt k es with
        | none => rw [hfi] at hr; cases hr
        | some r0 =>
        obtain ⟨kind, hku, hko, hfn⟩ := afind_inv hfi
        have hk' : rv i = k := keyOk_eq hko hkr
        rw [hfi] at hr
        have hes' : ∃ (es' : Array MapEntry) (r1 : Option (Nat × Value)), ((rv x = .map none ∧ es' = #[]) ∨ ∃ b clock, rv x = .map (some b) ∧ w.heap[b]? = some (.map es' clock)) ∧ Instr.findNow kind k es'.toList 0 = some r1 ∧
            (match r0 with | none => r1 = none | some (j, v) => ∃ v', r1 = some (j, v') ∧ VRel ρ v v') := by
          rcases entries_rel r hes hxr with ⟨e1, rfl⟩ | ⟨b, res, clock, e1, e2, e3⟩
          · refine ⟨#[], none, .inl ⟨e1, rfl⟩, rfl, ?_⟩
            simp only [Instr.findNow] at hfn
            injection hfn with hfn; subst hfn; rfl
          · have := findNow_rel hko es res.toList 0 e3 r0 hfn
            cases r0 with
            | none => exact ⟨res, none, .inr ⟨b, clock, e1, e2⟩, this, rfl⟩
            | some jv =>
              obtain ⟨j, v0⟩ := jv
              obtain ⟨v', h1, h2⟩ := this
              exact ⟨res, some (j, v'), .inr ⟨b, clock, e1, e2⟩, h1, v', rfl, h2⟩
        obtain ⟨es', r1, hes', hfn', hr1⟩ := hes'
        have hlook := run_lookup (P := P) (w := w) (ok := ok) hu hku hko hes' hfn'
        cases r0 with
        | some jv =>
          obtain ⟨j, v0⟩ := jv
          obtain ⟨v', rfl, hv'⟩ := hr1
          simp only at hr
          injection hr with hr; subst hr
          have := hlook.1 j v' rfl
          refine ⟨_, by simp only [execOp, hop, hk', Sem.run_bind, this, Result.andThen_ok, Sem.run_pure]; rfl, ?_⟩
          cases ok with
          | false => exact hv'
          | true => exact .tuple _ _ rfl (LRel.cons hv' (LRel.cons (.bool true) LRel.nil)).toArrays.2
        | none =>
          subst hr1
          simp only at hr
          split at hr
          · rename_i z hz
            injection hr with hr; subst hr
            obtain ⟨i0, hi0, hzz, hfl, _⟩ := zeroOf_inv hz
            have := hlook.2 z rfl hz
            refine ⟨_, by simp only [execOp, hop, hk', Sem.run_bind, this, Result.andThen_ok, Sem.run_pure]; rfl, ?_⟩
            cases ok with
            | false => exact VRel.flat hfl
            | true => exact .tuple _ _ rfl (LRel.cons (VRel.flat hfl) (LRel.cons (.bool false) LRel.nil)).toArrays.2
          · cases hr
      · cases hr
    · cases hr
  · rename_i c hop
    split at hr
    · rename_i x t hcal hargs hts
      split at hr
      · rename_i kt et m hu hx
        split at hr
        · rename_i es hes
          injection hr with hr; subst hr
          have hxr := he.ev _ _ hx
          have ea : c.args.map rv = #[rv x] := by rw [amap, hargs]; rfl
          have et : c.argTypes = #[t] := by rw [← Array.toArray_toList (xs := c.argTypes), hts]
          rcases entries_rel r hes hxr with ⟨e1, rfl⟩ | ⟨b, res, clock, e1, e2, e3⟩
          · refine ⟨_, ?_, .int _ _⟩
            simp [execOp, hop, hcal, resolve, invoke, builtin, ea, et, Builtin.len_, e1, run_underlying hu, goInt]
          · refine ⟨_, ?_, .int _ _⟩
            have := e3.1
            simp [execOp, hop, hcal, resolve, invoke, builtin, ea, et, Builtin.len_, e1, run_underlying hu, goInt, MapKept.run_getObj_map e2, this]
        · cases hr
      · cases hr
    · cases hr
  · unfold aentry at hr
    split at hr
    · rename_i it hop
      split at hr
      · rename_i x hx
        obtain ⟨v', h1, h2⟩ := anEntry_sound r (he.ev _ _ hx) hr
        exact ⟨v', by simp only [execOp, hop, Sem.run_bind, h1, Result.andThen_ok, Sem.run_pure], h2⟩
      · cases hr
    · cases hr
end
end Go.Am

/- Operations that read memory. -/
namespace Go.Am
open Go

section
variable {P : Program} {ρ : Ren} {h : AH} {w : World}

theorem rel_cell (r : Rel P ρ h w) {a : Nat} {q : RB} (hq : ρ a = some q) {c : List Value} {e : TypeId} {ro : Bool} (hg : h.get a = some (.cells c e ro)) {i : Nat} {v : Value} (hv : c[i]? = some v) :
    ∃ v', w.cell? ⟨q.r, q.base + i, none⟩ = some v' ∧ VRel ρ v v' := by
  obtain ⟨rc, fr, h1, _, _, _, h5, _⟩ := r.blk a q _ hq hg
  obtain ⟨v', h6, h7⟩ := h5 i v hv
  exact ⟨v', by simp [World.cell?, h1, h6], h7⟩

/-- Some cells of a block, as the real memory has them. -/
theorem rel_cells (r : Rel P ρ h w) {a : Nat} {q : RB} (hq : ρ a = some q) {o n : Nat} {l : List Value} (hl : cellsAt h ⟨a, o, none⟩ n = some l) :
    l.length = n ∧ ∃ l', LRel ρ l l' ∧ ∀ (j : Nat) (v : Value), l'[j]? = some v → w.cell? ⟨q.r, q.base + (o + j), none⟩ = some v := by
  unfold cellsAt at hl
  dsimp only at hl
  split at hl
  · rename_i c e ro hg
    cases hb : Nat.ble (o + n) c.length with
    | false => rw [hb] at hl; cases hl
    | true =>
      rw [hb] at hl
      simp only [cond_true] at hl
      injection hl with hl
      subst hl
      have hle : o + n ≤ c.length := Nat.ble_eq.mp hb
      have hlen : ((c.drop o).take n).length = n := by simp; omega
      obtain ⟨rc, fr, h1, h2, h3, h4, h5, h6⟩ := r.blk a q _ hq hg
      refine ⟨hlen, (rc.toList.drop (q.base + o)).take n, ⟨?_, fun i v v' hv hv' => ?_⟩, fun j v hj => ?_⟩
      · simp; omega
      · rw [List.getElem?_take] at hv hv'
        split at hv
        · rename_i hi
          rw [if_pos hi] at hv'
          rw [List.getElem?_drop] at hv hv'
          obtain ⟨v1, h7, h8⟩ := h5 _ _ hv
          have e1 : rc.toList[q.base + o + i]? = rc[q.base + (o + i)]? := by rw [Nat.add_assoc]; simp
          rw [e1, h7] at hv'
          injection hv' with hv'
          subst hv'
          exact h8
        · cases hv
      · rw [List.getElem?_take] at hj
        split at hj
        · rw [List.getElem?_drop] at hj
          have e1 : rc.toList[q.base + o + j]? = rc[q.base + (o + j)]? := by rw [Nat.add_assoc]; simp
          rw [e1] at hj
          simp [World.cell?, h1, hj]
        · cases hj
  · cases hl

theorem run_cells {b o : Nat} {l : List Value} (h : ∀ (j : Nat) (v : Value), l[j]? = some v → w.cell? ⟨b, o + j, none⟩ = some v) : (loadCells ⟨b, o, none⟩ l.length).run P w = .ok l.toArray w :=
  run_loadCells_list w _ l fun j v hj => by rw [addr_mk_add]; exact h j v hj

theorem aload_sound (r : Rel P ρ h w) {t : TypeId} {a : Addr} {x' v : Value} (hl : aload P h t a = some v) (hx : VRel ρ (.pointer (some a)) x') : ∃ v', (Instr.loadAt t x').run P w = .ok v' w ∧ VRel ρ v v' := by
  cases hx with
  | ptr b o q hq =>
    unfold aload at hl
    split at hl
    · rename_i n ha hs
      split at hl
      · rename_i l hc
        injection hl with hl
        subst hl
        obtain ⟨hlen, l', h1, h2⟩ := rel_cells r hq hc
        have hn : n = l'.length := by rw [← h1.1, hlen]
        have := run_cells (P := P) (w := w) (b := q.r) (o := q.base + o) (l := l') (fun j v hj => by rw [Nat.add_assoc]; exact h2 j v hj)
        refine ⟨.agg l'.toArray, ?_, .agg _ _ h1.toArrays.1 h1.toArrays.2⟩
        simp [Instr.loadAt, Instr.sureAddr, loadVar, run_isAgg ha, run_sizeOf hs, hn, this]
      · cases hl
    · rename_i n ha hs
      split at hl
      · rename_i c e ro hg
        obtain ⟨v', h1, h2⟩ := rel_cell r hq hg hl
        exact ⟨v', by simp [Instr.loadAt, Instr.sureAddr, loadVar, run_isAgg ha, h1], h2⟩
      · cases hl
    · cases hl

theorem rel_esz (r : Rel P ρ h w) {a : Nat} {q : RB} (hq : ρ a = some q) {c : List Value} {e : TypeId} {ro : Bool} (hg : h.get a = some (.cells c e ro)) {n : Nat} (hs : sz P e = some n) : q.esz = n := by
  obtain ⟨rc, fr, _, _, h3, _⟩ := r.blk a q _ hq hg
  rw [hs] at h3; injection h3 with h3; exact h3.symm

theorem elemOk_esz (r : Rel P ρ h w) {a : Option Addr} {c e n : Nat} (he : elemOk h a c e = true) (hs : sz P e = some n) : capExact c = false → ∀ p q, a = some p → ρ p.block = some q → q.esz = n := by
  intro hx p q ha hq
  subst ha
  unfold elemOk at he
  rw [hx] at he
  simp only [Bool.false_or] at he
  split at he
  · rename_i c' e' ro hg
    obtain rfl := of_beq he
    exact rel_esz r hq hg hs
  · cases he

theorem aslice_sound (r : Rel P ρ h w) {t : TypeId} {x x' v : Value} {blo bhi bmx : Option (Option Value)} {lo hi mx : Option Value} (hl : aslice P h t x blo bhi bmx = some v) (hx : VRel ρ x x')
    (rlo : BRel ρ blo lo) (rhi : BRel ρ bhi hi) (rmx : BRel ρ bmx mx) : ∃ v', (Instr.sliceAt t x' lo hi mx).run P w = .ok v' w ∧ VRel ρ v v' := by
  unfold aslice at hl
  split at hl
  · -- a string
    rename_i s hu
    obtain rfl := hx.string_inv
    split at hl
    · rename_i b hb
      split at hl
      · rename_i l hlo
        injection hl with hl; subst hl
        have hm : mx = none := rmx
        subst hm
        have := run_bounds2 (P := P) (isS := false) hb hlo rhi rlo (Nat.le_refl s.size) w
        refine ⟨.string (s.extract l b), ?_, .string _⟩
        simp [Instr.sliceAt, Instr.slice, run_underlying hu, this]
      · cases hl
    · cases hl
  · -- a slice
    rename_i e a n c hu
    cases hok : elemOk h a c e with
    | false => rw [hok] at hl; cases hl
    | true =>
      rw [hok] at hl
      simp only [Bool.not_true, cond_false] at hl
      split at hl
      · rename_i size hs
        have hm : mx = none := rmx
        subst hm
        split at hl
        · rename_i b hb
          split at hl
          · rename_i l hlo
            injection hl with hl; subst hl
            have hn : n ≤ capLow c := by cases hx <;> first | exact Nat.zero_le _ | assumption
            have hbl : b ≤ capLow c := by
              rcases abound_inv hb rhi with ⟨_, _, rfl⟩ | ⟨_, _, _, _, _, _, _, h⟩
              · exact hn
              · exact h
            have hlb : l ≤ b := by
              rcases abound_inv hlo rlo with ⟨_, _, rfl⟩ | ⟨_, _, _, _, _, _, _, h⟩
              · exact Nat.zero_le _
              · exact h
            obtain ⟨a', c', rfl, hlow, hv⟩ := slice_rel hx hlb hbl (size := size) (elemOk_esz r hok hs)
            have := run_bounds2 (P := P) (isS := true) hb hlo rhi rlo hlow w
            refine ⟨_, ?_, hv⟩
            simp [Instr.sliceAt, Instr.slice, run_underlying hu, this, run_sizeOf hs]
          · cases hl
        · cases hl
      · rename_i size mv hs
        split at hl
        · rename_i m hm
          cases hmK : Nat.blt m K with
          | false => rw [hmK] at hl; cases hl
          | true =>
          rw [hmK] at hl
          simp only [Bool.not_true, cond_false] at hl
          split at hl
          · rename_i hv
            split at hl
            · rename_i b hb
              split at hl
              · rename_i l hlo
                injection hl with hl; subst hl
                have hmc : m ≤ capLow c := by
                  rcases abound_inv hm rmx with ⟨e, _⟩ | ⟨_, _, _, _, _, _, _, h⟩
                  · cases e
                  · exact h
                have hbm : b ≤ m := by
                  rcases abound_inv hb rhi with ⟨e, _⟩ | ⟨_, _, _, _, _, _, _, h⟩
                  · cases e
                  · exact h
                have hlb : l ≤ b := by
                  rcases abound_inv hlo rlo with ⟨_, _, rfl⟩ | ⟨_, _, _, _, _, _, _, h⟩
                  · exact Nat.zero_le _
                  · exact h
                have hex : capExact (m - l) = true := by
                  simp only [capExact, blt_iff, decide_eq_true_eq] at hmK ⊢; omega
                cases hx with
                | sliceNil =>
                  have e0 : capLow 0 = 0 := rfl
                  have em : m = 0 := by omega
                  have el : l = 0 := by omega
                  have eb : b = 0 := by omega
                  subst em; subst el; subst eb
                  have := run_bounds3 (P := P) (ρ := ρ) (len := 0) (cap := 0) hm hb hlo rmx rhi rlo (Nat.le_refl _) w
                  refine ⟨.slice none 0 0, ?_, .sliceNil⟩
                  simp [Instr.sliceAt, Instr.slice, run_underlying hu, this, run_sizeOf hs]
                | slice a o n c o' c' q hq ho hn hc =>
                  have hlow := hc.low
                  have := run_bounds3 (P := P) (ρ := ρ) (len := n) (cap := c') hm hb hlo rmx rhi rlo hlow w
                  by_cases hml : m = l
                  · refine ⟨.slice (some ⟨q.r, o', none⟩) (b - l) (m - l), ?_, ?_⟩
                    · simp [Instr.sliceAt, Instr.slice, run_underlying hu, this, run_sizeOf hs, hml]
                    · rw [beqt hml, cond_true]
                      exact .slice a o _ _ o' _ q hq (.inr (by omega)) (by rw [capLow_exact hex]; omega) (.inl ⟨hex, rfl⟩)
                  · refine ⟨.slice (some ⟨q.r, o' + l * size, none⟩) (b - l) (m - l), ?_, ?_⟩
                    · simp [Instr.sliceAt, Instr.slice, run_underlying hu, this, run_sizeOf hs, hml, addr_mk_add]
                    · rw [beqf hml, cond_false]
                      simp only [Option.map_some]
                      refine .slice a (o + l * size) _ _ (o' + l * size) _ q hq (.inl ?_) (by rw [capLow_exact hex]; omega) (.inl ⟨hex, rfl⟩)
                      rcases ho with rfl | h0
                      · omega
                      · omega
              · cases hl
            · cases hl
          · cases hl
        · cases hl
      · cases hl
  · -- an array
    rename_i n e a hu
    cases hmK : Nat.blt n K with
    | false => rw [hmK] at hl; cases hl
    | true =>
    rw [hmK] at hl
    simp only [Bool.not_true, cond_false] at hl
    split at hl
    · rename_i size hs
      have hm : mx = none := rmx
      subst hm
      split at hl
      · rename_i b hb
        split at hl
        · rename_i l hlo
          injection hl with hl; subst hl
          have hbn : b ≤ n := by
            rcases abound_inv hb rhi with ⟨_, _, rfl⟩ | ⟨_, _, _, _, _, _, _, h⟩
            · exact Nat.le_refl _
            · exact h
          have hlb : l ≤ b := by
            rcases abound_inv hlo rlo with ⟨_, _, rfl⟩ | ⟨_, _, _, _, _, _, _, h⟩
            · exact Nat.zero_le _
            · exact h
          have hex : capExact (n - l) = true := by
            simp only [capExact, blt_iff, decide_eq_true_eq] at hmK ⊢; omega
          cases hx with
          | ptr a o q hq =>
            have := run_bounds2 (P := P) (isS := false) hb hlo rhi rlo (Nat.le_refl n) w
            by_cases hml : n = l
            · refine ⟨.slice (some ⟨q.r, q.base + o, none⟩) (b - l) (n - l), ?_, ?_⟩
              · simp only [Instr.sliceAt, Sem.run_bind, run_underlying hu, Result.andThen_ok, Instr.sureAddr, Sem.run_pure, this, run_sizeOf hs, if_pos hml]
              · rw [beqt hml, cond_true]
                exact .slice a o _ _ _ _ q hq (.inl rfl) (by rw [capLow_exact hex]; omega) (.inl ⟨hex, rfl⟩)
            · refine ⟨.slice (some ⟨q.r, q.base + o + l * size, none⟩) (b - l) (n - l), ?_, ?_⟩
              · simp only [Instr.sliceAt, Sem.run_bind, run_underlying hu, Result.andThen_ok, Instr.sureAddr, Sem.run_pure, this, run_sizeOf hs, if_neg hml, addr_mk_add]
              · rw [beqf hml, cond_false]
                exact .slice a (o + l * size) _ _ _ _ q hq (.inl (by omega)) (by rw [capLow_exact hex]; omega) (.inl ⟨hex, rfl⟩)
        · cases hl
      · cases hl
    · cases hl
  · cases hl

theorem bytesOf_inv : ∀ (l : List Value) (bs : List UInt8), bytesOf l = some bs → ∃ xs : List Int, l = xs.map (Value.int .u8) ∧ bs = xs.map fun n => UInt8.ofNat n.toNat := by
  intro l
  induction l with
  | nil => intro bs hb; simp [bytesOf] at hb; subst hb; exact ⟨[], rfl, rfl⟩
  | cons v l ih =>
    intro bs hb
    unfold bytesOf at hb
    split at hb
    · rename_i e; cases e
    · rename_i n l' e
      injection e with e1 e2
      subst e1; subst e2
      split at hb
      · rename_i bs' hbs
        injection hb with hb; subst hb
        obtain ⟨xs, h1, h2⟩ := ih _ hbs
        exact ⟨n :: xs, by simp [h1], by simp [h2]⟩
      · cases hb
    · cases hb

theorem ints_rel : ∀ (xs : List Int) (l' : List Value), LRel ρ (xs.map (Value.int .u8)) l' → l' = xs.map (Value.int .u8) := by
  intro xs
  induction xs with
  | nil => intro l' h; exact h.nil_inv
  | cons x xs ih =>
    intro l' h
    obtain ⟨y, ys, rfl, h1, h2⟩ := h.cons_inv
    rw [h1.int_inv, ih _ h2]; rfl

theorem bmap_rel {ev : Operand → Option Value} {parts : List (Nat × Operand) → Option (List (Nat × Value))} {evs : List Operand → Option (List Value)} {rv : Operand → Value} (he : EvRel ρ ev parts evs rv) (x : Option Operand) : BRel ρ (x.map ev) (x.map rv) := by
  cases x with
  | none => exact rfl
  | some x =>
    simp only [Option.map_some]
    cases hx : ev x with
    | none => trivial
    | some v => exact ⟨_, rfl, he.ev _ _ hx⟩

theorem aread_sound {ev : Operand → Option Value} {parts : List (Nat × Operand) → Option (List (Nat × Value))} {evs : List Operand → Option (List Value)} {rv : Operand → Value} (he : EvRel ρ ev parts evs rv)
    (r : Rel P ρ h w) {o : Oper} {v : Value} (hr : aread P h ev o.op = some v) : ∃ v', (execOp rv o).run P w = .ok (.value v') w ∧ VRel ρ v v' := by
  unfold aread at hr
  split at hr
  · rename_i t x hop
    split at hr
    · rename_i a hx
      obtain ⟨v', h1, h2⟩ := aload_sound r hr (he.ev _ _ hx)
      exact ⟨v', by simp [execOp, hop, h1], h2⟩
    · cases hr
  · rename_i t x lo hi mx hop
    split at hr
    · rename_i u hx
      obtain ⟨v', h1, h2⟩ := aslice_sound r hr (he.ev _ _ hx) (bmap_rel he lo) (bmap_rel he hi) (bmap_rel he mx)
      exact ⟨v', by simp [execOp, hop, h1], h2⟩
    · cases hr
  · rename_i s d x hop
    split at hr
    · rename_i e hs hd
      split at hr
      · rename_i n c hu hx
        injection hr with hr; subst hr
        have hxr := he.ev _ _ hx
        generalize hrx : rv x = y at hxr
        cases hxr
        exact ⟨_, by simp [execOp, hop, hrx, run_convert_bytes_nil w s e hs hu 0 0 d hd], .string _⟩
      · rename_i a n c hu hx
        split at hr
        · rename_i l hc
          split at hr
          · rename_i bs hbs
            injection hr with hr; subst hr
            have hxr := he.ev _ _ hx
            generalize hrx : rv x = y at hxr
            cases hxr with
            | slice a o n c o' c' q hq ho hn hcr =>
              obtain ⟨hlen, l', h1, h2⟩ := rel_cells r hq hc
              obtain ⟨xs, rfl, rfl⟩ := bytesOf_inv _ _ hbs
              obtain rfl := ints_rel _ _ h1
              have hxs : xs.length = n := by simpa using hlen
              have := run_convert_bytes_arg (P := P) w s e hs hu q.r o' n c' xs hxs (fun i hi => by
                have ho' : o' = q.base + o := ho.resolve_right (by have := hcr.low; omega)
                rw [ho', Nat.add_assoc]
                exact h2 i _ (by simp [List.getElem?_eq_getElem (show i < xs.length by omega)])) d hd
              refine ⟨.string (strOfNums xs), by simp [execOp, hop, hrx, this], ?_⟩
              exact .string _
          · cases hr
        · cases hr
      · cases hr
    · cases hr
  · exact amread_sound he r hr
end
end Go.Am

/- New blocks. -/
namespace Go.Am
open Go

def upd (ρ : Ren) (a : Nat) (q : RB) : Ren := fun b => if b = a then some q else ρ b
theorem upd_same (ρ : Ren) (a : Nat) (q : RB) : upd ρ a q a = some q := by simp [upd]
theorem upd_ne (ρ : Ren) {a b : Nat} (q : RB) (h : b ≠ a) : upd ρ a q b = ρ b := by simp [upd, h]
theorem upd_mono {ρ : Ren} {a : Nat} (q : RB) (h : ρ a = none) : ∀ b p, ρ b = some p → upd ρ a q b = some p := by
  intro b p hb
  by_cases e : b = a
  · subst e; rw [h] at hb; cases hb
  · rw [upd_ne ρ q e]; exact hb

section
variable {P : Program} {ρ : Ren} {h h' : AH} {w w1 : World}

theorem RelObj.mono {ρ' : Ren} {q : RB} {o : AObj} (hr : RelObj P ρ w q o) (hm : ∀ a p, ρ a = some p → ρ' a = some p) (hw : w1.heap[q.r]? = w.heap[q.r]?) : RelObj P ρ' w1 q o := by
  cases o with
  | map es clock ro =>
    obtain ⟨res, h1, h2⟩ := hr
    exact ⟨res, hw.trans h1, h2.mono hm⟩
  | iter m since seen last =>
    obtain ⟨m', h1, h2, h3⟩ := hr
    refine ⟨m', hw.trans h1, h2, ?_⟩
    rcases h3 with h3 | ⟨a, p, e1, e2, e3⟩
    · exact .inl h3
    · exact .inr ⟨a, p, e1, e2, hm _ _ e3⟩
  | loop st x t ps assign body d =>
    obtain ⟨r, p, k⟩ := hr
    exact ⟨r, p, { at_ := hw.trans k.at_, st_ := k.st_, pend := k.pend, tmps := k.tmps.mono hm, ps_ := k.ps_, assign_ := k.assign_, body_ := k.body_, blk := hm _ _ k.blk, defers := k.defers, ok0 := k.ok0, ok1 := k.ok1, ok2 := k.ok2 }⟩
  | defd => exact hw.trans hr
  | cells c e ro =>
    obtain ⟨rc, fr, h1, h2, h3, h4, h5, h6⟩ := hr
    refine ⟨rc, fr, hw.trans h1, h2, h3, h4, fun i v hv => ?_, h6⟩
    obtain ⟨v', h7, h8⟩ := h5 i v hv
    exact ⟨v', h7, h8.mono hm⟩

/-- A new real block, for a new abstract one. -/
theorem rel_install (r : Rel P ρ h w) {id : Nat} {c : List Value} {e : TypeId} {rc : Array Value} {fr : Nat × Nat} {esz : Nat}
    (hget : ∀ b, h'.get b = if b = id then some (.cells c e false) else h.get b) (hnext : h.next ≤ h'.next) (hid : id < h'.next) (hρ : ρ id = none)
    (hw : w1.heap = w.heap.push (.cells rc e fr)) (hs : sz P e = some esz) (hlen : c.length ≤ rc.size)
    (hc : ∀ (i : Nat) (v : Value), c[i]? = some v → ∃ v', rc[i]? = some v' ∧ VRel ρ v v') (hfr : unfrozen fr rc.size) :
    Rel P (upd ρ id ⟨w.heap.size, 0, esz, rc.size⟩) h' w1 := by
  have hold : ∀ k, k < w.heap.size → w1.heap[k]? = w.heap[k]? := fun k hk => by rw [hw, Array.getElem?_push_lt hk]; simp [hk]
  have hnew : w1.heap[w.heap.size]? = some (.cells rc e fr) := by rw [hw]; simp
  have hm := upd_mono (ρ := ρ) (a := id) ⟨w.heap.size, 0, esz, rc.size⟩ hρ
  refine ⟨fun a q hq => ?_, fun a q o hq ho => ?_, fun a a' q q' o o' hq hq' ho hro ho' hrr => ?_, fun a ha => ?_⟩
  · by_cases ea : a = id
    · subst ea
      rw [upd_same] at hq; injection hq with hq; subst hq
      exact ⟨hid, by rw [hw]; simp⟩
    · rw [upd_ne _ _ ea] at hq
      have := r.dom a q hq
      exact ⟨by omega, by rw [hw]; simp; omega⟩
  · by_cases ea : a = id
    · subst ea
      rw [upd_same] at hq; injection hq with hq; subst hq
      rw [hget, if_pos rfl] at ho; injection ho with ho; subst ho
      refine ⟨rc, fr, hnew, rfl, hs, by simpa using hlen, fun i v hv => ?_, fun _ => hfr⟩
      obtain ⟨v', h1, h2⟩ := hc i v hv
      exact ⟨v', by simpa using h1, h2.mono hm⟩
    · rw [upd_ne _ _ ea] at hq
      rw [hget, if_neg ea] at ho
      exact (r.blk a q o hq ho).mono hm (hold _ (r.dom a q hq).2)
  · by_cases ea : a = id
    · by_cases ea' : a' = id
      · rw [ea, ea']
      · subst ea
        rw [upd_same] at hq; injection hq with hq; subst hq
        rw [upd_ne _ _ ea'] at hq'
        have := (r.dom a' q' hq').2
        simp only at hrr; omega
    · by_cases ea' : a' = id
      · subst ea'
        rw [upd_same] at hq'; injection hq' with hq'; subst hq'
        rw [upd_ne _ _ ea] at hq
        have := (r.dom a q hq).2
        simp only at hrr; omega
      · rw [upd_ne _ _ ea] at hq
        rw [upd_ne _ _ ea'] at hq'
        rw [hget, if_neg ea] at ho
        rw [hget, if_neg ea'] at ho'
        exact r.sep a a' q q' o o' hq hq' ho hro ho' hrr
  · rw [hget, if_neg (by omega)]; exact r.out a (by omega)

/-- The step of a block that is made. -/
theorem step_install (r : Rel P ρ h w) {c : List Value} {e : TypeId} {rc : Array Value} {fr : Nat × Nat} {esz : Nat} 
    (hw : w1.heap = w.heap.push (.cells rc e fr)) (hos : w1.os = w.os) (htape : w1.tape = w.tape) (hout : w1.output = w.output) (hs : sz P e = some esz) (hlen : c.length ≤ rc.size)
    (hc : ∀ (i : Nat) (v : Value), c[i]? = some v → ∃ v', rc[i]? = some v' ∧ VRel ρ v v') (hfr : unfrozen fr rc.size) :
    Step P ρ h w (upd ρ h.next ⟨w.heap.size, 0, esz, rc.size⟩) (h.alloc (.cells c e false)) w1 := by
  have hρ : ρ h.next = none := by
    cases hq : ρ h.next with
    | none => rfl
    | some q => have := (r.dom _ q hq).1; omega
  have hget : ∀ b, (h.alloc (.cells c e false)).get b = if b = h.next then some (.cells c e false) else h.get b := fun b => AH.get_alloc _ _ _
  exact {
    rel := rel_install r hget (by simp [AH.alloc]) (by simp [AH.alloc]) hρ hw hs hlen hc hfr
    mono := upd_mono _ hρ
    old := fun a ha hq => ⟨by rw [upd_ne _ _ (by omega)]; exact hq, by rw [hget, if_neg (by omega)]⟩
    dead := fun a ha hd => by rw [hget, if_neg (by omega)]; exact hd
    ro := fun a o ha hro => by
      have : a ≠ h.next := fun e => by rw [e, r.out _ (Nat.le_refl _)] at ha; cases ha
      rw [hget, if_neg this]; exact ha
    new := fun a q ha hq => by
      by_cases e : a = h.next
      · subst e; rw [upd_same] at hq; injection hq with hq; subst hq; exact .inl (Nat.le_refl _)
      · rw [upd_ne _ _ e] at hq; have := (r.dom a q hq).1; omega
    next := by simp [AH.alloc]
    keep := fun i hi _ => by rw [hw, Array.getElem?_push_lt hi]; simp [hi]
    grow := by rw [hw]; simp
    os := hos
    tape := htape
    output := hout }

theorem LRel.pre {xs : List Value} {ys : List Value} (h : LRel ρ xs ys) (rest : List Value) : ∀ (i : Nat) (v : Value), xs[i]? = some v → ∃ v', (ys ++ rest).toArray[i]? = some v' ∧ VRel ρ v v' := by
  intro i v hv
  have hi : i < xs.length := (List.getElem?_eq_some_iff.1 hv).1
  have hi' : i < ys.length := by rw [← h.1]; exact hi
  have hy : ys[i]? = some ys[i] := List.getElem?_eq_getElem hi'
  refine ⟨ys[i], ?_, h.2 i v _ hv hy⟩
  simp [List.getElem?_append_left hi', hy]
end
end Go.Am

/- Operations that make a block. -/
namespace Go.Am
open Go

theorem repeat_length (l : List Value) : ∀ n, (repeatCells l n).length = n * l.length := by
  intro n
  induction n with
  | zero => simp [repeatCells]
  | succ n ih => simp [repeatCells, ih, Nat.add_mul]; omega
theorem repeat_get (l : List Value) : ∀ (n i : Nat), i < n * l.length → (repeatCells l n)[i]? = l[i % l.length]? := by
  intro n
  induction n with
  | zero => intro i h; simp at h
  | succ n ih =>
    intro i h
    simp only [repeatCells]
    by_cases hi : i < l.length
    · rw [List.getElem?_append_left hi, Nat.mod_eq_of_lt hi]
    · rw [List.getElem?_append_right (by omega), ih (i - l.length) (by rw [Nat.add_mul] at h; omega)]
      congr 1
      rw [Nat.mod_eq_sub_mod (by omega : i ≥ l.length)]
theorem made_eq (z : Array Value) (n : Nat) (hz : 1 ≤ z.size) : (Array.range (n * z.size)).map (z[· % z.size]!) = (repeatCells z.toList n).toArray := by
  apply Array.ext'
  apply List.ext_getElem?
  intro i
  simp only [Array.toList_map, Array.toList_range, List.getElem?_map]
  by_cases hi : i < n * z.size
  · rw [List.getElem?_range hi, repeat_get _ _ _ (by simpa using hi)]
    have hm : i % z.size < z.size := Nat.mod_lt _ hz
    simp [hm]
  · rw [List.getElem?_eq_none (by simpa using hi), List.getElem?_eq_none (by rw [repeat_length]; simpa using hi)]
    rfl
theorem repeat_flat {ρ : Ren} {l : List Value} (h : LRel ρ l l) : ∀ n, LRel ρ (repeatCells l n) (repeatCells l n) := by
  intro n
  induction n with
  | zero => exact .nil
  | succ n ih => exact h.append ih

section
variable {P : Program} {ρ : Ren}

theorem sz_of {e : TypeId} {i : TypeInfo} (hi : P.info? e = some i) : sz P e = some i.size := by simp [sz, hi]

theorem one_all {l l' : List Value} (h : LRel ρ l l') (h1 : l.all one = true) : ∀ u ∈ l', u.oneCell' = true := by
  intro u hu
  obtain ⟨i, hi⟩ := List.mem_iff_getElem?.1 hu
  have hlt : i < l.length := by rw [h.1]; exact (List.getElem?_eq_some_iff.1 hi).1
  have := h.2 i l[i] u (by simp [hlt]) hi
  rw [← one_eq, this.one]
  exact List.all_eq_true.mp h1 _ (by simp)

/-- What is left by an operation that makes a block. -/
structure Made (P : Program) (ρ : Ren) (w : World) (c : List Value) (e : TypeId) (f : Nat → Value) (esz : Nat) (run : Result Next) : Prop where
  ex : ∃ rv rc fr w1, run = .ok (.value rv) w1 ∧ w1.heap = w.heap.push (.cells rc e fr) ∧ w1.os = w.os ∧ w1.tape = w.tape ∧ w1.output = w.output ∧ c.length ≤ rc.size ∧
    (∀ (i : Nat) (v : Value), c[i]? = some v → ∃ v', rc[i]? = some v' ∧ VRel ρ v v') ∧ unfrozen fr rc.size ∧
    ∀ (ρ' : Ren) (id : Nat), ρ' id = some ⟨w.heap.size, 0, esz, rc.size⟩ → VRel ρ' (f id) rv

theorem made_of {w : World} {c c' : List Value} {e : TypeId} {f : Nat → Value} {esz : Nat} {run : Result Next} {rv : Value} (hr : run = .ok (.value rv) (w.alloc (.cells c'.toArray e))) (hc : LRel ρ c c')
    (hv : ∀ (ρ' : Ren) (id : Nat), ρ' id = some ⟨w.heap.size, 0, esz, c'.length⟩ → VRel ρ' (f id) rv) : Made P ρ w c e f esz run := by
  refine ⟨rv, c'.toArray, (0, 0), _, hr, rfl, rfl, rfl, rfl, by simp [hc.1], fun i v h => ?_, .inl rfl, by simpa using hv⟩
  have := hc.pre [] i v h
  simpa using this

theorem aalloc_sound {ev : Operand → Option Value} {parts : List (Nat × Operand) → Option (List (Nat × Value))} {evs : List Operand → Option (List Value)} {rv : Operand → Value} (he : EvRel ρ ev parts evs rv)
    {o : Oper} {ob : AObj} {f : Nat → Value} (h : aalloc P ev parts o.op = some (ob, f)) :
    ∃ c e esz, ob = .cells c e false ∧ sz P e = some esz ∧ ∀ w, Made P ρ w c e f esz ((execOp rv o).run P w) := by
  unfold aalloc at h
  split at h
  · rename_i e hop
    split at h
    · rename_i z hz
      injection h with h; injection h with h1 h2; subst h1; subst h2
      obtain ⟨i, hi, hzz, hfl, hsz, _⟩ := zeroOf_inv hz
      refine ⟨_, _, i.size, rfl, sz_of hi, fun w => ?_⟩
      refine made_of (c' := z.cells.toList) (rv := .pointer (some ⟨w.heap.size, 0, none⟩)) ?_ (VRel.flat hfl).cells (fun ρ' id hq => ?_)
      · simp [execOp, hop, Instr.alloc, run_zero hz, newVar, newRow]
      · have := VRel.ptr (ρ := ρ') id 0 _ hq
        simpa using this
    · cases h
  · rename_i e x hop
    split at h
    · rename_i v n hx hs
      cases h1 : v.cells.toList.all one with
      | false => rw [h1] at h; cases h
      | true =>
        rw [h1] at h
        simp only [cond_true] at h
        injection h with h; injection h with h2 h3; subst h2; subst h3
        have hv := he.ev _ _ hx
        refine ⟨_, _, n, rfl, hs, fun w => ?_⟩
        refine made_of (c' := (rv x).cells.toList) (rv := .pointer (some ⟨w.heap.size, 0, none⟩)) ?_ hv.cells (fun ρ' id hq => ?_)
        · simp [execOp, hop, Instr.box, newVar, newRow]
        · have := VRel.ptr (ρ := ρ') id 0 _ hq
          simpa using this
    · cases h
  · rename_i t n ps hop
    split at h
    · rename_i e vs hu hvs
      split at h
      · rename_i size z hs hz
        cases hc : (Nat.ble (n * size) 16777216 && Nat.ble 1 size) with
        | false => rw [hc] at h; cases h
        | true =>
          rw [hc] at h
          simp only [cond_true] at h
          split at h
          · rename_i cs hf
            cases h1 : cs.toList.all one with
            | false => rw [h1] at h; cases h
            | true =>
              rw [h1] at h
              simp only [cond_true] at h
              injection h with h; injection h with h2 h3; subst h2; subst h3
              simp only [Bool.and_eq_true, Nat.ble_eq] at hc
              obtain ⟨i, hi, hzz, hfl, hsz, _⟩ := zeroOf_inv hz
              have hsi : size = i.size := by rw [sz_of hi] at hs; injection hs with hs; exact hs.symm
              have hzs : z.cells.size = size := by rw [hsz, hsi]
              have hp := he.parts _ _ hvs
              have hrep := repeat_flat (ρ := ρ) (VRel.flat hfl).cells n
              obtain ⟨cs', hf', hcs⟩ := fill_rel (ρ := ρ) vs _ hp (repeatCells z.cells.toList n).toArray (repeatCells z.cells.toList n).toArray cs (ARel.ofList (by simpa using hrep)) hf
              refine ⟨_, _, size, rfl, hs, fun w => ?_⟩
              refine made_of (c' := cs'.toList) (rv := .slice (some ⟨w.heap.size, 0, none⟩) n n) ?_ hcs.toList (fun ρ' id hq => ?_)
              · have hb : ¬ (2 ^ 24 < n * size) := by omega
                have hlp : (ps.map fun (i, x) => (i, rv x)).toList = ps.toList.map fun (i, x) => (i, rv x) := by simp
                by_cases h0 : n * size = 0
                · have hn0 : n = 0 := by
                    rcases Nat.mul_eq_zero.1 h0 with h | h
                    · exact h
                    · omega
                  have hmade : ∀ z : Array Value, (Array.range (n * size)).map (fun x => z[x % z.size]!) = (repeatCells (Value.cells (.int .i64 0)).toList 0).toArray := by
                    intro z; rw [h0]; simp [repeatCells]
                  have hf2 : Instr.fill (fun i => some (i * size, size)) (repeatCells (Value.cells (.int .i64 0)).toList 0).toArray (List.map (fun x => (x.fst, rv x.snd)) ps.toList) = some cs' := by
                    rw [← hf', hn0]; rfl
                  simp only [execOp, hop, Instr.buildSlice, Sem.run_bind, run_underlying hu, Result.andThen_ok, run_sizeOf hs, if_neg hb, Sem.run_pure, if_pos h0, hmade, hlp, hf2, newRow, run_newObj]
                  rfl
                · have hmade : (Array.range (n * size)).map (fun x => z.cells[x % z.cells.size]!) = (repeatCells z.cells.toList n).toArray := by
                    have := made_eq z.cells n (by omega)
                    rw [hzs] at this
                    rw [hzs]
                    exact this
                  simp only [execOp, hop, Instr.buildSlice, Sem.run_bind, run_underlying hu, Result.andThen_ok, run_sizeOf hs, if_neg hb, Sem.run_pure, if_neg h0, run_zero hz, hmade, hlp, hf', newRow, run_newObj]
                  rfl
              · have hlen : n < K := by
                  have : n ≤ n * size := Nat.le_mul_of_pos_right _ (by omega)
                  simp only [K]; omega
                have hex : capExact n = true := by simp [capExact, blt_iff, hlen]
                have := VRel.slice (ρ := ρ') id 0 n n 0 n _ hq (.inl rfl) (by rw [capLow_exact hex]; exact Nat.le_refl _) (.inl ⟨hex, rfl⟩)
                simpa using this
          · cases h
      · cases h
    · cases h
  · rename_i t l c hop
    split at h
    · rename_i e kl l' kc c' hu hl hc
      split at h
      · rename_i i z hi hz
        split at h
        · rename_i hb
          injection h with h; injection h with h2 h3; subst h2; subst h3
          obtain ⟨i', hi', hzz, hfl, hsz, _⟩ := zeroOf_inv hz
          have : i' = i := by rw [hi] at hi'; injection hi' with hi'; exact hi'.symm
          subst this
          have hlr := (he.ev _ _ hl).int_inv
          have hcr := (he.ev _ _ hc).int_inv
          refine ⟨_, _, i'.size, rfl, sz_of hi, fun w => ?_⟩
          have hrep := repeat_flat (ρ := ρ) (VRel.flat hfl).cells c'.toNat
          refine made_of (c' := repeatCells z.cells.toList c'.toNat) (rv := .slice (some ⟨w.heap.size, 0, none⟩) l'.toNat c'.toNat) ?_ hrep (fun ρ' id hq => ?_)
          · have hbytes : (i'.bytes : Int) * c' ≤ 281474976710656 := by
              have h1 : c' * (i'.bytes + 1 : Int) = c' * i'.bytes + c' := by rw [Int.mul_add]; omega
              have h2 : (i'.bytes : Int) * c' = c' * i'.bytes := Int.mul_comm _ _
              omega
            have hc63 : c' ≤ 9223372036854775807 := by
              have h1 : c' * (i'.bytes + 1 : Int) = c' * i'.bytes + c' := by rw [Int.mul_add]; omega
              have h2 : 0 ≤ c' * (i'.bytes : Int) := Int.mul_nonneg (by omega) (by omega)
              omega
            have hm := run_make (P := P) w t e i' z hu hi hzz kl kc l' c' hb.1 hb.2.1 hbytes hc63
            have hme : madeCells z.cells (c'.toNat * i'.size) = (repeatCells z.cells.toList c'.toNat).toArray := by
              have := made_eq z.cells c'.toNat (by omega)
              rw [hsz] at this
              unfold madeCells
              rw [hsz]
              exact this
            simp only [execOp, hop, hlr, hcr, Sem.run_bind, hm, hme, Result.andThen_ok, Sem.run_pure]
          · have hlen : c'.toNat < K := by
              have h1 : c' * (i'.bytes + 1 : Int) = c' * i'.bytes + c' := by rw [Int.mul_add]; omega
              have h2 : 0 ≤ c' * (i'.bytes : Int) := Int.mul_nonneg (by omega) (by omega)
              simp only [K]; omega
            have hex : capExact c'.toNat = true := by simp [capExact, blt_iff, hlen]
            have := VRel.slice (ρ := ρ') id 0 l'.toNat c'.toNat 0 c'.toNat _ hq (.inl rfl) (by rw [capLow_exact hex]; omega) (.inl ⟨hex, rfl⟩)
            simpa using this
        · cases h
      · cases h
    · cases h
  · rename_i s d x hop
    split at h
    · rename_i e b hs hd hx
      split at h
      · rename_i he8 hsz
        cases hb : Nat.ble b.size 1099511627776 with
        | false => rw [hb] at h; cases h
        | true =>
          rw [hb] at h
          simp only [cond_true] at h
          injection h with h; injection h with h2 h3; subst h2; subst h3
          have hxr := (he.ev _ _ hx).string_inv
          refine ⟨_, _, 1, rfl, hsz, fun w => ?_⟩
          have hrun := run_bytes_of_string (P := P) w s d e b hs hd he8
          have hge := grownCap_ge w b.size 0 e
          have hbs : b.data.toList.length = b.size := Array.length_toList
          have hlow : capLow (capUnknown b.size) = b.size := capLow_unknown _
          refine ⟨.slice (some ⟨w.heap.size, 0, none⟩) b.size (grownCap w b.size 0 e), bytesRow b (grownCap w b.size 0 e), ((bytesRow b (grownCap w b.size 0 e)).size, (bytesRow b (grownCap w b.size 0 e)).size + 1), w.drew.alloc (.cells (bytesRow b (grownCap w b.size 0 e)) e ((bytesRow b (grownCap w b.size 0 e)).size, (bytesRow b (grownCap w b.size 0 e)).size + 1)), (by unfold execOp; rw [hop]; simp only [hxr]; rw [Sem.run_bind, hrun]; rfl), rfl, rfl, rfl, rfl, ?_, fun i v hv => ?_, .inr (Nat.le_refl _), fun ρ' id hq => ?_⟩
          · simp [bytesRow]
          · rw [List.getElem?_map] at hv
            cases hi : b.data.toList[i]? with
            | none => rw [hi] at hv; cases hv
            | some u =>
              rw [hi] at hv
              simp only [Option.map_some] at hv
              injection hv with hv
              subst hv
              have hlt : i < b.data.size := by
                have := (List.getElem?_eq_some_iff.1 hi).1; simpa using this
              have hu : b.data[i]? = some u := by simpa using hi
              refine ⟨.int .u8 u.toNat, ?_, .int _ _⟩
              unfold bytesRow
              rw [Array.getElem?_append_left (by simpa using hlt)]
              simp [hu]
          · have hsize : (bytesRow b (grownCap w b.size 0 e)).size = grownCap w b.size 0 e := by
              simp [bytesRow]; have : b.data.size = b.size := rfl; omega
            have := VRel.slice (ρ := ρ') id 0 b.size (capUnknown b.size) 0 (grownCap w b.size 0 e) _ hq (.inl rfl) (by rw [hlow]; exact Nat.le_refl _) (.inr ⟨capExact_unknown _, by rw [hlow]; exact hge, by simp [hsize]⟩)
            simpa using this
      · cases h
    · cases h
  · cases h
end
end Go.Am

/- Writing. -/
namespace Go.Am
open Go

theorem setCell_heap (w : World) (b o : Nat) (v : Value) {rc : Array Value} {e : TypeId} {fr : Nat × Nat} (h : w.heap[b]? = some (.cells rc e fr)) :
    (w.setCell ⟨b, o, none⟩ v).heap[b]? = some (.cells (rc.setIfInBounds o v) e fr) := by
  simp [World.setCell, Array.getElem?_modify, h]
theorem setCell_other (w : World) (b o : Nat) (v : Value) {i : Nat} (h : i ≠ b) : (w.setCell ⟨b, o, none⟩ v).heap[i]? = w.heap[i]? := by
  simp [World.setCell, Array.getElem?_modify, Ne.symm h]

theorem setCells_heap (b : Nat) {e : TypeId} {fr : Nat × Nat} : ∀ (vs : List Value) (o : Nat) (w : World) (rc : Array Value), w.heap[b]? = some (.cells rc e fr) → o + vs.length ≤ rc.size →
    ∃ rc', (w.setCells b o vs).heap[b]? = some (.cells rc' e fr) ∧ rc'.size = rc.size ∧ ∀ j, rc'[j]? = if o ≤ j ∧ j < o + vs.length then vs[j - o]? else rc[j]? := by
  intro vs
  induction vs with
  | nil => intro o w rc h hl; exact ⟨rc, h, rfl, fun j => by rw [if_neg (by simp)]⟩
  | cons v vs ih =>
    intro o w rc h hl
    simp only [List.length_cons] at hl
    obtain ⟨rc', h1, h2, h3⟩ := ih (o + 1) (w.setCell ⟨b, o, none⟩ v) (rc.setIfInBounds o v) (setCell_heap w b o v h) (by simp; omega)
    refine ⟨rc', h1, by simpa using h2, fun j => ?_⟩
    rw [h3 j]
    simp only [List.length_cons]
    by_cases hj : j = o
    · subst hj
      rw [if_neg (by omega), if_pos (by omega)]
      simp [show j < rc.size by omega]
    · by_cases hj2 : o + 1 ≤ j ∧ j < o + 1 + vs.length
      · rw [if_pos hj2, if_pos (by omega)]
        have : j - o = (j - (o + 1)) + 1 := by omega
        rw [this]; simp
      · rw [if_neg hj2, if_neg (by omega), Array.getElem?_setIfInBounds_ne (by omega)]
theorem setCells_other (b : Nat) {i : Nat} (hi : i ≠ b) : ∀ (vs : List Value) (o : Nat) (w : World), (w.setCells b o vs).heap[i]? = w.heap[i]? := by
  intro vs
  induction vs with
  | nil => intro o w; rfl
  | cons v vs ih => intro o w; exact (ih (o + 1) _).trans (setCell_other w b o v hi)
theorem setCells_env (b : Nat) : ∀ (vs : List Value) (o : Nat) (w : World), (w.setCells b o vs).heap.size = w.heap.size ∧ (w.setCells b o vs).os = w.os ∧ (w.setCells b o vs).tape = w.tape ∧ (w.setCells b o vs).output = w.output := by
  intro vs
  induction vs with
  | nil => intro o w; exact ⟨rfl, rfl, rfl, rfl⟩
  | cons v vs ih => intro o w; obtain ⟨h1, h2, h3, h4⟩ := ih (o + 1) (w.setCell ⟨b, o, none⟩ v); exact ⟨h1.trans (by simp), h2, h3, h4⟩

theorem splice_get (c : List Value) (o : Nat) (vs : List Value) (h : o + vs.length ≤ c.length) (j : Nat) : (splice c o vs)[j]? = if o ≤ j ∧ j < o + vs.length then vs[j - o]? else c[j]? := by
  unfold splice
  have ht : (c.take o).length = o := by simp; omega
  by_cases h1 : j < o
  · rw [if_neg (by omega), List.getElem?_append_left (by simp; omega), List.getElem?_append_left (by omega), List.getElem?_take, if_pos h1]
  · by_cases h2 : j < o + vs.length
    · rw [if_pos (by omega), List.getElem?_append_left (by simp; omega), List.getElem?_append_right (by omega), ht]
    · rw [if_neg (by omega), List.getElem?_append_right (by simp; omega), List.getElem?_drop]
      congr 1
      simp; omega
theorem splice_length (c : List Value) (o : Nat) (vs : List Value) (h : o + vs.length ≤ c.length) : (splice c o vs).length = c.length := by
  simp [splice]; omega

section
variable {P : Program} {ρ : Ren} {h : AH} {w : World}

theorem unfrozen_at {w : World} {b : Nat} {rc : Array Value} {e : TypeId} {fr : Nat × Nat} (hb : w.heap[b]? = some (.cells rc e fr)) (hf : unfrozen fr rc.size) {i : Nat} (hi : i < rc.size) : w.frozen? ⟨b, i, none⟩ = false := by
  simp only [World.frozen?, hb]
  rcases hf with hf | hf
  · obtain ⟨lo, hi'⟩ := fr
    simp only at hf
    subst hf
    simp
  · obtain ⟨lo, hi'⟩ := fr
    simp only at hf ⊢
    simp; omega

theorem Rel.heap_lt (r : Rel P ρ h w) {a : Nat} {q : RB} (hq : ρ a = some q) : q.r < w.heap.size := (r.dom a q hq).2

/-- A block that is written. -/
theorem step_store (r : Rel P ρ h w) {a : Nat} {q : RB} (hq : ρ a = some q) {c : List Value} {e : TypeId} (hg : h.get a = some (.cells c e false)) {o : Nat} {vs vs' : List Value} (hv : LRel ρ vs vs') (hl : o + vs.length ≤ c.length)
    (h1 : ∀ u ∈ vs', u.oneCell' = true) :
    (storeCells ⟨q.r, q.base + o, none⟩ vs' 0).run P w = .ok () (w.setCells q.r (q.base + o) vs') ∧ Step P ρ h w ρ (h.set a (.cells (splice c o vs) e false)) (w.setCells q.r (q.base + o) vs') ∧
    (∀ j, j < vs'.length → (w.cell? ⟨q.r, q.base + o + j, none⟩).isSome = true) ∧ (∀ j, j < vs'.length → w.frozen? ⟨q.r, q.base + o + j, none⟩ = false) := by
  obtain ⟨rc, fr, k1, k2, k3, k4, k5, k6⟩ := r.blk a q _ hq hg
  have hfr := k6 rfl
  have hcell : ∀ j, j < vs'.length → (w.cell? ⟨q.r, q.base + o + j, none⟩).isSome = true := fun j hj => by
    have : q.base + o + j < rc.size := by have := hv.1; omega
    simp [World.cell?, k1, this]
  have hfz : ∀ j, j < vs'.length → w.frozen? ⟨q.r, q.base + o + j, none⟩ = false := fun j hj => unfrozen_at k1 hfr (by have := hv.1; omega)
  refine ⟨?_, ?_, hcell, hfz⟩
  · have := run_storeCells_cells (P := P) q.r (q.base + o) vs' 0 w (by simpa using hcell) (by simpa using hfz) h1
    simpa using this
  · obtain ⟨rc', m1, m2, m3⟩ := setCells_heap q.r vs' (q.base + o) w rc k1 (by have := hv.1; omega)
    obtain ⟨s1, s2, s3, s4⟩ := setCells_env q.r vs' (q.base + o) w
    have hget : ∀ b, (h.set a (.cells (splice c o vs) e false)).get b = if b = a then some (.cells (splice c o vs) e false) else h.get b := fun b => AH.get_set _ _ _ _
    have halt : a < h.next := (r.dom a q hq).1
    have held : Held ρ h q.r := ⟨a, q, _, hq, rfl, hg, rfl⟩
    exact {
      rel := by
        refine ⟨fun b p hp => ?_, fun b p ob hp hob => ?_, fun b b' p p' ob ob' hp hp' hob hro hob' hrr => ?_, fun b hb => ?_⟩
        · exact ⟨(r.dom b p hp).1, by rw [s1]; exact (r.dom b p hp).2⟩
        · rw [hget] at hob
          by_cases hba : b = a
          · subst hba
            rw [if_pos rfl] at hob; injection hob with hob; subst hob
            rw [hq] at hp; injection hp with hp; subst hp
            refine ⟨rc', fr, m1, by rw [m2]; exact k2, k3, by rw [splice_length _ _ _ hl, m2]; exact k4, fun i v hi => ?_, fun _ => by rw [m2]; exact hfr⟩
            rw [splice_get _ _ _ hl] at hi
            by_cases hin : o ≤ i ∧ i < o + vs.length
            · rw [if_pos hin] at hi
              have hlt : i - o < vs'.length := by have := hv.1; omega
              refine ⟨vs'[i - o], ?_, hv.2 _ _ _ hi (by simp [hlt])⟩
              rw [m3, if_pos (by have := hv.1; omega)]
              rw [show q.base + i - (q.base + o) = i - o by omega]
              simp [hlt]
            · rw [if_neg hin] at hi
              obtain ⟨v', e1, e2⟩ := k5 i v hi
              refine ⟨v', ?_, e2⟩
              rw [m3, if_neg (by have := hv.1; omega)]
              exact e1
          · rw [if_neg hba] at hob
            have hne : p.r ≠ q.r := fun e' => hba ((r.sep a b q p _ _ hq hp hg rfl hob e'.symm).symm)
            exact (r.blk b p ob hp hob).mono (fun _ _ h => h) (setCells_other q.r hne _ _ _)
        · rw [hget] at hob hob'
          by_cases hba : b = a
          · subst hba
            by_cases hba' : b' = b
            · exact hba'.symm
            · rw [if_neg hba'] at hob'
              exact r.sep b b' p p' _ _ hp hp' hg rfl hob' hrr
          · rw [if_neg hba] at hob
            by_cases hba' : b' = a
            · subst hba'
              exact r.sep b b' p p' _ _ hp hp' hob hro hg hrr
            · rw [if_neg hba'] at hob'
              exact r.sep b b' p p' _ _ hp hp' hob hro hob' hrr
        · rw [hget, if_neg (by intro e'; subst e'; simp [AH.set] at hb; omega)]; exact r.out b hb
      mono := fun _ _ h => h
      old := fun b hb hp => by
        refine ⟨hp, ?_⟩
        rw [hget, if_neg (by intro e'; subst e'; rw [hq] at hp; cases hp)]
      dead := fun b hb hd => by
        rw [hget, if_neg (by intro e'; subst e'; rw [hg] at hd; cases hd)]; exact hd
      ro := fun b ob hb hr => by
        rw [hget, if_neg (by intro e'; subst e'; rw [hg] at hb; injection hb with hb; subst hb; cases hr)]; exact hb
      new := fun b p hb hp => by have := (r.dom b p hp).1; omega
      next := Nat.le_refl _
      keep := fun i hi hn => setCells_other q.r (fun e' => hn (by rw [e']; exact held)) _ _ _
      grow := by rw [s1]; exact Nat.le_refl _
      os := s2
      tape := s3
      output := s4 }

theorem astore_inv {a : Addr} {vs : List Value} {h' : AH} (hs : astore h a vs = some h') : ∃ c e, h.get a.block = some (.cells c e false) ∧ a.off + vs.length ≤ c.length ∧ vs.all one = true ∧ h' = h.set a.block (.cells (splice c a.off vs) e false) := by
  unfold astore at hs
  split at hs
  · rename_i c e hg
    cases hb : (Nat.ble (a.off + vs.length) c.length && vs.all one) with
    | false => rw [hb] at hs; cases hs
    | true =>
      rw [hb] at hs
      simp only [cond_true] at hs
      injection hs with hs
      simp only [Bool.and_eq_true, Nat.ble_eq] at hb
      exact ⟨c, e, hg, hb.1, hb.2, hs.symm⟩
  · cases hs

theorem storeAt_sound (r : Rel P ρ h w) {t : TypeId} {a : Addr} {x' v v' : Value} {n : Nat} {h' : AH} (hs : astore h a v.cells.toList = some h') (hn : sz P t = some n) (hvn : v.cells.size = n) (hx : VRel ρ (.pointer (some a)) x') (hv : VRel ρ v v') :
    ∃ w', (Instr.storeAt t x' v').run P w = .ok () w' ∧ Step P ρ h w ρ h' w' := by
  cases hx with
  | ptr b o q hq =>
    obtain ⟨c, e, h1, h2, h3, rfl⟩ := astore_inv hs
    obtain ⟨k1, k2, _⟩ := step_store r hq h1 hv.cells h2 (one_all hv.cells h3)
    refine ⟨_, ?_, k2⟩
    have hsz : v'.cells.size = n := by rw [hv.cells_size, hvn]
    simp only [Instr.storeAt, Instr.sureAddr, Sem.run_bind, Sem.run_pure, Result.andThen_ok, storeVar, run_sizeOf hn, hsz, ne_eq, not_true_eq_false, if_false]
    simpa using k1
end
end Go.Am

/- Maps that are made, and written. -/
namespace Go.Am
open Go

section
variable {P : Program} {ρ : Ren} {h : AH} {w w1 : World}

/-- One block that may be written is another. -/
theorem step_put (r : Rel P ρ h w) {a : Nat} {q : RB} (hq : ρ a = some q) {ob ob' : AObj} (hg : h.get a = some ob) (hro : isRo ob = false) (hro' : isRo ob' = false)
    (hobj : RelObj P ρ w1 q ob') (hk : ∀ i, i ≠ q.r → w1.heap[i]? = w.heap[i]?) (hs : w1.heap.size = w.heap.size) (h2 : w1.os = w.os) (h3 : w1.tape = w.tape) (h4 : w1.output = w.output) :
    Step P ρ h w ρ (h.set a ob') w1 := by
  have hget : ∀ b, (h.set a ob').get b = if b = a then some ob' else h.get b := fun b => AH.get_set _ _ _ _
  have halt : a < h.next := (r.dom a q hq).1
  have held : Held ρ h q.r := ⟨a, q, _, hq, rfl, hg, hro⟩
  exact {
    rel := by
      refine ⟨fun b p hp => ?_, fun b p o hp hob => ?_, fun b b' p p' o o' hp hp' hob hro0 hob' hrr => ?_, fun b hb => ?_⟩
      · exact ⟨(r.dom b p hp).1, by rw [hs]; exact (r.dom b p hp).2⟩
      · rw [hget] at hob
        by_cases hba : b = a
        · subst hba
          rw [if_pos rfl] at hob; injection hob with hob; subst hob
          rw [hq] at hp; injection hp with hp; subst hp
          exact hobj
        · rw [if_neg hba] at hob
          have hne : p.r ≠ q.r := fun e' => hba ((r.sep a b q p _ _ hq hp hg hro hob e'.symm).symm)
          exact (r.blk b p o hp hob).mono (fun _ _ h => h) (hk _ hne)
      · rw [hget] at hob hob'
        by_cases hba : b = a
        · subst hba
          by_cases hba' : b' = b
          · exact hba'.symm
          · rw [if_neg hba'] at hob'
            exact r.sep b b' p p' _ _ hp hp' hg hro hob' hrr
        · rw [if_neg hba] at hob
          by_cases hba' : b' = a
          · subst hba'
            exact r.sep b b' p p' _ _ hp hp' hob hro0 hg hrr
          · rw [if_neg hba'] at hob'
            exact r.sep b b' p p' _ _ hp hp' hob hro0 hob' hrr
      · rw [hget, if_neg (by intro e'; subst e'; simp [AH.set] at hb; omega)]; exact r.out b hb
    mono := fun _ _ h => h
    old := fun b hb hp => by
      refine ⟨hp, ?_⟩
      rw [hget, if_neg (by intro e'; subst e'; rw [hq] at hp; cases hp)]
    dead := fun b hb hd => by
      rw [hget, if_neg (by intro e'; subst e'; rw [hg] at hd; cases hd)]; exact hd
    ro := fun b o hb hr => by
      rw [hget, if_neg (by intro e'; subst e'; rw [hg] at hb; injection hb with hb; subst hb; rw [hro] at hr; cases hr)]; exact hb
    new := fun b p hb hp => by have := (r.dom b p hp).1; omega
    next := Nat.le_refl _
    keep := fun i hi hn => hk i (fun e' => hn (by rw [e']; exact held))
    grow := by rw [hs]; exact Nat.le_refl _
    os := h2
    tape := h3
    output := h4 }

/-- A new real block, for the next abstract one. -/
theorem step_new (r : Rel P ρ h w) {q : RB} {ob : AObj} {o' : Obj} (hqr : q.r = w.heap.size) (hw : w1.heap = w.heap.push o') (hobj : RelObj P (upd ρ h.next q) w1 q ob)
    (hos : w1.os = w.os) (htape : w1.tape = w.tape) (hout : w1.output = w.output) : Step P ρ h w (upd ρ h.next q) (h.alloc ob) w1 := by
  have hρ : ρ h.next = none := by
    cases hq : ρ h.next with
    | none => rfl
    | some q => have := (r.dom _ q hq).1; omega
  have hm := upd_mono (ρ := ρ) (a := h.next) q hρ
  have hold : ∀ k, k < w.heap.size → w1.heap[k]? = w.heap[k]? := fun k hk => by rw [hw, Array.getElem?_push_lt hk]; simp [hk]
  have hget : ∀ b, (h.alloc ob).get b = if b = h.next then some ob else h.get b := fun b => AH.get_alloc _ _ _
  have hsz : w1.heap.size = w.heap.size + 1 := by rw [hw]; simp
  exact {
    rel := by
      refine ⟨fun b p hp => ?_, fun b p o hp hob => ?_, fun b b' p p' o o0 hp hp' hob hro0 hob' hrr => ?_, fun b hb => ?_⟩
      · by_cases e : b = h.next
        · subst e; rw [upd_same] at hp; injection hp with hp; subst hp
          exact ⟨by simp [AH.alloc], by omega⟩
        · rw [upd_ne _ _ e] at hp
          have := r.dom b p hp
          exact ⟨by simp [AH.alloc]; omega, by omega⟩
      · rw [hget] at hob
        by_cases e : b = h.next
        · subst e; rw [upd_same] at hp; injection hp with hp; subst hp
          rw [if_pos rfl] at hob; injection hob with hob; subst hob
          exact hobj
        · rw [upd_ne _ _ e] at hp
          rw [if_neg e] at hob
          exact (r.blk b p o hp hob).mono hm (hold _ (r.dom b p hp).2)
      · rw [hget] at hob hob'
        by_cases e : b = h.next
        · by_cases e' : b' = h.next
          · rw [e, e']
          · subst e; rw [upd_same] at hp; injection hp with hp; subst hp
            rw [upd_ne _ _ e'] at hp'
            have := (r.dom b' p' hp').2
            omega
        · by_cases e' : b' = h.next
          · subst e'; rw [upd_same] at hp'; injection hp' with hp'; subst hp'
            rw [upd_ne _ _ e] at hp
            have := (r.dom b p hp).2
            omega
          · rw [upd_ne _ _ e] at hp; rw [upd_ne _ _ e'] at hp'
            rw [if_neg e] at hob; rw [if_neg e'] at hob'
            exact r.sep b b' p p' _ _ hp hp' hob hro0 hob' hrr
      · rw [hget, if_neg (by simp [AH.alloc] at hb; omega)]
        exact r.out b (by simp [AH.alloc] at hb; omega)
    mono := hm
    old := fun a ha hq => ⟨by rw [upd_ne _ _ (by omega)]; exact hq, by rw [hget, if_neg (by omega)]⟩
    dead := fun a ha hd => by rw [hget, if_neg (by omega)]; exact hd
    ro := fun a o ha hro => by
      have : a ≠ h.next := fun e => by rw [e, r.out _ (Nat.le_refl _)] at ha; cases ha
      rw [hget, if_neg this]; exact ha
    new := fun a q ha hq => by
      by_cases e : a = h.next
      · subst e; rw [upd_same] at hq; injection hq with hq; subst hq; exact .inl (by omega)
      · rw [upd_ne _ _ e] at hq; have := (r.dom a q hq).1; omega
    next := by simp [AH.alloc]
    keep := fun i hi _ => hold i hi
    grow := by omega
    os := hos
    tape := htape
    output := hout }

theorem step_newMap (r : Rel P ρ h w) : Step P ρ h w (upd ρ h.next ⟨w.heap.size, 0, 0, 0⟩) (newMap h).2 (w.alloc (.map #[] 0)) ∧ VRel (upd ρ h.next ⟨w.heap.size, 0, 0, 0⟩) (newMap h).1 (.map (some w.heap.size)) := by
  refine ⟨step_new r (q := ⟨w.heap.size, 0, 0, 0⟩) (o' := .map #[] 0) rfl rfl ?_ rfl rfl rfl, ?_⟩
  · exact ⟨#[], by show (w.heap.push _)[w.heap.size]? = _; simp, rfl, fun i e e' h => by simp at h⟩
  · exact .map h.next ⟨w.heap.size, 0, 0, 0⟩ (upd_same _ _ _)

theorem ERel.set {es es' : List MapEntry} (hr : ERel ρ es es') (i : Nat) (f f' : MapEntry → MapEntry) (hf : ∀ e e', EntRel ρ e e' → EntRel ρ (f e) (f' e')) : ERel ρ (es.modify i f) (es'.modify i f') := by
  refine ⟨by simp [hr.1], fun j e e' h1 h2 => ?_⟩
  rw [List.getElem?_modify] at h1 h2
  cases ha : es[j]? with
  | none => rw [ha] at h1; simp at h1
  | some a =>
    cases hb : es'[j]? with
    | none => rw [hb] at h2; simp at h2
    | some b =>
      have hab := hr.2 j a b ha hb
      rw [ha] at h1; rw [hb] at h2
      by_cases hij : i = j
      · simp only [hij, if_true, Option.map_eq_map, Option.map_some, Option.some.injEq] at h1 h2
        subst h1; subst h2
        exact hf _ _ hab
      · simp [hij] at h1 h2
        subst h1; subst h2
        exact hab
theorem ERel.push {es es' : List MapEntry} (hr : ERel ρ es es') {e e' : MapEntry} (h : EntRel ρ e e') : ERel ρ (es ++ [e]) (es' ++ [e']) := by
  refine ⟨by simp [hr.1], fun j a a' h1 h2 => ?_⟩
  by_cases hj : j < es.length
  · rw [List.getElem?_append_left hj] at h1
    rw [List.getElem?_append_left (by rw [← hr.1]; exact hj)] at h2
    exact hr.2 j a a' h1 h2
  · rw [List.getElem?_append_right (by omega)] at h1
    rw [List.getElem?_append_right (by rw [← hr.1]; omega)] at h2
    rw [← hr.1] at h2
    cases hd : j - es.length with
    | zero => rw [hd] at h1 h2; simp at h1 h2; subst h1; subst h2; exact h
    | succ k => rw [hd] at h1; simp at h1
theorem ERel.erase {es es' : List MapEntry} (hr : ERel ρ es es') (i : Nat) : ERel ρ (es.eraseIdx i) (es'.eraseIdx i) := by
  refine ⟨by simp [List.length_eraseIdx, hr.1], fun j a a' h1 h2 => ?_⟩
  rw [List.getElem?_eraseIdx] at h1 h2
  split at h1
  · rename_i hlt; rw [if_pos hlt] at h2; exact hr.2 _ _ _ h1 h2
  · rename_i hlt; rw [if_neg hlt] at h2; exact hr.2 _ _ _ h1 h2
end
end Go.Am

/- append and copy. -/
namespace Go.Am
open Go

section
variable {P : Program} {ρ : Ren} {h : AH} {w : World}

theorem asrc_sound (r : Rel P ρ h w) {size m : Nat} {x x' : Value} {news : List Value} (hs : asrc h size x = some (m, news)) (hx : VRel ρ x x') (h1 : news.all one = true) {tx : TypeId}
    (hk : (∃ e', P.underlying tx = some (.slice e')) ∨ P.underlying tx = some .string) :
    news.length = m * size ∧ ∃ news', LRel ρ news news' ∧ Src P size tx x' m news' w ∧ ∀ k, k ≤ m → (Builtin.firstCells size k x').run P w = .ok (news'.take (k * size)).toArray w := by
  unfold asrc at hs
  split at hs
  · injection hs with hs; injection hs with h2 h3; subst h2; subst h3
    cases hx
    refine ⟨by simp, [], .nil, ⟨hk, fun _ => rfl, rfl, rfl, by simp, by simp⟩, fun k hk => by simp [Builtin.firstCells]⟩
  · rename_i a n c
    split at hs
    · rename_i l hc
      injection hs with hs; injection hs with h2 h3; subst h2; subst h3
      cases hx with
      | slice a o n c o' c' q hq ho hn hcr =>
        obtain ⟨hlen, l', e1, e2⟩ := rel_cells r hq hc
        have hcell : ∀ (j : Nat) (v : Value), l'[j]? = some v → w.cell? ⟨q.r, o' + j, none⟩ = some v := by
          intro j v hj
          have hjl : j < l'.length := (List.getElem?_eq_some_iff.1 hj).1
          have hn0 : 0 < n := by
            rcases Nat.eq_zero_or_pos n with h0 | h0
            · subst h0; have := e1.1; simp at hlen; rw [hlen] at this; simp at this; rw [← this] at hjl; simp at hjl
            · exact h0
          have ho' : o' = q.base + o := ho.resolve_right (by have := hcr.low; omega)
          rw [ho', Nat.add_assoc]
          exact e2 j v hj
        have hl' : l'.length = n * size := by rw [← e1.1, hlen]
        have hone := one_all e1 h1
        refine ⟨hlen, l', e1, ⟨hk, fun _ => rfl, ?_, ?_, hl', hone⟩, fun k hk => ?_⟩
        · have := run_cells (P := P) (w := w) (b := q.r) (o := o') (l := l') hcell
          rw [hl'] at this
          simpa [Builtin.firstCells] using this
        · have := run_cells (P := P) (w := w.drew) (b := q.r) (o := o') (l := l') (by simpa using hcell)
          rw [hl'] at this
          simpa [Builtin.firstCells] using this
        · have hk' : k * size ≤ l'.length := by rw [hl']; exact Nat.mul_le_mul_right _ hk
          have := run_cells (P := P) (w := w) (b := q.r) (o := o') (l := l'.take (k * size)) (fun j v hj => by
            rw [List.getElem?_take] at hj
            split at hj
            · exact hcell j v hj
            · cases hj)
          rw [List.length_take, Nat.min_eq_left hk'] at this
          simpa [Builtin.firstCells] using this
    · cases hs
  · rename_i s
    cases hb : Nat.beq size 1 with
    | false => rw [hb] at hs; cases hs
    | true =>
      rw [hb] at hs
      simp only [cond_true] at hs
      obtain rfl := of_beq hb
      injection hs with hs; injection hs with h2 h3; subst h2; subst h3
      obtain rfl := hx.string_inv
      have hlen : (s.data.toList.map fun c => Value.int .u8 c.toNat).length = s.size := byteCells_length s
      have hrel : LRel ρ (s.data.toList.map fun c => Value.int .u8 c.toNat) (byteCells s) := by
        refine ⟨rfl, fun i v v' hv hv' => ?_⟩
        have : v = v' := by
          unfold byteCells at hv'
          rw [hv] at hv'
          exact Option.some.inj hv'
        subst this
        rw [List.getElem?_map] at hv
        cases hi : s.data.toList[i]? with
        | none => rw [hi] at hv; cases hv
        | some u => rw [hi] at hv; simp only [Option.map_some] at hv; injection hv with hv; subst hv; exact .int _ _
      refine ⟨by rw [hlen, Nat.mul_one], byteCells s, hrel, ⟨hk, fun _ => rfl, firstCells_string s w, firstCells_string s w.drew, by rw [byteCells_length, Nat.mul_one], one_all hrel h1⟩, fun k hk => ?_⟩
      simp [Builtin.firstCells, byteCells]
      apply Array.ext'
      simp [List.map_take]
  · cases hs

theorem cells_hold (r : Rel P ρ h w) {a o n size o' c' : Nat} {q : RB} {olds : List Value} (hq : ρ a = some q) (hc : cellsAt h ⟨a, o, none⟩ (n * size) = some olds) (ho : n = 0 ∨ o' = q.base + o) :
    olds.length = n * size ∧ ∃ olds', LRel ρ olds olds' ∧ (Builtin.firstCells size n (.slice (some ⟨q.r, o', none⟩) n c')).run P w.drew = .ok olds'.toArray w.drew ∧ (∀ (j : Nat) (v : Value), olds'[j]? = some v → w.cell? ⟨q.r, o' + j, none⟩ = some v) := by
  obtain ⟨hlen, l', e1, e2⟩ := rel_cells r hq hc
  have hl' : l'.length = n * size := by rw [← e1.1, hlen]
  have hcell : ∀ (j : Nat) (v : Value), l'[j]? = some v → w.cell? ⟨q.r, o' + j, none⟩ = some v := by
    intro j v hj
    have hjl : j < l'.length := (List.getElem?_eq_some_iff.1 hj).1
    rcases ho with h0 | ho'
    · subst h0; simp at hl'; rw [hl'] at hjl; simp at hjl
    · rw [ho', Nat.add_assoc]; exact e2 j v hj
  refine ⟨hlen, l', e1, ?_, hcell⟩
  have := run_cells (P := P) (w := w.drew) (b := q.r) (o := o') (l := l') (by simpa using hcell)
  rw [hl'] at this
  simpa [Builtin.firstCells] using this

theorem step_drop (r : Rel P ρ h w) {a : Nat} {q : RB} (hq : ρ a = some q) {ob : AObj} (hg : h.get a = some ob) (hro : isRo ob = false) : Step P ρ h w ρ (h.drop a) w := by
  have hget : ∀ b, (h.drop a).get b = if b = a then none else h.get b := fun b => AH.get_drop _ _ _
  have sub : ∀ b o, (h.drop a).get b = some o → b ≠ a ∧ h.get b = some o := by
    intro b o hb
    rw [hget] at hb
    split at hb
    · cases hb
    · rename_i hne; exact ⟨hne, hb⟩
  exact {
    rel := by
      refine ⟨fun b p hp => r.dom b p hp, fun b p o hp hob => r.blk b p o hp (sub b o hob).2, fun b b' p p' o o' hp hp' ho hr ho' hrr => r.sep b b' p p' o o' hp hp' (sub b o ho).2 hr (sub b' o' ho').2 hrr, fun b hb => ?_⟩
      rw [hget]
      split
      · rfl
      · exact r.out b hb
    mono := fun _ _ h => h
    old := fun b hb hp => ⟨hp, by rw [hget, if_neg (by intro e; subst e; rw [hq] at hp; cases hp)]⟩
    dead := fun b hb hd => by
      rw [hget]
      split
      · rfl
      · exact hd
    ro := fun b o hb hr => by
      rw [hget, if_neg (by intro e; subst e; rw [hg] at hb; injection hb with hb; subst hb; rw [hro] at hr; cases hr)]; exact hb
    new := fun b p hb hp => by have := (r.dom b p hp).1; omega
    next := Nat.le_refl _
    keep := fun _ _ _ => rfl
    grow := Nat.le_refl _
    os := rfl
    tape := rfl
    output := rfl }

/-- A row that is taken over, and written behind: where there was room. -/
theorem step_move (r : Rel P ρ h w) {a : Nat} {q : RB} (hq : ρ a = some q) {c : List Value} {e : TypeId} (hg : h.get a = some (.cells c e false)) {w1 : World} {rc rc' : Array Value} {fr : Nat × Nat}
    (hb : w.heap[q.r]? = some (.cells rc e fr)) (hb1 : w1.heap[q.r]? = some (.cells rc' e fr)) (hsize : rc'.size = rc.size) (hoth : ∀ i, i ≠ q.r → w1.heap[i]? = w.heap[i]?) (hsz : w1.heap.size = w.heap.size)
    (hos : w1.os = w.os) (htape : w1.tape = w.tape) (hout : w1.output = w.output) {o' : Nat} {cs : List Value} (hlen : o' + cs.length ≤ rc.size) (hcs : ∀ (i : Nat) (v : Value), cs[i]? = some v → ∃ v', rc'[o' + i]? = some v' ∧ VRel ρ v v') :
    Step P ρ h w (upd ρ h.next ⟨q.r, o', q.esz, q.size⟩) ((h.drop a).alloc (.cells cs e false)) w1 := by
  obtain ⟨rc0, fr0, k1, k2, k3, k4, k5, k6⟩ := r.blk a q _ hq hg
  rw [hb] at k1; injection k1 with k1; injection k1 with e1 e2 e3; subst e1; subst e3
  have hfr := k6 rfl
  have halt := (r.dom a q hq).1
  have hρ : ρ h.next = none := by
    cases hn : ρ h.next with
    | none => rfl
    | some p => have := (r.dom _ p hn).1; omega
  have hm := upd_mono (ρ := ρ) (a := h.next) ⟨q.r, o', q.esz, q.size⟩ hρ
  have hget : ∀ b, ((h.drop a).alloc (.cells cs e false)).get b = if b = h.next then some (.cells cs e false) else if b = a then none else h.get b := by
    intro b; rw [AH.get_alloc, AH.get_drop]; rfl
  have old : ∀ b o, b ≠ h.next → ((h.drop a).alloc (.cells cs e false)).get b = some o → b ≠ a ∧ h.get b = some o := by
    intro b o hne hbo
    rw [hget, if_neg hne] at hbo
    split at hbo
    · cases hbo
    · rename_i hna; exact ⟨hna, hbo⟩
  have held : Held ρ h q.r := ⟨a, q, _, hq, rfl, hg, rfl⟩
  exact {
    rel := by
      refine ⟨fun b p hp => ?_, fun b p ob hp hob => ?_, fun b b' p p' ob ob' hp hp' hob hro hob' hrr => ?_, fun b hbn => ?_⟩
      · by_cases hbe : b = h.next
        · subst hbe; rw [upd_same] at hp; injection hp with hp; subst hp
          exact ⟨by simp [AH.alloc, AH.drop], by rw [hsz]; exact (r.dom a q hq).2⟩
        · rw [upd_ne _ _ hbe] at hp
          have := r.dom b p hp
          exact ⟨by simp [AH.alloc, AH.drop]; omega, by rw [hsz]; exact this.2⟩
      · by_cases hbe : b = h.next
        · subst hbe; rw [upd_same] at hp; injection hp with hp; subst hp
          rw [hget, if_pos rfl] at hob; injection hob with hob; subst hob
          refine ⟨rc', fr, hb1, by rw [hsize]; exact k2, k3, by rw [hsize]; exact hlen, fun i v hi => ?_, fun _ => by rw [hsize]; exact hfr⟩
          obtain ⟨v', e1, e2⟩ := hcs i v hi
          exact ⟨v', e1, e2.mono hm⟩
        · rw [upd_ne _ _ hbe] at hp
          obtain ⟨hna, hob⟩ := old b ob hbe hob
          have hne : p.r ≠ q.r := fun e' => hna ((r.sep a b q p _ _ hq hp hg rfl hob e'.symm).symm)
          exact (r.blk b p ob hp hob).mono hm (hoth _ hne)
      · by_cases hbe : b = h.next
        · by_cases hbe' : b' = h.next
          · rw [hbe, hbe']
          · subst hbe
            rw [upd_same] at hp; injection hp with hp; subst hp
            rw [upd_ne _ _ hbe'] at hp'
            obtain ⟨hna, hob'⟩ := old b' ob' hbe' hob'
            exact absurd (r.sep a b' q p' _ _ hq hp' hg rfl hob' hrr).symm hna
        · by_cases hbe' : b' = h.next
          · subst hbe'
            rw [upd_same] at hp'; injection hp' with hp'; subst hp'
            rw [upd_ne _ _ hbe] at hp
            obtain ⟨hna, hob⟩ := old b ob hbe hob
            exact absurd (r.sep b a p q _ _ hp hq hob hro hg hrr) hna
          · rw [upd_ne _ _ hbe] at hp
            rw [upd_ne _ _ hbe'] at hp'
            exact r.sep b b' p p' _ _ hp hp' (old b ob hbe hob).2 hro (old b' ob' hbe' hob').2 hrr
      · simp [AH.alloc, AH.drop] at hbn
        rw [hget, if_neg (by omega), if_neg (by omega)]; exact r.out b (by omega)
    mono := hm
    old := fun b hbn hp => ⟨by rw [upd_ne _ _ (by omega)]; exact hp, by rw [hget, if_neg (by omega), if_neg (by intro e'; subst e'; rw [hq] at hp; cases hp)]⟩
    dead := fun b hbn hd => by
      rw [hget, if_neg (by omega)]
      split
      · rfl
      · exact hd
    ro := fun b o hbo hr => by
      have hne : b ≠ h.next := fun e' => by rw [e', r.out _ (Nat.le_refl _)] at hbo; cases hbo
      rw [hget, if_neg hne, if_neg (by intro e'; subst e'; rw [hg] at hbo; injection hbo with hbo; subst hbo; cases hr)]; exact hbo
    new := fun b p hbn hp => by
      by_cases hbe : b = h.next
      · subst hbe; rw [upd_same] at hp; injection hp with hp; subst hp; exact .inr held
      · rw [upd_ne _ _ hbe] at hp; have := (r.dom b p hp).1; omega
    next := by simp [AH.alloc, AH.drop]
    keep := fun i hi hn => hoth i (fun e' => hn (by rw [e']; exact held))
    grow := by rw [hsz]; exact Nat.le_refl _
    os := hos
    tape := htape
    output := hout }
end
end Go.Am

/- append and copy, as the abstract machine has them. -/
namespace Go.Am
open Go

section
variable {P : Program} {ρ : Ren} {h : AH} {w : World}

theorem grow_fit {n m sCap bytes : Nat} (hg : sCap < n + m) (hb : (n + m) * (bytes + 1) ≤ 1099511627776) :
    ((n + m : Nat) : Int) ≤ 9223372036854775807 ∧ Builtin.nextslicecap (n + m) sCap * bytes ≤ 281474976710656 ∧ n + m < K := by
  have h1 := nextslicecap_le hg
  have h2 : (n + m) * (bytes + 1) = (n + m) * bytes + (n + m) := Nat.mul_succ _ _
  have h3 : Builtin.nextslicecap (n + m) sCap * bytes ≤ 2 * (n + m) * bytes := Nat.mul_le_mul_right _ h1
  have h4 : 2 * (n + m) * bytes = 2 * ((n + m) * bytes) := Nat.mul_assoc _ _ _
  refine ⟨by omega, by omega, by simp only [K]; omega⟩

/-- A new row: olds, news, and zeros behind. -/
theorem step_grow (r : Rel P ρ h w) {e : TypeId} {i : TypeInfo} {z : Value} (hi : P.info? e = some i) (hz : zeroOf P e = some z) {cs cs' : List Value} (hcs : LRel ρ cs cs') {need sCap : Nat} (hlen : cs.length = need * i.size) :
    Step P ρ h w (upd ρ h.next ⟨w.heap.size, 0, i.size, (cs'.toArray ++ Builtin.zeroCells z.cells (grownCap w need sCap e - need)).size⟩) (h.alloc (.cells cs e false))
        (w.drew.alloc (.cells (cs'.toArray ++ Builtin.zeroCells z.cells (grownCap w need sCap e - need)) e)) ∧
      VRel (upd ρ h.next ⟨w.heap.size, 0, i.size, (cs'.toArray ++ Builtin.zeroCells z.cells (grownCap w need sCap e - need)).size⟩) (.slice (some ⟨h.next, 0, none⟩) need (capUnknown need)) (.slice (some ⟨w.heap.size, 0, none⟩) need (grownCap w need sCap e)) := by
  obtain ⟨i', hi', hzz, hfl, hzs, _⟩ := zeroOf_inv hz
  have : i' = i := by rw [hi] at hi'; injection hi' with hi'; exact hi'.symm
  subst this
  refine ⟨step_install r rfl rfl rfl rfl (sz_of hi) (by simp; have := hcs.1; omega) (fun j v hj => ?_) (.inl rfl), ?_⟩
  · have hlt : j < cs.length := (List.getElem?_eq_some_iff.1 hj).1
    have hlt' : j < cs'.length := by rw [← hcs.1]; exact hlt
    refine ⟨cs'[j], ?_, hcs.2 j v _ hj (by simp [hlt'])⟩
    rw [Array.getElem?_append_left (by simpa using hlt')]
    simp [hlt']
  · have hge := grownCap_ge w need sCap e
    have hsize : (cs'.toArray ++ Builtin.zeroCells z.cells (grownCap w need sCap e - need)).size = grownCap w need sCap e * i'.size := by
      rw [Array.size_append, size_zeroCells, hzs]
      have : cs'.toArray.size = need * i'.size := by simp [← hcs.1, hlen]
      rw [this, ← Nat.add_mul]
      congr 1; omega
    have := VRel.slice (ρ := upd ρ h.next ⟨w.heap.size, 0, i'.size, (cs'.toArray ++ Builtin.zeroCells z.cells (grownCap w need sCap e - need)).size⟩) h.next 0 need (capUnknown need) 0 (grownCap w need sCap e) _ (upd_same _ _ _) (.inl rfl)
      (by rw [capLow_unknown]; exact Nat.le_refl _) (.inr ⟨capExact_unknown _, by rw [capLow_unknown]; exact hge, by rw [hsize]; simp⟩)
    simpa using this

theorem aappendL_sound (r : Rel P ρ h w) {t tx ty e : TypeId} {i : TypeInfo} {z s x s' x' v : Value} {h' : AH} (ha : aappendL h e i s x = some (v, h')) (hi : P.info? e = some i) (hz : zeroOf P e = some z)
    (ht : P.underlying t = some (.slice e)) (hk : (∃ e', P.underlying tx = some (.slice e')) ∨ P.underlying tx = some .string) (hs : VRel ρ s s') (hx : VRel ρ x x') :
    ∃ v' w' ρ', (Builtin.append_ #[t, tx] ty #[s', x']).run P w = .ok v' w' ∧ VRel ρ' v v' ∧ Step P ρ h w ρ' h' w' := by
  obtain ⟨i', hi', hzz, hfl, hzs, _⟩ := zeroOf_inv hz
  have : i' = i := by rw [hi] at hi'; injection hi' with hi'; exact hi'.symm
  subst this
  unfold aappendL at ha
  split at ha
  · cases ha
  · rename_i m news hsrc
    cases hc0 : (Nat.ble 1 i'.size && news.all one) with
    | false => rw [hc0] at ha; cases ha
    | true =>
    rw [hc0] at ha
    simp only [Bool.not_true, cond_false] at ha
    simp only [Bool.and_eq_true, Nat.ble_eq] at hc0
    obtain ⟨hsz1, hone⟩ := hc0
    obtain ⟨hnl, news', hnr, hsrcR, _⟩ := asrc_sound r hsrc hx hone hk
    have hnews0 : m = 0 → news' = [] := fun h0 => by
      have := hnr.1; rw [hnl, h0] at this; simp at this; exact List.eq_nil_of_length_eq_zero this.symm
    split at ha
    · -- nil
      cases hs
      cases hm : Nat.beq m 0 with
      | true =>
        rw [hm] at ha
        simp only [cond_true] at ha
        injection ha with ha; injection ha with e1 e2; subst e1; subst e2
        have hm0 := of_beq hm
        subst hm0
        have := hnews0 rfl
        subst this
        exact ⟨_, w, ρ, run_append_nothing w t tx ty e i' ht hi none 0 0 (Nat.le_refl _) x' hsrcR, .sliceNil, Step.refl r⟩
      | false =>
        rw [hm] at ha
        simp only [cond_false] at ha
        have hm0 := of_beqf hm
        cases hb : Nat.ble (m * (i'.bytes + 1)) 1099511627776 with
        | false => rw [hb] at ha; cases ha
        | true =>
          rw [hb] at ha
          simp only [cond_true] at ha
          injection ha with ha; injection ha with e1 e2; subst e1; subst e2
          obtain ⟨g1, g2, _⟩ := grow_fit (n := 0) (m := m) (sCap := 0) (bytes := i'.bytes) (by omega) (by simpa using Nat.ble_eq.mp hb)
          have hrun := run_append_grow_src (P := P) w t tx ty e i' z ht hi hzz none 0 0 [] (by simp [Builtin.firstCells]) x' m news' hsrcR (by omega) g1 g2
          simp only [Nat.zero_add, List.nil_append] at hrun
          obtain ⟨st, vr⟩ := step_grow (need := m) (sCap := 0) r hi hz hnr hnl
          exact ⟨_, _, _, hrun, vr, st⟩
    · -- a slice
      rename_i a n c
      cases hs with
      | slice a o n c o' c' q hq ho hn hcr =>
      have hlow := hcr.low
      cases hm : Nat.beq m 0 with
      | true =>
        rw [hm] at ha
        simp only [cond_true] at ha
        injection ha with ha; injection ha with e1 e2; subst e1; subst e2
        have hm0 := of_beq hm
        subst hm0
        have := hnews0 rfl
        subst this
        exact ⟨_, w, ρ, run_append_nothing w t tx ty e i' ht hi (some ⟨q.r, o', none⟩) n c' (by omega) x' hsrcR, .slice a o n c o' c' q hq ho hn hcr, Step.refl r⟩
      | false =>
        rw [hm] at ha
        simp only [cond_false] at ha
        have hm0 := of_beqf hm
        cases hroom : Nat.ble (n + m) (capLow c) with
        | true =>
          rw [hroom] at ha
          simp only [cond_true] at ha
          have hroom' : n + m ≤ capLow c := Nat.ble_eq.mp hroom
          split at ha
          · rename_i h1 hst
            injection ha with ha; injection ha with e1 e2; subst e1; subst e2
            obtain ⟨cc, e', k1, k2, k3, rfl⟩ := astore_inv hst
            have ho' : o' = q.base + o := ho.resolve_right (by omega)
            obtain ⟨_, s2, s3, s4⟩ := step_store (o := o + n * i'.size) r hq k1 hnr k2 (one_all hnr k3)
            have hoff : q.base + (o + n * i'.size) = o' + n * i'.size := by omega
            rw [hoff] at s2 s3 s4
            have hrun := run_append_room_src (P := P) w t tx ty e i' ht hi q.r o' n c' x' m news' hsrcR (by omega) s3 s4
            exact ⟨_, _, ρ, hrun, .slice a o (n + m) c o' c' q hq ho hroom' hcr, s2⟩
          · cases ha
        | false =>
          rw [hroom] at ha
          simp only [cond_false] at ha
          have hroom' : ¬ n + m ≤ capLow c := fun hle => by rw [Nat.ble_eq.mpr hle] at hroom; cases hroom
          split at ha
          · rename_i cc e' ro olds hg hold
            cases hb : (Nat.ble ((n + m) * (i'.bytes + 1)) 1099511627776 && Nat.beq e' e) with
            | false => rw [hb] at ha; cases ha
            | true =>
              rw [hb] at ha
              simp only [Bool.not_true, cond_false] at ha
              simp only [Bool.and_eq_true, Nat.ble_eq] at hb
              obtain ⟨hb1, hb2⟩ := hb
              obtain rfl := of_beq hb2
              have hn0 : n = 0 ∨ o' = q.base + o := by
                rcases ho with h0 | h0
                · exact .inr h0
                · exact .inl (by omega)
              obtain ⟨hol, olds', hor, hhold, hcell⟩ := cells_hold (c' := c') r hq hold hn0
              have hlen : (olds ++ news).length = (n + m) * i'.size := by rw [List.length_append, hol, hnl, Nat.add_mul]
              cases hex : capExact c with
              | true =>
                rw [hex] at ha
                simp only [cond_true] at ha
                injection ha with ha; injection ha with e1 e2; subst e1; subst e2
                have hcc : c' = c := by
                  rcases hcr with ⟨_, h0⟩ | ⟨h0, _⟩
                  · exact h0
                  · rw [hex] at h0; cases h0
                have hcl := capLow_exact hex
                obtain ⟨g1, g2, _⟩ := grow_fit (n := n) (m := m) (sCap := c') (bytes := i'.bytes) (by omega) hb1
                have hrun := run_append_grow_src (P := P) w t tx ty e' i' z ht hi hzz (some ⟨q.r, o', none⟩) n c' olds' hhold x' m news' hsrcR (by omega) g1 g2
                obtain ⟨st, vr⟩ := step_grow (need := n + m) (sCap := c') r hi hz (hor.append hnr) hlen
                exact ⟨_, _, _, hrun, vr, st⟩
              | false =>
                rw [hex] at ha
                simp only [cond_false] at ha
                cases ro with
                | true => cases ha
                | false =>
                  simp only [cond_false] at ha
                  injection ha with ha; injection ha with e1 e2; subst e1; subst e2
                  have hunk : o' + c' * q.esz ≤ q.size := by
                    rcases hcr with ⟨h0, _⟩ | ⟨_, _, h0⟩
                    · rw [hex] at h0; cases h0
                    · exact h0
                  by_cases hin : n + m ≤ c'
                  · -- there was room
                    have hesz := rel_esz r hq hg (sz_of hi)
                    obtain ⟨rc, fr, k1, k2, k3, k4, k5, k6⟩ := r.blk a q _ hq hg
                    have hfr := k6 rfl
                    have hnl' : news'.length = m * i'.size := by rw [← hnr.1, hnl]
                    have hsp : o' + n * i'.size + news'.length ≤ rc.size := by
                      have e1 : n * i'.size + m * i'.size ≤ c' * i'.size := by rw [← Nat.add_mul]; exact Nat.mul_le_mul_right _ hin
                      rw [hesz] at hunk; omega
                    have hc3 : ∀ j, j < news'.length → (w.cell? ⟨q.r, o' + n * i'.size + j, none⟩).isSome = true := fun j hj => by
                      have : o' + n * i'.size + j < rc.size := by omega
                      simp [World.cell?, k1, this]
                    have hc4 : ∀ j, j < news'.length → w.frozen? ⟨q.r, o' + n * i'.size + j, none⟩ = false := fun j hj => unfrozen_at k1 hfr (by omega)
                    have hrun := run_append_room_src (P := P) w t tx ty e' i' ht hi q.r o' n c' x' m news' hsrcR hin hc3 hc4
                    obtain ⟨rc', m1, m2, m3⟩ := setCells_heap q.r news' (o' + n * i'.size) w rc k1 hsp
                    obtain ⟨s1, s2, s3, s4⟩ := setCells_env q.r news' (o' + n * i'.size) w
                    have hol' : olds'.length = n * i'.size := by rw [← hor.1, hol]
                    have st := step_move (cs := olds ++ news) (o' := o') r hq hg k1 m1 m2 (fun j hj => setCells_other q.r hj _ _ _) s1 s2 s3 s4 (by rw [hlen]; have : (n + m) * i'.size = n * i'.size + m * i'.size := Nat.add_mul _ _ _; omega) (fun j u hj => by
                      by_cases hjn : j < olds.length
                      · rw [List.getElem?_append_left hjn] at hj
                        have hjl : j < olds'.length := by rw [← hor.1]; exact hjn
                        refine ⟨olds'[j], ?_, hor.2 j u _ hj (by simp [hjl])⟩
                        have := hcell j olds'[j] (by simp [hjl])
                        rw [m3, if_neg (by omega)]
                        simpa [World.cell?, k1] using this
                      · rw [List.getElem?_append_right (by omega)] at hj
                        have hjl : j - olds.length < news.length := (List.getElem?_eq_some_iff.1 hj).1
                        have hjl' : j - olds.length < news'.length := by rw [← hnr.1]; exact hjl
                        refine ⟨news'[j - olds.length], ?_, hnr.2 _ u _ hj (by simp [hjl'])⟩
                        rw [m3, if_pos (by omega)]
                        rw [show o' + j - (o' + n * i'.size) = j - olds.length by omega]
                        simp [hjl'])
                    refine ⟨_, _, _, hrun, ?_, st⟩
                    exact .slice h.next 0 (n + m) _ o' c' ⟨q.r, o', q.esz, q.size⟩ (upd_same _ _ _) (.inl rfl) (by rw [capLow_unknown]; exact Nat.le_refl _) (.inr ⟨capExact_unknown _, by rw [capLow_unknown]; exact hin, hunk⟩)
                  · obtain ⟨g1, g2, _⟩ := grow_fit (n := n) (m := m) (sCap := c') (bytes := i'.bytes) (by omega) hb1
                    have hrun := run_append_grow_src (P := P) w t tx ty e' i' z ht hi hzz (some ⟨q.r, o', none⟩) n c' olds' hhold x' m news' hsrcR (by omega) g1 g2
                    have sd := step_drop r hq hg rfl
                    obtain ⟨st, vr⟩ := step_grow (need := n + m) (sCap := c') sd.rel hi hz (hor.append hnr) hlen
                    exact ⟨_, _, _, hrun, vr, sd.trans st⟩
          · cases ha
    · cases ha

theorem aappendZeros_sound (r : Rel P ρ h w) {t tx ty e : TypeId} {i : TypeInfo} {z s s' v : Value} {k : IntKind} {n : Int} {kd : IntKind} {h' : AH} (ha : aappendZeros h e i z s n = some (v, h')) (hi : P.info? e = some i) (hz : zeroOf P e = some z)
    (ht : P.underlying t = some (.slice e)) (hk : P.underlying tx = some (.int kd)) (hs : VRel ρ s s') :
    ∃ v' w' ρ', (Builtin.append_ #[t, tx] ty #[s', .int k n]).run P w = .ok v' w' ∧ VRel ρ' v v' ∧ Step P ρ h w ρ' h' w' := by
  obtain ⟨i', hi', hzz, hfl, hzs, _⟩ := zeroOf_inv hz
  have : i' = i := by rw [hi] at hi'; injection hi' with hi'; exact hi'.symm
  subst this
  unfold aappendZeros at ha
  split at ha
  · split at ha
    · rename_i hb
      cases hc0 : Nat.ble 1 i'.size with
      | false => rw [hc0] at ha; cases ha
      | true =>
      rw [hc0] at ha
      simp only [cond_true] at ha
      injection ha with ha; injection ha with e1 e2; subst e1; subst e2
      have hsz1 : 1 ≤ i'.size := Nat.ble_eq.mp hc0
      cases hs
      obtain ⟨m, rfl⟩ := Int.eq_ofNat_of_zero_le (show 0 ≤ n by omega)
      simp only [Int.toNat_natCast] at *
      have hbm : m * (i'.bytes + 1) ≤ 1099511627776 := by
        have := hb.2
        have e : ((m * (i'.bytes + 1) : Nat) : Int) = (m : Int) * ((i'.bytes : Int) + 1) := by simp
        omega
      obtain ⟨g1, g2, _⟩ := grow_fit (n := 0) (m := m) (sCap := 0) (bytes := i'.bytes) (by omega) (by simpa using hbm)
      simp only [Nat.zero_add] at g1 g2
      have hrep := repeat_flat (ρ := ρ) (VRel.flat hfl).cells m
      have hlen : (repeatCells z.cells.toList m).length = m * i'.size := by rw [repeat_length]; simp [hzs]
      obtain ⟨st, vr⟩ := step_grow (need := m) (sCap := 0) r hi hz hrep hlen
      refine ⟨_, _, _, ?_, vr, st⟩
      have hwrap : IntKind.i64.wrap (m : Int) = (m : Int) := by rw [IntKind.wrap_i64]; omega
      have h1 : ¬ ((m : Int) < 0) := by omega
      have h2 : ¬ (281474976710656 < (m : Int) * i'.bytes) := by
        have e : m * (i'.bytes + 1) = m * i'.bytes + m := Nat.mul_succ _ _
        have e2 : ((m * i'.bytes : Nat) : Int) = (m : Int) * i'.bytes := by simp
        omega
      have h3 : ¬ (m ≤ 0) := by omega
      have h4 : ¬ (9223372036854775807 < (m : Int)) := by omega
      have h5 : ¬ (281474976710656 < Builtin.nextslicecap m 0 * i'.bytes) := by omega
      have h6 : ¬ (m * i'.size = 0) := by
        intro e; rcases Nat.mul_eq_zero.1 e with e | e <;> omega
      have hzc : Builtin.zeroCells z.cells m = (repeatCells z.cells.toList m).toArray := by
        unfold Builtin.zeroCells
        exact made_eq z.cells m (by omega)
      simp [Builtin.append_, run_underlying ht, run_underlying hk, sizeOf, typeInfo, zeroValue, hi, hzz, asInt, asIntOf, hwrap, h1, h2, h3, h4, h5, h6, Question.forced, Builtin.firstCells, newRow, grownCap, hzc]
      omega
    · cases ha
  · cases ha

theorem aappend_sound (r : Rel P ρ h w) {ty : TypeId} {ts : Array TypeId} {s x s' x' v : Value} {h' : AH} (ha : aappend P h ts.toList s x = some (v, h')) (hs : VRel ρ s s') (hx : VRel ρ x x') :
    ∃ v' w' ρ', (Builtin.append_ ts ty #[s', x']).run P w = .ok v' w' ∧ VRel ρ' v v' ∧ Step P ρ h w ρ' h' w' := by
  unfold aappend at ha
  split at ha
  · rename_i t tx hts
    have hts' : ts = #[t, tx] := by rw [← Array.toList_inj]; simpa using hts
    subst hts'
    split at ha
    · rename_i e dx ht hdx
      split at ha
      · rename_i i z hi hz
        split at ha
        · exact aappendL_sound r ha hi hz ht (.inl ⟨_, hdx⟩) hs hx
        · exact aappendL_sound r ha hi hz ht (.inr hdx) hs hx
        · split at ha
          · rename_i n
            obtain rfl := hx.int_inv
            exact aappendZeros_sound r ha hi hz ht hdx hs
          · cases ha
        · cases ha
      · cases ha
    · cases ha
  · cases ha

theorem acopy_sound (r : Rel P ρ h w) {ty : TypeId} {ts : Array TypeId} {d x d' x' v : Value} {h' : AH} (ha : acopy P h ts.toList d x = some (v, h')) (hd : VRel ρ d d') (hx : VRel ρ x x') :
    ∃ v' w' ρ', (Builtin.copy_ ts ty #[d', x']).run P w = .ok v' w' ∧ VRel ρ' v v' ∧ Step P ρ h w ρ' h' w' := by
  unfold acopy at ha
  split at ha
  · rename_i t tr hts
    have ht0 : ts[0]? = some t := by rw [← Array.getElem?_toList, hts]; rfl
    split at ha
    · rename_i e hu
      split at ha
      · rename_i size b n c hs
        split at ha
        · rename_i m news hsrc
          dsimp only at ha
          cases ho1 : news.all one with
          | false => rw [ho1] at ha; cases ha
          | true =>
          rw [ho1] at ha
          simp only [Bool.not_true, cond_false] at ha
          obtain ⟨hnl, news', hnr, hsrcR, hfc⟩ := asrc_sound r hsrc hx ho1 (tx := t) (.inl ⟨_, hu⟩)
          have hmin : Nat.min m n ≤ m := Nat.min_le_left _ _
          have hfirst := hfc (Nat.min m n) hmin
          split at ha
          · cases hk : Nat.beq (Nat.min m n) 0 with
            | false => rw [hk] at ha; cases ha
            | true =>
              rw [hk] at ha
              simp only [cond_true] at ha
              injection ha with ha; injection ha with e1 e2; subst e1; subst e2
              have hk0 := of_beq hk
              cases hd
              refine ⟨.int .i64 0, w, ρ, ?_, .int _ _, Step.refl r⟩
              rw [hk0] at hfirst
              have hm0 : m.min 0 = 0 := Nat.min_zero _
              simp [Builtin.copy_, ht0, run_underlying hu, hsrcR.len, run_sizeOf hs, hfirst, goInt, hm0]
          · rename_i a
            cases hd with
            | slice a o n c o' c' q hq ho hn hcr =>
            cases hk : Nat.beq (Nat.min m n) 0 with
            | true =>
              rw [hk] at ha
              simp only [cond_true] at ha
              injection ha with ha; injection ha with e1 e2; subst e1; subst e2
              have hk0 := of_beq hk
              refine ⟨.int .i64 0, w, ρ, ?_, .int _ _, Step.refl r⟩
              rw [hk0] at hfirst
              simp [Builtin.copy_, ht0, run_underlying hu, hsrcR.len, run_sizeOf hs, hk0, hfirst, goInt, storeCells]
            | false =>
              rw [hk] at ha
              simp only [cond_false] at ha
              have hk0 := of_beqf hk
              split at ha
              · rename_i h1 hst
                injection ha with ha; injection ha with e1 e2; subst e1; subst e2
                obtain ⟨cc, e', k1, k2, k3, rfl⟩ := astore_inv hst
                have hn0 : 0 < n := by
                  rcases Nat.eq_zero_or_pos n with h0 | h0
                  · subst h0; exact absurd (Nat.min_zero _) hk0
                  · exact h0
                have ho' : o' = q.base + o := ho.resolve_right (by have := hcr.low; omega)
                obtain ⟨s1, s2, _⟩ := step_store r hq k1 (hnr.take _) k2 (one_all (hnr.take _) k3)
                rw [← ho'] at s1 s2
                refine ⟨.int .i64 (Nat.min m n), _, ρ, ?_, .int _ _, s2⟩
                simp [Builtin.copy_, ht0, run_underlying hu, hsrcR.len, run_sizeOf hs, hfirst, goInt, s1]
              · cases ha
        · cases ha
      · cases ha
    · cases ha
  · cases ha
end
end Go.Am

