/- The abstract machine: regions that draw their order, code, and calls. No conditions beyond those each theorem states. -/
import Derived.Test.YtpngimbillnjdaaAmD
import Derived.RangeFuncRecord
import Derived.RangeFuncNested
import Derived.RangeFuncLeaves
import Derived.LoopNIn
import Derived.Below
/- Regions that draw their order: the invariant, and its steps. -/
namespace Go.Am
open Go

theorem restr_get (t : Tmps) : ∀ (l : List Tmp) (d : Tmp) (v : Value), (restr t l).get d = some v → d ∈ l ∧ t.get d = some v := by
  intro l
  induction l with
  | nil => intro d v h; simp [restr, PT.get] at h
  | cons x l ih =>
    intro d v h
    simp only [restr] at h
    split at h
    · rename_i u hu
      rw [PT.get_set] at h
      split at h
      · rename_i e; subst e; injection h with h; subst h; exact ⟨by simp, hu⟩
      · obtain ⟨h1, h2⟩ := ih d v h; exact ⟨by simp [h1], h2⟩
    · obtain ⟨h1, h2⟩ := ih d v h; exact ⟨by simp [h1], h2⟩

section
variable {P : Program} {ρ0 ρ : Ren} {h hk : AH} {w0 w w1 : World}

/-- A block that is told again, under a number that was kept free. -/
theorem Step.setKnown (s : Step P ρ0 h w0 ρ hk w) {id : Nat} {ob : AObj} (h1 : h.next ≤ id) (h2 : id < hk.next) (h3 : hk.get id = none) (hro : isRo ob = false)
    (hq : ∀ q, ρ id = some q → RelObj P ρ w q ob ∧ ∀ a' q', ρ a' = some q' → q'.r = q.r → a' = id) : Step P ρ0 h w0 ρ (hk.set id ob) w := by
  have hget : ∀ b, (hk.set id ob).get b = if b = id then some ob else hk.get b := fun b => AH.get_set _ _ _ _
  exact {
    rel := by
      refine ⟨s.rel.dom, fun a q o hqa ho => ?_, fun a a' q q' o o' hqa hqa' ho hr ho' hrr => ?_, fun a ha => ?_⟩
      · rw [hget] at ho
        by_cases e : a = id
        · subst e; rw [if_pos rfl] at ho; injection ho with ho; subst ho; exact (hq q hqa).1
        · rw [if_neg e] at ho; exact s.rel.blk a q o hqa ho
      · by_cases e : a = id
        · subst e; exact ((hq q hqa).2 a' q' hqa' hrr.symm).symm
        · by_cases e' : a' = id
          · subst e'; exact (hq q' hqa').2 a q hqa hrr
          · rw [hget, if_neg e] at ho
            rw [hget, if_neg e'] at ho'
            exact s.rel.sep a a' q q' o o' hqa hqa' ho hr ho' hrr
      · rw [hget, if_neg (by intro e; subst e; simp [AH.set] at ha; omega)]; exact s.rel.out a ha
    mono := s.mono
    old := fun a ha hn => by rw [hget, if_neg (by omega)]; exact s.old a ha hn
    dead := fun a ha hd => by rw [hget, if_neg (by omega)]; exact s.dead a ha hd
    ro := fun a o ha hr => by
      have := s.ro a o ha hr
      rw [hget, if_neg (by intro e; subst e; rw [h3] at this; cases this)]; exact this
    new := s.new
    next := s.next
    keep := s.keep
    grow := s.grow
    os := s.os
    tape := s.tape
    output := s.output }

/-- A block that is made, in real memory, for a number that was kept free. -/
theorem Step.makeKnown (s : Step P ρ0 h w0 ρ hk w) {id : Nat} {c : List Value} {e : TypeId} {rc : Array Value} {fr : Nat × Nat} {esz : Nat} (h1 : h.next ≤ id) (h2 : id < hk.next) (hρ : ρ id = none)
    (h3 : hk.get id = none ∨ hk.get id = some (.cells c e false))
    (hw : w1.heap = w.heap.push (.cells rc e fr)) (hos : w1.os = w.os) (htape : w1.tape = w.tape) (hout : w1.output = w.output) (hs : sz P e = some esz) (hlen : c.length ≤ rc.size)
    (hc : ∀ (i : Nat) (v : Value), c[i]? = some v → ∃ v', rc[i]? = some v' ∧ VRel ρ v v') (hfr : unfrozen fr rc.size) :
    Step P ρ0 h w0 (upd ρ id ⟨w.heap.size, 0, esz, rc.size⟩) hk w1 ∧ RelObj P (upd ρ id ⟨w.heap.size, 0, esz, rc.size⟩) w1 ⟨w.heap.size, 0, esz, rc.size⟩ (.cells c e false) := by
  have hold : ∀ k, k < w.heap.size → w1.heap[k]? = w.heap[k]? := fun k hk => by rw [hw, Array.getElem?_push_lt hk]; simp [hk]
  have hnew : w1.heap[w.heap.size]? = some (.cells rc e fr) := by rw [hw]; simp
  have hm := upd_mono (ρ := ρ) (a := id) ⟨w.heap.size, 0, esz, rc.size⟩ hρ
  have hobj : RelObj P (upd ρ id ⟨w.heap.size, 0, esz, rc.size⟩) w1 ⟨w.heap.size, 0, esz, rc.size⟩ (.cells c e false) := by
    refine ⟨rc, fr, hnew, rfl, hs, by simpa using hlen, fun i v hv => ?_, fun _ => hfr⟩
    obtain ⟨v', e1, e2⟩ := hc i v hv
    exact ⟨v', by simpa using e1, e2.mono hm⟩
  refine ⟨?_, hobj⟩
  exact {
    rel := by
      refine ⟨fun a q hq => ?_, fun a q o hq ho => ?_, fun a a' q q' o o' hq hq' ho hr ho' hrr => ?_, s.rel.out⟩
      · by_cases ea : a = id
        · subst ea; rw [upd_same] at hq; injection hq with hq; subst hq; exact ⟨h2, by rw [hw]; simp⟩
        · rw [upd_ne _ _ ea] at hq; have := s.rel.dom a q hq; exact ⟨this.1, by rw [hw]; simp; omega⟩
      · by_cases ea : a = id
        · subst ea; rw [upd_same] at hq; injection hq with hq; subst hq
          rcases h3 with h3 | h3
          · rw [h3] at ho; cases ho
          · rw [h3] at ho; injection ho with ho; subst ho; exact hobj
        · rw [upd_ne _ _ ea] at hq
          exact (s.rel.blk a q o hq ho).mono hm (hold _ (s.rel.dom a q hq).2)
      · by_cases ea : a = id
        · by_cases ea' : a' = id
          · rw [ea, ea']
          · subst ea
            rw [upd_same] at hq; injection hq with hq; subst hq
            rw [upd_ne _ _ ea'] at hq'
            have := (s.rel.dom a' q' hq').2
            simp only at hrr; omega
        · by_cases ea' : a' = id
          · subst ea'
            rw [upd_same] at hq'; injection hq' with hq'; subst hq'
            rw [upd_ne _ _ ea] at hq
            have := (s.rel.dom a q hq).2
            simp only at hrr; omega
          · rw [upd_ne _ _ ea] at hq
            rw [upd_ne _ _ ea'] at hq'
            exact s.rel.sep a a' q q' o o' hq hq' ho hr ho' hrr
    mono := fun a q hq => hm a q (s.mono a q hq)
    old := fun a ha hn => by
      obtain ⟨e1, e2⟩ := s.old a ha hn
      exact ⟨by rw [upd_ne _ _ (by omega)]; exact e1, e2⟩
    dead := s.dead
    ro := s.ro
    new := fun a q ha hq => by
      by_cases ea : a = id
      · subst ea; rw [upd_same] at hq; injection hq with hq; subst hq; exact .inl s.grow
      · rw [upd_ne _ _ ea] at hq; exact s.new a q ha hq
    next := s.next
    keep := fun i hi hn => (hold i (Nat.lt_of_lt_of_le hi s.grow)).trans (s.keep i hi hn)
    grow := by rw [hw]; simp; have := s.grow; omega
    os := hos.trans s.os
    tape := htape.trans s.tape
    output := hout.trans s.output }
end

/-- All that is known of a region and its run in the text's order. -/
structure Ctx (P : Program) (C : CallFn) (ops : Array Oper) (base : Nat) (T : Nat → Tmps) (H : Nat → AH) (V : Nat → Value) (W : Nat → Bool) : Prop where
  run : Run P C ops base T H V W
  onw : COnw C
  sim : Sim P C
  cls4 : ∀ (k : Nat) (o : Oper), ops[k]? = some o → cls P o.op < 4
  edge : ∀ (j : Nat) (o : Oper), ops.toList[j]? = some o → ∀ e ∈ o.after.toList, Region.binds .any e = true → e.on < j
  slot : ∀ (j i : Nat) (o x : Oper), ops[j]? = some o → ops[i]? = some x → i ≠ j → ∀ d, x.dst = some d → d ∈ slotsOf ops o → isBefore (befs ops.toList []) i j = true ∨ isBefore (befs ops.toList []) j i = true
  same : ∀ (j i : Nat) (o x : Oper), ops[j]? = some o → ops[i]? = some x → i < j → ∀ d, x.dst = some d → o.dst = some d → isBefore (befs ops.toList []) i j = true
  effs : ∀ (j i : Nat), kl P ops W j = 3 → kl P ops W i = 3 → i < j → isBefore (befs ops.toList []) i j = true
  reads : ∀ (i k : Nat) (o : Oper), ops[i]? = some o → kl P ops W i = 1 → kl P ops W k = 3 → isBefore (befs ops.toList []) k i = true ∨ isBefore (befs ops.toList []) i k = true ∨
    aread P (if k < i then H k else H (k + 1)) (aev (restr (T i) (slotsOf ops o))) o.op = some (V i)
  free : ∀ (j k : Nat), j ≤ k → k < ops.size → (H j).get (base + k) = none
  nxt : ∀ j, j ≤ ops.size → base + ops.size ≤ (H j).next
  objs : ∀ k, kl P ops W k = 2 → ∃ c e, (H (k + 1)).get (base + k) = some (.cells c e false)

section
variable {P : Program} {C : CallFn} {ops : Array Oper} {base : Nat} {T : Nat → Tmps} {H : Nat → AH} {V : Nat → Value} {W : Nat → Bool}

def dstOf (ops : Array Oper) (k : Nat) : Option Tmp := (ops[k]?).bind (·.dst)
def inD (listed : Array Bool) (k : Nat) : Bool := listed.getD k false

/-- The state when some operations are done. -/
structure Inv (P : Program) (ops : Array Oper) (base : Nat) (T : Nat → Tmps) (H : Nat → AH) (V : Nat → Value) (W : Nat → Bool) (ρ0 : Ren) (h : AH) (w0 : World) (n : Nat) (D0 : List Deferred) (listed : Array Bool) (a : Act) (w : World) (ρ : Ren) (c : Nat) : Prop where
  lsize : listed.size = ops.size
  tsize : a.tmps.size = n
  defers : a.defers = D0
  closed : ∀ (j : Nat) (o : Oper), ops.toList[j]? = some o → inD listed j = true → ∀ e ∈ o.after.toList, Region.binds .any e = true → inD listed e.on = true
  cle : c ≤ ops.size
  before : ∀ k, k < c → kl P ops W k = 3 → inD listed k = true
  after : ∀ k, c ≤ k → kl P ops W k = 3 → inD listed k = false
  step : Step P ρ0 h w0 ρ (H c) w
  ahead : ∀ k, c ≤ k → k < ops.size → kl P ops W k = 2 → inD listed k = true → ∃ q ob, ρ (base + k) = some q ∧ (H (k + 1)).get (base + k) = some ob ∧ isRo ob = false ∧ RelObj P ρ w q ob ∧ ∀ a' q', ρ a' = some q' → q'.r = q.r → a' = base + k
  ghost : ∀ k, k < ops.size → (kl P ops W k ≠ 2 ∨ inD listed k = false) → ρ (base + k) = none
  kept : ∀ k, k < c → kl P ops W k = 2 → inD listed k = false → (H c).get (base + k) = (H (k + 1)).get (base + k)
  tmps : ∀ d v, sv (inD listed) (dstOf ops) V ((T 0).get d) d ops.size = some v → d < a.tmps.size ∧ VRel ρ v (a.tmps.getD d undef)

theorem T_sv (hR : Run P C ops base T H V W) (d : Tmp) : ∀ k, k ≤ ops.size → (T k).get d = sv (fun _ => true) (dstOf ops) V ((T 0).get d) d k := by
  intro k
  induction k with
  | zero => intro _; rfl
  | succ k ih =>
    intro hk
    have ho : ops[k]? = some ops[k] := by simp [show k < ops.size by omega]
    rw [hR.tmp k _ ho]
    simp only [sv, true_and]
    unfold aput
    cases hd : ops[k].dst with
    | none =>
      rw [if_neg (by simp [dstOf, ho, hd])]
      exact ih (by omega)
    | some d' =>
      simp only
      rw [PT.get_set]
      by_cases e : d = d'
      · rw [if_pos e, if_pos (by simp [dstOf, ho, hd, e])]
      · rw [if_neg e, if_neg (by simp [dstOf, ho, hd]; exact fun h => e h.symm)]
        exact ih (by omega)

theorem setIf_inD {listed : Array Bool} {i j : Nat} (hi : i < listed.size) : inD (listed.setIfInBounds i true) j = (if j = i then true else inD listed j) := by
  unfold inD
  by_cases e : j = i
  · subst e; simp [hi]
  · rw [if_neg e]
    simp [Array.getElem?_setIfInBounds_ne (Ne.symm e)]

/-- Of an operation that may be done next the operands are those of the text's run. -/
theorem ready_slots (X : Ctx P C ops base T H V W) {listed : Array Bool} (hcl : ∀ (j : Nat) (o : Oper), ops.toList[j]? = some o → inD listed j = true → ∀ e ∈ o.after.toList, Region.binds .any e = true → inD listed e.on = true)
    {i : Nat} {o : Oper} (ho : ops[i]? = some o) (hni : inD listed i = false) (hed : ∀ e ∈ o.after.toList, Region.binds .any e = true → inD listed e.on = true) {d : Tmp} (hd : d ∈ slotsOf ops o) :
    sv (inD listed) (dstOf ops) V ((T 0).get d) d ops.size = (T i).get d := by
  have hi : i < ops.size := (Array.getElem?_eq_some_iff.1 ho).1
  have hol : ops.toList[i]? = some o := by simpa using ho
  have hb : ∀ k, isBefore (befs ops.toList []) k i = true → inD listed k = true := fun k hk => closed_before (D := fun k => inD listed k = true) X.edge (fun j o hj hd e he hb => hcl j o hj hd e he hb) i k o hol hed hk
  have key : ∀ j, j < ops.size → dstOf ops j = some d → j ≠ i → inD listed j = decide (j < i) := by
    intro j hj hjd hne
    have hoj : ops[j]? = some ops[j] := by simp [hj]
    have hjdst : ops[j].dst = some d := by simpa [dstOf, hoj] using hjd
    rcases X.slot i j o _ ho hoj hne d hjdst hd with hbe | hbe
    · have hlt := isBefore_lt X.edge _ _ hbe
      rw [hb j hbe]; simp [hlt]
    · have hlt := isBefore_lt X.edge _ _ hbe
      have hnj : inD listed j = false := by
        cases hj' : inD listed j with
        | false => rfl
        | true =>
          have := closed_before (D := fun k => inD listed k = true) X.edge (fun j o hj hd e he hb => hcl j o hj hd e he hb) j i ops[j] (by simp [hj]) (fun e he hbb => hcl j ops[j] (by simp [hj]) hj' e he hbb) hbe
          rw [hni] at this; cases this
      rw [hnj]; simp; omega
  rw [T_sv X.run d i (by omega)]
  rw [sv_cut (i := i) ops.size (by omega) (fun j h1 h2 h3 => by
    by_cases e : j = i
    · rw [e]; exact hni
    · rw [key j h2 h3 e]; simp; omega)]
  exact sv_congr i (fun j hj hdj => by rw [key j (by omega) hdj (by omega)]; simp [hj])

/-- Behind an operation the slots are as they must be. -/
theorem put_slots (X : Ctx P C ops base T H V W) {listed : Array Bool} (hls : listed.size = ops.size) (hcl : ∀ (j : Nat) (o : Oper), ops.toList[j]? = some o → inD listed j = true → ∀ e ∈ o.after.toList, Region.binds .any e = true → inD listed e.on = true)
    {i : Nat} {o : Oper} (ho : ops[i]? = some o) (hni : inD listed i = false) {ρ : Ren} {a : Act} {rv : Value}
    (ht : ∀ d v, sv (inD listed) (dstOf ops) V ((T 0).get d) d ops.size = some v → d < a.tmps.size ∧ VRel ρ v (a.tmps.getD d undef)) (hdst : ∀ d, o.dst = some d → d < a.tmps.size) (hv : VRel ρ (V i) rv) :
    ∀ d v, sv (inD (listed.setIfInBounds i true)) (dstOf ops) V ((T 0).get d) d ops.size = some v → d < (a.put o.dst rv).tmps.size ∧ VRel ρ v ((a.put o.dst rv).tmps.getD d undef) := by
  have hi : i < ops.size := (Array.getElem?_eq_some_iff.1 ho).1
  intro d v hs
  have hD : ∀ j, inD (listed.setIfInBounds i true) j = if j = i then true else inD listed j := fun j => setIf_inD (by rw [hls]; exact hi)
  by_cases hd : o.dst = some d
  · -- this slot is written
    have hdi : dstOf ops i = some d := by simp [dstOf, ho, hd]
    have hlater : ∀ j, i + 1 ≤ j → j < ops.size → dstOf ops j = some d → inD (listed.setIfInBounds i true) j = false := by
      intro j h1 h2 h3
      rw [hD, if_neg (by omega)]
      have hoj : ops[j]? = some ops[j] := by simp [h2]
      have hjdst : ops[j].dst = some d := by simpa [dstOf, hoj] using h3
      have hbe := X.same j i _ o hoj ho (by omega) d hd hjdst
      cases hj' : inD listed j with
      | false => rfl
      | true =>
        have := closed_before (D := fun k => inD listed k = true) X.edge (fun j o hj hd e he hb => hcl j o hj hd e he hb) j i ops[j] (by simp [h2]) (fun e he hbb => hcl j ops[j] (by simp [h2]) hj' e he hbb) hbe
        rw [hni] at this; cases this
    rw [sv_cut (i := i + 1) ops.size (by omega) hlater] at hs
    simp only [sv] at hs
    rw [if_pos ⟨by rw [hD]; simp, hdi⟩] at hs
    injection hs with hs; subst hs
    have hlt := hdst d hd
    rw [hd]
    simp only [Act.put, Array.size_setIfInBounds]
    exact ⟨hlt, by simpa [hlt] using hv⟩
  · have hdi : dstOf ops i ≠ some d := by simpa [dstOf, ho] using hd
    rw [sv_congr (D' := inD listed) ops.size (fun j hj hdj => by rw [hD, if_neg (by intro e; subst e; exact hdi hdj)])] at hs
    have := ht d v hs
    rw [put_size]
    refine ⟨this.1, ?_⟩
    cases hdo : o.dst with
    | none => exact this.2
    | some d' =>
      have hne : d' ≠ d := fun e => hd (by rw [hdo, e])
      have e : (a.put (some d') rv).tmps.getD d undef = a.tmps.getD d undef := by simp [Act.put, Array.getElem?_setIfInBounds_ne hne]
      rw [e]; exact this.2
end
end Go.Am

/- Regions that draw their order: each operation keeps the invariant. -/
namespace Go.Am
open Go

section
variable {P : Program} {C : CallFn} {ops : Array Oper} {base : Nat} {T : Nat → Tmps} {H : Nat → AH} {V : Nat → Value} {W : Nat → Bool} {ρ0 : Ren} {h : AH} {D0 : List Deferred} {w0 : World} {n : Nat} {listed : Array Bool} {a : Act} {w : World} {ρ : Ren} {c : Nat}

theorem kl_of {k : Nat} {o : Oper} (ho : ops[k]? = some o) (hw : W k = true) : kl P ops W k = cls P o.op := by unfold kl; rw [ho, hw]; rfl

theorem Inv.advance1 (X : Ctx P C ops base T H V W) (hb : base = h.next) (I : Inv P ops base T H V W ρ0 h w0 n D0 listed a w ρ c) (hc : c < ops.size) (hk : kl P ops W c ≠ 3) : Inv P ops base T H V W ρ0 h w0 n D0 listed a w ρ (c + 1) := by
  have ho : ops[c]? = some ops[c] := by simp [hc]
  have h4 := X.cls4 c _ ho
  have hst : Step P ρ0 h w0 ρ (H (c + 1)) w ∧ ∀ k, k < c → (H (c + 1)).get (base + k) = (H c).get (base + k) := by
    cases hw : W c with
    | false => obtain ⟨_, e⟩ := X.run.no c _ ho hw; rw [e]; exact ⟨I.step, fun _ _ => rfl⟩
    | true =>
      have hy := X.run.yes c _ ho hw
      have hk' : cls P ops[c].op ≠ 3 := by rw [← kl_of (P := P) ho hw]; exact hk
      have : cls P ops[c].op = 0 ∨ cls P ops[c].op = 1 ∨ cls P ops[c].op = 2 := by omega
      rcases this with hc0 | hc0 | hc0
      · rw [(oper_pure hc0 hy).2]; exact ⟨I.step, fun _ _ => rfl⟩
      · rw [(oper_read hc0 hy).2]; exact ⟨I.step, fun _ _ => rfl⟩
      · have hkl : kl P ops W c = 2 := by rw [kl_of (P := P) ho hw]; exact hc0
        obtain ⟨ob, f, hal, _, e⟩ := oper_alloc hc0 hy
        obtain ⟨cc, ee, hobj⟩ := X.objs c hkl
        have hob : ob = .cells cc ee false := by
          rw [e, AH.get_set, if_pos rfl] at hobj; injection hobj
        rw [e]
        refine ⟨I.step.setKnown (by omega) (by have := X.nxt c (by omega); omega) (X.free c c (Nat.le_refl _) hc) (by rw [hob]; rfl) (fun q hq => ?_), fun k hk => by rw [AH.get_set, if_neg (by omega)]⟩
        have hin : inD listed c = true := by
          cases hd : inD listed c with
          | true => rfl
          | false => rw [I.ghost c hc (.inr hd)] at hq; cases hq
        obtain ⟨q', ob', h1, h2, h3, h4, h5⟩ := I.ahead c (Nat.le_refl _) hc hkl hin
        rw [hq] at h1; injection h1 with h1; subst h1
        rw [hobj] at h2; injection h2 with h2; subst h2
        rw [hob]
        exact ⟨h4, h5⟩
  exact {
    lsize := I.lsize
    tsize := I.tsize
    defers := I.defers
    closed := I.closed
    cle := hc
    before := fun k hk3 h3 => by
      by_cases e : k = c
      · subst e; exact absurd h3 hk
      · exact I.before k (by omega) h3
    after := fun k hk3 h3 => I.after k (by omega) h3
    step := hst.1
    ahead := fun k hk1 hk2 => I.ahead k (by omega) hk2
    ghost := I.ghost
    kept := fun k hk1 h2 hd => by
      by_cases e : k = c
      · subst e; rfl
      · rw [hst.2 k (by omega)]; exact I.kept k (by omega) h2 hd
    tmps := I.tmps }

theorem Inv.advance (X : Ctx P C ops base T H V W) (hb : base = h.next) : ∀ (m c : Nat), Inv P ops base T H V W ρ0 h w0 n D0 listed a w ρ c → c + m = ops.size → ∃ c', Inv P ops base T H V W ρ0 h w0 n D0 listed a w ρ c' ∧ (c' = ops.size ∨ kl P ops W c' = 3) := by
  intro m
  induction m with
  | zero => intro c I h; exact ⟨c, I, .inl (by omega)⟩
  | succ m ih =>
    intro c I h
    by_cases hk : kl P ops W c = 3
    · exact ⟨c, I, .inr hk⟩
    · exact ih (c + 1) (I.advance1 X hb (by omega) hk) (by omega)

/-- What is ready. -/
theorem ready_inv {i : Nat} (hr : i ∈ Region.ready .any ops listed) : ∃ o, ops[i]? = some o ∧ i < ops.size ∧ listed.getD i true = false ∧ ∀ e ∈ o.after.toList, Region.binds .any e = true → inD listed e.on = true := by
  unfold Region.ready at hr
  rw [List.mem_filter] at hr
  obtain ⟨h1, h2⟩ := hr
  have hi : i < ops.size := by simpa using h1
  have ho : ops[i]? = some ops[i] := by simp [hi]
  rw [ho] at h2
  simp only [Bool.and_eq_true, Bool.not_eq_true', Option.map_some, Option.getD_some] at h2
  refine ⟨ops[i], ho, hi, h2.1, fun e he hb => ?_⟩
  have := Array.all_eq_true'.1 h2.2 e (by simpa using he)
  simpa [hb, inD] using this

theorem Inv.listed_mono (I : Inv P ops base T H V W ρ0 h w0 n D0 listed a w ρ c) {i : Nat} (hi : i < ops.size) : ∀ k, inD listed k = true → inD (listed.setIfInBounds i true) k = true := by
  intro k hk
  rw [setIf_inD (by rw [I.lsize]; exact hi)]
  split
  · rfl
  · exact hk

section
variable (X : Ctx P C ops base T H V W) (I : Inv P ops base T H V W ρ0 h w0 n D0 listed a w ρ c) {i : Nat} {o : Oper} (ho : ops[i]? = some o) (hni : inD listed i = false) (hed : ∀ e ∈ o.after.toList, Region.binds .any e = true → inD listed e.on = true) (hdst : ∀ d, o.dst = some d → d < n)
 include X I ho hni hed hdst

theorem Inv.same_ {rv : Value} (h2 : kl P ops W i ≠ 2) (h3 : kl P ops W i ≠ 3) (hv : VRel ρ (V i) rv) : Inv P ops base T H V W ρ0 h w0 n D0 (listed.setIfInBounds i true) (a.put o.dst rv) w ρ c := by
  have hi : i < ops.size := (Array.getElem?_eq_some_iff.1 ho).1
  have hD : ∀ j, inD (listed.setIfInBounds i true) j = if j = i then true else inD listed j := fun j => setIf_inD (by rw [I.lsize]; exact hi)
  have hm := I.listed_mono hi
  exact {
    lsize := by simp [I.lsize]
    tsize := by rw [put_size]; exact I.tsize
    defers := by rw [put_defers]; exact I.defers
    closed := fun j o' hj hd e he hb => by
      rw [hD] at hd
      by_cases ej : j = i
      · subst ej
        have : o' = o := by have : ops[j]? = some o' := by simpa using hj
                            rw [ho] at this; injection this with this; exact this.symm
        subst this
        exact hm _ (hed e he hb)
      · rw [if_neg ej] at hd; exact hm _ (I.closed j o' hj hd e he hb)
    cle := I.cle
    before := fun k hk h => hm k (I.before k hk h)
    after := fun k hk h => by rw [hD, if_neg (by intro e; subst e; exact h3 h)]; exact I.after k hk h
    step := I.step
    ahead := fun k h1 h2' h3' hd => by
      rw [hD, if_neg (by intro e; subst e; exact h2 h3')] at hd
      exact I.ahead k h1 h2' h3' hd
    ghost := fun k hk hh => I.ghost k hk (by
      rcases hh with hh | hh
      · exact .inl hh
      · rw [hD] at hh
        split at hh
        · cases hh
        · exact .inr hh)
    kept := fun k hk h2' hd => I.kept k hk h2' (by
      rw [hD] at hd
      split at hd
      · cases hd
      · exact hd)
    tmps := put_slots X I.lsize I.closed ho hni I.tmps (by rw [I.tsize]; exact hdst) hv }

theorem Inv.alloc_ {w1 : World} {rv : Value} {cc : List Value} {e : TypeId} {rc : Array Value} {fr : Nat × Nat} {esz : Nat} (hb : base = h.next) (hc3 : c = ops.size ∨ kl P ops W c = 3) (h2 : kl P ops W i = 2) (hobj : (H (i + 1)).get (base + i) = some (.cells cc e false))
    (hw : w1.heap = w.heap.push (.cells rc e fr)) (hos : w1.os = w.os) (htape : w1.tape = w.tape) (hout : w1.output = w.output) (hs : sz P e = some esz) (hlen : cc.length ≤ rc.size)
    (hcc : ∀ (j : Nat) (v : Value), cc[j]? = some v → ∃ v', rc[j]? = some v' ∧ VRel ρ v v') (hfr : unfrozen fr rc.size) (hv : VRel (upd ρ (base + i) ⟨w.heap.size, 0, esz, rc.size⟩) (V i) rv) :
    Inv P ops base T H V W ρ0 h w0 n D0 (listed.setIfInBounds i true) (a.put o.dst rv) w1 (upd ρ (base + i) ⟨w.heap.size, 0, esz, rc.size⟩) c := by
  have hi : i < ops.size := (Array.getElem?_eq_some_iff.1 ho).1
  have hD : ∀ j, inD (listed.setIfInBounds i true) j = if j = i then true else inD listed j := fun j => setIf_inD (by rw [I.lsize]; exact hi)
  have hm := I.listed_mono hi
  have hρ : ρ (base + i) = none := I.ghost i hi (.inr hni)
  have hrm := upd_mono (ρ := ρ) (a := base + i) ⟨w.heap.size, 0, esz, rc.size⟩ hρ
  have hold : ∀ k, k < w.heap.size → w1.heap[k]? = w.heap[k]? := fun k hk => by rw [hw, Array.getElem?_push_lt hk]; simp [hk]
  have hnext : base + i < (H c).next := by have := X.nxt c I.cle; omega
  have h3 : (H c).get (base + i) = none ∨ (H c).get (base + i) = some (.cells cc e false) := by
    by_cases hic : i < c
    · right; rw [I.kept i hic h2 hni]; exact hobj
    · left; exact X.free c i (by omega) hi
  obtain ⟨st, hro⟩ := I.step.makeKnown (by omega) hnext hρ h3 hw hos htape hout hs hlen hcc hfr
  exact {
    lsize := by simp [I.lsize]
    tsize := by rw [put_size]; exact I.tsize
    defers := by rw [put_defers]; exact I.defers
    closed := fun j o' hj hd e he hb => by
      rw [hD] at hd
      by_cases ej : j = i
      · subst ej
        have : o' = o := by have : ops[j]? = some o' := by simpa using hj
                            rw [ho] at this; injection this with this; exact this.symm
        subst this
        exact hm _ (hed e he hb)
      · rw [if_neg ej] at hd; exact hm _ (I.closed j o' hj hd e he hb)
    cle := I.cle
    before := fun k hk h => hm k (I.before k hk h)
    after := fun k hk h => by rw [hD, if_neg (by intro e; subst e; rw [h2] at h; cases h)]; exact I.after k hk h
    step := st
    ahead := fun k h1 h2' h3' hd => by
      by_cases ek : k = i
      · subst ek
        refine ⟨_, _, upd_same _ _ _, hobj, rfl, hro, fun a' q' ha' hr => ?_⟩
        by_cases ea : a' = base + k
        · exact ea
        · rw [upd_ne _ _ ea] at ha'
          have := (I.step.rel.dom a' q' ha').2
          simp only at hr; omega
      · rw [hD, if_neg ek] at hd
        obtain ⟨q, ob, k1, k2, k3, k4, k5⟩ := I.ahead k h1 h2' h3' hd
        refine ⟨q, ob, by rw [upd_ne _ _ (by omega)]; exact k1, k2, k3, k4.mono hrm (hold _ (I.step.rel.dom _ q k1).2), fun a' q' ha' hr => ?_⟩
        by_cases ea : a' = base + i
        · subst ea
          rw [upd_same] at ha'; injection ha' with ha'; subst ha'
          have := (I.step.rel.dom _ q k1).2
          simp only at hr; omega
        · rw [upd_ne _ _ ea] at ha'
          exact k5 a' q' ha' hr
    ghost := fun k hk hh => by
      by_cases ek : k = i
      · subst ek
        rcases hh with hh | hh
        · exact absurd h2 hh
        · rw [hD] at hh; simp at hh
      · rw [upd_ne _ _ (by omega)]
        refine I.ghost k hk ?_
        rcases hh with hh | hh
        · exact .inl hh
        · rw [hD, if_neg ek] at hh; exact .inr hh
    kept := fun k hk h2' hd => I.kept k hk h2' (by
      rw [hD] at hd
      split at hd
      · cases hd
      · exact hd)
    tmps := put_slots X I.lsize I.closed ho hni (fun d v hs => ⟨(I.tmps d v hs).1, (I.tmps d v hs).2.mono hrm⟩) (by rw [I.tsize]; exact hdst) hv }

theorem Inv.eff_ {w1 : World} {rv : Value} {ρ1 : Ren} (hic : i = c) (h3 : kl P ops W i = 3) (st : Step P ρ (H c) w ρ1 (H (c + 1)) w1) (hv : VRel ρ1 (V i) rv) :
    Inv P ops base T H V W ρ0 h w0 n D0 (listed.setIfInBounds i true) (a.put o.dst rv) w1 ρ1 (c + 1) := by
  have hi : i < ops.size := (Array.getElem?_eq_some_iff.1 ho).1
  have hD : ∀ j, inD (listed.setIfInBounds i true) j = if j = i then true else inD listed j := fun j => setIf_inD (by rw [I.lsize]; exact hi)
  have hm := I.listed_mono hi
  have hnx : ∀ k, k < ops.size → base + k < (H c).next := fun k hk => by have := X.nxt c I.cle; omega
  exact {
    lsize := by simp [I.lsize]
    tsize := by rw [put_size]; exact I.tsize
    defers := by rw [put_defers]; exact I.defers
    closed := fun j o' hj hd e he hb => by
      rw [hD] at hd
      by_cases ej : j = i
      · subst ej
        have : o' = o := by have : ops[j]? = some o' := by simpa using hj
                            rw [ho] at this; injection this with this; exact this.symm
        subst this
        exact hm _ (hed e he hb)
      · rw [if_neg ej] at hd; exact hm _ (I.closed j o' hj hd e he hb)
    cle := by omega
    before := fun k hk h => by
      by_cases ek : k = i
      · rw [hD, if_pos ek]
      · exact hm k (I.before k (by omega) h)
    after := fun k hk h => by rw [hD, if_neg (by omega)]; exact I.after k (by omega) h
    step := I.step.trans st
    ahead := fun k h1 h2' h3' hd => by
      rw [hD, if_neg (by omega)] at hd
      obtain ⟨q, ob, k1, k2, k3, k4, k5⟩ := I.ahead k (by omega) h2' h3' hd
      have hlt := (I.step.rel.dom _ q k1).2
      have hnone : (H c).get (base + k) = none := X.free c k (by omega) h2'
      have hnh : ¬ Held ρ (H c) q.r := by
        rintro ⟨a', q', o', e1, e2, e3, e4⟩
        have := k5 a' q' e1 e2
        subst this
        rw [hnone] at e3; cases e3
      refine ⟨q, ob, st.mono _ _ k1, k2, k3, k4.mono st.mono (st.keep _ hlt hnh), fun a' q' ha' hr => ?_⟩
      by_cases hlt' : a' < (H c).next
      · cases hq : ρ a' with
        | none => rw [(st.old a' hlt' hq).1] at ha'; cases ha'
        | some q0 =>
          have := st.mono a' q0 hq
          rw [ha'] at this; injection this with this; subst this
          exact k5 a' q' hq hr
      · rcases st.new a' q' (by omega) ha' with h' | h'
        · omega
        · rw [hr] at h'; exact absurd h' hnh
    ghost := fun k hk hh => by
      have : ρ (base + k) = none := by
        refine I.ghost k hk ?_
        rcases hh with hh | hh
        · exact .inl hh
        · rw [hD] at hh
          split at hh
          · cases hh
          · exact .inr hh
      exact (st.old _ (hnx k hk) this).1
    kept := fun k hk h2' hd => by
      have hki : k ≠ i := by intro e; subst e; rw [h3] at h2'; cases h2'
      rw [hD, if_neg hki] at hd
      have hg := I.ghost k (by have := I.cle; omega) (.inr hd)
      rw [(st.old _ (hnx k (by have := I.cle; omega)) hg).2]
      exact I.kept k (by omega) h2' hd
    tmps := put_slots X I.lsize I.closed ho hni (fun d v hs => ⟨(I.tmps d v hs).1, (I.tmps d v hs).2.mono st.mono⟩) (by rw [I.tsize]; exact hdst) hv }
end
end
end Go.Am

/- Regions that draw their order: the induction over what is done. -/
namespace Go.Am
open Go

section
variable {P : Program} {C : CallFn} {ops : Array Oper} {base : Nat} {T : Nat → Tmps} {H : Nat → AH} {V : Nat → Value} {W : Nat → Bool} {ρ0 : Ren} {h : AH} {D0 : List Deferred} {w0 : World} {n : Nat}

/-- What the region leaves. -/
def Fin (P : Program) (T : Nat → Tmps) (H : Nat → AH) (m : Nat) (ρ0 : Ren) (h : AH) (w0 : World) (n : Nat) (D0 : List Deferred) (a : Act) (w : World) : Prop :=
  ∃ ρ, TRel ρ (T m) a.tmps ∧ a.tmps.size = n ∧ a.defers = D0 ∧ Step P ρ0 h w0 ρ (H m) w

theorem inv_fin (X : Ctx P C ops base T H V W) {listed : Array Bool} {a : Act} {w : World} {ρ : Ren} {c : Nat} (I : Inv P ops base T H V W ρ0 h w0 n D0 listed a w ρ c) (hc : c = ops.size ∨ kl P ops W c = 3)
    (hall : ∀ k, k < ops.size → inD listed k = true) : Fin P T H ops.size ρ0 h w0 n D0 a w := by
  have hcs : c = ops.size := by
    rcases hc with hc | hc
    · exact hc
    · obtain ⟨o, ho, _⟩ := kl_some hc (by decide)
      have hlt : c < ops.size := (Array.getElem?_eq_some_iff.1 ho).1
      have := I.after c (Nat.le_refl _) hc
      rw [hall c hlt] at this; cases this
  subst hcs
  refine ⟨ρ, fun d v hv => ?_, I.tsize, I.defers, I.step⟩
  rw [T_sv X.run d ops.size (Nat.le_refl _)] at hv
  exact I.tmps d v (by rw [sv_congr (D' := fun _ => true) ops.size (fun j hj _ => hall j hj)]; exact hv)

theorem mem_ready {listed : Array Bool} {i : Nat} {o : Oper} (ho : ops[i]? = some o) (h1 : listed.getD i true = false) (h2 : ∀ e ∈ o.after.toList, Region.binds .any e = true → inD listed e.on = true) : i ∈ Region.ready .any ops listed := by
  unfold Region.ready
  rw [List.mem_filter]
  have hi : i < ops.size := (Array.getElem?_eq_some_iff.1 ho).1
  refine ⟨by simpa using hi, ?_⟩
  rw [ho]
  simp only [Bool.and_eq_true, Bool.not_eq_true', Option.map_some, Option.getD_some]
  refine ⟨h1, Array.all_eq_true'.2 fun e he => ?_⟩
  cases hb : Region.binds .any e with
  | false => rfl
  | true => have := h2 e (by simpa using he) hb; simpa [inD] using this

theorem ready_nil_all (X : Ctx P C ops base T H V W) {listed : Array Bool} (hls : listed.size = ops.size) (hr : Region.ready .any ops listed = []) : ∀ k, k < ops.size → inD listed k = true := by
  intro k
  induction k using Nat.strongRecOn with
  | _ k ih =>
    intro hk
    cases hd : inD listed k with
    | true => rfl
    | false =>
      have ho : ops[k]? = some ops[k] := by simp [hk]
      have h1 : listed.getD k true = false := by
        unfold inD at hd
        simp [hls, hk] at hd ⊢; exact hd
      have := mem_ready ho h1 (fun e he hb => ih e.on (X.edge k _ (by simp [hk]) e he hb) (Nat.lt_trans (X.edge k _ (by simp [hk]) e he hb) hk))
      rw [hr] at this; cases this

theorem count_set {listed : Array Bool} {i m : Nat} (hls : listed.size = m) (hi : i < m) (hni : inD listed i = false) :
    (List.range m).countP (fun k => inD (listed.setIfInBounds i true) k) = (List.range m).countP (fun k => inD listed k) + 1 := by
  have key : ∀ (l : List Nat), l.Nodup → (l.countP fun k => inD (listed.setIfInBounds i true) k) = l.countP (fun k => inD listed k) + if i ∈ l then 1 else 0 := by
    intro l
    induction l with
    | nil => intro _; simp
    | cons x l ih =>
      intro hn
      rw [List.nodup_cons] at hn
      rw [List.countP_cons, List.countP_cons, ih hn.2]
      by_cases e : x = i
      · subst e
        rw [if_neg hn.1]
        have h1 : inD (listed.setIfInBounds x true) x = true := by rw [setIf_inD (by omega)]; simp
        rw [h1, hni]; simp
      · have h1 : inD (listed.setIfInBounds i true) x = inD listed x := by rw [setIf_inD (by omega), if_neg e]
        rw [h1]
        have h2 : (i ∈ x :: l) ↔ i ∈ l := by simp [Ne.symm e]
        by_cases hm : i ∈ l
        · rw [if_pos hm, if_pos (h2.2 hm)]; omega
        · rw [if_neg hm, if_neg (fun h => hm (h2.1 h))]; rfl
  rw [key _ List.nodup_range, if_pos (by simpa using hi)]

theorem draw_any {rd : Option Nat} (X : Ctx P C ops base T H V W) (hb : base = h.next) (hdst : dstOk n ops.toList) {Q : Exit → Act → World → Prop} (hQ : ∀ a w, Fin P T H ops.size ρ0 h w0 n D0 a w → Q .normal a w) :
    ∀ (fuel : Nat) (listed : Array Bool) (a : Act) (w : World) (ρ : Ren) (c : Nat), Inv P ops base T H V W ρ0 h w0 n D0 listed a w ρ c → (List.range ops.size).countP (fun k => inD listed k) + fuel = ops.size → wpAnyIn (Fz rd) 0 P .any ops Q fuel listed a w := by
  intro fuel
  induction fuel with
  | zero =>
    intro listed a w ρ c I0 hcount
    obtain ⟨c, I, hc⟩ := I0.advance X hb (ops.size - c) c (by have := I0.cle; omega)
    have hall : ∀ k, k < ops.size → inD listed k = true := by
      intro k hk
      have h1 : (List.range ops.size).countP (fun k => inD listed k) = (List.range ops.size).length := by simpa using hcount
      exact List.countP_eq_length.1 h1 k (by simpa using hk)
    refine ⟨?_, hQ a w (inv_fin X I hc hall)⟩
    refine List.eq_nil_iff_forall_not_mem.2 fun i hi => ?_
    obtain ⟨o, ho, hlt, h1, _⟩ := ready_inv hi
    have := hall i hlt
    unfold inD at this
    simp [I.lsize, hlt] at this h1
    rw [this] at h1; cases h1
  | succ fuel ih =>
    intro listed a w ρ c I0 hcount
    obtain ⟨c, I, hc⟩ := I0.advance X hb (ops.size - c) c (by have := I0.cle; omega)
    refine ⟨fun hr => hQ a w (inv_fin X I hc (ready_nil_all X I.lsize hr)), fun i hi => ?_⟩
    obtain ⟨o, ho, hlt, h1, hed⟩ := ready_inv hi
    have hni : inD listed i = false := by unfold inD; simp [I.lsize, hlt] at h1 ⊢; exact h1
    have hd : ∀ d, o.dst = some d → d < n := fun d hdd => hdst o (by have : ops.toList[i]? = some o := by simpa using ho
                                                                     exact List.mem_of_getElem? this) d hdd
    have hcount' : (List.range ops.size).countP (fun k => inD (listed.setIfInBounds i true) k) + fuel = ops.size := by
      rw [count_set I.lsize hlt hni]; omega
    -- the operands
    have htr : TRel ρ (restr (T i) (slotsOf ops o)) a.tmps := by
      intro d v hv
      obtain ⟨hmem, hget⟩ := restr_get _ _ _ _ hv
      exact I.tmps d v (by rw [ready_slots X I.closed ho hni hed hmem]; exact hget)
    have hwant : Region.wanted o (yielded ops a.tmps) = W i := by
      have hw := X.run.want i o ho
      cases hg : o.guard with
      | none => rw [hg] at hw; simp [awanted] at hw; simp [Region.wanted, hg, hw]
      | some jw =>
        obtain ⟨j, want⟩ := jw
        -- the guard's slot is among the slots
        have hslot : ∀ d, (ops[j]?).bind (·.dst) = some d → d ∈ slotsOf ops o := by
          intro d hd'
          unfold slotsOf Oper.looksAt
          rw [hg]
          simp [hd']
        have hw' : awanted ops (restr (T i) (slotsOf ops o)) o.guard = some (W i) := by
          rw [hg] at hw ⊢
          simp only [awanted] at hw ⊢
          split at hw
          · rename_i x hx
            split at hw
            · rename_i d hdx
              split at hw
              · rename_i b hbv
                have hmem := hslot d (by rw [hx]; simp [hdx])
                have : ∀ (l : List Tmp), d ∈ l → (restr (T i) l).get d = (T i).get d := by
                  intro l
                  induction l with
                  | nil => intro h; cases h
                  | cons y l ihl =>
                    intro h
                    simp only [restr]
                    split
                    · rename_i u hu
                      rw [PT.get_set]
                      by_cases e : d = y
                      · rw [if_pos e, e, hu]
                      · rw [if_neg e]; exact ihl (by simpa [e] using h)
                    · rename_i hu
                      by_cases e : d = y
                      · subst e
                        cases hr : (restr (T i) l).get d with
                        | none => exact hu.symm
                        | some v => rw [(restr_get _ _ _ _ hr).2] at hu; cases hu
                      · exact ihl (by simpa [e] using h)
                rw [this _ hmem, hbv]
                exact hw
              · rename_i b hbv
                have hmem := hslot d (by rw [hx]; simp [hdx])
                have : ∀ (l : List Tmp), d ∈ l → (restr (T i) l).get d = (T i).get d := by
                  intro l
                  induction l with
                  | nil => intro h; cases h
                  | cons y l ihl =>
                    intro h
                    simp only [restr]
                    split
                    · rename_i u hu
                      rw [PT.get_set]
                      by_cases e : d = y
                      · rw [if_pos e, e, hu]
                      · rw [if_neg e]; exact ihl (by simpa [e] using h)
                    · rename_i hu
                      by_cases e : d = y
                      · subst e
                        cases hr : (restr (T i) l).get d with
                        | none => exact hu.symm
                        | some v => rw [(restr_get _ _ _ _ hr).2] at hu; cases hu
                      · exact ihl (by simpa [e] using h)
                rw [this _ hmem, hbv]
                exact hw
              · cases hw
            · cases hw
          · cases hw
        exact awanted_rel htr rfl hw'
    unfold wpOpIn
    rw [ho]
    simp only
    cases hw : W i with
    | false =>
      rw [hwant, hw]
      simp only [Bool.false_eq_true, if_false]
      have hk9 : kl P ops W i = 9 := by unfold kl; rw [ho, hw]; rfl
      obtain ⟨hv, _⟩ := X.run.no i o ho hw
      refine ⟨fun _ _ => trivial, ?_⟩
      exact ih _ _ _ ρ c (I.same_ X ho hni hed hd (by rw [hk9]; decide) (by rw [hk9]; decide) (by rw [hv]; exact VRel.undef)) hcount'
    | true =>
      rw [hwant, hw]
      simp only [if_true]
      have hy := X.run.yes i o ho hw
      have hkl := kl_of (P := P) ho hw
      have h4 := X.cls4 i o ho
      have hnd : ∀ c, o.op ≠ .defer c := by intro c hc; rw [hc] at h4; simp [cls] at h4
      have : cls P o.op = 0 ∨ cls P o.op = 1 ∨ cls P o.op = 2 ∨ cls P o.op = 3 := by omega
      rcases this with hcl | hcl | hcl | hcl
      · -- it touches no memory
        obtain ⟨v', hrun, hv⟩ := apure_sound htr.ev (oper_pure hcl hy).1
        rw [wpIn_eq hnd]
        rw [hrun w, Oper.uponIn_value]
        exact ih _ _ _ ρ c (I.same_ X ho hni hed hd (by omega) (by omega) hv) hcount'
      · -- it reads
        have hbe : ∀ k, isBefore (befs ops.toList []) k i = true → inD listed k = true := fun k hk => closed_before (D := fun k => inD listed k = true) X.edge (fun j o hj hd e he hb => I.closed j o hj hd e he hb) i k o (by simpa using ho) hed hk
        have hread : aread P (H c) (aev (restr (T i) (slotsOf ops o))) o.op = some (V i) := by
          have hi1 : kl P ops W i = 1 := by omega
          by_cases hic : i < c
          · -- what wrote last
            have hex : (∀ k, i ≤ k → k < c → kl P ops W k ≠ 3) ∨ ∃ k, i < k ∧ k < c ∧ kl P ops W k = 3 ∧ ∀ k', k < k' → k' < c → kl P ops W k' ≠ 3 := by
              have : ∀ (m : Nat), i + m ≤ c → (∀ k, c - m ≤ k → k < c → kl P ops W k ≠ 3) ∨ ∃ k, i < k ∧ k < c ∧ kl P ops W k = 3 ∧ ∀ k', k < k' → k' < c → kl P ops W k' ≠ 3 := by
                intro m
                induction m with
                | zero => intro _; exact .inl (fun k h1 h2 => by omega)
                | succ m ihm =>
                  intro hm
                  rcases ihm (by omega) with h | h
                  · by_cases h3 : kl P ops W (c - (m + 1)) = 3
                    · by_cases hei : c - (m + 1) = i
                      · rw [hei, hi1] at h3; cases h3
                      · exact .inr ⟨c - (m + 1), by omega, by omega, h3, fun k' h1 h2 => h k' (by omega) h2⟩
                    · refine .inl fun k h1 h2 => ?_
                      by_cases e : k = c - (m + 1)
                      · rw [e]; exact h3
                      · exact h k (by omega) h2
                  · exact .inr h
              rcases this (c - i) (by omega) with h | h
              · exact .inl (fun k h1 h2 => h k (by omega) h2)
              · exact .inr h
            rcases hex with hno | ⟨k, k1, k2, k3, k4⟩
            · have hm := run_more X.run X.cls4 (i := i) (j := c) I.cle (fun k h1 h2 => X.free k k (Nat.le_refl _) (by have := I.cle; omega)) hno (by omega)
              exact aread_more hm (oper_read hcl hy).1
            · have hm := run_more X.run X.cls4 (i := k + 1) (j := c) I.cle (fun k' h1 h2 => X.free k' k' (Nat.le_refl _) (by have := I.cle; omega)) (fun k' h1 h2 => k4 k' (by omega) h2) (by omega)
              rcases X.reads i k o ho hi1 k3 with hr | hr | hr
              · have := isBefore_lt X.edge _ _ hr; omega
              · have hko := (kl_some k3 (by decide))
                obtain ⟨ok, hok, _⟩ := hko
                have hkd := I.before k k2 k3
                have := closed_before (D := fun k => inD listed k = true) X.edge (fun j o hj hd e he hb => I.closed j o hj hd e he hb) k i ok (by simpa using hok) (fun e he hbb => I.closed k ok (by simpa using hok) hkd e he hbb) hr
                rw [hni] at this; cases this
              · rw [if_neg (by omega)] at hr
                exact aread_more hm hr
          · have hic' : c < i := by
              rcases Nat.lt_or_ge c i with h | h
              · exact h
              · have : i = c := by omega
                rcases hc with hc | hc
                · omega
                · rw [← this, hi1] at hc; cases hc
            have hc3 : kl P ops W c = 3 := by
              rcases hc with hc | hc
              · omega
              · exact hc
            rcases X.reads i c o ho hi1 hc3 with hr | hr | hr
            · have := hbe c hr
              rw [I.after c (Nat.le_refl _) hc3] at this; cases this
            · have := isBefore_lt X.edge _ _ hr; omega
            · rw [if_pos hic'] at hr; exact hr
        obtain ⟨v', hrun, hv⟩ := aread_sound htr.ev I.step.rel hread
        rw [wpIn_eq hnd]
        rw [hrun, Oper.uponIn_value]
        exact ih _ _ _ ρ c (I.same_ X ho hni hed hd (by omega) (by omega) hv) hcount'
      · -- it makes a block
        obtain ⟨ob, f, hal, hvf, hH⟩ := oper_alloc hcl hy
        obtain ⟨cc, e, esz, rfl, hs, hmade⟩ := aalloc_sound htr.ev hal
        obtain ⟨rv, rc, fr, w1, hrun, hw1, hos, htp, hout, hlen, hcc, hfr, hval⟩ := (hmade w).ex
        rw [wpIn_eq hnd]
        rw [hrun, Oper.uponIn_value]
        have hobj : (H (i + 1)).get (base + i) = some (.cells cc e false) := by rw [hH, AH.get_set, if_pos rfl]
        refine ih _ _ _ _ c (I.alloc_ X ho hni hed hd hb hc (by omega) hobj hw1 hos htp hout hs hlen hcc hfr ?_) hcount'
        rw [hvf]
        exact hval _ _ (upd_same _ _ _)
      · -- it writes, or calls
        have hi3 : kl P ops W i = 3 := by omega
        have hic : i = c := by
          have hle : c ≤ i := by
            rcases Nat.lt_or_ge i c with h | h
            · have := I.before i h hi3; rw [hni] at this; cases this
            · exact h
          rcases Nat.lt_or_ge c i with h | h
          · have hc3 : kl P ops W c = 3 := by
              rcases hc with hc | hc
              · omega
              · exact hc
            have hbf := X.effs i c hi3 hc3 h
            have := closed_before (D := fun k => inD listed k = true) X.edge (fun j o hj hd e he hb => I.closed j o hj hd e he hb) i c o (by simpa using ho) hed hbf
            rw [I.after c (Nat.le_refl _) hc3] at this; cases this
          · omega
        have heff := oper_eff hcl hy
        refine aeff_sound X.sim (I.step.rel) htr.ev (h := H c) (v := V i) (h' := H (c + 1)) ?_ ?_ hnd
        · rw [← hic]; exact heff
        · intro rv ρ1 w1 hv hst
          exact ih _ _ _ ρ1 (c + 1) (I.eff_ X ho hni hed hd hic hi3 hst hv) hcount'
end
end Go.Am

/- Code, and calls: the abstract machine is right. -/
namespace Go.Am
open Go

section
variable {P : Program} {C : CallFn}

theorem statOne_inv {ops : Array Oper} (h : statOk P ops = true) {j : Nat} {o : Oper} (ho : ops[j]? = some o) : statOne P ops (befs ops.toList []) j o = true := by
  unfold statOk at h
  have hj : j < ops.size := (Array.getElem?_eq_some_iff.1 ho).1
  have := List.all_eq_true.1 h j (by simpa using hj)
  simp only [ho] at this
  exact this

theorem statOne_edge {ops : Array Oper} (h : statOk P ops = true) : ∀ (j : Nat) (o : Oper), ops.toList[j]? = some o → ∀ e ∈ o.after.toList, Region.binds .any e = true → e.on < j := by
  intro j o ho e he hb
  have := statOne_inv h (o := o) (j := j) (by simpa using ho)
  unfold statOne at this
  simp only [Bool.and_eq_true] at this
  have h1 := List.all_eq_true.1 this.1.1 e he
  simp only [hb, Bool.not_true, Bool.false_or] at h1
  simpa [blt_iff] using h1
theorem statOne_cls {ops : Array Oper} (h : statOk P ops = true) : ∀ (k : Nat) (o : Oper), ops[k]? = some o → cls P o.op < 4 := by
  intro k o ho
  have := statOne_inv h ho
  unfold statOne at this
  simp only [Bool.and_eq_true] at this
  simpa [blt_iff] using this.1.2
theorem statOne_pair {ops : Array Oper} (h : statOk P ops = true) {j i : Nat} {o x : Oper} (ho : ops[j]? = some o) (hx : ops[i]? = some x) (hne : i ≠ j) :
    (∀ d, x.dst = some d → d ∈ slotsOf ops o → isBefore (befs ops.toList []) i j = true ∨ isBefore (befs ops.toList []) j i = true) ∧
    (i < j → (∀ d, x.dst = some d → o.dst = some d → isBefore (befs ops.toList []) i j = true) ∧ (cls P x.op = 3 → cls P o.op = 3 → isBefore (befs ops.toList []) i j = true)) := by
  have := statOne_inv h ho
  unfold statOne at this
  simp only [Bool.and_eq_true] at this
  have hi : i < ops.size := (Array.getElem?_eq_some_iff.1 hx).1
  have h2 := List.all_eq_true.1 this.2 i (by simpa using hi)
  simp only [hx, beqf hne, Bool.false_or, Bool.and_eq_true] at h2
  obtain ⟨h3, h4⟩ := h2
  refine ⟨fun d hd hm => ?_, fun hlt => ?_⟩
  · rw [hd] at h3
    simp only [Bool.or_eq_true, Bool.not_eq_true'] at h3
    rcases h3 with (h3 | h3) | h3
    · have : (slotsOf ops o).contains d = true := by simpa using hm
      rw [h3] at this; cases this
    · exact .inl h3
    · exact .inr h3
  · have hb : Nat.blt i j = true := by simpa [blt_iff] using hlt
    simp only [hb, Bool.not_true, Bool.false_or, Bool.and_eq_true] at h4
    obtain ⟨h5, h6⟩ := h4
    refine ⟨fun d hd hd' => ?_, fun hc1 hc2 => ?_⟩
    · rw [hd, hd'] at h5
      simpa using h5
    · rw [beqt hc1, beqt hc2] at h6
      simpa using h6

theorem aalloc_cells {ev : Operand → Option Value} {parts : List (Nat × Operand) → Option (List (Nat × Value))} {op : Op} {ob : AObj} {f : Nat → Value} (h : aalloc P ev parts op = some (ob, f)) : ∃ c e, ob = .cells c e false := by
  unfold aalloc at h
  split at h
  · split at h
    · injection h with h; injection h with h1 h2; exact ⟨_, _, h1.symm⟩
    · cases h
  · split at h
    · obtain ⟨_, h1⟩ := cond_inv h; injection h1 with h1 h2; exact ⟨_, _, h1.symm⟩
    · cases h
  · rename_i t n ps
    split at h
    · split at h
      · rename_i size z _ _
        cases hc : (Nat.ble (n * size) 16777216 && Nat.ble 1 size) with
        | false => rw [hc] at h; cases h
        | true =>
          rw [hc] at h
          simp only [cond_true] at h
          split at h
          · obtain ⟨_, h1⟩ := cond_inv h; injection h1 with h1 h2; exact ⟨_, _, h1.symm⟩
          · cases h
      · cases h
    · cases h
  · split at h
    · split at h
      · split at h
        · injection h with h; injection h with h1 h2; exact ⟨_, _, h1.symm⟩
        · cases h
      · cases h
    · cases h
  · split at h
    · split at h
      · obtain ⟨_, h1⟩ := cond_inv h; injection h1 with h1 h2; exact ⟨_, _, h1.symm⟩
      · cases h
    · cases h
  · cases h

theorem adraw_sound {rd : Option Nat} (hm : P.follows .mixedOrders = true) (hsim : Sim P C) (honw : COnw C) {id : Nat} {ops : Array Oper} {t t' : Tmps} {h h' : AH} {ρ : Ren} {w : World} {a : Act} (ha : adraw P C ops t h = some (t', h')) (r : Rel P ρ h w) (ht : TRel ρ t a.tmps)
    (hds : dstOk a.tmps.size ops.toList) {Q : Exit → Act → World → Prop} (hQ : ∀ a' w', Post P ρ h w t' h' a.tmps.size a.defers a' w' → Q .normal a' w') : (Code.region id ops true).wpIn (Fz rd) 0 P Q a w := by
  unfold adraw at ha
  cases hst : statOk P ops with
  | false => rw [hst] at ha; cases ha
  | true =>
  rw [hst] at ha
  simp only [cond_true] at ha
  split at ha
  · rename_i rs t1 h1 hr
    cases hro : readsOk P (befs ops.toList []) rs with
    | false => rw [hro] at ha; cases ha
    | true =>
    rw [hro] at ha
    simp only [cond_true] at ha
    injection ha with ha; injection ha with e1 e2; subst e1; subst e2
    obtain ⟨T, H, V, W, hT0, hH0, hTm, hHm, hall⟩ := adraws_run _ _ _ _ _ _ _ hr
    have hlen : ops.toList.length = ops.size := by simp
    rw [hlen] at hTm hHm
    have hat : ∀ (j : Nat) (o : Oper), ops[j]? = some o → ops.toList[j]? = some o := fun j o h => by simpa using h
    have hrun : Run P C ops h.next T H V W := ⟨fun k o ho => (hall k o (hat k o ho)).2.1, fun k o ho hw => by have := (hall k o (hat k o ho)).2.2.1 hw; simpa using this, fun k o ho hw => (hall k o (hat k o ho)).2.2.2.1 hw, fun k o ho => (hall k o (hat k o ho)).2.2.2.2⟩
    have hcls := statOne_cls hst
    have hstep : ∀ k, k < ops.size → (H k).next ≤ (H (k + 1)).next ∧ ∀ a, a < (H k).next → a ≠ h.next + k → (H k).get a = none → (H (k + 1)).get a = none := fun k hk => by
      have ho : ops[k]? = some ops[k] := by simp [hk]
      exact run_onw hrun honw ho (hcls k _ ho)
    have hnxt : ∀ j, j ≤ ops.size → h.next + ops.size ≤ (H j).next := by
      intro j
      induction j with
      | zero => intro _; rw [hH0]; simp [AH.reserve]
      | succ j ih => intro hj; exact Nat.le_trans (ih (by omega)) (hstep j (by omega)).1
    have hfree : ∀ (j k : Nat), j ≤ k → k < ops.size → (H j).get (h.next + k) = none := by
      intro j
      induction j with
      | zero => intro k _ hk; rw [hH0, AH.get_reserve]; exact r.out _ (by omega)
      | succ j ih =>
        intro k hjk hk
        exact (hstep j (by omega)).2 _ (by have := hnxt j (by omega); omega) (by omega) (ih k (by omega) hk)
    have X : Ctx P C ops h.next T H V W := {
      run := hrun
      onw := honw
      sim := hsim
      cls4 := hcls
      edge := statOne_edge hst
      slot := fun j i o x ho hx hne d hd hm => (statOne_pair hst ho hx hne).1 d hd hm
      same := fun j i o x ho hx hlt d hd hd' => ((statOne_pair hst ho hx (by omega)).2 hlt).1 d hd hd'
      effs := fun j i hj hi hlt => by
        obtain ⟨o, ho, _, hc⟩ := kl_some hj (by decide)
        obtain ⟨x, hx, _, hc'⟩ := kl_some hi (by decide)
        exact ((statOne_pair hst ho hx (by omega)).2 hlt).2 hc' hc
      reads := fun i k o ho hi hk => by
        obtain ⟨o', ho', hw, hc⟩ := kl_some hi (by decide)
        obtain ⟨x, hx, hw', hc'⟩ := kl_some hk (by decide)
        rw [ho] at ho'; injection ho' with ho'; subst ho'
        have h1 := (hall i o (hat i o ho)).1
        have h2 := (hall k x (hat k x hx)).1
        unfold readsOk at hro
        have h3 := List.all_eq_true.1 hro _ (List.mem_of_getElem? h1)
        simp only [hw, hc, beqt rfl, Bool.and_self, Bool.not_true, Bool.false_or] at h3
        have h4 := List.all_eq_true.1 h3 _ (List.mem_of_getElem? h2)
        simp only [hw', hc', beqt rfl, Bool.and_self, Bool.not_true, Bool.false_or, Nat.zero_add, Bool.or_eq_true] at h4
        rcases h4 with (h4 | h4) | h4
        · exact .inl h4
        · exact .inr (.inl h4)
        · right; right
          split at h4
          · rename_i v hv
            rw [sameV_eq _ _ _ h4] at hv
            by_cases hlt : k < i
            · have hb : Nat.blt k i = true := by simpa [blt_iff] using hlt
              rw [hb] at hv; rw [if_pos hlt]; exact hv
            · have hb : Nat.blt k i = false := by simpa [blt_iff] using hlt
              rw [hb] at hv; rw [if_neg hlt]; exact hv
          · cases h4
      free := hfree
      nxt := hnxt
      objs := fun k hk => by
        obtain ⟨o, ho, hw, hc⟩ := kl_some hk (by decide)
        obtain ⟨ob, f, hal, _, e⟩ := oper_alloc hc (hrun.yes k o ho hw)
        have := aalloc_cells hal
        obtain ⟨c, e', hob⟩ := this
        exact ⟨c, e', by rw [e, AH.get_set, if_pos rfl, hob]⟩ }
    refine wpIn_region_any hm ?_
    have hstep0 : Step P ρ h w ρ (H 0) { w with drawn := w.drawn + 1 } := by
      rw [hH0]
      exact {
        rel := ⟨fun a q hq => ⟨by have := (r.dom a q hq).1; simp [AH.reserve]; omega, (r.dom a q hq).2⟩, fun a q o hq ho => (r.blk a q o hq ho).mono (fun _ _ h => h) rfl, r.sep, fun a ha => r.out a (by simp [AH.reserve] at ha; omega)⟩
        mono := fun _ _ h => h
        old := fun a ha hn => ⟨hn, rfl⟩
        dead := fun a ha hd => hd
        ro := fun a o ho _ => ho
        new := fun a q ha hq => by have := (r.dom a q hq).1; omega
        next := by simp [AH.reserve]
        keep := fun _ _ _ => rfl
        grow := Nat.le_refl _
        os := rfl
        tape := rfl
        output := rfl }
    have hin : ∀ k, inD (Array.replicate ops.size false) k = false := fun k => by unfold inD; simp [Array.getElem?_replicate]; split <;> simp
    refine draw_any (D0 := a.defers) (n := a.tmps.size) (h := h) (ρ0 := ρ) (w0 := w) X rfl hds ?_ ops.size _ a _ ρ 0 ?_ ?_
    · rintro a' w' ⟨ρ', k1, k2, k3, k4⟩
      refine hQ a' w' ⟨ρ', by rw [← hTm]; exact k1, k2, k3, ?_⟩
      rw [← hHm]; exact k4
    · exact {
        lsize := by simp
        tsize := rfl
        defers := rfl
        closed := fun j o _ hj => by rw [hin] at hj; cases hj
        cle := Nat.zero_le _
        before := fun k hk => by omega
        after := fun k _ _ => hin k
        step := hstep0
        ahead := fun k _ _ _ hk => by rw [hin] at hk; cases hk
        ghost := fun k hk _ => by
          cases hq : ρ (h.next + k) with
          | none => rfl
          | some q => have := (r.dom _ q hq).1; omega
        kept := fun k hk => by omega
        tmps := fun d v hs => by
          rw [sv_congr (D' := fun _ => false) ops.size (fun j _ _ => hin j)] at hs
          rw [sv_cut (i := 0) ops.size (Nat.zero_le _) (fun _ _ _ _ => rfl)] at hs
          simp only [sv] at hs
          rw [hT0] at hs
          exact ht d v hs }
    · have : (List.range ops.size).countP (fun k => inD (Array.replicate ops.size false) k) = 0 := by
        rw [List.countP_eq_zero]; intro k _; rw [hin]; simp
      omega
  · cases ha
end
end Go.Am

/- Loops over functions: what is said of a running activation. -/
namespace Go.Am
open Go

section
variable {P : Program} {ρ ρ' : Ren} {h h' : AH} {w w1 : World}

/-- The marks on an activation's deferred calls. -/
def DRel (ρ : Ren) : List Nat → List Deferred → Prop
  | [], [] => True
  | m :: ms, d :: ds => (∃ q, ρ m = some q ∧ d = { target := .collected q.r, args := #[] }) ∧ DRel ρ ms ds
  | _, _ => False
theorem DRel.mono (hm : ∀ a q, ρ a = some q → ρ' a = some q) : ∀ {ms : List Nat} {ds : List Deferred}, DRel ρ ms ds → DRel ρ' ms ds := by
  intro ms
  induction ms with
  | nil => intro ds h; cases ds with
    | nil => trivial
    | cons d ds => exact h.elim
  | cons m ms ih => intro ds h; cases ds with
    | nil => exact h.elim
    | cons d ds =>
      obtain ⟨⟨q, h1, h2⟩, h3⟩ := h
      exact ⟨⟨q, hm _ _ h1, h2⟩, ih h3⟩

/-- The loop of the round in which code stands. -/
def RdRel (ρ : Ren) : Option Nat → Option Nat → Prop
  | none, none => True
  | some l, some l' => ∃ q, ρ l = some q ∧ l' = q.r
  | _, _ => False
theorem RdRel.mono (hm : ∀ a q, ρ a = some q → ρ' a = some q) {rd rr : Option Nat} (h : RdRel ρ rd rr) : RdRel ρ' rd rr := by
  cases rd <;> cases rr <;> first | exact h | (obtain ⟨q, h1, h2⟩ := h; exact ⟨q, hm _ _ h1, h2⟩)

/-- Marks are no memory. -/
theorem Rel.marks (r : Rel P ρ h w) (m : List Nat) : Rel P ρ { h with marks := m } w := ⟨r.dom, r.blk, r.sep, r.out⟩
theorem Step.marks (s : Step P ρ h w ρ' h' w1) (m m' : List Nat) : Step P ρ { h with marks := m } w ρ' { h' with marks := m' } w1 where
  rel := s.rel.marks m'
  mono := s.mono
  old := s.old
  dead := s.dead
  ro := s.ro
  new := s.new
  next := s.next
  keep := s.keep
  grow := s.grow
  os := s.os
  tape := s.tape
  output := s.output

/-- A block that may be written is gone, whatever becomes of the real one. -/
theorem step_kill (r : Rel P ρ h w) {a : Nat} {q : RB} (hq : ρ a = some q) {ob : AObj} (hg : h.get a = some ob) (hro : isRo ob = false)
    (hk : ∀ i, i ≠ q.r → w1.heap[i]? = w.heap[i]?) (hs : w1.heap.size = w.heap.size) (h2 : w1.os = w.os) (h3 : w1.tape = w.tape) (h4 : w1.output = w.output) :
    Step P ρ h w ρ (h.drop a) w1 := by
  have hget : ∀ b, (h.drop a).get b = if b = a then none else h.get b := fun b => AH.get_drop _ _ _
  have held : Held ρ h q.r := ⟨a, q, _, hq, rfl, hg, hro⟩
  exact {
    rel := by
      refine ⟨fun b p hp => ⟨(r.dom b p hp).1, by rw [hs]; exact (r.dom b p hp).2⟩, fun b p o hp hob => ?_, fun b b' p p' o o' hp hp' hob hro0 hob' hrr => ?_, fun b hb => ?_⟩
      · rw [hget] at hob
        by_cases hba : b = a
        · rw [if_pos hba] at hob; cases hob
        · rw [if_neg hba] at hob
          have hne : p.r ≠ q.r := fun e' => hba ((r.sep a b q p _ _ hq hp hg hro hob e'.symm).symm)
          exact (r.blk b p o hp hob).mono (fun _ _ h => h) (hk _ hne)
      · rw [hget] at hob hob'
        by_cases hba : b = a
        · rw [if_pos hba] at hob; cases hob
        · by_cases hba' : b' = a
          · rw [if_pos hba'] at hob'; cases hob'
          · rw [if_neg hba] at hob; rw [if_neg hba'] at hob'
            exact r.sep b b' p p' _ _ hp hp' hob hro0 hob' hrr
      · rw [hget]; split
        · rfl
        · exact r.out b hb
    mono := fun _ _ h => h
    old := fun b hb hp => ⟨hp, by rw [hget, if_neg (by intro e'; subst e'; rw [hq] at hp; cases hp)]⟩
    dead := fun b hb hd => by rw [hget]; split <;> first | rfl | exact hd
    ro := fun b o hb hr => by
      rw [hget, if_neg (by intro e'; subst e'; rw [hg] at hb; injection hb with hb; subst hb; rw [hro] at hr; cases hr)]; exact hb
    new := fun b p hb hp => by have := (r.dom b p hp).1; omega
    next := Nat.le_refl _
    keep := fun i hi hn => hk i (fun e' => hn (by rw [e']; exact held))
    grow := by rw [hs]; exact Nat.le_refl _
    os := h2
    tape := h3
    output := h4 }

/-- What is said of a piece of code that is left. -/
def PostC (P : Program) (ρ : Ren) (h : AH) (w : World) (t' : Tmps) (h' : AH) (n : Nat) (a' : Act) (w' : World) : Prop :=
  ∃ ρ', TRel ρ' t' a'.tmps ∧ a'.tmps.size = n ∧ DRel ρ' h'.marks a'.defers ∧ Step P ρ h w ρ' h' w'

/-! ### A call leaves what was dead dead -/
theorem aoper_onw {C : CallFn} (hC : COnw C) {t : Tmps} {op : Op} {v : Value} {h' : AH} (ha : aoper P C t h none op = some (v, h')) : Onw h h' := by
  unfold aoper at ha
  split at ha
  · cases hp : apure P (aev t) (aparts t) (aevs t) op with
    | none => simp [hp] at ha
    | some v0 => simp [hp] at ha; rw [← ha.2]; exact Onw.refl _
  · cases hp : aread P h (aev t) op with
    | none => simp [hp] at ha
    | some v0 => simp [hp] at ha; rw [← ha.2]; exact Onw.refl _
  · cases hp : aalloc P (aev t) (aparts t) op with
    | none => simp [hp] at ha
    | some x =>
      obtain ⟨o, f⟩ := x
      simp [hp] at ha
      rw [← ha.2]; exact Onw.alloc _ _
  · exact aeff_onw hC ha
  · cases ha

theorem aops_onw {C : CallFn} (hC : COnw C) {ops : Array Oper} : ∀ (l : List Oper) (t t' : Tmps) (h h' : AH), aops P C ops l t h = some (t', h') → Onw h h' := by
  intro l
  induction l with
  | nil =>
    intro t t' h h' ha
    simp only [aops] at ha
    injection ha with ha; injection ha with e1 e2; subst e2; exact Onw.refl _
  | cons o os ih =>
    intro t t' h h' ha
    simp only [aops] at ha
    split at ha
    · split at ha
      · rename_i v h1 ho
        exact (aoper_onw hC ho).trans (ih _ _ _ _ ha)
      · cases ha
    · exact ih _ _ _ _ ha
    · cases ha

theorem run_marks {C : CallFn} {ops : Array Oper} {base : Nat} {T : Nat → Tmps} {H : Nat → AH} {V : Nat → Value} {W : Nat → Bool} (hR : Run P C ops base T H V W) (hC : COnw C) {k : Nat} {o : Oper} (ho : ops[k]? = some o) (hc4 : cls P o.op < 4) : (H (k + 1)).marks = (H k).marks := by
  cases hw : W k with
  | false => obtain ⟨_, e⟩ := hR.no k o ho hw; rw [e]
  | true =>
    have hy := hR.yes k o ho hw
    have : cls P o.op = 0 ∨ cls P o.op = 1 ∨ cls P o.op = 2 ∨ cls P o.op = 3 := by omega
    rcases this with hc | hc | hc | hc
    · rw [(oper_pure hc hy).2]
    · rw [(oper_read hc hy).2]
    · obtain ⟨ob, f, _, _, e⟩ := oper_alloc hc hy
      rw [e]; rfl
    · exact (aeff_onw hC (oper_eff hc hy)).marks

theorem adraw_onw {C : CallFn} (hC : COnw C) {ops : Array Oper} {t t' : Tmps} {h h' : AH} (ha : adraw P C ops t h = some (t', h')) : Onw h h' := by
  unfold adraw at ha
  cases hst : statOk P ops with
  | false => rw [hst] at ha; cases ha
  | true =>
  rw [hst] at ha
  simp only [cond_true] at ha
  split at ha
  · rename_i rs t1 h1 hr
    cases hro : readsOk P (befs ops.toList []) rs with
    | false => rw [hro] at ha; cases ha
    | true =>
    rw [hro] at ha
    simp only [cond_true] at ha
    injection ha with ha; injection ha with e1 e2; subst e1; subst e2
    obtain ⟨T, H, V, W, hT0, hH0, hTm, hHm, hall⟩ := adraws_run _ _ _ _ _ _ _ hr
    have hlen : ops.toList.length = ops.size := by simp
    rw [hlen] at hTm hHm
    have hat : ∀ (j : Nat) (o : Oper), ops[j]? = some o → ops.toList[j]? = some o := fun j o h => by simpa using h
    have hrun : Run P C ops h.next T H V W := ⟨fun k o ho => (hall k o (hat k o ho)).2.1, fun k o ho hw => by have := (hall k o (hat k o ho)).2.2.1 hw; simpa using this, fun k o ho hw => (hall k o (hat k o ho)).2.2.2.1 hw, fun k o ho => (hall k o (hat k o ho)).2.2.2.2⟩
    have hcls := statOne_cls hst
    have hstep : ∀ k, k < ops.size → (H k).next ≤ (H (k + 1)).next ∧ ∀ a, a < (H k).next → a ≠ h.next + k → (H k).get a = none → (H (k + 1)).get a = none := fun k hk => by
      have ho : ops[k]? = some ops[k] := by simp [hk]
      exact run_onw hrun hC ho (hcls k _ ho)
    have hall2 : ∀ j, j ≤ ops.size → h.next + ops.size ≤ (H j).next ∧ ∀ a, a < h.next → h.get a = none → (H j).get a = none := by
      intro j
      induction j with
      | zero => intro _; rw [hH0]; exact ⟨by simp [AH.reserve], fun a _ hd => hd⟩
      | succ j ih =>
        intro hj
        have k := ih (by omega)
        refine ⟨Nat.le_trans k.1 (hstep j (by omega)).1, fun a ha hd => (hstep j (by omega)).2 a (by omega) (by omega) (k.2 a ha hd)⟩
    have hmk : ∀ j, j ≤ ops.size → (H j).marks = h.marks := by
      intro j
      induction j with
      | zero => intro _; rw [hH0]; rfl
      | succ j ih =>
        intro hj
        have ho : ops[j]? = some ops[j] := by simp [show j < ops.size by omega]
        rw [run_marks hrun hC ho (hcls j _ ho), ih (by omega)]
    have hmf := hmk ops.size (Nat.le_refl _)
    rw [hHm] at hmf
    have hfin := hall2 ops.size (Nat.le_refl _)
    rw [hHm] at hfin
    exact ⟨hmf, by omega, hfin.2⟩
  · cases ha

end
end Go.Am

/- Loops over functions: the statement. -/
namespace Go.Am
open Go

def exitOf : AExit → Exit
  | .normal => .normal
  | .exit i => .exit i
  | .ret => .ret

section
variable {P : Program} {C : CallFn} {ρ : Ren} {h : AH} {w : World}

theorem enter_sound {rd rr : Option Nat} (hrd : RdRel ρ rd rr) (r : Rel P ρ h w) {t : Tmps} {a : Act} (ht : TRel ρ t a.tmps) (hd : DRel ρ h.marks a.defers) {ps : Array Tmp} {assign body : Code} (hok : (ps.toList.all fun p => Nat.blt p a.tmps.size) = true ∧ codeOk a.tmps.size assign = true ∧ codeOk a.tmps.size body = true)
    {l : Nat} {h1 : AH} (hent : aenter rd t ps assign body h = some (l, h1)) (fn : FuncId) : ∃ (q : RB) (mark : List Deferred) (w1 : World) (ρ1 : Ren),
      (Instr.enterLoop fn a.tmps ps assign body rr).run P w = .ok (q.r, mark) w1 ∧ Step P ρ h w ρ1 h1 w1 ∧ ρ1 l = some q ∧ DRel ρ1 h1.marks (mark ++ a.defers) := by
  unfold aenter at hent
  cases rd with
  | none =>
    cases rr with
    | some _ => exact hrd.elim
    | none =>
    simp only at hent
    injection hent with hent; injection hent with e1 e2; subst e1; subst e2
    let q0 : RB := ⟨w.heap.size, 0, 0, 0⟩
    let q1 : RB := ⟨w.heap.size + 1, 0, 0, 0⟩
    have s1 : Step P ρ h w (upd ρ h.next q0) (h.alloc .defd) (w.alloc (.deferred (some []))) := step_new r rfl rfl (by show (w.heap.push _)[w.heap.size]? = _; simp) rfl rfl rfl
    have hnn : ∀ a q, ρ a = some q → a < h.next := fun a q hq => (r.dom a q hq).1
    have hρ0 : ρ h.next = none := by
      cases hq : ρ h.next with
      | none => rfl
      | some q => have := hnn _ _ hq; omega
    have s2 : Step P (upd ρ h.next q0) (h.alloc .defd) (w.alloc (.deferred (some []))) (upd (upd ρ h.next q0) (h.next + 1) q1) ((h.alloc .defd).alloc (.loop .ready .normal t ps assign body h.next))
        ((w.alloc (.deferred (some []))).alloc (.loop { state := .ready, pending := none, fn, tmps := a.tmps, params := ps, assign, body, defers := w.heap.size })) := by
      refine step_new (o' := .loop { state := .ready, pending := none, fn, tmps := a.tmps, params := ps, assign, body, defers := w.heap.size }) s1.rel (by show w.heap.size + 1 = (w.heap.push _).size; simp) rfl ?_ rfl rfl rfl
      refine ⟨{ state := .ready, pending := none, fn, tmps := a.tmps, params := ps, assign, body, defers := w.heap.size }, q0, { at_ := ?_, st_ := rfl, pend := rfl, tmps := ?_, ps_ := rfl, assign_ := rfl, body_ := rfl, blk := ?_, defers := rfl, ok0 := hok.1, ok1 := hok.2.1, ok2 := hok.2.2 }⟩
      · show (Array.push (w.heap.push _) _)[w.heap.size + 1]? = _
        rw [Array.getElem?_push, if_pos (by simp)]
      · refine ht.mono fun b q hq => ?_
        have := hnn b q hq
        rw [show (h.alloc AObj.defd).next = h.next + 1 from rfl, upd_ne _ _ (by omega), upd_ne _ _ (by omega)]; exact hq
      · rw [show (h.alloc AObj.defd).next = h.next + 1 from rfl, upd_ne _ _ (by omega), upd_same]
    have s := s1.trans s2
    refine ⟨q1, [{ target := .collected w.heap.size, args := #[] }], _, _, run_enterLoop_outer fn a.tmps ps assign body, s.marks h.marks (h.next :: h.marks), upd_same _ _ _, ?_⟩
    exact ⟨⟨q0, by rw [upd_ne _ _ (by omega), upd_same], rfl⟩, hd.mono s.mono⟩
  | some l0 =>
    cases rr with
    | none => exact hrd.elim
    | some lr =>
    obtain ⟨q0, hq0, rfl⟩ := hrd
    simp only at hent
    split at hent
    · rename_i st x t0 ps0 as0 bd0 d hg0
      injection hent with hent; injection hent with e1 e2; subst e1; subst e2
      obtain ⟨r0, p0, k0⟩ := r.blk l0 q0 _ hq0 hg0
      let q1 : RB := ⟨w.heap.size, 0, 0, 0⟩
      have hnn : ∀ a q, ρ a = some q → a < h.next := fun a q hq => (r.dom a q hq).1
      have s : Step P ρ h w (upd ρ h.next q1) (h.alloc (.loop .ready .normal t ps assign body d)) (w.alloc (.loop { state := .ready, pending := none, fn, tmps := a.tmps, params := ps, assign, body, defers := r0.defers })) := by
        refine step_new (o' := .loop { state := .ready, pending := none, fn, tmps := a.tmps, params := ps, assign, body, defers := r0.defers }) r rfl rfl ?_ rfl rfl rfl
        refine ⟨{ state := .ready, pending := none, fn, tmps := a.tmps, params := ps, assign, body, defers := r0.defers }, p0, { at_ := ?_, st_ := rfl, pend := rfl, tmps := ?_, ps_ := rfl, assign_ := rfl, body_ := rfl, blk := ?_, defers := k0.defers, ok0 := hok.1, ok1 := hok.2.1, ok2 := hok.2.2 }⟩
        · show (w.heap.push _)[w.heap.size]? = _; simp
        · refine ht.mono fun b q hq => ?_
          have := hnn b q hq
          rw [upd_ne _ _ (by omega)]; exact hq
        · have := hnn d p0 k0.blk
          rw [upd_ne _ _ (by omega)]; exact k0.blk
      refine ⟨q1, [], _, _, run_enterLoop_inner k0.at_ fn a.tmps ps assign body, s, upd_same _ _ _, ?_⟩
      exact hd.mono s.mono
    · cases hent

theorem range_sound (hsim : Sim P C) (honw : COnw C) {rd rr : Option Nat} (hrd : RdRel ρ rd rr) (r : Rel P ρ h w) {t : Tmps} {a : Act} (ht : TRel ρ t a.tmps) (hd : DRel ρ h.marks a.defers) {g : Operand} {ps : Array Tmp} {assign body : Code} (hok : (ps.toList.all fun p => Nat.blt p a.tmps.size) = true ∧ codeOk a.tmps.size assign = true ∧ codeOk a.tmps.size body = true)
    {gf : FuncId} {first captured : Array Value} {l : Nat} {h1 h2 : AH} {v2 : Value} (hg : aev t g = some (.func (.func gf) first captured)) {t0 : Tmps} (ht0 : TRel ρ t0 a.tmps) (hent : aenter rd t0 ps assign body h = some (l, h1))
    (hcall : C (.fn gf) (first.toList ++ [.func (.yield l) #[] #[]] ++ captured.toList) h1 = some (v2, h2)) {x : AExit} {t' : Tmps} {h' : AH}
    (ha : (match h2.get l with
      | some (.loop .ready x _ _ _ _ _) => some (x, t, h2.drop l)
      | some (.loop .done x _ _ _ _ _) => some (x, t, h2.drop l)
      | _ => none) = some (x, t', h')) {Q : Exit → Act → World → Prop} (hQ : ∀ a' w', PostC P ρ h w t' h' a.tmps.size a' w' → Q (exitOf x) a' w') : (Code.rangeFunc g ps assign body).wpIn (Fz rr) 0 P Q a w := by
  refine wpIn_rangeFunc fun fn _ => ?_
  obtain ⟨q, mark, w1, ρ1, hrun, hst, hl, hmark⟩ := enter_sound hrd r ht0 hd hok hent fn
  have hgr := ht.ev.ev _ _ hg
  generalize hge : a.eval g = gv at hgr
  cases hgr with
  | func _ a1 b1 a1' b1' ha1 hh1 hb1 hh2 =>
  have hargs : LRel ρ1 (first.toList ++ [.func (.yield l) #[] #[]] ++ captured.toList) (a1'.toList ++ [.func (.yield q.r) #[] #[]] ++ b1'.toList) :=
    (((LRel.ofArrays ha1 hh1).mono hst.mono).append (LRel.cons (.yield l q hl) LRel.nil)).append ((LRel.ofArrays hb1 hh2).mono hst.mono)
  obtain ⟨⟨fn0, f1, f2, f3⟩, hcalls⟩ := hsim.fn gf _ h1 v2 h2 hcall ρ1 w1 _ hst.rel hargs
  have earr : (a1'.toList ++ [Value.func (.yield q.r) #[] #[]] ++ b1'.toList).toArray = a1' ++ #[Value.func (.yield q.r) #[] #[]] ++ b1' := by apply Array.ext'; simp
  rw [earr] at hcalls
  generalize hA : a1' ++ #[Value.func (.yield q.r) #[] #[]] ++ b1' = A at hcalls
  have hcin : CallsIn (Fz rr) 0 P gf A w1 (rangePost (Fz rr) 0 P q.r Q { a with defers := mark ++ a.defers }) := by
    refine callsIn_fz.2 (hcalls.mono ?_)
    clear hcalls
    rintro e w3 ⟨rv, ρ3, rfl, _, hst2⟩
    have hq3 := hst2.mono _ _ hl
    have fin : ∀ (st : LoopState) (y : AExit) (tt : Tmps) (pp : Array Tmp) (aa bb : Code) (dd : Nat), h2.get l = some (.loop st y tt pp aa bb dd) → st ≠ .busy → y = x → t = t' → h2.drop l = h' →
        rangePost (Fz rr) 0 P q.r Q { a with defers := mark ++ a.defers } (.returned rv) w3 := by
      rintro st y tt pp aa bb dd hgl hne rfl rfl rfl
      obtain ⟨rl, p, k⟩ := hst2.rel.blk l q _ hq3 hgl
      have hlt := (hst2.rel.dom l q hq3).2
      have hkill : Step P ρ3 h2 w3 ρ3 (h2.drop l) (w3.putObj q.r (.loop { rl with state := .exhausted })) :=
        step_kill hst2.rel hq3 hgl rfl (fun i hi => World.putObj_heap_other hi) World.putObj_size rfl rfl rfl
      have hr4 := run_endLoop (P := P) k.at_ (by rw [k.st_]; exact hne)
      generalize w3.putObj q.r (.loop { rl with state := .exhausted }) = w4 at hr4 hkill
      rw [k.pend] at hr4
      have hpost : PostC P ρ h w t (h2.drop l) a.tmps.size { a with defers := mark ++ a.defers } w4 := by
        have hm2 := (honw _ _ _ _ _ hcall).marks
        refine ⟨ρ3, ht.mono (fun b p hp => hst2.mono _ _ (hst.mono _ _ hp)), rfl, ?_, (hst.trans hst2).trans hkill⟩
        show DRel ρ3 h2.marks (mark ++ a.defers)
        rw [hm2]; exact hmark.mono hst2.mono
      refine ⟨jumpOf y, w4, hr4, ?_⟩
      cases y with
      | normal => exact hQ _ _ hpost
      | exit i => exact wpIn_exit (hQ _ _ hpost)
      | ret => exact wpIn_ret (hQ _ _ hpost)
    split at ha
    · rename_i y tt pp aa bb dd hgl
      injection ha with ha; injection ha with e1 e2; injection e2 with e2 e3
      exact fin _ _ _ _ _ _ _ hgl (by decide) e1 e2 e3
    · rename_i y tt pp aa bb dd hgl
      injection ha with ha; injection ha with e1 e2; injection e2 with e2 e3
      exact fin _ _ _ _ _ _ _ hgl (by decide) e1 e2 e3
    · cases ha
  have hinv : (invoke (.fn (.func gf) b1') (a1' ++ #[Value.func (.yield q.r) #[] #[]])).run P w1 = .ok (.enter gf A) w1 := by
    simp only [invoke, hA]; exact callFunc_run f1 f2 f3 _ _
  have hres : (resolve a.eval (rangeCall g q.r) 0).run P w1 = .ok { target := .fn (.func gf) b1', args := a1' ++ #[Value.func (.yield q.r) #[] #[]] } w1 := by
    simp only [resolve, rangeCall, Deferred.ofValue, hge, Sem.run_pure, Sem.run_bind, Result.andThen_ok]
    have em : Array.map a.eval #[Operand.const (Value.func (Fn.yield q.r) #[] #[])] = #[Value.func (Fn.yield q.r) #[] #[]] := by
      rw [amap]; rfl
    rw [em]
  exact ⟨q.r, mark, w1, _, w1, gf, A, w1, hrun, hres, fun _ _ => trivial, hinv, (fun h => by cases h), hcin⟩
end
end Go.Am

/- Code, and calls: what the abstract machine says is what a call does. -/
namespace Go.Am
open Go

/-! ### What must hold of a program -/
def fnOk (fn : Func) : Bool := match fn.body with
  | none => true
  | some c => codeOk fn.ntmps c && !(fn.name == "runtime.NumGoroutine")
structure Good (P : Program) : Prop where
  mixed : P.follows .mixedOrders = true
  fns : P.funcs.toList.all fnOk = true

section
variable {P : Program} {C : CallFn}

theorem dst_of {n : Nat} {id : Nat} {ops : Array Oper} {b : Bool} (h : codeOk n (.region id ops b) = true) : dstOk n ops.toList := by
  intro o ho d hd
  simp only [codeOk] at h
  have := List.all_eq_true.1 h o ho
  simp only [hd] at this
  simpa [blt_iff] using this

theorem post_trans {ρ ρ1 : Ren} {h h1 h2 : AH} {w w1 : World} {t2 : Tmps} {n : Nat} {a' : Act} {w' : World} (s : Step P ρ h w ρ1 h1 w1) (p : PostC P ρ1 h1 w1 t2 h2 n a' w') : PostC P ρ h w t2 h2 n a' w' := by
  obtain ⟨ρ2, k1, k2, k3, k4⟩ := p
  exact ⟨ρ2, k1, k2, k3, s.trans k4⟩

theorem TRel.cut {ρ : Ren} {t : Tmps} {tmps : Array Value} (ht : TRel ρ t tmps) (L : Lv) (c : Code) : TRel ρ (cut L c t) tmps := by
  unfold Am.cut
  split
  · exact fun i v hv => ht i v (restr_get _ _ _ _ hv).2
  · exact ht

theorem TRel.meet {ρ : Ren} {t : Tmps} {tmps : Array Value} (ht : TRel ρ t tmps) (L : Lv) (c : Code) : TRel ρ (meet L c t) tmps := by
  unfold Am.meet
  split
  · exact fun i v hv => ht i v (restr_get _ _ _ _ hv).2
  · exact ht

theorem acode_sound (hm : P.follows .mixedOrders = true) (hsim : Sim P C) (honw : COnw C) (L : Lv) (rd : Option Nat) : ∀ (n : Nat),
    (∀ (c : Code) (t t' : Tmps) (h h' : AH) (x : AExit), acode P C L rd n c t h = some (x, t', h') → ∀ (ρ : Ren) (w : World) (a : Act) (rr : Option Nat), RdRel ρ rd rr → Rel P ρ h w → TRel ρ t a.tmps → DRel ρ h.marks a.defers → codeOk a.tmps.size c = true →
      ∀ Q : Exit → Act → World → Prop, (∀ a' w', PostC P ρ h w t' h' a.tmps.size a' w' → Q (exitOf x) a' w') → c.wpIn (Fz rr) 0 P Q a w) ∧
    (∀ (body : Code) (t t' : Tmps) (h h' : AH) (x : AExit), acode P C L rd n (.loop body) t h = some (x, t', h') → ∀ (ρ : Ren) (w : World) (a : Act) (rr : Option Nat), RdRel ρ rd rr → Rel P ρ h w → TRel ρ t a.tmps → DRel ρ h.marks a.defers → codeOk a.tmps.size body = true →
      ∀ Q : Exit → Act → World → Prop, (∀ a' w', PostC P ρ h w t' h' a.tmps.size a' w' → Q (exitOf x) a' w') → Code.roundsIn (Fz rr) 0 P body Q n a w) := by
  intro n
  induction n with
  | zero => exact ⟨fun c t t' h h' x ha => by simp [acode] at ha, fun c t t' h h' x ha => by simp [acode] at ha⟩
  | succ n ih =>
    obtain ⟨ihA, ihB⟩ := ih
    have loopB : ∀ (body : Code) (t t' : Tmps) (h h' : AH) (x : AExit), acode P C L rd (n + 1) (.loop body) t h = some (x, t', h') → ∀ (ρ : Ren) (w : World) (a : Act) (rr : Option Nat), RdRel ρ rd rr → Rel P ρ h w → TRel ρ t a.tmps → DRel ρ h.marks a.defers → codeOk a.tmps.size body = true →
        ∀ Q : Exit → Act → World → Prop, (∀ a' w', PostC P ρ h w t' h' a.tmps.size a' w' → Q (exitOf x) a' w') → Code.roundsIn (Fz rr) 0 P body Q (n + 1) a w := by
      intro body t t' h h' x ha ρ w a rr hrd r ht hd hok Q hQ
      rw [roundsIn_succ]
      simp only [acode] at ha
      split at ha
      · rename_i t1 h1 hb
        refine ihA body _ _ _ _ _ hb ρ w a rr hrd r (ht.cut L body) hd hok _ ?_
        intro a1 w1 p1
        have p1' := p1
        obtain ⟨ρ1, k1, k2, k3, k4⟩ := p1
        refine ihB body _ _ _ _ _ ha ρ1 w1 a1 rr (hrd.mono k4.mono) k4.rel k1 k3 (by rw [k2]; exact hok) Q ?_
        intro a' w' p2
        exact hQ a' w' (by rw [k2] at p2; exact post_trans k4 p2)
      · rename_i r0 hr0
        refine ihA body _ _ _ _ _ ha ρ w a rr hrd r (ht.cut L body) hd hok _ ?_
        intro a' w' p
        have := hQ a' w' p
        cases x with
        | normal => exact absurd ha (hr0 _ _)
        | exit i => exact this
        | ret => exact this
    refine ⟨?_, loopB⟩
    intro c t t' h h' x ha ρ w a rr hrd r ht hd hok Q hQ
    have done : ∀ (y : AExit) , x = y → t' = t → h' = h → Q (exitOf y) a w := by
      rintro y rfl rfl rfl
      exact hQ a w ⟨ρ, ht, rfl, hd, Step.refl r⟩
    have toC : ∀ {t1 : Tmps} {h1 : AH} {a' : Act} {w' : World}, Onw h h1 → Post P ρ h w t1 h1 a.tmps.size a.defers a' w' → PostC P ρ h w t1 h1 a.tmps.size a' w' := by
      rintro t1 h1 a' w' ho ⟨ρ', k1, k2, k3, k4⟩
      exact ⟨ρ', k1, k2, by rw [k3, ho.marks]; exact hd.mono k4.mono, k4⟩
    cases c with
    | skip =>
      simp only [acode] at ha
      injection ha with ha; injection ha with e1 e2; injection e2 with e2 e3
      exact wpIn_skip (done .normal e1.symm e2.symm e3.symm)
    | region id ops b =>
      cases b with
      | false =>
        simp only [acode] at ha
        split at ha
        · rename_i t1 h1 hops
          injection ha with ha; injection ha with e1 e2; injection e2 with e2 e3; subst e1; subst e2; subst e3
          exact wpIn_region_list (aops_sound hsim ops.toList _ _ _ _ ρ w a hops r ht (dst_of hok) (fun a' w' p => hQ a' w' (toC (aops_onw honw _ _ _ _ _ hops) p)))
        · cases ha
      | true =>
        simp only [acode] at ha
        split at ha
        · rename_i t1 h1 hops
          injection ha with ha; injection ha with e1 e2; injection e2 with e2 e3; subst e1; subst e2; subst e3
          exact adraw_sound hm hsim honw hops r ht (dst_of hok) (fun a' w' p => hQ a' w' (toC (adraw_onw honw hops) p))
        · cases ha
    | seq c1 c2 =>
      simp only [codeOk, Bool.and_eq_true] at hok
      simp only [acode] at ha
      split at ha
      · rename_i t1 h1 hb
        refine wpIn_seq (ihA c1 _ _ _ _ _ hb ρ w a rr hrd r ht hd hok.1 _ ?_)
        rintro a1 w1 ⟨ρ1, k1, k2, k3, k4⟩
        refine ihA c2 _ _ _ _ _ ha ρ1 w1 a1 rr (hrd.mono k4.mono) k4.rel (k1.meet L c1) k3 (by rw [k2]; exact hok.2) Q ?_
        intro a' w' p2
        exact hQ a' w' (by rw [k2] at p2; exact post_trans k4 p2)
      · rename_i r0 hr0
        refine wpIn_seq (ihA c1 _ _ _ _ _ ha ρ w a rr hrd r ht hd hok.1 _ ?_)
        intro a' w' p
        have := hQ a' w' p
        cases x with
        | normal => exact absurd ha (hr0 _ _)
        | exit i => exact this
        | ret => exact this
    | cond c1 x1 y1 =>
      simp only [codeOk, Bool.and_eq_true] at hok
      simp only [acode] at ha
      split at ha
      · rename_i hc
        exact wpIn_cond_true ((ht.ev.ev _ _ hc).bool_inv) (ihA x1 _ _ _ _ _ ha ρ w a rr hrd r ht hd hok.1 Q hQ)
      · rename_i hc
        exact wpIn_cond_false ((ht.ev.ev _ _ hc).bool_inv) (ihA y1 _ _ _ _ _ ha ρ w a rr hrd r ht hd hok.2 Q hQ)
      · cases ha
    | block id body =>
      simp only [codeOk] at hok
      simp only [acode] at ha
      split at ha
      · rename_i i t1 h1 hb
        injection ha with ha; injection ha with e1 e2; injection e2 with e2 e3; subst e1; subst e2; subst e3
        refine wpIn_block (ihA body _ _ _ _ _ hb ρ w a rr hrd r ht hd hok _ ?_)
        intro a' w' p
        have := hQ a' w' p
        simp only [exitOf, Exit.inBlock]
        by_cases hi : i = id
        · rw [beqt hi] at this; rw [if_pos hi]; exact this
        · rw [beqf hi] at this; rw [if_neg hi]; exact this
      · rename_i r0 hr0
        refine wpIn_block (ihA body _ _ _ _ _ ha ρ w a rr hrd r ht hd hok _ ?_)
        intro a' w' p
        have := hQ a' w' p
        cases x with
        | normal => exact this
        | exit i => exact absurd ha (hr0 _ _ _)
        | ret => exact this
    | loop body =>
      simp only [codeOk] at hok
      exact wpIn_loop_rounds (n + 1) (loopB body _ _ _ _ _ ha ρ w a rr hrd r ht hd hok Q hQ)
    | exit id =>
      simp only [acode] at ha
      injection ha with ha; injection ha with e1 e2; injection e2 with e2 e3
      exact wpIn_exit (done (.exit id) e1.symm e2.symm e3.symm)
    | ret =>
      simp only [acode] at ha
      injection ha with ha; injection ha with e1 e2; injection e2 with e2 e3
      exact wpIn_ret (done .ret e1.symm e2.symm e3.symm)
    | rangeFunc g ps assign body =>
      simp only [codeOk, Bool.and_eq_true] at hok
      simp only [acode] at ha
      split at ha
      · rename_i f first captured l h1 hg hent
        split at ha
        · rename_i v2 h2 hcall
          exact range_sound hsim honw hrd r ht hd hok hg (ht.cut L body) hent hcall ha hQ
        · cases ha
      · cases ha
    | scope => simp [acode] at ha
    | label => simp [acode] at ha
    | goto => simp [acode] at ha
    | refuse => simp [acode] at ha
end
end Go.Am

/- Calls: results, parameters, and what a call of the abstract machine says. -/
namespace Go.Am
open Go

section
variable {P : Program} {ρ : Ren} {h : AH} {w : World}

def resRun (tmps : Array Value) : ResultVar → Sem Value
  | .tmp t => pure (tmps.getD t undef)
  | .cell a t => do loadVar t (← asAddr (tmps.getD a undef))

theorem results1_sound (r : Rel P ρ h w) {t : Tmps} {tmps : Array Value} (ht : TRel ρ t tmps) {x : ResultVar} {v : Value} (hx : results1 P t h x = some v) :
    ∃ v', (resRun tmps x).run P w = .ok v' w ∧ VRel ρ v v' := by
  cases x with
  | tmp i =>
    simp only [results1] at hx
    exact ⟨_, by simp [resRun], (ht _ _ hx).2⟩
  | cell i ty =>
    simp only [results1] at hx
    split at hx
    · rename_i a ha
      have hv := (ht _ _ ha).2
      obtain ⟨v', h1, h2⟩ := aload_sound r hx hv
      refine ⟨v', ?_, h2⟩
      simp only [resRun]
      generalize tmps.getD i undef = x' at hv h1 ⊢
      cases hv with
      | ptr b o q hq =>
        simpa [asAddr, Instr.loadAt, Instr.sureAddr] using h1
    · cases hx

theorem resultsL_sound (r : Rel P ρ h w) {t : Tmps} {tmps : Array Value} (ht : TRel ρ t tmps) : ∀ (l : List ResultVar) (vs : List Value), resultsL P t h l = some vs → ∀ acc : Array Value,
    ∃ vs', (l.foldlM (fun bs a => bs.push <$> resRun tmps a) acc).run P w = .ok (acc ++ vs'.toArray) w ∧ LRel ρ vs vs' := by
  intro l
  induction l with
  | nil =>
    intro vs hv acc
    simp only [resultsL] at hv
    injection hv with hv; subst hv
    exact ⟨[], by simp, LRel.nil⟩
  | cons x l ih =>
    intro vs hv acc
    simp only [resultsL] at hv
    split at hv
    · rename_i v vs0 h1 h2
      injection hv with hv; subst hv
      obtain ⟨v', k1, k2⟩ := results1_sound r ht h1
      obtain ⟨vs', k3, k4⟩ := ih vs0 h2 (acc.push v')
      refine ⟨v' :: vs', ?_, LRel.cons k2 k4⟩
      simp only [List.foldlM_cons, Sem.run_bind, Sem.run_map, k1, Result.andThen_ok]
      have e : acc ++ (v' :: vs').toArray = acc.push v' ++ vs'.toArray := by apply Array.ext'; simp
      rw [e]; exact k3
    · cases hv

theorem aresults_sound (r : Rel P ρ h w) {fn : Func} {t : Tmps} {tmps : Array Value} (ht : TRel ρ t tmps) {v : Value} (hv : aresults P fn.results.toList t h = some v) :
    ∃ v', (results fn tmps).run P w = .ok v' w ∧ VRel ρ v v' := by
  have key : ∀ vs vs' : List Value, resultsL P t h fn.results.toList = some vs → LRel ρ vs vs' → (results fn tmps).run P w = .ok (if h : vs'.toArray.size = 1 then vs'.toArray[0] else .tuple vs'.toArray) w → 
      ∃ v', (results fn tmps).run P w = .ok v' w ∧ VRel ρ v v' := by
    intro vs vs' h1 h2 h3
    unfold aresults at hv
    rw [h1] at hv
    match vs, vs', h2, h3, hv with
    | [], vs', h2, h3, hv =>
      have := h2.nil_inv; subst this
      injection hv with hv; subst hv
      exact ⟨_, h3, .tuple _ _ rfl fun i v v' hv => by simp at hv⟩
    | [a], vs', h2, h3, hv =>
      obtain ⟨b, bs, rfl, k1, k2⟩ := h2.cons_inv
      have := k2.nil_inv; subst this
      injection hv with hv; subst hv
      exact ⟨_, h3, k1⟩
    | a :: b :: l, vs', h2, h3, hv =>
      obtain ⟨a', l', rfl, k1, k2⟩ := h2.cons_inv
      obtain ⟨b', l'', rfl, k3, k4⟩ := k2.cons_inv
      injection hv with hv; subst hv
      refine ⟨_, h3, ?_⟩
      rw [dif_neg (by simp)]
      exact .tuple _ _ h2.toArrays.1 h2.toArrays.2
  cases hvs : resultsL P t h fn.results.toList with
  | none => unfold aresults at hv; rw [hvs] at hv; cases hv
  | some vs =>
    obtain ⟨vs', h1, h2⟩ := resultsL_sound r ht _ _ hvs #[]
    refine key vs vs' hvs h2 ?_
    have e : (fn.results.mapM (resRun tmps)).run P w = .ok vs'.toArray w := by
      rw [Array.mapM_eq_foldlM, ← Array.foldlM_toList, h1]
      congr 1; apply Array.ext'; simp
    have e2 : results fn tmps = (do let vs ← fn.results.mapM (resRun tmps); pure (if h : vs.size = 1 then vs[0] else .tuple vs)) := rfl
    rw [e2]
    simp only [Sem.run_bind, e, Result.andThen_ok, Sem.run_pure]

theorem params_get : ∀ (vs : List Value) (i : Nat) (t : Tmps) (j : Nat), (params i vs t).get j = if i ≤ j ∧ j < i + vs.length then vs[j - i]? else t.get j := by
  intro vs
  induction vs with
  | nil => intro i t j; simp only [params, List.length_nil]; rw [if_neg (by omega)]
  | cons v vs ih =>
    intro i t j
    simp only [params, List.length_cons]
    rw [ih]
    by_cases h1 : j = i
    · subst h1
      rw [if_neg (by omega), if_pos (by omega), PT.get_set_same]; simp
    · by_cases h2 : i + 1 ≤ j ∧ j < i + 1 + vs.length
      · rw [if_pos h2, if_pos (by omega)]
        have : j - i = (j - (i + 1)) + 1 := by omega
        rw [this]; simp
      · rw [if_neg h2, if_neg (by omega), PT.get_set_ne _ _ h1]

theorem params_rel {args rargs : List Value} (hr : LRel ρ args rargs) {n : Nat} (hn : args.length ≤ n) : TRel ρ (params 0 args .nil) (rargs.toArray ++ Array.replicate (n - rargs.toArray.size) undef) := by
  intro i v hv
  rw [params_get] at hv
  split at hv
  · rename_i hi
    have hl := hr.1
    simp only [Nat.sub_zero] at hv
    have hi' : i < rargs.length := by omega
    refine ⟨by simp; omega, ?_⟩
    have : rargs[i]? = some rargs[i] := by simp [hi']
    have hvr := hr.2 i v _ hv this
    have e : (rargs.toArray ++ Array.replicate (n - rargs.toArray.size) undef).getD i undef = rargs[i] := by
      simp [Array.getD, Array.getElem_append, hi']; omega
    rw [e]; exact hvr
  · cases hv

end
end Go.Am

/- Calls: the abstract machine is right. -/
namespace Go.Am
open Go Go.RowKit

section
variable {P : Program}

/-- Memory goes on, marks aside. -/
structure Onw0 (h h' : AH) : Prop where
  next : h.next ≤ h'.next
  dead : ∀ a, a < h.next → h.get a = none → h'.get a = none
theorem Onw.weak {h h' : AH} (x : Onw h h') : Onw0 h h' := ⟨x.next, x.dead⟩
theorem Onw0.trans {h h1 h2 : AH} (x : Onw0 h h1) (y : Onw0 h1 h2) : Onw0 h h2 := ⟨Nat.le_trans x.next y.next, fun a ha hd => y.dead a (Nat.lt_of_lt_of_le ha x.next) (x.dead a ha hd)⟩
theorem Onw0.with {h h' : AH} (x : Onw0 h h') : Onw h { h' with marks := h.marks } := ⟨rfl, x.next, x.dead⟩
theorem Onw0.from_ {h h' : AH} {m : List Nat} (x : Onw0 { h with marks := m } h') : Onw0 h h' := ⟨x.next, x.dead⟩
theorem dropMarks_onw : ∀ (ms : List Nat) (h h' : AH), dropMarks ms h = some h' → Onw0 h h' := by
  intro ms
  induction ms with
  | nil => intro h h' e; injection e with e; subst e; exact (Onw.refl _).weak
  | cons m ms ih =>
    intro h h' e
    simp only [dropMarks] at e
    split at e
    · exact (Onw.drop _ _).weak.trans (ih _ _ e)
    · cases e

theorem acode_onw0 {C : CallFn} (hC : COnw C) (L : Lv) (rd : Option Nat) : ∀ (n : Nat) (c : Code) (t t' : Tmps) (h h' : AH) (x : AExit), acode P C L rd n c t h = some (x, t', h') → Onw0 h h' := by
  intro n
  induction n with
  | zero => intro c t t' h h' x ha; simp [acode] at ha
  | succ n ih =>
    intro c t t' h h' x ha
    cases c with
    | skip => simp only [acode] at ha; injection ha with ha; injection ha with e1 e2; injection e2 with e2 e3; subst e3; exact (Onw.refl _).weak
    | exit id => simp only [acode] at ha; injection ha with ha; injection ha with e1 e2; injection e2 with e2 e3; subst e3; exact (Onw.refl _).weak
    | ret => simp only [acode] at ha; injection ha with ha; injection ha with e1 e2; injection e2 with e2 e3; subst e3; exact (Onw.refl _).weak
    | region id ops b =>
      cases b with
      | false =>
        simp only [acode] at ha
        split at ha
        · rename_i t1 h1 hops
          injection ha with ha; injection ha with e1 e2; injection e2 with e2 e3; subst e3
          exact (aops_onw hC _ _ _ _ _ hops).weak
        · cases ha
      | true =>
        simp only [acode] at ha
        split at ha
        · rename_i t1 h1 hops
          injection ha with ha; injection ha with e1 e2; injection e2 with e2 e3; subst e3
          exact (adraw_onw hC hops).weak
        · cases ha
    | seq c1 c2 =>
      simp only [acode] at ha
      split at ha
      · rename_i t1 h1 hb
        exact (ih _ _ _ _ _ _ hb).trans (ih _ _ _ _ _ _ ha)
      · exact ih _ _ _ _ _ _ ha
    | cond c1 x1 y1 =>
      simp only [acode] at ha
      split at ha
      · exact ih _ _ _ _ _ _ ha
      · exact ih _ _ _ _ _ _ ha
      · cases ha
    | block id body =>
      simp only [acode] at ha
      split at ha
      · rename_i i t1 h1 hb
        injection ha with ha; injection ha with e1 e2; injection e2 with e2 e3; subst e3
        exact ih _ _ _ _ _ _ hb
      · exact ih _ _ _ _ _ _ ha
    | loop body =>
      simp only [acode] at ha
      split at ha
      · rename_i t1 h1 hb
        exact (ih _ _ _ _ _ _ hb).trans (ih _ _ _ _ _ _ ha)
      · exact ih _ _ _ _ _ _ ha
    | rangeFunc g ps assign body =>
      simp only [acode] at ha
      split at ha
      · rename_i f first captured l h1 hg hent
        split at ha
        · rename_i v2 h2 hcall
          have e1 : Onw0 h h1 := by
            unfold aenter at hent
            split at hent
            · injection hent with hent; injection hent with e1 e2; subst e2
              have e := ((Onw.alloc h .defd).trans (Onw.alloc (h.alloc .defd) (.loop .ready .normal (cut L body t) ps assign body h.next))).weak
              exact ⟨e.next, e.dead⟩
            · split at hent
              · injection hent with hent; injection hent with e1 e2; subst e2
                exact (Onw.alloc h _).weak
              · cases hent
          have e2 := (hC _ _ _ _ _ hcall).weak
          split at ha
          · injection ha with ha; injection ha with k1 k2; injection k2 with k2 k3; subst k3
            exact (e1.trans e2).trans (Onw.drop _ _).weak
          · injection ha with ha; injection ha with k1 k2; injection k2 with k2 k3; subst k3
            exact (e1.trans e2).trans (Onw.drop _ _).weak
          · cases ha
        · cases ha
      · cases ha
    | scope => simp [acode] at ha
    | label => simp [acode] at ha
    | goto => simp [acode] at ha
    | refuse => simp [acode] at ha

/-- What must hold of a summary that is plugged in for a function. -/
structure ExtOk (P : Program) (X : Ext) : Prop where
  onw : ∀ f e, X f = some e → ∀ args h v h', e args h = some (v, h') → Onw h h'
  sim : ∀ f e, X f = some e → ∀ (args : List Value) (h : AH) (v : Value) (h' : AH), e args h = some (v, h') → ∀ (ρ : Ren) (w : World) (rargs : List Value), Rel P ρ h w → LRel ρ args rargs →
    (∃ fn, P.funcs[f]? = some fn ∧ fn.body.isSome = true ∧ (fn.name == "runtime.NumGoroutine") = false) ∧
    Calls P f rargs.toArray w fun e w' => ∃ rv ρ', e = .returned rv ∧ VRel ρ' v rv ∧ Step P ρ h w ρ' h' w'

theorem acall_onw {X : Ext} (hX : ExtOk P X) (L : FuncId → Lv) : ∀ n, COnw (acall P X L n) := by
  intro n
  induction n with
  | zero => intro f args h v h' ha; simp [acall] at ha
  | succ n ih =>
    intro f args h v h' ha
    cases f with
    | fn f =>
      simp only [acall] at ha
      split at ha
      · exact hX.onw _ _ (by assumption) _ _ _ _ ha
      · split at ha
        · split at ha
          · rename_i _ fn hfn _ c hc
            cases hb : Nat.ble args.length fn.ntmps with
            | false => rw [hb] at ha; cases ha
            | true =>
            rw [hb] at ha
            simp only [cond_true] at ha
            split at ha
            · cases ha
            · rename_i x t h1 hne hcode
              split at ha
              · rename_i h2 hdrop
                split at ha
                · injection ha with ha; injection ha with e1 e2; subst e2
                  exact ((acode_onw0 ih _ none _ _ _ _ _ _ _ hcode).from_.trans (dropMarks_onw _ _ _ hdrop)).with
                · cases ha
              · cases ha
            · cases ha
          · cases ha
        · cases ha
    | yield l =>
      simp only [acall] at ha
      split at ha
      · rename_i x0 tmps ps assign body d hgl
        split at ha
        · rename_i t0 hargs
          split at ha
          · rename_i t1 h1 hc1
            split at ha
            · rename_i x1 tmps1 ps1 assign1 body1 d1 hgl1
              split at ha
              · rename_i x t2 h2 hc2
                split at ha
                · rename_i x2 tmps2 ps2 assign2 body2 d2 hgl2 hmk
                  injection ha with ha; injection ha with e1 e2; subst e2
                  exact (((acode_onw0 ih _ _ _ _ _ _ _ _ _ hc1).from_.trans (Onw.set hgl1 _).weak).trans ((acode_onw0 ih _ _ _ _ _ _ _ _ _ hc2).trans (Onw.set hgl2 _).weak)).with
                · cases ha
              · cases ha
            · cases ha
          · cases ha
        · cases ha
      · cases ha

end
end Go.Am

/- Calls: the abstract machine is right, loops over functions and all. -/
namespace Go.Am
open Go Go.RowKit

section
variable {P : Program}

theorem leaves_sound {fn : Func} {tmps : Array Value} {R : Ending → World → Prop} {ρ : Ren} : ∀ (ms : List Nat) (ds : List Deferred) (h1 h2 : AH) (w : World), dropMarks ms h1 = some h2 → DRel ρ ms ds → Rel P ρ h1 w →
    (∀ w2, Step P ρ h1 w ρ h2 w2 → ∃ v, (results fn tmps).run P w2 = .ok v w2 ∧ R (.returned v) w2) → LeavesInM (Fz none) 0 P fn tmps R ds .returning w := by
  intro ms
  induction ms with
  | nil =>
    intro ds h1 h2 w hd hr r hQ
    cases ds with
    | cons d ds => exact hr.elim
    | nil =>
      injection hd with hd; subst hd
      exact hQ w (Step.refl r)
  | cons m ms ih =>
    intro ds h1 h2 w hd hr r hQ
    cases ds with
    | nil => exact hr.elim
    | cons d ds =>
      obtain ⟨⟨q, hq, rfl⟩, hr⟩ := hr
      simp only [dropMarks] at hd
      split at hd
      · rename_i hg
        have hobj : w.heap[q.r]? = some (.deferred (some [])) := r.blk m q _ hq hg
        have hkill : Step P ρ h1 w ρ (h1.drop m) (w.putObj q.r (.deferred none)) := step_kill r hq hg rfl (fun i hi => World.putObj_heap_other hi) World.putObj_size rfl rfl rfl
        refine ⟨(by intro e; cases e), .inl ⟨q.r, w.putObj q.r (.deferred none), rfl, run_takeDeferred hobj, ?_⟩⟩
        exact ih ds _ h2 _ hd hr hkill.rel (fun w2 hs => hQ w2 (hkill.trans hs))
      · cases hd

theorem fnOk_inv (hP : Good P) {f : Nat} {fn : Func} (hf : P.funcs[f]? = some fn) {c : Code} (hc : fn.body = some c) : codeOk fn.ntmps c = true ∧ (fn.name == "runtime.NumGoroutine") = false := by
  have := List.all_eq_true.1 hP.fns fn (by
    have := Array.mem_of_getElem? hf
    exact Array.mem_toList_iff.2 this)
  simp only [fnOk, hc, Bool.and_eq_true, Bool.not_eq_true'] at this
  exact this

theorem roundArgs_sound {ρ : Ren} : ∀ (ps : List Tmp) (vs vs' : List Value) (t t0 : Tmps) (tmps : Array Value), roundArgs ps vs t = some t0 → LRel ρ vs vs' → TRel ρ t tmps → (ps.all fun p => Nat.blt p tmps.size) = true → vs'.length = ps.length ∧
    TRel ρ t0 ((ps.zip vs').foldl (fun tmps (x : Tmp × Value) => tmps.setIfInBounds x.1 x.2) tmps) ∧ ((ps.zip vs').foldl (fun tmps (x : Tmp × Value) => tmps.setIfInBounds x.1 x.2) tmps).size = tmps.size := by
  intro ps
  induction ps with
  | nil =>
    intro vs vs' t t0 tmps h hr ht _
    cases vs with
    | cons v vs => simp [roundArgs] at h
    | nil =>
      injection h with h; subst h
      rw [hr.nil_inv]
      exact ⟨rfl, ht, rfl⟩
  | cons p ps ih =>
    intro vs vs' t t0 tmps h hr ht hlt
    cases vs with
    | nil => simp [roundArgs] at h
    | cons v vs =>
      obtain ⟨v', l, rfl, h1, h2⟩ := hr.cons_inv
      simp only [List.all_cons, Bool.and_eq_true] at hlt
      have hp : p < tmps.size := by simpa [blt_iff] using hlt.1
      simp only [roundArgs] at h
      have ht' : TRel ρ (t.set p v) (tmps.setIfInBounds p v') := by
        intro i u hu
        rw [PT.get_set] at hu
        by_cases e : i = p
        · subst e
          rw [if_pos rfl] at hu; injection hu with hu; subst hu
          refine ⟨by simpa using hp, ?_⟩
          simpa [Array.getD, hp] using h1
        · rw [if_neg e] at hu
          obtain ⟨k1, k2⟩ := ht i u hu
          refine ⟨by simpa using k1, ?_⟩
          have : (tmps.setIfInBounds p v').getD i undef = tmps.getD i undef := by
            simp [Array.getD_eq_getD_getElem?, Array.getElem?_setIfInBounds_ne (Ne.symm e)]
          rw [this]; exact k2
      obtain ⟨k1, k2, k3⟩ := ih vs l _ t0 (tmps.setIfInBounds p v') h h2 ht' (by simpa using hlt.2)
      exact ⟨by simp [k1], k2, by simpa using k3⟩
end
end Go.Am

/- Calls: what the abstract machine says of a call is what the call does. -/
namespace Go.Am
open Go Go.RowKit

section
variable {P : Program}

theorem acall_fn (hP : Good P) {X : Ext} (hX : ExtOk P X) {L : FuncId → Lv} {n : Nat} (ih : Sim P (acall P X L n)) {f : FuncId} {args : List Value} {h h' : AH} {v : Value} (ha : acall P X L (n + 1) (.fn f) args h = some (v, h')) {ρ : Ren} {w : World} {rargs : List Value} (r : Rel P ρ h w) (hr : LRel ρ args rargs) :
    (∃ fn, P.funcs[f]? = some fn ∧ fn.body.isSome = true ∧ (fn.name == "runtime.NumGoroutine") = false) ∧
    Calls P f rargs.toArray w fun e w' => ∃ rv ρ', e = .returned rv ∧ VRel ρ' v rv ∧ Step P ρ h w ρ' h' w' := by
  simp only [acall] at ha
  split at ha
  · exact hX.sim _ _ (by assumption) _ _ _ _ ha ρ w rargs r hr
  · split at ha
    · split at ha
      · rename_i _ fn hfn _ c hc
        obtain ⟨hok, hname⟩ := fnOk_inv hP hfn hc
        refine ⟨⟨fn, hfn, by simp [hc], hname⟩, ?_⟩
        cases hb : Nat.ble args.length fn.ntmps with
        | false => rw [hb] at ha; cases ha
        | true =>
        have hle : args.length ≤ fn.ntmps := Nat.le_of_ble_eq_true hb
        rw [hb] at ha
        simp only [cond_true] at ha
        have hsz : (rargs.toArray ++ Array.replicate (fn.ntmps - rargs.toArray.size) undef).size = fn.ntmps := by
          have := hr.1; simp; omega
        refine (callsIn_fz (rd := none) (n := 0)).1 (callsIn_of_wp_marks hfn hc trivial ?_)
        have leave : ∀ (x : AExit) (t : Tmps) (h1 h2 : AH) (v0 : Value), dropMarks h1.marks h1 = some h2 → aresults P fn.results.toList t h2 = some v0 → v0 = v → { h2 with marks := h.marks } = h' → ∀ a' w',
            PostC P ρ { h with marks := [] } w t h1 fn.ntmps a' w' → LeavesInM (Fz none) 0 P fn a'.tmps (fun e w' => ∃ rv ρ', e = .returned rv ∧ VRel ρ' v rv ∧ Step P ρ h w ρ' h' w') a'.defers .returning w' := by
          rintro x t h1 h2 v0 hdm hres rfl rfl a' w' ⟨ρ', k1, k2, k3, k4⟩
          refine leaves_sound _ _ _ _ _ hdm k3 k4.rel fun w2 hs => ?_
          obtain ⟨v', m1, m2⟩ := aresults_sound hs.rel k1 hres
          exact ⟨v', m1, v', ρ', rfl, m2, (k4.trans hs).marks h.marks h.marks⟩
        split at ha
        · cases ha
        · rename_i x t h1 hne hcode
          split at ha
          · rename_i h2 hdm
            split at ha
            · rename_i v0 hv0
              injection ha with ha; injection ha with e1 e2
              refine (acode_sound hP.mixed ih (acall_onw hX L n) _ none n).1 _ _ _ _ _ _ hcode ρ w { tmps := rargs.toArray ++ Array.replicate (fn.ntmps - rargs.toArray.size) undef, defers := [] } none trivial (r.marks []) (params_rel hr hle) (show DRel ρ [] [] from trivial) (by show codeOk (Array.size _) c = true; rw [hsz]; exact hok) _ ?_
              intro a' w' p
              have p' : PostC P ρ { h with marks := [] } w t h1 fn.ntmps a' w' := by
                have p0 := p; rw [hsz] at p0; exact p0
              have := leave x t h1 h2 v0 hdm hv0 e1 e2 a' w' p'
              cases x with
              | normal => exact this
              | ret => exact this
              | exit i => exact absurd rfl (hne i)
            · cases ha
          · cases ha
        · cases ha
      · cases ha
    · cases ha
end
end Go.Am

/- Calls: a loop's round. -/
namespace Go.Am
open Go Go.RowKit

section
variable {P : Program}

theorem acall_yield (hP : Good P) {X : Ext} (hX : ExtOk P X) {L : FuncId → Lv} {n : Nat} (ih : Sim P (acall P X L n)) {l : Nat} {args : List Value} {h h' : AH} {v : Value} (ha : acall P X L (n + 1) (.yield l) args h = some (v, h')) {ρ : Ren} {w : World} {q : RB} {rargs : List Value} (r : Rel P ρ h w) (hq : ρ l = some q) (hr : LRel ρ args rargs) :
    ∃ fn tmps assign body, (Instr.yield q.r rargs.toArray).run P w = .ok (.round q.r fn tmps assign body) w ∧ RoundIn (Fz none) 0 P q.r fn tmps assign body w fun e w' => ∃ rv ρ', e = .returned rv ∧ VRel ρ' v rv ∧ Step P ρ h w ρ' h' w' := by
  simp only [acall] at ha
  split at ha
  · rename_i x0 tmps ps assign body d hgl
    obtain ⟨rl, p, k⟩ := r.blk l q _ hq hgl
    split at ha
    · rename_i t0 hargs
      split at ha
      · rename_i t1 h1 hc1
        split at ha
        · rename_i x1 tmps1 ps1 assign1 body1 d1 hgl1
          split at ha
          · rename_i x t2 h2 hc2
            split at ha
            · rename_i x2 tmps2 ps2 assign2 body2 d2 hgl2 hmk
              injection ha with ha; injection ha with e1 e2
              have hps := k.ps_; have has := k.assign_; have hbo := k.body_
              subst hps; subst has; subst hbo
              obtain ⟨g1, g2, g3⟩ := roundArgs_sound _ _ _ _ _ _ hargs hr k.tmps k.ok0
              have hy := run_yield (P := P) (args := rargs.toArray) k.at_ (by simpa using g1)
              refine ⟨_, _, _, _, hy, ?_⟩
              have hsz : ((rl.params.zip rargs.toArray).foldl (fun tmps (x : Tmp × Value) => tmps.setIfInBounds x.1 x.2) rl.tmps) = ((rl.params.toList.zip rargs).foldl (fun tmps (x : Tmp × Value) => tmps.setIfInBounds x.1 x.2) rl.tmps) := by
                rw [← Array.foldl_toList, Array.toList_zip]
              rw [hsz]
              refine roundIn_of_wpIn (F := Fz none) trivial ?_
              show rl.assign.wpIn (Fz (some q.r)) 0 P _ _ w
              refine (acode_sound hP.mixed ih (acall_onw hX L n) _ (some l) n).1 _ _ _ _ _ _ hc1 ρ w { tmps := _, defers := [] } (some q.r) ⟨q, hq, rfl⟩ (r.marks []) g2 (show DRel ρ [] [] from trivial) (by show codeOk (Array.size _) rl.assign = true; rw [g3]; exact k.ok1) _ ?_
              rintro a1 w1 ⟨ρ1, m1, m2, m3, s1⟩
              have hq1 := s1.mono _ _ hq
              obtain ⟨rl1, p1, k1⟩ := s1.rel.blk l q _ hq1 hgl1
              have hlt1 : q.r < w1.heap.size := (s1.rel.dom l q hq1).2
              have s2 : Step P ρ1 h1 w1 ρ1 (h1.set l (.loop .busy x1 tmps1 ps1 assign1 body1 d1)) (w1.putObj q.r (.loop { rl1 with state := .busy })) := by
                refine step_put s1.rel hq1 hgl1 rfl rfl ?_ (fun i hi => World.putObj_heap_other hi) World.putObj_size rfl rfl rfl
                exact ⟨{ rl1 with state := .busy }, p1, { at_ := World.putObj_heap_same hlt1, st_ := rfl, pend := k1.pend, tmps := k1.tmps, ps_ := k1.ps_, assign_ := k1.assign_, body_ := k1.body_, blk := k1.blk, defers := k1.defers, ok0 := k1.ok0, ok1 := k1.ok1, ok2 := k1.ok2 }⟩
              refine ⟨_, run_beginRound k1.at_ k1.st_, ?_⟩
              generalize w1.putObj q.r (.loop { rl1 with state := .busy }) = w2 at s2
              show rl.body.wpIn (Fz (some q.r)) 0 P _ _ w2
              have hsz1 : a1.tmps.size = rl.tmps.size := m2.trans g3
              refine (acode_sound hP.mixed ih (acall_onw hX L n) _ (some l) n).1 _ _ _ _ _ _ hc2 ρ1 w2 a1 (some q.r) ⟨q, hq1, rfl⟩ s2.rel m1 m3 (by rw [hsz1]; exact k.ok2) _ ?_
              rintro a2 w3 ⟨ρ2, t2r, z2, dr2, s3⟩
              have hq2 := s3.mono _ _ hq1
              obtain ⟨rl2, p2, k2⟩ := s3.rel.blk l q _ hq2 hgl2
              have hlt2 : q.r < w3.heap.size := (s3.rel.dom l q hq2).2
              have fin : ∀ (y : AExit) (b : Bool), y = x → b = (jumpOf y).isNone → (∃ v w4, (Instr.endRound q.r (jumpOf y)).run P w3 = .ok v w4 ∧ ∃ rv ρ', Ending.returned v = .returned rv ∧ VRel ρ' (.bool b) rv ∧ Step P ρ h w ρ' { h2.set l (.loop (bif b then .ready else .done) y tmps2 ps2 assign2 body2 d2) with marks := h.marks } w4) := by
                rintro y b rfl hb
                refine ⟨_, _, run_endRound (jumpOf y) k2.at_, .bool b, ρ2, by rw [hb], .bool b, ?_⟩
                have s4 : Step P ρ2 h2 w3 ρ2 (h2.set l (.loop (bif b then .ready else .done) y tmps2 ps2 assign2 body2 d2)) (w3.putObj q.r (.loop { rl2 with state := if (jumpOf y).isNone then .ready else .done, pending := jumpOf y })) := by
                  refine step_put s3.rel hq2 hgl2 rfl rfl ?_ (fun i hi => World.putObj_heap_other hi) World.putObj_size rfl rfl rfl
                  refine ⟨{ rl2 with state := if (jumpOf y).isNone then .ready else .done, pending := jumpOf y }, p2, { at_ := World.putObj_heap_same hlt2, st_ := ?_, pend := rfl, tmps := k2.tmps, ps_ := k2.ps_, assign_ := k2.assign_, body_ := k2.body_, blk := k2.blk, defers := k2.defers, ok0 := k2.ok0, ok1 := k2.ok1, ok2 := k2.ok2 }⟩
                  rw [hb]; cases (jumpOf y).isNone <;> rfl
                exact (((s1.trans s2).trans s3).trans s4).marks h.marks h.marks
              cases x with
              | normal =>
                obtain ⟨v4, w4, f1, f2⟩ := fin .normal true rfl rfl
                refine ⟨v4, w4, f1, ?_⟩
                rw [← e1, ← e2]; exact f2
              | ret =>
                obtain ⟨v4, w4, f1, f2⟩ := fin .ret false rfl rfl
                refine ⟨v4, w4, f1, ?_⟩
                rw [← e1, ← e2]; exact f2
              | exit i =>
                obtain ⟨v4, w4, f1, f2⟩ := fin (.exit i) false rfl rfl
                refine ⟨v4, w4, f1, ?_⟩
                rw [← e1, ← e2]; exact f2
            · cases ha
          · cases ha
        · cases ha
      · cases ha
    · cases ha
  · cases ha

theorem acall_sound (hP : Good P) {X : Ext} (hX : ExtOk P X) (L : FuncId → Lv) : ∀ n, Sim P (acall P X L n) := by
  intro n
  induction n with
  | zero => exact ⟨fun f args h v h' ha => by simp [acall] at ha, fun l args h v h' ha => by simp [acall] at ha⟩
  | succ n ih => exact ⟨fun f args h v h' ha ρ w rargs r hr => acall_fn hP hX ih ha r hr, fun l args h v h' ha ρ w q rargs r hq hr => acall_yield hP hX ih ha r hq hr⟩

/-! ### From outside -/
/-- No block stands for another yet. -/
def nowhere : Ren := fun _ => none
def noBlocks : AH := ⟨0, .nil, []⟩
theorem rel_nowhere (w : World) : Rel P nowhere noBlocks w where
  dom := fun a q h => by cases h
  blk := fun a q o h => by cases h
  sep := fun a a' q q' o o' h => by cases h
  out := fun a _ => rfl

/-- A call that is handed no memory: what it returns, and nothing else has changed. -/
theorem calls_flat (hP : Good P) {X : Ext} (hX : ExtOk P X) {L : FuncId → Lv} {n : Nat} {f : FuncId} {args : List Value} {v : Value} {h' : AH} (ha : acall P X L n (.fn f) args noBlocks = some (v, h')) (hv : flat v = true) (hargs : LRel nowhere args args) (w : World) :
    Calls P f args.toArray w fun e w' => e = .returned v ∧ Below w.heap.size w w' := by
  refine (((acall_sound hP hX L n).fn f args noBlocks v h' ha nowhere w args (rel_nowhere w) hargs).2).mono ?_
  rintro e w' ⟨rv, ρ', rfl, h1, h2⟩
  refine ⟨by rw [h1.flat_eq hv], h2.os, h2.tape, h2.output, h2.grow, fun k hk => h2.keep k hk ?_⟩
  rintro ⟨a, q, o, h, _⟩
  cases h
end
end Go.Am

