/- The abstract machine: operations that touch no memory are right. No conditions beyond those each theorem states. -/
import Derived.Test.YtpngimbillnjdaaAmA
import Derived.Laws.Entries
/- Operations that touch no memory: what the abstract machine says of related operands is what the model's own operation gives. -/
namespace Go.Am
open Go

theorem one_eq (v : Value) : one v = v.oneCell' := by cases v <;> rfl

/-! ### Computations that touch nothing -/
def quiet (P : Program) {α : Type} : Sem α → Prop
  | .pure _ => True
  | .halt _ => True
  | .program k => quiet P (k P)
  | .mark _ k => quiet P k
  | _ => False

theorem quiet.run {P : Program} {α : Type} {s : Sem α} (h : quiet P s) (w w2 : World) {v : α} {w' : World} (hr : s.run P w = .ok v w') : w' = w ∧ s.run P w2 = .ok v w2 := by
  induction s with
  | pure a => simp [Sem.run] at hr ⊢; exact ⟨hr.2.symm, hr.1⟩
  | halt x => simp [Sem.run] at hr
  | program k ih => exact ih P h (by simpa [Sem.run] using hr)
  | mark m k ih => exact ih h (by simpa [Sem.run] using hr)
  | load | store | new | shape | freeze | frozen | getObj | setObj | choose | sys => exact h.elim
theorem quiet.bind {P : Program} {α β : Type} {s : Sem α} {f : α → Sem β} (h : quiet P s) (hf : ∀ a, quiet P (f a)) : quiet P (s >>= f) := by
  show quiet P (s.bind f)
  induction s with
  | pure a => exact hf a
  | halt x => trivial
  | program k ih => exact ih P h
  | mark m k ih => exact ih h
  | load | store | new | shape | freeze | frozen | getObj | setObj | choose | sys => exact h.elim
theorem quiet.pure {P : Program} {α : Type} (a : α) : quiet P (Pure.pure a : Sem α) := trivial
theorem quiet.stuck {P : Program} {α : Type} (s : String) : quiet P (stuck s : Sem α) := trivial
theorem quiet.unsupported {P : Program} {α : Type} (u : Unsupported) : quiet P (unsupported u : Sem α) := trivial
theorem quiet.program {P : Program} : quiet P program := trivial
theorem quiet.underlying {P : Program} (t : TypeId) : quiet P (underlying t) := by
  unfold Go.underlying
  refine quiet.bind quiet.program fun p => ?_
  split <;> trivial
theorem quiet.typeInfo {P : Program} (t : TypeId) : quiet P (typeInfo t) := by
  unfold Go.typeInfo
  refine quiet.bind quiet.program fun p => ?_
  split <;> trivial
theorem quiet.sizeOf {P : Program} (t : TypeId) : quiet P (sizeOf t) := by
  unfold Go.sizeOf
  exact quiet.bind (quiet.typeInfo t) fun _ => trivial
theorem quiet.isAgg {P : Program} (t : TypeId) : quiet P (isAgg t) := by
  unfold Go.isAgg
  refine quiet.bind (quiet.underlying t) fun d => ?_
  split <;> trivial
theorem quiet.part {P : Program} (t : TypeId) (cs : Array Value) (off : Nat) : quiet P (part t cs off) := by
  unfold Go.part
  refine quiet.bind (quiet.isAgg t) fun b => ?_
  split
  · exact quiet.bind (quiet.sizeOf t) fun _ => trivial
  · split <;> trivial
theorem quiet.panicError {P : Program} {α : Type} (m : String) : quiet P (runtimePanic (.error m) : Sem α) := trivial
theorem quiet.forIn {P : Program} {α β : Type} (l : List α) (f : α → β → Sem (ForInStep β)) (hf : ∀ a b, quiet P (f a b)) : ∀ b : β, quiet P (forIn l b f) := by
  induction l with
  | nil => intro b; exact quiet.pure b
  | cons a l ih =>
    intro b
    rw [List.forIn_cons]
    refine quiet.bind (hf a b) fun s => ?_
    cases s with
    | done b => exact quiet.pure b
    | yield b => exact ih b

theorem quiet.binInt {P : Program} (op : BinOp) (t : TypeId) (k k' : IntKind) (a b : Int) : quiet P (binOp op t (.int k a) (.int k' b)) := by
  cases op <;> simp only [binOp]
  all_goals (try unfold Op.shift); (try unfold Op.intArith); (try unfold Op.intDiv); (try unfold Op.intBits); (try unfold Op.intCmp)
  all_goals (repeat' split)
  all_goals trivial
theorem quiet.binString {P : Program} (op : BinOp) (t : TypeId) (a b : ByteArray) : quiet P (binOp op t (.string a) (.string b)) := by
  cases op <;> simp only [binOp, Op.stringOp]
  all_goals (repeat' split)
  all_goals trivial
theorem quiet.unary {P : Program} (op : UnOp) (x : Value) : quiet P (Op.unary op x) := by
  unfold Op.unary
  split <;> first | trivial | (unfold Op.intArith; trivial) | (unfold Op.intBits; trivial)

theorem runPure_run {P : Program} {s : Sem Value} (h : quiet P s) {v : Value} (hr : runPure P s = some v) (w : World) : s.run P w = .ok v w := by
  unfold runPure at hr
  cases hs : s.run P default with
  | ok u w' =>
    rw [hs] at hr
    injection hr with hr
    subst hr
    exact (h.run default w hs).2
  | halt x w' => rw [hs] at hr; cases hr

/-! ### Integers -/
theorem wrapF_eq (k : IntKind) (n : Int) : wrapF k n = k.wrap n := by
  cases k <;> first
    | rfl
    | (simp only [wrapF, IntKind.wrap, IntKind.bits, IntKind.signed]; simp)

end Go.Am

/- '==' of values that hold no address touches no memory. -/
namespace Go.Am
open Go

def quietQ (P : Program) {α : Type} (Q : α → Prop) : Sem α → Prop
  | .pure a => Q a
  | .halt _ => True
  | .program k => quietQ P Q (k P)
  | .mark _ k => quietQ P Q k
  | _ => False
theorem quietQ.bind {P : Program} {α β : Type} {Q : α → Prop} {R : β → Prop} {s : Sem α} {f : α → Sem β} (h : quietQ P Q s) (hf : ∀ a, Q a → quietQ P R (f a)) : quietQ P R (s >>= f) := by
  show quietQ P R (s.bind f)
  induction s with
  | pure a => exact hf a h
  | halt x => trivial
  | program k ih => exact ih P h
  | mark m k ih => exact ih h
  | load | store | new | shape | freeze | frozen | getObj | setObj | choose | sys => exact h.elim
theorem quietQ.of {P : Program} {α : Type} {s : Sem α} (h : quiet P s) : quietQ P (fun _ => True) s := by
  induction s with
  | pure a => trivial
  | halt x => trivial
  | program k ih => exact ih P h
  | mark m k ih => exact ih h
  | load | store | new | shape | freeze | frozen | getObj | setObj | choose | sys => exact h.elim
theorem quietQ.quiet {P : Program} {α : Type} {Q : α → Prop} {s : Sem α} (h : quietQ P Q s) : quiet P s := by
  induction s with
  | pure a => trivial
  | halt x => trivial
  | program k ih => exact ih P h
  | mark m k ih => exact ih h
  | load | store | new | shape | freeze | frozen | getObj | setObj | choose | sys => exact h.elim
theorem quiet.bindQ {P : Program} {α β : Type} {Q : α → Prop} {s : Sem α} {f : α → Sem β} (h : quietQ P Q s) (hf : ∀ a, Q a → quiet P (f a)) : quiet P (s >>= f) :=
  (h.bind fun a ha => quietQ.of (hf a ha)).quiet

def fl (v : Value) : Prop := ∃ n, flatN n v = true
theorem fl.agg {cs : Array Value} (h : fl (.agg cs)) : ∀ (i : Nat) (v : Value), cs[i]? = some v → fl v := by
  obtain ⟨n, h⟩ := h
  cases n with
  | zero => simp [flatN] at h
  | succ n =>
    intro i v hv
    have h' : cs.toList.all (flatN n) = true := by simpa [flatN] using h
    exact ⟨n, List.all_eq_true.mp h' _ (List.mem_of_getElem? (by simpa using hv))⟩
theorem fl.extract {cs : Array Value} (h : fl (.agg cs)) (a b : Nat) : fl (.agg (cs.extract a b)) := by
  obtain ⟨n, h⟩ := h
  cases n with
  | zero => simp [flatN] at h
  | succ n =>
    have h' : cs.toList.all (flatN n) = true := by simpa [flatN] using h
    refine ⟨n + 1, ?_⟩
    simp only [flatN]
    refine List.all_eq_true.mpr fun x hx => List.all_eq_true.mp h' x ?_
    simp only [Array.toList_extract, List.extract_eq_take_drop] at hx
    exact List.mem_of_mem_drop (List.mem_of_mem_take hx)
theorem fl.iface {t : TypeId} {v : Value} (h : fl (.iface t v)) : fl v := by
  obtain ⟨n, h⟩ := h
  cases n with
  | zero => simp [flatN] at h
  | succ n => exact ⟨n, by simpa [flatN] using h⟩
theorem fl.noPtr {a : Addr} (h : fl (.pointer (some a))) : False := by
  obtain ⟨n, h⟩ := h
  cases n <;> simp [flatN] at h

theorem quietQ.part {P : Program} (t : TypeId) (cs : Array Value) (off : Nat) (h : fl (.agg cs)) : quietQ P fl (part t cs off) := by
  unfold Go.part
  refine (quietQ.of (quiet.isAgg t)).bind fun b _ => ?_
  split
  · exact (quietQ.of (quiet.sizeOf t)).bind fun n _ => h.extract _ _
  · split
    · rename_i v hv; exact h.agg _ _ hv
    · trivial
theorem quiet.typeStr {P : Program} (t : TypeId) : quiet P (typeStr t) := by
  unfold Go.typeStr
  refine quiet.bind (quiet.typeInfo t) fun i => ?_
  dsimp only
  split <;> trivial

theorem quiet.equalIn {P : Program} : ∀ (d : Nat) (t : TypeId) (x y : Value), fl x → fl y → quiet P (Op.equalIn d t x y) := by
  intro d
  induction d with
  | zero => intro t x y _ _; unfold Op.equalIn; trivial
  | succ d ih =>
    intro t x y hx hy
    unfold Op.equalIn
    refine quiet.bind (quiet.underlying t) fun u => ?_
    split
    all_goals first
      | trivial
      | (exact (fl.noPtr hx).elim)
      | (exact (fl.noPtr hy).elim)
      | (split <;> trivial)
      | skip
    · -- such pointers
      rename_i a b
      cases a with
      | some a => exact (fl.noPtr hx).elim
      | none => cases b with
        | some b => exact (fl.noPtr hy).elim
        | none => trivial
    · -- interface
      split
      · trivial
      · refine quiet.bind (quiet.typeInfo _) fun i => ?_
        dsimp only
        split
        · refine quiet.bind quiet.program fun p => quiet.bind quiet.program fun p' => ?_
          split
          · trivial
          · exact quiet.bind (quiet.typeStr _) fun _ => trivial
        · exact ih _ _ _ hx.iface hy.iface
    · -- struct
      refine quiet.bind quiet.program fun p => ?_
      dsimp only
      split
      · trivial
      · refine quiet.bind ?_ fun r => ?_
        · simp only [← Array.forIn_toList]
          refine quiet.forIn _ _ (fun f b => ?_) _
          split
          · refine quiet.bindQ (quietQ.part _ _ _ hx) fun a ha => quiet.bindQ (quietQ.part _ _ _ hy) fun b hb => quiet.bind (ih _ _ _ ha hb) fun c => ?_
            split <;> trivial
          · trivial
        · split <;> trivial
    · -- array
      refine quiet.bind (quiet.sizeOf _) fun n => ?_
      refine quiet.bind ?_ fun r => ?_
      · simp only [Std.Legacy.Range.forIn_eq_forIn_range']
        refine quiet.forIn _ _ (fun f b => ?_) _
        refine quiet.bindQ (quietQ.part _ _ _ hx) fun a ha => quiet.bindQ (quietQ.part _ _ _ hy) fun b hb => quiet.bind (ih _ _ _ ha hb) fun c => ?_
        split <;> trivial
      · dsimp only; split <;> trivial
end Go.Am

/- Operators on related operands. -/
namespace Go.Am
open Go

/-- The model's own operation, its gate with it. -/
def binSem (op : BinOp) (t : TypeId) (xo yo : Operand) (x y : Value) : Sem Value := do eqGuard op t xo yo x y; binOp op t x y

section
variable {P : Program} {ρ : Ren}

theorem eqGuard_plain (op : BinOp) (t : TypeId) (xo yo : Operand) (x y : Value) (w : World)
    (h1 : ¬ (x = .nilIface ∧ y = .nilIface)) (h2 : ∀ a b, ¬ (x = .agg a ∧ y = .agg b)) : (eqGuard op t xo yo x y).run P w = .ok () w := by
  unfold eqGuard
  cases op
  case eql | neq =>
    rw [if_neg (by simp)]
    split
    · exact absurd ⟨rfl, rfl⟩ h1
    · exact absurd ⟨rfl, rfl⟩ (h2 _ _)
    · rfl
  all_goals rfl

theorem VRel.int_inv {k : IntKind} {n : Int} {v : Value} (h : VRel ρ (.int k n) v) : v = .int k n := by cases h; rfl
theorem VRel.bool_inv {b : Bool} {v : Value} (h : VRel ρ (.bool b) v) : v = .bool b := by cases h; rfl
theorem VRel.string_inv {s : ByteArray} {v : Value} (h : VRel ρ (.string s) v) : v = .string s := by cases h; rfl

theorem eq_run (t : TypeId) (x y : Value) (b : Bool) (w : World) (h : ∀ d, (Op.equalIn (d + 1) t x y).run P w = .ok b w) : (Op.equal t x y).run P w = .ok b w := h 9999

/-- What '==' gives. -/
theorem aeq_sound {cst : Bool} {t : TypeId} {x y x' y' v : Value} (h : abin.aeq P cst t x y = some v) (hx : VRel ρ x x') (hy : VRel ρ y y') (xo yo : Operand)
    (hc : cst = true → isConst xo = true ∨ isConst yo = true) (op : BinOp) (hop : op = .eql ∨ op = .neq) :
    ∃ b, v = .bool b ∧ ∀ w, (eqGuard op t xo yo x' y').run P w = .ok () w ∧ (Op.equal t x' y').run P w = .ok b w := by
  unfold abin.aeq at h
  split at h
  · -- bools
    rename_i a b
    obtain rfl := hx.bool_inv
    obtain rfl := hy.bool_inv
    split at h
    · rename_i ht
      injection h with h
      refine ⟨_, h.symm, fun w => ⟨eqGuard_plain _ _ _ _ _ _ _ (by simp) (by simp), eq_run _ _ _ _ _ fun d => by simp [Op.equalIn, run_underlying ht]⟩⟩
    · cases h
  · -- nil and a pointer
    rename_i b
    cases hx
    split at h
    · rename_i e ht
      injection h with h
      have hb : ∃ b', y' = .pointer b' ∧ b'.isNone = b.isNone := by cases hy <;> exact ⟨_, rfl, rfl⟩
      obtain ⟨b', rfl, hb⟩ := hb
      refine ⟨_, h.symm, fun w => ⟨eqGuard_plain _ _ _ _ _ _ _ (by simp) (by simp), eq_run _ _ _ _ _ fun d => by simp [Op.equalIn, run_underlying ht, hb]⟩⟩
    · cases h
  · rename_i a
    cases hy
    split at h
    · rename_i e ht
      injection h with h
      cases hx
      refine ⟨_, h.symm, fun w => ⟨eqGuard_plain _ _ _ _ _ _ _ (by simp) (by simp), eq_run _ _ _ _ _ fun d => by simp [Op.equalIn, run_underlying ht]⟩⟩
    · cases h
  · rename_i n c b n' c'
    split at h
    · rename_i e ht
      injection h with h
      cases hx
      have hb : ∃ b' m m', y' = .slice b' m m' ∧ b'.isNone = b.isNone := by cases hy <;> exact ⟨_, _, _, rfl, rfl⟩
      obtain ⟨b', m, m', rfl, hb⟩ := hb
      refine ⟨_, h.symm, fun w => ⟨eqGuard_plain _ _ _ _ _ _ _ (by simp) (by simp), eq_run _ _ _ _ _ fun d => by simp [Op.equalIn, run_underlying ht, hb]⟩⟩
    · cases h
  · rename_i a n c n' c'
    split at h
    · rename_i e ht
      injection h with h
      cases hy
      cases hx
      refine ⟨_, h.symm, fun w => ⟨eqGuard_plain _ _ _ _ _ _ _ (by simp) (by simp), eq_run _ _ _ _ _ fun d => by simp [Op.equalIn, run_underlying ht]⟩⟩
    · cases h
  · split at h
    · rename_i ms ht
      cases hcst : cst with
      | false => rw [hcst] at h; cases h
      | true =>
        rw [hcst] at h
        injection h with h
        cases hx
        cases hy
        refine ⟨_, h.symm, fun w => ⟨?_, eq_run _ _ _ _ _ fun d => by simp [Op.equalIn, run_underlying ht]⟩⟩
        have hco := hc hcst
        unfold eqGuard
        rcases hop with rfl | rfl
        · rcases hco with hco | hco
          · cases xo <;> simp [isConst] at hco <;> simp
          · cases yo <;> simp [isConst] at hco <;> simp
        · rcases hco with hco | hco
          · cases xo <;> simp [isConst] at hco <;> simp
          · cases yo <;> simp [isConst] at hco <;> simp
    · cases h
  · split at h
    · rename_i ms ht
      injection h with h
      cases hx
      cases hy
      refine ⟨_, h.symm, fun w => ⟨eqGuard_plain _ _ _ _ _ _ _ (by simp) (by simp), eq_run _ _ _ _ _ fun d => by simp [Op.equalIn, run_underlying ht]⟩⟩
    · cases h
  · split at h
    · rename_i ms ht
      injection h with h
      cases hx
      cases hy
      refine ⟨_, h.symm, fun w => ⟨eqGuard_plain _ _ _ _ _ _ _ (by simp) (by simp), eq_run _ _ _ _ _ fun d => by simp [Op.equalIn, run_underlying ht]⟩⟩
    · cases h
  · rename_i xs ys
    cases hf : (flat (.agg xs) && flat (.agg ys) && !P.eqGuardType P.depth t) with
    | false => rw [hf] at h; cases h
    | true =>
      rw [hf] at h
      simp only [cond_true] at h
      simp only [Bool.and_eq_true, Bool.not_eq_true'] at hf
      obtain ⟨⟨h1, h2⟩, h3⟩ := hf
      obtain rfl := hx.flat_eq h1
      obtain rfl := hy.flat_eq h2
      have hq : quiet P (Op.equal t (.agg xs) (.agg ys)) := quiet.equalIn _ _ _ _ ⟨_, h1⟩ ⟨_, h2⟩
      have hrun := fun w => runPure_run (quiet.bind hq fun b => quiet.pure (Value.bool b)) h w
      cases hd : (Op.equal t (.agg xs) (.agg ys)).run P default with
      | halt z w' => have := hrun default; simp [hd] at this
      | ok b w' =>
        have hb := hrun default
        simp [hd] at hb
        refine ⟨b, hb.1.symm, fun w => ⟨?_, (hq.run default w hd).2⟩⟩
        unfold eqGuard
        rcases hop with rfl | rfl <;> simp [h3]
  · cases h
end
end Go.Am

/- Operators, conversions, slices, structs: related operands give related results. -/
namespace Go.Am
open Go

section
variable {P : Program} {ρ : Ren}

theorem binOp_eql_other {t : TypeId} {x y x' y' : Value} (hx : VRel ρ x x') (hy : VRel ρ y y') (h1 : ∀ k a k' b, x = .int k a → y = .int k' b → False) (h2 : ∀ a b, x = .string a → y = .string b → False) :
    binOp .eql t x' y' = (do pure (.bool (← Op.equal t x' y'))) := by
  cases hx
  case int k n => cases hy <;> first | rfl | exact (h1 _ _ _ _ rfl rfl).elim
  case string s => cases hy <;> first | rfl | exact (h2 _ _ rfl rfl).elim
  all_goals rfl
theorem binOp_neq_other {t : TypeId} {x y x' y' : Value} (hx : VRel ρ x x') (hy : VRel ρ y y') (h1 : ∀ k a k' b, x = .int k a → y = .int k' b → False) (h2 : ∀ a b, x = .string a → y = .string b → False) :
    binOp .neq t x' y' = (do pure (.bool (!(← Op.equal t x' y')))) := by
  cases hx
  case int k n => cases hy <;> first | rfl | exact (h1 _ _ _ _ rfl rfl).elim
  case string s => cases hy <;> first | rfl | exact (h2 _ _ rfl rfl).elim
  all_goals rfl

theorem abin_sound {cst : Bool} {op : BinOp} {t : TypeId} {x y x' y' v : Value} (h : abin P cst op t x y = some v) (hx : VRel ρ x x') (hy : VRel ρ y y') (xo yo : Operand)
    (hc : cst = true → isConst xo = true ∨ isConst yo = true) : ∃ v', (∀ w, (binSem op t xo yo x' y').run P w = .ok v' w) ∧ VRel ρ v v' := by
  have ints : ∀ (op : BinOp) (k k' : IntKind) (a b : Int) (u : Value), x = .int k a → y = .int k' b → (∀ w, (binOp op t (.int k a) (.int k' b)).run P w = .ok u w) → v = u → flat u = true →
      ∃ v', (∀ w, (binSem op t xo yo x' y').run P w = .ok v' w) ∧ VRel ρ v v' := by
    rintro op k k' a b u rfl rfl hrun rfl hf
    obtain rfl := hx.int_inv
    obtain rfl := hy.int_inv
    refine ⟨v, fun w => ?_, .flat hf⟩
    simp [binSem, eqGuard_plain, hrun]
  unfold abin at h
  split at h
  · split at h
    · rename_i hk; subst hk; injection h with h; subst h
      exact ints .add _ _ _ _ _ rfl rfl (fun w => by simp [binOp, Op.intArith, wrapF_eq]) rfl rfl
    · cases h
  · split at h
    · rename_i hk; subst hk; injection h with h; subst h
      exact ints .sub _ _ _ _ _ rfl rfl (fun w => by simp [binOp, Op.intArith, wrapF_eq]) rfl rfl
    · cases h
  · split at h
    · rename_i hk; subst hk; injection h with h; subst h
      exact ints .mul _ _ _ _ _ rfl rfl (fun w => by simp [binOp, Op.intArith, wrapF_eq]) rfl rfl
    · cases h
  · split at h
    · rename_i hk; subst hk; injection h with h; subst h
      exact ints .eql _ _ _ _ _ rfl rfl (fun w => by simp [binOp, Op.intCmp]; rfl) rfl rfl
    · cases h
  · split at h
    · rename_i hk; subst hk; injection h with h; subst h
      exact ints .neq _ _ _ _ _ rfl rfl (fun w => by simp [binOp, Op.intCmp]; rfl) rfl rfl
    · cases h
  · split at h
    · rename_i hk; subst hk; injection h with h; subst h
      exact ints .lss _ _ _ _ _ rfl rfl (fun w => by simp [binOp, Op.intCmp]) rfl rfl
    · cases h
  · split at h
    · rename_i hk; subst hk; injection h with h; subst h
      exact ints .leq _ _ _ _ _ rfl rfl (fun w => by simp [binOp, Op.intCmp]) rfl rfl
    · cases h
  · split at h
    · rename_i hk; subst hk; injection h with h; subst h
      exact ints .gtr _ _ _ _ _ rfl rfl (fun w => by simp [binOp, Op.intCmp]) rfl rfl
    · cases h
  · split at h
    · rename_i hk; subst hk; injection h with h; subst h
      exact ints .geq _ _ _ _ _ rfl rfl (fun w => by simp [binOp, Op.intCmp]) rfl rfl
    · cases h
  · -- the other operators on integers
    rename_i k a k' b _ _ _ _ _ _ _ _ _
    obtain rfl := hx.int_inv
    obtain rfl := hy.int_inv
    have hr := fun w => runPure_run (quiet.binInt op t k k' a b) h w
    refine ⟨v, fun w => by simp [binSem, eqGuard_plain, hr], ?_⟩
    refine .flat ?_
    have h0 := hr default
    revert h0
    cases op <;> simp only [binOp]
    all_goals (try unfold Op.shift); (try unfold Op.intArith); (try unfold Op.intDiv); (try unfold Op.intBits); (try unfold Op.intCmp)
    all_goals (repeat' split)
    all_goals (intro h0; simp [Sem.run, stuck, runtimePanic, goPanic, program, bind, Sem.bind, Pure.pure] at h0)
    all_goals (subst h0; rfl)
  · rename_i a b
    obtain rfl := hx.string_inv
    obtain rfl := hy.string_inv
    have hr := fun w => runPure_run (quiet.binString op t a b) h w
    refine ⟨v, fun w => by simp [binSem, eqGuard_plain, hr], ?_⟩
    refine .flat ?_
    have h0 := hr default
    revert h0
    cases op <;> simp only [binOp, Op.stringOp]
    all_goals (repeat' split)
    all_goals (intro h0; simp [Sem.run, stuck, unsupported, Pure.pure] at h0)
    all_goals (subst h0; rfl)
  · rename_i x0 y0 hn hs
    obtain ⟨b, rfl, hw⟩ := aeq_sound h hx hy xo yo hc .eql (.inl rfl)
    refine ⟨.bool b, fun w => ?_, .bool b⟩
    have hni : binOp .eql t x' y' = (do pure (.bool (← Op.equal t x' y'))) := by
      exact binOp_eql_other hx hy hn hs
    simp [binSem, (hw w).1, hni, (hw w).2]
  · rename_i x0 y0 hn hs
    split at h
    · rename_i b hb
      injection h with h
      subst h
      obtain ⟨b', he, hw⟩ := aeq_sound hb hx hy xo yo hc .neq (.inr rfl)
      injection he with he
      subst he
      refine ⟨.bool (!b), fun w => ?_, .bool _⟩
      have hni : binOp .neq t x' y' = (do pure (.bool (!(← Op.equal t x' y')))) := by
        exact binOp_neq_other hx hy hn hs
      simp [binSem, (hw w).1, hni, (hw w).2]
    · cases h
  · cases h
end
end Go.Am

/- Slices, structs, arrays: related operands give related results. -/
namespace Go.Am
open Go

section
variable {P : Program} {ρ : Ren}

theorem aun_sound {op : UnOp} {x x' v : Value} (h : aun P op x = some v) (hx : VRel ρ x x') : ∃ v', (∀ w, (Op.unary op x').run P w = .ok v' w) ∧ VRel ρ v v' := by
  unfold aun at h
  cases hf : flat x with
  | false => rw [hf] at h; cases h
  | true =>
    rw [hf] at h
    obtain rfl := hx.flat_eq hf
    have hr := fun w => runPure_run (quiet.unary op x') h w
    refine ⟨v, hr, ?_⟩
    refine .flat ?_
    have h0 := hr default
    revert h0
    unfold Op.unary
    split <;> (try unfold Op.intArith) <;> (try unfold Op.intBits) <;> intro h0 <;> simp [Sem.run, stuck, unsupported, Pure.pure] at h0
    all_goals first
      | (subst h0; rfl)
      | (simp [flat, flatN] at hf)

theorem run_sizeOf {e n : Nat} (h : sz P e = some n) (w : World) : (sizeOf e).run P w = .ok n w := by
  unfold sz at h
  cases hi : P.info? e with
  | none => simp [hi] at h
  | some i => simp [hi] at h; simp [sizeOf, typeInfo, hi, h]
theorem run_isAgg {t : Nat} {b : Bool} (h : aggT P t = some b) (w : World) : (isAgg t).run P w = .ok b w := by
  unfold aggT at h
  unfold isAgg
  split at h <;> rename_i hu
  · injection h with h; subst h; simp [run_underlying hu]
  · injection h with h; subst h; simp [run_underlying hu]
  · injection h with h; subst h
    simp [run_underlying hu]
    try (split <;> simp_all)
  · cases h

theorem apart_sound {t : TypeId} {cs cs' : Array Value} {off : Nat} {v : Value} (h : apart P t cs off = some v) (hs : cs.size = cs'.size) (hc : ∀ (i : Nat) (v v' : Value), cs[i]? = some v → cs'[i]? = some v' → VRel ρ v v') :
    ∃ v', (∀ w, (part t cs' off).run P w = .ok v' w) ∧ VRel ρ v v' := by
  unfold apart at h
  split at h
  · rename_i n ha hn
    injection h with h
    subst h
    refine ⟨.agg (cs'.extract off (off + n)), fun w => by simp [part, run_isAgg ha, run_sizeOf hn], .agg _ _ (by simp [hs]) fun i v v' hv hv' => ?_⟩
    rw [Array.getElem?_extract] at hv hv'
    rw [hs] at hv
    split at hv
    · rename_i hi; rw [if_pos hi] at hv'; exact hc _ _ _ hv hv'
    · cases hv
  · rename_i ha
    have hlt : off < cs'.size := by rw [← hs]; exact (Array.getElem?_eq_some_iff.1 h).1
    have h' : cs'[off]? = some cs'[off] := by simp [hlt]
    refine ⟨cs'[off], fun w => by simp [part, run_isAgg ha, hlt], hc _ _ _ h h'⟩
  · cases h

/-- A bound, abstract and real. -/
def BRel (ρ : Ren) : Option (Option Value) → Option Value → Prop
  | none, r => r = none
  | some none, _ => True
  | some (some v), r => ∃ v', r = some v' ∧ VRel ρ v v'

theorem abound_inv {b : Option (Option Value)} {y d n : Nat} {r : Option Value} (h : abound b y d = some n) (hr : BRel ρ b r) :
    (b = none ∧ r = none ∧ n = d) ∨ (∃ k i, b = some (some (.int k i)) ∧ r = some (.int k i) ∧ 0 ≤ i ∧ i ≤ (y : Int) ∧ n = i.toNat ∧ n ≤ y) := by
  unfold abound at h
  split at h
  · injection h with h; exact .inl ⟨rfl, hr, h.symm⟩
  · rename_i k i
    split at h
    · rename_i hi
      injection h with h
      obtain ⟨v', rfl, hv⟩ := hr
      obtain rfl := hv.int_inv
      exact .inr ⟨k, i, rfl, rfl, hi.1, hi.2, h.symm, by omega⟩
    · cases h
  · cases h
theorem run_sliceBound {k : IntKind} {i : Int} {y : Nat} (h0 : 0 ≤ i) (h1 : i ≤ (y : Int)) (code : BoundsCode) (w : World) : (Instr.sliceBound (.int k i) y code).run P w = .ok i.toNat w := by
  simp [Instr.sliceBound, asIntOf, h0, h1]

theorem run_bounds2 {isS : Bool} {len cap h l y : Nat} {blo bhi : Option (Option Value)} {lo hi : Option Value} (hh : abound bhi y len = some h) (hl : abound blo h 0 = some l) (rh : BRel ρ bhi hi) (rl : BRel ρ blo lo) (hy : y ≤ cap) (w : World) :
    (Instr.sliceBounds isS len cap lo hi none).run P w = .ok (l, h, cap) w := by
  rcases abound_inv hh rh with ⟨rfl, rfl, rfl⟩ | ⟨k, i, rfl, rfl, i0, i1, rfl, _⟩
  · rcases abound_inv hl rl with ⟨rfl, rfl, rfl⟩ | ⟨k', i', rfl, rfl, j0, j1, rfl, _⟩
    · simp [Instr.sliceBounds]
    · simp [Instr.sliceBounds, run_sliceBound j0 j1]
  · rcases abound_inv hl rl with ⟨rfl, rfl, rfl⟩ | ⟨k', i', rfl, rfl, j0, j1, rfl, _⟩
    · simp [Instr.sliceBounds, run_sliceBound i0 (show i ≤ (cap : Int) by omega)]
    · simp [Instr.sliceBounds, run_sliceBound i0 (show i ≤ (cap : Int) by omega), run_sliceBound j0 j1]
theorem run_bounds3 {len cap m h l : Nat} {blo : Option (Option Value)} {mv hv : Option Value} {lo hi mx : Option Value} {y : Nat} (hm : abound (some mv) y 0 = some m) (hh : abound (some hv) m 0 = some h) (hl : abound blo h 0 = some l)
    (rm : BRel ρ (some mv) mx) (rh : BRel ρ (some hv) hi) (rl : BRel ρ blo lo) (hy : y ≤ cap) (w : World) :
    (Instr.sliceBounds true len cap lo hi mx).run P w = .ok (l, h, m) w := by
  rcases abound_inv hm rm with ⟨e, _⟩ | ⟨km, im, e, rfl, m0, m1, rfl, _⟩
  · cases e
  · rcases abound_inv hh rh with ⟨e, _⟩ | ⟨k, i, e, rfl, i0, i1, rfl, _⟩
    · cases e
    · rcases abound_inv hl rl with ⟨rfl, rfl, rfl⟩ | ⟨k', i', rfl, rfl, j0, j1, rfl, _⟩
      · simp [Instr.sliceBounds, run_sliceBound m0 (show im ≤ (cap : Int) by omega), run_sliceBound i0 i1]
      · simp [Instr.sliceBounds, run_sliceBound m0 (show im ≤ (cap : Int) by omega), run_sliceBound i0 i1, run_sliceBound j0 j1]

theorem blt_iff {a b : Nat} : Nat.blt a b = decide (a < b) := by
  unfold Nat.blt
  rw [Bool.eq_iff_iff]; simp [Nat.ble_eq]; omega
theorem capLow_exact {c : Nat} (h : capExact c = true) : capLow c = c := by simp only [capExact] at h; simp [capLow, h]
theorem capLow_unknown (c : Nat) : capLow (capUnknown c) = c := by
  have : Nat.blt (K + c) K = false := by rw [blt_iff]; simp
  simp [capLow, capUnknown, this]
theorem capExact_unknown (c : Nat) : capExact (capUnknown c) = false := by
  show Nat.blt (K + c) K = false
  rw [blt_iff]; simp
theorem capRel.low {c c' o' e s : Nat} (h : capRel c c' o' e s) : capLow c ≤ c' := by
  rcases h with ⟨h, rfl⟩ | ⟨_, h, _⟩
  · rw [capLow_exact h]; exact Nat.le_refl _
  · exact h

theorem addr_add (a : Addr) (h : a.spot = none) (n : Nat) : a.add n = ⟨a.block, a.off + n, none⟩ := by
  cases a with
  | mk b o s => simp at h; subst h; unfold Addr.add; split <;> simp_all

theorem addr_mk_add (b o n : Nat) : (⟨b, o, none⟩ : Addr).add n = ⟨b, o + n, none⟩ := addr_add _ rfl n

/-- A slice of a slice. -/
theorem slice_rel {a : Option Addr} {n c : Nat} {x' : Value} (hx : VRel ρ (.slice a n c) x') {l h size : Nat} (hlh : l ≤ h) (hhn : h ≤ capLow c)
    (he : capExact c = false → ∀ p q, a = some p → ρ p.block = some q → q.esz = size) :
    ∃ a' c', x' = .slice a' n c' ∧ capLow c ≤ c' ∧
      VRel ρ (.slice (bif capExact c && Nat.beq c l then a else a.map fun p => ⟨p.block, p.off + l * size, none⟩) (h - l) (bif capExact c then c - l else capUnknown (capLow c - l)))
        (.slice (if c' = l then a' else a'.map (·.add (l * size))) (h - l) (c' - l)) := by
  cases hx with
  | sliceNil =>
    have e : capLow 0 = 0 := rfl
    have hl : l = 0 := by omega
    have hh : h = 0 := by omega
    subst hl; subst hh
    exact ⟨none, 0, rfl, Nat.le_refl _, .sliceNil⟩
  | slice a o n c o' c' q hq ho hn hc =>
    refine ⟨_, c', rfl, hc.low, ?_⟩
    have hlow := hc.low
    rcases hc with ⟨hex, rfl⟩ | ⟨hex, h1, h2⟩
    · have hcl := capLow_exact hex
      simp only [hex, Bool.true_and, cond_true]
      by_cases hcl2 : c' = l
      · rw [if_pos hcl2, beqt hcl2, cond_true]
        have e0 : c' - l = 0 := by omega
        rw [e0]
        exact .slice a o _ _ o' _ q hq (.inr rfl) (by simp [capLow, K, blt_iff]; omega) (.inl ⟨by simp [capExact, K, blt_iff], rfl⟩)
      · rw [if_neg hcl2, beqf hcl2, cond_false]
        have hex' : capExact (c' - l) = true := by
          simp only [capExact, blt_iff, decide_eq_true_eq] at hex ⊢; omega
        simp only [Option.map_some, addr_mk_add]
        refine .slice a (o + l * size) _ _ (o' + l * size) _ q hq ?_ ?_ (.inl ⟨hex', rfl⟩)
        · rcases ho with rfl | h0
          · exact .inl (by omega)
          · exact .inr (by omega)
        · rw [capLow_exact hex']; omega
    · simp only [hex, Bool.false_and, cond_false]
      have hsz := he hex _ q rfl hq
      by_cases hcl2 : c' = l
      · rw [if_pos hcl2]
        simp only [Option.map_some]
        refine .slice a (o + l * size) _ _ o' _ q hq (.inr (by omega)) ?_ (.inr ⟨capExact_unknown _, ?_, ?_⟩)
        · rw [capLow_unknown]; omega
        · rw [capLow_unknown]; omega
        · rw [hcl2] at h2; have : o' ≤ q.size := Nat.le_trans (Nat.le_add_right _ _) h2; simpa [hcl2] using this
      · rw [if_neg hcl2]
        simp only [Option.map_some, addr_mk_add]
        refine .slice a (o + l * size) _ _ (o' + l * size) _ q hq ?_ ?_ (.inr ⟨capExact_unknown _, ?_, ?_⟩)
        · rcases ho with rfl | h0
          · exact .inl (by omega)
          · exact .inr (by omega)
        · rw [capLow_unknown]; omega
        · rw [capLow_unknown]; omega
        · subst hsz
          have hle : l ≤ c' := by omega
          have e : l * q.esz + (c' - l) * q.esz = c' * q.esz := by rw [← Nat.add_mul]; congr 1; omega
          omega
end
end Go.Am

/- Structs and arrays that are built. -/
namespace Go.Am
open Go

section
variable {P : Program} {ρ : Ren}

theorem LRel.getD_set {xs ys : List Value} {x y : Value} (h : LRel ρ xs ys) (hxy : VRel ρ x y) (i : Nat) : LRel ρ (xs.set i x) (ys.set i y) := by
  refine ⟨by simp [h.1], fun j v v' hv hv' => ?_⟩
  rw [List.getElem?_set] at hv hv'
  by_cases hij : i = j
  · rw [if_pos hij] at hv hv'
    split at hv
    · split at hv'
      · injection hv with hv; injection hv' with hv'; subst hv; subst hv'; exact hxy
      · cases hv'
    · cases hv
  · rw [if_neg hij] at hv hv'; exact h.2 _ _ _ hv hv'

def ARel (ρ : Ren) (xs ys : Array Value) : Prop := xs.size = ys.size ∧ ∀ (i : Nat) (v v' : Value), xs[i]? = some v → ys[i]? = some v' → VRel ρ v v'
theorem ARel.toList {xs ys : Array Value} (h : ARel ρ xs ys) : LRel ρ xs.toList ys.toList := LRel.ofArrays h.1 h.2
theorem ARel.ofList {xs ys : Array Value} (h : LRel ρ xs.toList ys.toList) : ARel ρ xs ys := ⟨by simpa using h.1, fun i v v' hv hv' => h.2 i v v' (by simpa using hv) (by simpa using hv')⟩
theorem ARel.set {xs ys : Array Value} {x y : Value} (h : ARel ρ xs ys) (hxy : VRel ρ x y) (i : Nat) : ARel ρ (xs.setIfInBounds i x) (ys.setIfInBounds i y) := by
  refine ARel.ofList ?_
  simp only [Array.toList_setIfInBounds]
  exact h.toList.getD_set hxy i

/-- Related parts. -/
def PRel (ρ : Ren) : List (Nat × Value) → List (Nat × Value) → Prop
  | [], [] => True
  | (i, v) :: l, (j, u) :: m => i = j ∧ VRel ρ v u ∧ PRel ρ l m
  | _, _ => False

theorem fill_cells (off : Nat) : ∀ (l l' : List Value), LRel ρ l l' → ∀ (k : Nat) (xs ys : Array Value), ARel ρ xs ys →
    ARel ρ ((l.zipIdx k).foldl (fun cs (c, j) => cs.setIfInBounds (off + j) c) xs) ((l'.zipIdx k).foldl (fun cs (c, j) => cs.setIfInBounds (off + j) c) ys) := by
  intro l
  induction l with
  | nil => intro l' h k xs ys hx; rw [h.nil_inv]; exact hx
  | cons c l ih =>
    intro l' h k xs ys hx
    obtain ⟨y, ys', rfl, h1, h2⟩ := h.cons_inv
    simp only [List.zipIdx_cons, List.foldl_cons]
    exact ih _ h2 _ _ _ (hx.set h1 _)

theorem fill_rel {place : Nat → Option (Nat × Nat)} : ∀ (l m : List (Nat × Value)), PRel ρ l m → ∀ (xs ys cs : Array Value), ARel ρ xs ys → Instr.fill place xs l = some cs → ∃ cs', Instr.fill place ys m = some cs' ∧ ARel ρ cs cs' := by
  intro l
  induction l with
  | nil => intro m hm xs ys cs hx h; cases m with
    | nil => simp only [Instr.fill] at h ⊢; injection h with h; subst h; exact ⟨ys, rfl, hx⟩
    | cons a m => exact hm.elim
  | cons a l ih =>
    intro m hm xs ys cs hx h
    cases m with
    | nil => exact hm.elim
    | cons b m =>
      obtain ⟨i, v⟩ := a
      obtain ⟨j, u⟩ := b
      obtain ⟨rfl, hv, hm⟩ := hm
      simp only [Instr.fill] at h ⊢
      cases hp : place i with
      | none => rw [hp] at h; cases h
      | some os =>
        obtain ⟨off, size⟩ := os
        rw [hp] at h
        simp only at h ⊢
        have hs := hv.cells_size
        rw [hs, ← hx.1]
        split at h
        · cases h
        · rename_i hc
          rw [if_neg hc]
          refine ih m hm _ _ cs ?_ h
          have := fill_cells (ρ := ρ) off v.cells.toList u.cells.toList hv.cells 0 xs ys hx
          have e : ∀ (a b : Array Value), a.zipIdx.foldl (fun cs (c, j) => cs.setIfInBounds (off + j) c) b = a.toList.zipIdx.foldl (fun cs (c, j) => cs.setIfInBounds (off + j) c) b := by
            intro a b; rw [← Array.foldl_toList, Array.toList_zipIdx]
          rw [e, e]
          exact this

theorem zeroOf_inv {e : TypeId} {z : Value} (h : zeroOf P e = some z) : ∃ i, P.info? e = some i ∧ i.zero = some z ∧ flat z = true ∧ z.cells.size = i.size ∧ z.cells.toList.all one = true := by
  unfold zeroOf at h
  split at h
  · rename_i i hi
    split at h
    · rename_i z' hz
      cases hc : (flat z' && Nat.beq z'.cells.size i.size && z'.cells.toList.all one) with
      | false => rw [hc] at h; cases h
      | true =>
        rw [hc] at h
        injection h with h
        subst h
        simp only [Bool.and_eq_true] at hc
        exact ⟨i, hi, hz, hc.1.1, of_beq hc.1.2, hc.2⟩
    · cases h
  · cases h
theorem run_zero {e : TypeId} {z : Value} (h : zeroOf P e = some z) (w : World) : (zeroValue e).run P w = .ok z w := by
  obtain ⟨i, hi, hz, _⟩ := zeroOf_inv h
  simp [zeroValue, typeInfo, hi, hz]

theorem places_run (w : World) : ∀ (l : List Field) (acc : Array (Nat × Nat)) (r : Array (Nat × Nat)),
    l.foldl (fun acc f => match acc, sz P f.type with | some ps, some n => some (ps.push (f.offset, n)) | _, _ => none) (some acc) = some r →
    (l.foldlM (fun bs a => bs.push <$> (do pure (a.offset, ← sizeOf a.type) : Sem (Nat × Nat))) acc).run P w = .ok r w := by
  intro l
  induction l with
  | nil => intro acc r h; simp at h; subst h; rfl
  | cons f l ih =>
    intro acc r h
    simp only [List.foldl_cons] at h
    cases hs : sz P f.type with
    | none =>
      rw [hs] at h
      have : ∀ (l : List Field), l.foldl (fun (acc : Option (Array (Nat × Nat))) f => match acc, sz P f.type with | some ps, some n => some (ps.push (f.offset, n)) | _, _ => none) none = none := by
        intro l
        induction l with
        | nil => rfl
        | cons a l ih => simpa using ih
      simp [this] at h
    | some n =>
      rw [hs] at h
      simp only [List.foldlM_cons, Sem.run_bind]
      simp only [Sem.run_map, Sem.run_bind, run_sizeOf hs, Result.andThen_ok, Sem.run_pure]
      exact ih _ _ h

theorem abuild_sound {t : TypeId} {parts : List (Nat × Value)} {parts' : Array (Nat × Value)} {v : Value} (h : abuild P t parts = some v) (hp : PRel ρ parts parts'.toList) :
    ∃ v', (∀ w, (Instr.build t parts').run P w = .ok v' w) ∧ VRel ρ v v' := by
  unfold abuild at h
  split at h
  · rename_i z fields hz hu
    split at h
    · rename_i places hpl
      cases hf : Instr.fill (places[·]?) z.cells parts with
      | none => rw [hf] at h; cases h
      | some cs =>
        rw [hf] at h
        simp only [Option.map_some] at h
        injection h with h
        subst h
        obtain ⟨i, hi, hzz, hfl, _⟩ := zeroOf_inv hz
        obtain ⟨cs', h1, h2⟩ := fill_rel (ρ := ρ) parts parts'.toList hp z.cells z.cells cs (ARel.ofList (VRel.flat hfl).cells) hf
        refine ⟨.agg cs', fun w => ?_, .agg _ _ h2.1 h2.2⟩
        have hm : (fields.mapM fun f => do pure (f.offset, ← sizeOf f.type) : Sem (Array (Nat × Nat))).run P w = .ok places w := by
          rw [Array.mapM_eq_foldlM, ← Array.foldlM_toList]
          refine places_run w _ _ _ ?_
          unfold structPlaces at hpl
          rwa [← Array.foldl_toList] at hpl
        simp only [Instr.build, Sem.run_bind, run_zero hz, Result.andThen_ok, run_underlying hu, hm, Sem.run_pure, h1]
    · cases h
  · rename_i z n e hz hu
    split at h
    · rename_i size hs
      cases hf : Instr.fill (fun i => some (i * size, size)) z.cells parts with
      | none => rw [hf] at h; cases h
      | some cs =>
        rw [hf] at h
        simp only [Option.map_some] at h
        injection h with h
        subst h
        obtain ⟨i, hi, hzz, hfl, _⟩ := zeroOf_inv hz
        obtain ⟨cs', h1, h2⟩ := fill_rel (ρ := ρ) parts parts'.toList hp z.cells z.cells cs (ARel.ofList (VRel.flat hfl).cells) hf
        refine ⟨.agg cs', fun w => ?_, .agg _ _ h2.1 h2.2⟩
        simp only [Instr.build, Sem.run_bind, run_zero hz, Result.andThen_ok, run_underlying hu, run_sizeOf hs, Sem.run_pure, h1]
    · cases h
  · cases h
end
end Go.Am

/- What the abstract machine says of an operation that touches no memory is what the model gives. -/
namespace Go.Am
open Go

section
variable {P : Program} {ρ : Ren}

/-- Operands, abstract and real. -/
structure EvRel (ρ : Ren) (ev : Operand → Option Value) (parts : List (Nat × Operand) → Option (List (Nat × Value))) (evs : List Operand → Option (List Value)) (rv : Operand → Value) : Prop where
  ev : ∀ x v, ev x = some v → VRel ρ v (rv x)
  parts : ∀ l vs, parts l = some vs → PRel ρ vs (l.map fun (i, x) => (i, rv x))
  evs : ∀ l vs, evs l = some vs → LRel ρ vs (l.map rv)

theorem aconv_sound {s d : TypeId} {x x' v : Value} (h : aconv P s d x = some v) (hx : VRel ρ x x') : ∃ v', (∀ w, (convert s d x').run P w = .ok v' w) ∧ VRel ρ v v' := by
  unfold aconv at h
  split at h
  · rename_i a b k k' n ha hb
    obtain rfl := hx.int_inv
    injection h with h
    subst h
    refine ⟨_, fun w => ?_, .int _ _⟩
    simp only [convert, Sem.run_bind, run_underlying ha, run_underlying hb, Result.andThen_ok, Conv.intToInt, Sem.run_pure, wrapF_eq]
  · rename_i ha hb
    obtain rfl := hx.string_inv
    injection h with h
    subst h
    refine ⟨_, fun w => ?_, .string _⟩
    simp [convert, run_underlying ha, run_underlying hb]
  · cases h

theorem alen_sound {t : TypeId} {x x' v : Value} {ty : TypeId} {rest : List TypeId} {restv : List Value} (h : alen P t x = some v) (hx : VRel ρ x x') :
    ∃ v', (∀ w, (Builtin.len_ (t :: rest).toArray ty (x' :: restv).toArray).run P w = .ok v' w) ∧ VRel ρ v v' := by
  unfold alen at h
  split at h
  · rename_i hu
    obtain rfl := hx.string_inv
    injection h with h; subst h
    exact ⟨_, fun w => by simp [Builtin.len_, run_underlying hu, goInt], .int _ _⟩
  · rename_i hu
    injection h with h; subst h
    cases hx <;> exact ⟨_, fun w => by simp [Builtin.len_, run_underlying hu, goInt], .int _ _⟩
  · rename_i hu
    injection h with h; subst h
    exact ⟨_, fun w => by simp [Builtin.len_, run_underlying hu, goInt], .int _ _⟩
  · rename_i hu
    injection h with h; subst h
    cases hx
    exact ⟨_, fun w => by simp [Builtin.len_, run_underlying hu, goInt], .int _ _⟩
  · cases h

theorem acap_sound {t : TypeId} {x x' v : Value} {ty : TypeId} {rest : List TypeId} {restv : List Value} (h : acap P t x = some v) (hx : VRel ρ x x') :
    ∃ v', (∀ w, (Builtin.cap_ (t :: rest).toArray ty (x' :: restv).toArray).run P w = .ok v' w) ∧ VRel ρ v v' := by
  unfold acap at h
  split at h
  · rename_i a n c hu
    cases hex : capExact c with
    | false => rw [hex] at h; cases h
    | true =>
      rw [hex] at h
      injection h with h; subst h
      cases hx with
      | sliceNil => exact ⟨_, fun w => by simp [Builtin.cap_, run_underlying hu, goInt], .int _ _⟩
      | slice a o n c o' c' q hq ho hn hc =>
        rcases hc with ⟨_, rfl⟩ | ⟨h1, _⟩
        · exact ⟨_, fun w => by simp [Builtin.cap_, run_underlying hu, goInt], .int _ _⟩
        · rw [hex] at h1; cases h1
  · cases h

theorem amax_sound {xs xs' : List Value} {v : Value} {ts : Array TypeId} {ty : TypeId} (h : amax xs = some v) (hx : LRel ρ xs xs') : ∃ v', (∀ w, (Builtin.max_ ts ty xs'.toArray).run P w = .ok v' w) ∧ VRel ρ v v' := by
  unfold amax at h
  split at h
  · rename_i k x k' y
    obtain ⟨a, as, rfl, ha, has⟩ := hx.cons_inv
    obtain ⟨b, bs, rfl, hb, hbs⟩ := has.cons_inv
    obtain rfl := hbs.nil_inv
    obtain rfl := ha.int_inv
    obtain rfl := hb.int_inv
    split at h
    · injection h with h; subst h
      exact ⟨_, fun w => by simp [Builtin.max_, Builtin.max2], .int _ _⟩
    · cases h
  · cases h
theorem amin_sound {xs xs' : List Value} {v : Value} {ts : Array TypeId} {ty : TypeId} (h : amin xs = some v) (hx : LRel ρ xs xs') : ∃ v', (∀ w, (Builtin.min_ ts ty xs'.toArray).run P w = .ok v' w) ∧ VRel ρ v v' := by
  unfold amin at h
  split at h
  · rename_i k x k' y
    obtain ⟨a, as, rfl, ha, has⟩ := hx.cons_inv
    obtain ⟨b, bs, rfl, hb, hbs⟩ := has.cons_inv
    obtain rfl := hbs.nil_inv
    obtain rfl := ha.int_inv
    obtain rfl := hb.int_inv
    split at h
    · injection h with h; subst h
      exact ⟨_, fun w => by simp [Builtin.min_, Builtin.min2], .int _ _⟩
    · cases h
  · cases h

theorem amap (args : Array Operand) (rv : Operand → Value) : args.map rv = (args.toList.map rv).toArray := by
  cases args; simp

theorem run_typeAssert_same {asserted : TypeId} {d : TypeDesc} (hu : P.underlying asserted = some d) (hni : ∀ ms, d = .interface ms → False) (v : Value) (xt : TypeId) (ok : Bool) (w : World) :
    (Instr.typeAssert (.iface asserted v) xt asserted ok).run P w = .ok (if ok then .tuple #[v, .bool true] else v) w := by
  cases d <;> first
    | (exact (hni _ rfl).elim)
    | (simp [Instr.typeAssert, run_underlying hu])
theorem run_typeAssert_other {asserted t : TypeId} {d : TypeDesc} (hu : P.underlying asserted = some d) (hni : ∀ ms, d = .interface ms → False) (hne : ¬ t = asserted) (v z : Value) (hz : zeroOf P asserted = some z) (xt : TypeId) (w : World) :
    (Instr.typeAssert (.iface t v) xt asserted true).run P w = .ok (.tuple #[z, .bool false]) w := by
  cases d <;> first
    | (exact (hni _ rfl).elim)
    | (simp [Instr.typeAssert, run_underlying hu, hne, run_zero hz])
theorem run_typeAssert_nil {asserted : TypeId} {d : TypeDesc} (hu : P.underlying asserted = some d) (hni : ∀ ms, d = .interface ms → False) (z : Value) (hz : zeroOf P asserted = some z) (xt : TypeId) (w : World) :
    (Instr.typeAssert .nilIface xt asserted true).run P w = .ok (.tuple #[z, .bool false]) w := by
  cases d <;> first
    | (exact (hni _ rfl).elim)
    | (simp [Instr.typeAssert, run_underlying hu, run_zero hz])

theorem apure_sound {ev : Operand → Option Value} {parts : List (Nat × Operand) → Option (List (Nat × Value))} {evs : List Operand → Option (List Value)} {rv : Operand → Value} (he : EvRel ρ ev parts evs rv)
    {o : Oper} {v : Value} (h : apure P ev parts evs o.op = some v) : ∃ v', (∀ w, (execOp rv o).run P w = .ok (.value v') w) ∧ VRel ρ v v' := by
  unfold apure at h
  split at h
  · rename_i x hop; exact ⟨_, fun w => by simp [execOp, hop], he.ev _ _ h⟩
  · rename_i x hop; exact ⟨_, fun w => by simp [execOp, hop], he.ev _ _ h⟩
  · rename_i c a b hop
    split at h
    · rename_i hc
      have := (he.ev _ _ hc).bool_inv
      exact ⟨_, fun w => by simp [execOp, hop, this, asBool], he.ev _ _ h⟩
    · rename_i hc
      have := (he.ev _ _ hc).bool_inv
      exact ⟨_, fun w => by simp [execOp, hop, this, asBool], he.ev _ _ h⟩
    · cases h
  · rename_i t ps hop
    split at h
    · rename_i vs hvs
      have hp := he.parts _ _ hvs
      obtain ⟨v', h1, h2⟩ := abuild_sound (ρ := ρ) (parts' := ps.map fun (i, x) => (i, rv x)) h (by simpa using hp)
      exact ⟨v', fun w => by simp only [execOp, hop, Sem.run_bind, h1, Result.andThen_ok, Sem.run_pure], h2⟩
    · cases h
  · rename_i x hop
    split at h
    · rename_i a hx
      injection h with h; subst h
      have := he.ev _ _ hx
      generalize hr : rv x = r at this
      cases this with
      | ptr a o q hq => exact ⟨.pointer (some ⟨q.r, q.base + o, none⟩), fun w => by simp [execOp, hop, hr], .ptr _ _ _ hq⟩
    · rename_i f a b hx
      injection h with h; subst h
      have := he.ev _ _ hx
      generalize hr : rv x = r at this
      cases this with
      | func f a b a' b' h1 h2 h3 h4 => exact ⟨.func (.func f) a' b', fun w => by simp [execOp, hop, hr], .func _ _ _ _ _ h1 h2 h3 h4⟩
    · rename_i t u hx
      injection h with h; subst h
      have := he.ev _ _ hx
      generalize hr : rv x = r at this
      cases this with
      | iface t u u' h1 => exact ⟨.iface t u', fun w => by simp [execOp, hop, hr], .iface _ _ _ h1⟩
    · cases h
  · rename_i op t x y ty hop
    split at h
    · rename_i a b hx hy
      obtain ⟨v', h1, h2⟩ := abin_sound h (he.ev _ _ hx) (he.ev _ _ hy) x y (fun e => by simpa using e)
      refine ⟨v', fun w => ?_, h2⟩
      have := h1 w
      simp only [binSem] at this
      simp only [execOp, hop]
      rw [Sem.run_bind, this]; rfl
    · cases h
  · rename_i op t x hop
    split at h
    · rename_i a hx
      obtain ⟨v', h1, h2⟩ := aun_sound h (he.ev _ _ hx)
      exact ⟨v', fun w => by simp [execOp, hop, h1], h2⟩
    · cases h
  · rename_i s d x hop
    split at h
    · rename_i a hx
      obtain ⟨v', h1, h2⟩ := aconv_sound h (he.ev _ _ hx)
      exact ⟨v', fun w => by simp [execOp, hop, h1], h2⟩
    · cases h
  · rename_i t x hop
    split at h
    · cases h
    · rename_i d u hd hu hx
      injection h with h; subst h
      refine ⟨_, fun w => ?_, .iface _ _ _ (he.ev _ _ hx)⟩
      simp only [execOp, hop, Instr.makeInterface, Sem.run_bind, run_underlying hu, Result.andThen_ok]
      rfl
    · cases h
  · rename_i fn first captured hop
    split at h
    · rename_i f a b ha hb
      injection h with h; subst h
      have h1 := he.evs _ _ ha
      have h2 := he.evs _ _ hb
      refine ⟨.func (.func f) (first.map rv) (captured.map rv), fun w => by simp [execOp, hop, Instr.makeFunc], ?_⟩
      have e1 := amap first rv
      have e2 := amap captured rv
      rw [e1, e2]
      exact .func _ _ _ _ _ h1.toArrays.1 h1.toArrays.2 h2.toArrays.1 h2.toArrays.2
    · cases h
  · rename_i s x f hop
    split at h
    · rename_i fields a hu hx
      split at h
      · rename_i fd hf
        split at h
        · rename_i n hs
          injection h with h; subst h
          have := he.ev _ _ hx
          generalize hr : rv x = r at this
          cases this with
          | ptr a o q hq =>
            refine ⟨.pointer (some ⟨q.r, q.base + (o + fd.offset), none⟩), fun w => ?_, .ptr _ _ q hq⟩
            simp [execOp, hop, hr, Instr.fieldAt, run_underlying hu, hf, Instr.sureAddr, fieldPlace, run_sizeOf hs, addr_mk_add, Nat.add_assoc]
        · cases h
      · cases h
    · cases h
  · rename_i t x f hop
    split at h
    · rename_i fields cs hu hx
      split at h
      · rename_i fd hf
        have := he.ev _ _ hx
        generalize hr : rv x = r at this
        cases this with
        | agg a a' ha hc =>
          obtain ⟨v', h1, h2⟩ := apart_sound h ha hc
          exact ⟨v', fun w => by simp [execOp, hop, hr, Instr.field, run_underlying hu, hf, asAgg, h1], h2⟩
      · cases h
    · cases h
  · rename_i t x i hop
    split at h
    · rename_i e a n c k j hu hx hi
      split at h
      · rename_i size hs
        split at h
        · rename_i hj
          injection h with h; subst h
          have hxr := he.ev _ _ hx
          generalize hr : rv x = r at hxr
          have hir := (he.ev _ _ hi).int_inv
          cases hxr with
          | slice a o n c o' c' q hq ho hn hc =>
            have hc0 : c' ≠ 0 := by have := hc.low; omega
            have ho' : o' = q.base + o := ho.resolve_right hc0
            refine ⟨.pointer (some ⟨q.r, q.base + (o + j.toNat * size), none⟩), fun w => ?_, .ptr _ _ q hq⟩
            simp [execOp, hop, hr, hir, Instr.indexAt, asIntOf, run_underlying hu, hj.1, hj.2, run_sizeOf hs, addr_mk_add, ho', Nat.add_assoc]
        · cases h
      · cases h
    · rename_i n e a k j hu hx hi
      split at h
      · rename_i size hs
        split at h
        · rename_i hj
          injection h with h; subst h
          have hxr := he.ev _ _ hx
          generalize hr : rv x = r at hxr
          have hir := (he.ev _ _ hi).int_inv
          cases hxr with
          | ptr a o q hq =>
            refine ⟨.pointer (some ⟨q.r, q.base + (o + j.toNat * size), none⟩), fun w => ?_, .ptr _ _ q hq⟩
            simp [execOp, hop, hr, hir, Instr.indexAt, asIntOf, run_underlying hu, hj.1, hj.2, run_sizeOf hs, addr_mk_add, Instr.sureAddr, Nat.add_assoc]
        · cases h
      · cases h
    · cases h
  · rename_i t x i hop
    split at h
    · rename_i n e cs k j hu hx hi
      split at h
      · rename_i size hs
        split at h
        · rename_i hj
          have hxr := he.ev _ _ hx
          generalize hr : rv x = r at hxr
          have hir := (he.ev _ _ hi).int_inv
          cases hxr with
          | agg a a' ha hc =>
            obtain ⟨v', h1, h2⟩ := apart_sound h ha hc
            exact ⟨v', fun w => by simp [execOp, hop, hr, hir, Instr.index, asIntOf, run_underlying hu, hj.1, hj.2, run_sizeOf hs, h1], h2⟩
        · cases h
      · cases h
    · rename_i s k j hu hx hi
      split at h
      · rename_i hj
        split at h
        · rename_i b hb
          injection h with h; subst h
          have hxr := (he.ev _ _ hx).string_inv
          have hir := (he.ev _ _ hi).int_inv
          exact ⟨_, fun w => by simp [execOp, hop, hxr, hir, Instr.index, asIntOf, run_underlying hu, hj, hb], .int _ _⟩
        · cases h
      · cases h
    · cases h
  · rename_i x xt asserted ok hop
    split at h
    · cases h
    · rename_i d t u hni hu hx
      have hxr := he.ev _ _ hx
      generalize hr : rv x = r at hxr
      cases hxr with
      | iface t u u' hu' =>
        cases hta : Nat.beq t asserted with
        | true =>
          obtain rfl := of_beq hta
          rw [beqt rfl, cond_true] at h
          injection h with h; subst h
          refine ⟨if ok then .tuple #[u', .bool true] else u', fun w => ?_, ?_⟩
          · simp only [execOp, hop, hr, Sem.run_bind, run_typeAssert_same hu hni, Result.andThen_ok, Sem.run_pure]
          · cases ok with
            | true => exact .tuple _ _ rfl (LRel.cons hu' (LRel.cons (.bool true) .nil)).toArrays.2
            | false => exact hu'
        | false =>
          have hne := of_beqf hta
          rw [hta, cond_false] at h
          cases ok with
          | false => cases h
          | true =>
            simp only [cond_true] at h
            split at h
            · rename_i z hz
              injection h with h; subst h
              obtain ⟨_, _, _, hfl, _⟩ := zeroOf_inv hz
              refine ⟨.tuple #[z, .bool false], fun w => ?_, .tuple _ _ rfl (LRel.cons (.flat hfl) (LRel.cons (.bool false) .nil)).toArrays.2⟩
              simp only [execOp, hop, hr, Sem.run_bind, run_typeAssert_other hu hni hne _ z hz, Result.andThen_ok, Sem.run_pure]
            · cases h
    · rename_i d hni hu hx
      have hxr := he.ev _ _ hx
      generalize hr : rv x = r at hxr
      cases hxr
      cases ok with
      | false => cases h
      | true =>
        simp only [cond_true] at h
        split at h
        · rename_i z hz
          injection h with h; subst h
          obtain ⟨_, _, _, hfl, _⟩ := zeroOf_inv hz
          refine ⟨.tuple #[z, .bool false], fun w => ?_, .tuple _ _ rfl (LRel.cons (.flat hfl) (LRel.cons (.bool false) .nil)).toArrays.2⟩
          simp only [execOp, hop, hr, Sem.run_bind, run_typeAssert_nil hu hni z hz, Result.andThen_ok, Sem.run_pure]
        · cases h
    · cases h
  · rename_i x i hop
    split at h
    · rename_i vs hx
      have hxr := he.ev _ _ hx
      generalize hr : rv x = r at hxr
      cases hxr with
      | tuple a a' ha hc =>
        have hlt : i < a'.size := by rw [← ha]; exact (Array.getElem?_eq_some_iff.1 h).1
        have h' : a'[i]? = some a'[i] := by simp [hlt]
        exact ⟨a'[i], fun w => by simp [execOp, hop, hr, Instr.extract, hlt], hc _ _ _ h h'⟩
    · cases h
  · rename_i args argTypes hop
    split at h
    · rename_i t ts u us ht hu
      have hl := he.evs _ _ hu
      obtain ⟨u', us', hl', hur, hus⟩ := hl.cons_inv
      obtain ⟨v', h1, h2⟩ := alen_sound (ty := o.type) (rest := ts) (restv := us') h hur
      refine ⟨v', fun w => ?_, h2⟩
      have ea : args.map rv = (u' :: us').toArray := by rw [← hl']; exact amap args rv
      have et : argTypes = (t :: ts).toArray := by rw [← ht]
      simp only [execOp, hop, resolve, Sem.run_bind, Sem.run_pure, Result.andThen_ok, invoke, builtin, ea, et, h1]
    · cases h
  · rename_i args argTypes hop
    split at h
    · rename_i t ts u us ht hu
      have hl := he.evs _ _ hu
      obtain ⟨u', us', hl', hur, hus⟩ := hl.cons_inv
      obtain ⟨v', h1, h2⟩ := acap_sound (ty := o.type) (rest := ts) (restv := us') h hur
      refine ⟨v', fun w => ?_, h2⟩
      have ea : args.map rv = (u' :: us').toArray := by rw [← hl']; exact amap args rv
      have et : argTypes = (t :: ts).toArray := by rw [← ht]
      simp only [execOp, hop, resolve, Sem.run_bind, Sem.run_pure, Result.andThen_ok, invoke, builtin, ea, et, h1]
    · cases h
  · rename_i args argTypes hop
    split at h
    · rename_i vs hvs
      have hl := he.evs _ _ hvs
      obtain ⟨v', h1, h2⟩ := amax_sound (P := P) (ts := argTypes) (ty := o.type) h hl
      refine ⟨v', fun w => ?_, h2⟩
      have ea := amap args rv
      simp only [execOp, hop, resolve, Sem.run_bind, Sem.run_pure, Result.andThen_ok, invoke, builtin, ea, h1]
    · cases h
  · rename_i args argTypes hop
    split at h
    · rename_i vs hvs
      have hl := he.evs _ _ hvs
      obtain ⟨v', h1, h2⟩ := amin_sound (P := P) (ts := argTypes) (ty := o.type) h hl
      refine ⟨v', fun w => ?_, h2⟩
      have ea := amap args rv
      simp only [execOp, hop, resolve, Sem.run_bind, Sem.run_pure, Result.andThen_ok, invoke, builtin, ea, h1]
    · cases h
  · cases h
end
end Go.Am

