/- A law's row, and summaries that are plugged in for functions. No conditions beyond those each theorem states. -/
import Derived.Test.YtpngimbillnjdaaAmE
import Derived.Carry
import Derived.ChangeShapes
import Derived.ChangeSame
import Derived.OpenShut
/- A law's row, its last step: the call returned true, and left what was there as it was. -/
namespace Go.Am
open Go Go.RowKit Go.ChangeShapes Go.WideShapes

section
variable {H : Type} {enc : TypeId × Value → H} {P : Program}

/-- What the arguments read as, they read as behind the call, too. -/
theorem trodAll_below (hl : laidOutB P = true) {W W' : World} (hb : Below W.heap.size W W') : ∀ (ts : List TypeId) (vs : List Value) (ds : List (DataW H)) (ps : List MemPlace),
    ts.all (fun t => P.readableRec t && decide (t < P.types.size)) = true → DataW.TrodAll enc P W 0 (fun _ => true) true ts vs ds ps → (∀ x ∈ ps, x.block < W.heap.size) →
    DataW.TrodAll enc P W' 0 (fun b => decide (b < W.heap.size)) true ts vs ds ps := by
  intro ts
  induction ts with
  | nil =>
    intro vs ds ps _ h _
    obtain ⟨rfl, rfl, rfl⟩ := trodAll_nil h
    exact trodAll_mk0
  | cons t ts ih =>
    intro vs ds ps hr h hlt
    obtain ⟨v, vs', d, ds', p, q, rfl, rfl, rfl, h1, h2⟩ := trodAll_cons h
    simp only [List.all_cons, Bool.and_eq_true, decide_eq_true_eq] at hr
    exact ⟨p, q, Below.trod hl hr.1.1 hr.1.2 h1 hb (fun x hx => hlt x (by simp [hx])), ih _ _ _ (by simpa using hr.2) h2 (fun x hx => hlt x (by simp [hx])), rfl⟩

/-- The law's row. -/
theorem law_post {f : Func} {s : ChangeSpec} {tb : TypeId} {W W' : World} {args : Array Value} {ds gs : List (DataW H)} {before : List MemPlace} (hl : laidOutB P = true) (hrt : f.resultTypes = #[tb]) (hub : P.underlying tb = some .bool)
    (hvars : s.vars = []) (hread : f.params.toList.all (fun t => P.readableRec t && decide (t < P.types.size)) = true) (hfn : s.fn H (ds ++ gs) = { results := [.lit (.bool true)], args := ds })
    (hW : DataW.Whole enc P f.params.toList s.vars false W args.toList ds gs before) (hb : Below W.heap.size W W') :
    s.post enc P f false true false false W args (.bool true) W' := by
  have hW0 := hW
  obtain ⟨p, q, h1, h2, rfl, h3, h4⟩ := hW
  rw [hvars] at h2
  obtain ⟨rfl, rfl⟩ := trodVars_none h2
  refine ⟨ds, [], p ++ [], [], p, [], hW0, ?_, ?_, ?_, hb.frame _, fun h => by cases h⟩
  · rw [hfn, hrt]
    exact trodAll_mk1 (shut_bool hub true)
  · rw [hfn]
    exact trodAll_below hl hb _ _ _ _ hread h1 (fun x hx => hW0.lt x (by simpa using hx))
  · rw [hfn, hvars]
    exact rfl
end
end Go.Am

/- Summaries plugged in for functions. -/
namespace Go.Am
open Go Go.RowKit

section
variable {P : Program} {ρ : Ren} {h : AH} {w w' : World}

/-- A call that leaves what was there is a step. -/
theorem step_below (r : Rel P ρ h w) (hb : Below w.heap.size w w') : Step P ρ h w ρ h w' where
  rel := {
    dom := fun a q hq => ⟨(r.dom a q hq).1, Nat.lt_of_lt_of_le (r.dom a q hq).2 hb.size⟩
    blk := fun a q o hq ho => (r.blk a q o hq ho).mono (fun _ _ h => h) (hb.block _ (r.dom a q hq).2)
    sep := r.sep
    out := r.out }
  mono := fun _ _ h => h
  old := fun _ _ h => ⟨h, rfl⟩
  dead := fun _ _ h => h
  ro := fun _ _ h _ => h
  new := fun a q ha hq => absurd (r.dom a q hq).1 (by omega)
  next := Nat.le_refl _
  keep := fun i hi _ => hb.block i hi
  grow := hb.size
  os := hb.os
  tape := hb.tape
  output := hb.output

def extNone : Ext := fun _ => none
theorem extNone_ok : ExtOk P extNone := ⟨(fun _ _ h => by cases h), (fun _ _ h => by cases h)⟩

/-- Of a function without parameters: it returns v, and changes nothing. -/
def sumConst (v : Value) (args : List Value) (h : AH) : Option (Value × AH) :=
  match args with
  | [] => some (v, h)
  | _ => none
def extOne (f : Nat) (e : List Value → AH → Option (Value × AH)) : Ext := fun g => bif Nat.beq g f then some e else none

theorem extOne_inv {f g : Nat} {e e' : List Value → AH → Option (Value × AH)} (h : extOne f e g = some e') : g = f ∧ e' = e := by
  unfold extOne at h
  cases hb : Nat.beq g f with
  | false => rw [hb] at h; cases h
  | true => rw [hb] at h; injection h with h; exact ⟨of_beq hb, h.symm⟩

structure HasBody (P : Program) (f : FuncId) : Prop where
  ex : ∃ fn, P.funcs[f]? = some fn ∧ fn.body.isSome = true ∧ (fn.name == "runtime.NumGoroutine") = false

theorem extConst_ok {f : Nat} {v : Value} (hb : HasBody P f) (hv : flat v = true) (hc : ∀ w, Calls P f #[] w fun e w' => e = .returned v ∧ Below w.heap.size w w') : ExtOk P (extOne f (sumConst v)) where
  onw := by
    intro g e he args h v' h' hh
    obtain ⟨rfl, rfl⟩ := extOne_inv he
    match args, hh with
    | [], hh => simp only [sumConst] at hh; injection hh with hh; injection hh with e1 e2; subst e2; exact Onw.refl _
  sim := by
    intro g e he args h v' h' hh ρ w rargs r hr
    obtain ⟨rfl, rfl⟩ := extOne_inv he
    match args, hh, hr with
    | [], hh, hr =>
      simp only [sumConst] at hh
      injection hh with hh; injection hh with e1 e2; subst e1; subst e2
      have := hr.nil_inv; subst this
      refine ⟨hb.ex, (hc w).mono ?_⟩
      rintro e w' ⟨rfl, hbel⟩
      exact ⟨v, ρ, rfl, VRel.flat hv, step_below r hbel⟩

theorem isTrue_inv {x : Option (Value × AH)} (h : (match x with | some (.bool b, _) => b | _ => false) = true) : ∃ h', x = some (.bool true, h') := by
  split at h
  · rename_i b h'; exact ⟨h', by rw [h]⟩
  · cases h

def isTrue (x : Option (Value × AH)) : Bool := match x with
  | some (.bool b, _) => b
  | _ => false

/-- A function without parameters of which the abstract machine says true. -/
theorem calls_true (hP : Good P) {X : Ext} (hX : ExtOk P X) {L : FuncId → Lv} {n : Nat} {f : FuncId} (ha : isTrue (acall P X L n (.fn f) [] noBlocks) = true) (w : World) :
    Calls P f #[] w fun e w' => e = .returned (.bool true) ∧ Below w.heap.size w w' := by
  obtain ⟨h', e⟩ := isTrue_inv ha
  exact calls_flat hP hX e rfl LRel.nil w
theorem calls_true1 (hP : Good P) {X : Ext} (hX : ExtOk P X) {L : FuncId → Lv} {n : Nat} {f : FuncId} {k : IntKind} {i : Int} (ha : isTrue (acall P X L n (.fn f) [.int k i] noBlocks) = true) (w : World) :
    Calls P f #[.int k i] w fun e w' => e = .returned (.bool true) ∧ Below w.heap.size w w' := by
  obtain ⟨h', e⟩ := isTrue_inv ha
  exact calls_flat hP hX e rfl (LRel.cons (.int _ _) LRel.nil) w
end
end Go.Am

