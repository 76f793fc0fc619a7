/- 'revenantlaw17.ReaderNil' returns true for every input, and the input reads as it did: the given statement ReaderNilSaid. No conditions. -/
import Derived.Test.YtpngimbillnjdaaRows
import Derived.Test.YtpngimbillnjdaaLives
import Derived.WalkKit
import Derived.ProofKit
import Derived.OpenShut
namespace Go.Proofs.Ytpngimbillnjdaa.readerNil
open Go.Am Go.ChangeShapes Go.WideShapes Go.ChangeAt Go.RowKit

theorem own : ownKnob Try.prog.godebug = none := by kernel_rfl

/-! ### The walk: on the abstract machine, for a slot that is not below 0, for -1, and for one below -1 -/
theorem run_nat (n : Nat) : isTrue (acall Try.prog X17 300 7 [.int .i64 (Int.ofNat n)] noBlocks) = true := by kernel_rfl
theorem run_one : isTrue (acall Try.prog X17 300 7 [.int .i64 (Int.negSucc 0)] noBlocks) = true := by kernel_rfl
theorem run_neg (n : Nat) : isTrue (acall Try.prog X17 300 7 [.int .i64 (Int.negSucc (n + 1))] noBlocks) = true := by kernel_rfl

theorem walk (a0 : Int) (w : World) : Calls Try.prog 7 #[.int .i64 a0] w fun e w' => e = .returned (.bool true) ∧ Below w.heap.size w w' := by
  match a0 with
  | .ofNat n => exact calls_true1 good X17_ok (run_nat n) w
  | .negSucc 0 => exact calls_true1 good X17_ok run_one w
  | .negSucc (n + 1) => exact calls_true1 good X17_ok (run_neg n) w

/-! ### The row -/
set_option maxRecDepth 100000 in
theorem lifted (os : Os) (started : os.Started) (H : Type) (enc : TypeId × Value → H) :
    ReturnsInHanded {} Try.checked os 7 .any (Rows.readerNilSpec.pre6 enc Try.prog Try.f7 Rows.readerNilRow.domain false) (Rows.readerNilSpec.post enc Try.prog Try.f7 false true false false) := by
  refine returnsInHanded_of_change (C := Try.checked) own started (by kernel_rfl) Try.func7
    (ChangeSpec.witness6 (enc := enc) (C := Try.checked) false ⟨#[], #[.int .i64 0], []⟩ 8 (by kernel_rfl) (by kernel_rfl) (by kernel_rfl) (by kernel_rfl)) ?_
  intro W base args ds gs before hval0 hW hcnd _
  have hval : ∀ (j : Nat) t v, Try.f7.params[j]? = some t → args[j]? = some v → Value.okWide Try.prog W .any base t v := hval0
  have hW' := hW
  obtain ⟨p, q, hA0, hV, rfl, hfz, hnd⟩ := hW
  have hA : DataW.TrodAll enc Try.prog W 0 (fun _ => true) true Try.f7.params.toList args.toList ds p := hA0
  rw [Try.params7] at hA hval
  obtain ⟨v0, vs0, d0, ds0, p0, q0, hargs, rfl, rfl, h0, r0⟩ := trodAll_cons hA
  obtain ⟨rfl, rfl, rfl⟩ := trodAll_nil r0
  obtain rfl : args = #[v0] := by cases args; simp_all
  obtain ⟨rfl, rfl⟩ := trodVars_none hV
  obtain ⟨a0, rfl, rfl, rfl, w0⟩ := open_int Try.underlying3 (hval 0 3 v0 rfl rfl) h0
  clear hA0 hval0
  simp only [List.append_nil] at hW'
  refine (walk a0 W).mono fun e W' ⟨he, hg⟩ => ?_
  subst he
  exact ⟨_, rfl, law_post laidOut rfl Try.underlying4 rfl (by kernel_rfl) rfl hW' hg⟩

theorem over : Rows.readerNilRow.holds Try.pinned (OpenSpec.ofChange Rows.readerNilSpec) :=
  OpenClaim.holds_of_wide 7 Try.f7 rfl rfl rfl rfl rfl rfl rfl ⟨rfl, rfl, rfl, rfl, rfl⟩ rfl rfl rfl rfl rfl (by kernel_rfl) Try.func7 (by kernel_rfl)
    (of_decide_eq_true (by kernel_rfl)) (by unfold Func.isWrapper; first | (rw [if_pos (by decide +kernel)]; kernel_rfl) | (rw [if_neg (by decide +kernel)]; exact ⟨rfl, rfl⟩))
    (fun os started H enc _ => lifted os started H enc)

/-- The statement. -/
theorem proved : Rows.ReaderNilSaid :=
  over
#print axioms proved
end Go.Proofs.Ytpngimbillnjdaa.readerNil
