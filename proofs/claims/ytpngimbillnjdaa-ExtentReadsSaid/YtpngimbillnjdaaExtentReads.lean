/- 'revenantlaw08.ExtentReads' returns true for every input, and the input reads as it did: the given statement ExtentReadsSaid. No conditions. -/
import Derived.Test.YtpngimbillnjdaaRows
import Derived.Test.YtpngimbillnjdaaWkB
import Derived.Test.YtpngimbillnjdaaChecked
import Derived.WalkKit
import Derived.ProofKit
import Derived.OpenShut
import Derived.KernelRfl
namespace Go.Proofs.Ytpngimbillnjdaa
open Go Go.Am Go.RowKit

theorem good : Go.Am.Good Try.prog := ⟨by kernel_rfl, by kernel_rfl⟩
theorem laidOut : laidOutB Try.prog = true := by kernel_rfl
theorem lives08_calls (w : World) : Calls Try.prog 13 #[] w fun e w' => e = .returned (.bool true) ∧ Below w.heap.size w w' :=
  calls_true good extNone_ok (L := fun _ => []) (n := 300) (by kernel_rfl) w
def X08 : Ext := extOne 13 (sumConst (.bool true))
theorem X08_ok : ExtOk Try.prog X08 := extConst_ok ⟨Try.f13, Try.func13, by kernel_rfl, by kernel_rfl⟩ rfl lives08_calls
theorem X08_x : XOk X08 := ⟨X08_ok, fun f hf => by
  unfold X08 extOne
  cases hb : Nat.beq f 13 with
  | false => rfl
  | true =>
    have := Nat.eq_of_beq_eq_true hb
    subst this
    simp [exts] at hf⟩
theorem X08_13 : X08 13 = some (sumConst (.bool true)) := by kernel_rfl
theorem cells5 : Try.prog.cellsOf 5 = 1 := by kernel_rfl
end Go.Proofs.Ytpngimbillnjdaa
namespace Go.Proofs.Ytpngimbillnjdaa.extentReads
open Go.Am Go.ChangeShapes Go.WideShapes Go.ChangeAt Go.RowKit

theorem own : ownKnob Try.prog.godebug = none := by kernel_rfl

theorem noBlocks_ro : ∀ a o, noBlocks.get a = some o → isRo o = true := by
  intro a o h
  cases h

set_option maxRecDepth 100000 in
theorem walk {H : Type} {enc : TypeId × Value → H} {W : World} {base : Nat} {v0 : Value} {d0 : DataW H} {ps : List MemPlace} (a1 : Int) (hval : Value.okWide Try.prog W .any base 35 v0) (hd : DataW.Trod enc Try.prog W 0 (fun _ => true) true 35 v0 d0 ps) :
    Calls Try.prog 4 #[v0, .int .i64 a1] W fun e w' => e = .returned (.bool true) ∧ Below W.heap.size W w' := by
  rcases open_bytesA sliceTy35 Try.underlying5 cells5 hval hd with rfl | ⟨zs, n, hn, hb⟩
  · exact calls_ro good X08_ok (ExtentReads_spec X08_x X08_13 (h := noBlocks) (bs := []) Sl.nil) noBlocks_ro (rel_nowhere W) (LRel.cons .sliceNil (LRel.cons (.int _ _) LRel.nil))
  · have hone : ∀ z ∈ cellsB zs, flat z = true := by
      intro z hz
      simp only [cellsB, List.mem_map] at hz
      obtain ⟨b, _, rfl⟩ := hz
      rfl
    obtain ⟨ρ, row, c, h1, h2, h3, h4, h5⟩ := oneBlk_rel hone hb
    refine calls_ro good X08_ok (ExtentReads_spec X08_x X08_13 (oneBlk_sl h3 h4 h5)) (fun a o h => ?_) h1 (LRel.cons h2 (LRel.cons (.int _ _) LRel.nil))
    rw [oneBlk_get] at h
    split at h
    · injection h with h; subst h; rfl
    · cases h

/-! ### The row -/
set_option maxRecDepth 100000 in
theorem lifted (os : Os) (started : os.Started) (H : Type) (enc : TypeId × Value → H) :
    ReturnsInHanded {} Try.checked os 4 .any (Rows.extentReadsSpec.pre6 enc Try.prog Try.f4 Rows.extentReadsRow.domain false) (Rows.extentReadsSpec.post enc Try.prog Try.f4 false true false false) := by
  refine returnsInHanded_of_change (C := Try.checked) own started (by kernel_rfl) Try.func4
    (ChangeSpec.witness6 (enc := enc) (C := Try.checked) false ⟨#[], #[.slice none 0 0, .int .i64 0], []⟩ 8 (by kernel_rfl) (by kernel_rfl) (by kernel_rfl) (by kernel_rfl)) ?_
  intro W base args ds gs before hval0 hW hcnd _
  have hval : ∀ (j : Nat) t v, Try.f4.params[j]? = some t → args[j]? = some v → Value.okWide Try.prog W .any base t v := hval0
  have hW' := hW
  obtain ⟨p, q, hA0, hV, rfl, hfz, hnd⟩ := hW
  have hA : DataW.TrodAll enc Try.prog W 0 (fun _ => true) true Try.f4.params.toList args.toList ds p := hA0
  rw [Try.params4] at hA hval
  obtain ⟨v0, vs0, d0, ds0, p0, q0, hargs, rfl, rfl, h0, r0⟩ := trodAll_cons hA
  obtain ⟨v1, vs1, d1, ds1, p1, q1, rfl, rfl, rfl, h1, r1⟩ := trodAll_cons r0
  obtain ⟨rfl, rfl, rfl⟩ := trodAll_nil r1
  obtain rfl : args = #[v0, v1] := by cases args; simp_all
  obtain ⟨rfl, rfl⟩ := trodVars_none hV
  obtain ⟨a1, rfl, rfl, rfl, w1⟩ := open_int Try.underlying3 (hval 1 3 v1 rfl rfl) h1
  have hv0 := hval 0 35 v0 rfl rfl
  clear hA0 hval0
  simp only [List.append_nil] at hW'
  refine (walk a1 hv0 h0).mono fun e W' ⟨he, hg⟩ => ?_
  subst he
  exact ⟨_, rfl, law_post laidOut rfl Try.underlying4 rfl (by kernel_rfl) rfl hW' hg⟩

theorem over : Rows.extentReadsRow.holds Try.pinned (OpenSpec.ofChange Rows.extentReadsSpec) :=
  OpenClaim.holds_of_wide 4 Try.f4 rfl rfl rfl rfl rfl rfl rfl ⟨rfl, rfl, rfl, rfl, rfl⟩ rfl rfl rfl rfl rfl (by kernel_rfl) Try.func4 (by kernel_rfl)
    (of_decide_eq_true (by kernel_rfl)) (by unfold Func.isWrapper; first | (rw [if_pos (by decide +kernel)]; kernel_rfl) | (rw [if_neg (by decide +kernel)]; exact ⟨rfl, rfl⟩))
    (fun os started H enc _ => lifted os started H enc)

/-- The statement. -/
theorem proved : Rows.ExtentReadsSaid :=
  over
#print axioms proved
end Go.Proofs.Ytpngimbillnjdaa.extentReads
