/- 'revenantlaw09.ImageNil' returns true for every input, and the input reads as it did: the given statement ImageNilSaid. No conditions. -/
import Derived.Test.YtpngimbillnjdaaRows
import Derived.Test.YtpngimbillnjdaaWkN
import Derived.Test.YtpngimbillnjdaaChecked
import Derived.WalkKit
import Derived.ProofKit
import Derived.OpenShut
import Derived.KernelRfl
namespace Go.Proofs.Ytpngimbillnjdaa
open Go Go.Am Go.RowKit

theorem good : Go.Am.Good Try.prog := ⟨by kernel_rfl, by kernel_rfl⟩
theorem laidOut : laidOutB Try.prog = true := by kernel_rfl
theorem lives09_calls (w : World) : Calls Try.prog 41 #[] w fun e w' => e = .returned (.bool true) ∧ Below w.heap.size w w' :=
  calls_true good extNone_ok (L := fun _ => []) (n := 400) (by kernel_rfl) w
theorem X09_ok : ExtOk Try.prog X09 := extConst_ok ⟨Try.f41, Try.func41, by kernel_rfl, by kernel_rfl⟩ rfl lives09_calls
theorem cells5 : Try.prog.cellsOf 5 = 1 := by kernel_rfl
theorem sliceTy35 : Try.prog.underlying 35 = some (.slice 5) := by kernel_rfl

/-- One block that stands for none. -/
theorem oneBlk_nowhere (zs : List Value) (row : TypeId) (w : World) : Rel Try.prog nowhere (oneBlk zs row) w where
  dom := fun a q h => by cases h
  blk := fun a q o h => by cases h
  sep := fun a a' q q' o o' h => by cases h
  out := fun a ha => by
    rw [oneBlk_get, if_neg]
    have : (1 : Nat) ≤ a := ha
    omega
theorem oneBlk_ro (zs : List Value) (row : TypeId) : ∀ a o, (oneBlk zs row).get a = some o → isRo o = true := by
  intro a o h
  rw [oneBlk_get] at h
  split at h
  · injection h with h; subst h; rfl
  · cases h
end Go.Proofs.Ytpngimbillnjdaa
namespace Go.Proofs.Ytpngimbillnjdaa.imageNil
open Go.Am Go.ChangeShapes Go.WideShapes Go.ChangeAt Go.RowKit

theorem own : ownKnob Try.prog.godebug = none := by kernel_rfl

set_option maxRecDepth 100000 in
theorem walk {H : Type} {enc : TypeId × Value → H} {W : World} {base : Nat} {v1 : Value} {d1 : DataW H} {ps : List MemPlace} (a0 : Int) (hval : Value.okWide Try.prog W .any base 35 v1) (hd : DataW.Trod enc Try.prog W 0 (fun _ => true) true 35 v1 d1 ps) :
    Calls Try.prog 10 #[.int .i64 a0, v1] W fun e w' => e = .returned (.bool true) ∧ Below W.heap.size W w' := by
  rcases open_bytesA sliceTy35 Try.underlying5 cells5 hval hd with rfl | ⟨zs, n, hn, hb⟩
  · exact calls_ro good X09_ok (ImageNil_spec X09_ok [] 5 a0 none 0 0) (oneBlk_ro [] 5) (oneBlk_nowhere [] 5 W) (LRel.cons (.int _ _) (LRel.cons .sliceNil LRel.nil))
  · have hone : ∀ z ∈ cellsB zs, flat z = true := by
      intro z hz
      simp only [cellsB, List.mem_map] at hz
      obtain ⟨b, _, rfl⟩ := hz
      rfl
    obtain ⟨ρ, row, c, h1, h2, h3, h4, h5⟩ := oneBlk_rel hone hb
    exact calls_ro good X09_ok (ImageNil_spec X09_ok _ row a0 _ n c) (oneBlk_ro _ row) h1 (LRel.cons (.int _ _) (LRel.cons h2 LRel.nil))

/-! ### The row -/
set_option maxRecDepth 100000 in
theorem lifted (os : Os) (started : os.Started) (H : Type) (enc : TypeId × Value → H) :
    ReturnsInHanded {} Try.checked os 10 .any (Rows.imageNilSpec.pre6 enc Try.prog Try.f10 Rows.imageNilRow.domain false) (Rows.imageNilSpec.post enc Try.prog Try.f10 false true false false) := by
  refine returnsInHanded_of_change (C := Try.checked) own started (by kernel_rfl) Try.func10
    (ChangeSpec.witness6 (enc := enc) (C := Try.checked) false ⟨#[], #[.int .i64 0, .slice none 0 0], []⟩ 8 (by kernel_rfl) (by kernel_rfl) (by kernel_rfl) (by kernel_rfl)) ?_
  intro W base args ds gs before hval0 hW hcnd _
  have hval : ∀ (j : Nat) t v, Try.f10.params[j]? = some t → args[j]? = some v → Value.okWide Try.prog W .any base t v := hval0
  have hW' := hW
  obtain ⟨p, q, hA0, hV, rfl, hfz, hnd⟩ := hW
  have hA : DataW.TrodAll enc Try.prog W 0 (fun _ => true) true Try.f10.params.toList args.toList ds p := hA0
  rw [Try.params10] at hA hval
  obtain ⟨v0, vs0, d0, ds0, p0, q0, hargs, rfl, rfl, h0, r0⟩ := trodAll_cons hA
  obtain ⟨v1, vs1, d1, ds1, p1, q1, rfl, rfl, rfl, h1, r1⟩ := trodAll_cons r0
  obtain ⟨rfl, rfl, rfl⟩ := trodAll_nil r1
  obtain rfl : args = #[v0, v1] := by cases args; simp_all
  obtain ⟨rfl, rfl⟩ := trodVars_none hV
  obtain ⟨a0, rfl, rfl, rfl, w0⟩ := open_int Try.underlying3 (hval 0 3 v0 rfl rfl) h0
  have hv1 := hval 1 35 v1 rfl rfl
  clear hA0 hval0
  simp only [List.append_nil, List.nil_append] at hW'
  refine (walk a0 hv1 h1).mono fun e W' ⟨he, hg⟩ => ?_
  subst he
  exact ⟨_, rfl, law_post laidOut rfl Try.underlying4 rfl (by kernel_rfl) rfl hW' hg⟩

theorem over : Rows.imageNilRow.holds Try.pinned (OpenSpec.ofChange Rows.imageNilSpec) :=
  OpenClaim.holds_of_wide 10 Try.f10 rfl rfl rfl rfl rfl rfl rfl ⟨rfl, rfl, rfl, rfl, rfl⟩ rfl rfl rfl rfl rfl (by kernel_rfl) Try.func10 (by kernel_rfl)
    (of_decide_eq_true (by kernel_rfl)) (by unfold Func.isWrapper; first | (rw [if_pos (by decide +kernel)]; kernel_rfl) | (rw [if_neg (by decide +kernel)]; exact ⟨rfl, rfl⟩))
    (fun os started H enc _ => lifted os started H enc)

/-- The statement. -/
theorem proved : Rows.ImageNilSaid :=
  over
#print axioms proved
end Go.Proofs.Ytpngimbillnjdaa.imageNil
