/- 'revenantlaw14.LabelNil' returns true for every input, and the input reads as it did: the given statement LabelNilCardSaid (the row, tied to the program's text). No conditions beyond the given row's: the two tables that it lists are as the program's text lays them. -/
import Derived.Test.YtpjjladkfgkijaaDoorAmF
import Derived.Test.YtpjjladkfgkijaaDoorRows
import Derived.Test.YtpjjladkfgkijaaDoorCards
import Derived.Test.YtpjjladkfgkijaaDoorTie
import Derived.ProofKit
import Derived.OpenShut
import Derived.LaidMore
import Derived.Lay
import Derived.SevenTiedAt
namespace Go.Proofs.YtpjjladkfgkijaaDoor.labelNil
open Go Go.Am Go.ChangeShapes Go.WideShapes Go.ChangeAt Go.RowKit

theorem good : Go.Am.Good Tryd.prog := ⟨by kernel_rfl, by kernel_rfl⟩
theorem laidOut : laidOutB Tryd.prog = true := by kernel_rfl
theorem own : ownKnob Tryd.prog.godebug = none := by kernel_rfl

/-! ### The walk: on the abstract machine, for a slot that is not below 0, for -1, and for one below -1 -/
theorem run_nat (n : Nat) : isTrue (acall Tryd.prog extNone 500 3 [.int .i64 (Int.ofNat n)] noBlocks) = true := by kernel_rfl
theorem run_one : isTrue (acall Tryd.prog extNone 500 3 [.int .i64 (Int.negSucc 0)] noBlocks) = true := by kernel_rfl
theorem run_neg (n : Nat) : isTrue (acall Tryd.prog extNone 500 3 [.int .i64 (Int.negSucc (n + 1))] noBlocks) = true := by kernel_rfl

theorem walk (a0 : Int) (w : World) : Calls Tryd.prog 3 #[.int .i64 a0] w fun e w' => e = .returned (.bool true) ∧ Below w.heap.size w w' := by
  match a0 with
  | .ofNat n => exact calls_true1 good extNone_ok (run_nat n) w
  | .negSucc 0 => exact calls_true1 good extNone_ok run_one w
  | .negSucc (n + 1) => exact calls_true1 good extNone_ok (run_neg n) w

/-! ### The row -/
set_option maxRecDepth 100000 in
theorem lifted (os : Os) (started : os.Started) (H : Type) (enc : TypeId × Value → H) :
    ReturnsInHanded {} Tryd.checked os 3 .any (fun w args => (Rows.labelNilSpec.pre enc Tryd.prog Tryd.f3 Rows.labelNilRow.domain false w args ∧ laidMetH Tryd.prog Rows.labelNilRow.laid w) ∧ sizedMet enc Tryd.prog Tryd.f3 (OpenSpec.ofChange Rows.labelNilSpec) false w args)
      (Rows.labelNilSpec.post enc Tryd.prog Tryd.f3 false true false false) := by
  refine returnsInHanded_of_change_and (C := Tryd.checked) (X := fun w _ => laidMetH Tryd.prog Rows.labelNilRow.laid w) (fun _ _ _ hh h => h.of_heap hh) own started (by kernel_rfl) Tryd.func3
    (ChangeSpec.witness_shaped (enc := enc) (C := Tryd.checked) (os := os) (X := fun w _ => laidMetH Tryd.prog Rows.labelNilRow.laid w) false (World.laidAll Tryd.prog os Rows.labelNilRow.laid) #[.int .i64 0] 8 (World.laidAll_os _ _ _)
      (World.shaped_of_ZipB (by kernel_rfl) (by kernel_rfl)) (by kernel_rfl) (by kernel_rfl) (by kernel_rfl)
      (by rw [MakeChecks.laidMetH_plain _ _ _ (by kernel_rfl)]; exact laidMet_laidAll _ (by kernel_rfl) (by kernel_rfl))) ?_
  intro W base args ds gs before hval0 hW _ _ _ _
  have hval : ∀ (j : Nat) t v, Tryd.f3.params[j]? = some t → args[j]? = some v → Value.okWide Tryd.prog W .any base t v := hval0
  have hW' := hW
  obtain ⟨p, q, hA0, hV, rfl, _, _⟩ := hW
  have hA : DataW.TrodAll enc Tryd.prog W 0 (fun _ => true) true Tryd.f3.params.toList args.toList ds p := hA0
  rw [Tryd.params3] at hA hval
  obtain ⟨v0, d0, rfl, rfl, h0⟩ := trodAll_one hA
  obtain ⟨rfl, rfl⟩ := trodVars_none hV
  obtain ⟨x, rfl, rfl, rfl, wx⟩ := open_int Tryd.underlying3 (hval 0 3 v0 rfl rfl) h0
  simp only [List.append_nil] at hW'
  refine (walk x W).mono fun e W' ⟨he, hg⟩ => ?_
  subst he
  exact ⟨_, rfl, law_post laidOut rfl Tryd.underlying4 rfl (by kernel_rfl) rfl hW' hg⟩

theorem holds : Rows.LabelNilSaid :=
  OpenClaim.holds_of_wide 3 Tryd.f3 rfl rfl rfl rfl rfl rfl rfl ⟨rfl, rfl, rfl, rfl, rfl⟩ rfl rfl rfl rfl rfl (by kernel_rfl) Tryd.func3 (by kernel_rfl)
    (of_decide_eq_true (by kernel_rfl)) (by unfold Func.isWrapper; first | (rw [if_pos (by decide +kernel)]; kernel_rfl) | (rw [if_neg (by decide +kernel)]; exact ⟨rfl, rfl⟩))
    (fun os started H enc _ => lifted os started H enc)

/-- The statement. -/
theorem proved : Rows.LabelNilCardSaid :=
  Claim7.holds_tied_plain_at .later [] [.data, .pinned] true (true, "f2cfefcf4101e492c027cd7051bc3db4029bde1c39b70f45022adbe45372aa32") false holds (fun _ h => by cases h) (by kernel_rfl) (fun _ h => by cases h) labelNil_row_tie rfl ⟨rfl, rfl⟩ (by kernel_rfl) rfl
    (fun f fn hf hfn => by
      obtain rfl : f = 3 := Option.some.inj ((show Tryd.prog.funcNamed "revenant/revenantlaw14.LabelNil" = some 3 by kernel_rfl).symm.trans hf) |>.symm
      obtain rfl : fn = Tryd.f3 := (Option.some.inj (Tryd.func3.symm.trans hfn)).symm
      exact ⟨by kernel_rfl, fun j t ht => by
        rw [Tryd.params3] at ht
        have h3 : t = 3 := by
          rcases j with _ | j
          · simpa using ht.symm
          · simp at ht
        subst h3
        exact (show Tryd.prog.wantsStandIn 3 = false by kernel_rfl)⟩)
    (by kernel_rfl)
#print axioms proved
end Go.Proofs.YtpjjladkfgkijaaDoor.labelNil
