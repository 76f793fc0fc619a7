/- ImageNil: the walk. No conditions beyond those each theorem states. -/
import Derived.Test.YtpngimbillnjdaaFnN
import Derived.Test.YtpngimbillnjdaaVcA
import Derived.Test.YtpngimbillnjdaaAmF
import Derived.Test.YtpngimbillnjdaaVcB
/- ImageNil: the walk: its calls are reckoned, one by one. -/
namespace Go.Proofs.Ytpngimbillnjdaa
open Go Go.Am

theorem runsF_ext' {X : Ext} {f : FuncId} {ex : List Value → AH → Option (Value × AH)} (hf : X f = some ex) {args : List Value} {h h' : AH} {v : Value} {K : Value → AH → Prop} (he : ex args h = some (v, h')) (hk : K v h') : RunsF Try.prog X LL (.fn f) args h K := by
  refine ⟨v, h', ⟨1, fun n hn => ?_⟩, hk⟩
  obtain ⟨k, rfl⟩ : ∃ k, n = k + 1 := ⟨n - 1, by omega⟩
  simp only [acall, hf, he]

def X09 : Ext := extOne 41 (sumConst (.bool true))
theorem X09_41 : X09 41 = some (sumConst (.bool true)) := by kernel_rfl
theorem X09_10 : X09 10 = none := by kernel_rfl

noncomputable def stepH (f : Nat) (args : List Value) (h : AH) : AH := ((acall Try.prog X09 LL 400 (.fn f) args h).getD (undef, noBlocks)).2
section
variable (zs : List Value) (row : TypeId) (i : Int) (ba : Option Addr) (n c : Nat)
noncomputable def hn0 : AH := (oneBlk zs row).m0
noncomputable def hn1 : AH := stepH 48 [.pointer none, .int .i64 i] (hn0 zs row)
noncomputable def hn2 : AH := stepH 43 [.pointer none, .pointer none] (hn1 zs row i)
noncomputable def hn3 : AH := stepH 49 [.pointer none, .int .i64 i, .slice ba n c] (hn2 zs row i)
noncomputable def hn4 : AH := stepH 50 [.pointer none, .int .i64 i] (hn3 zs row i ba n c)
noncomputable def hn5 : AH := stepH 51 [.pointer none] (hn4 zs row i ba n c)
noncomputable def hn6 : AH := stepH 52 [] (hn5 zs row i ba n c)
noncomputable def hn7 : AH := stepH 47 [.pointer none, .pointer (some ⟨17, 0, none⟩)] (hn6 zs row i ba n c)
noncomputable def hn8 : AH := stepH 53 [.pointer none] (hn7 zs row i ba n c)
noncomputable def hn9 : AH := stepH 47 [.pointer (some ⟨39, 0, none⟩), .pointer none] (hn8 zs row i ba n c)
noncomputable def hn10 : AH := stepH 54 [.pointer none] (hn9 zs row i ba n c)
theorem st1 : acall Try.prog X09 LL 400 (.fn 48) [.pointer none, .int .i64 i] (hn0 zs row) = some (.tuple ⟨[.slice none 0 0, .bool false]⟩, hn1 zs row i) := by kernel_rfl
theorem st2 : acall Try.prog X09 LL 400 (.fn 43) [.pointer none, .pointer none] (hn1 zs row i) = some (.tuple ⟨[.slice none 0 0, .slice none 0 0]⟩, hn2 zs row i) := by kernel_rfl
theorem st3 : acall Try.prog X09 LL 400 (.fn 49) [.pointer none, .int .i64 i, .slice ba n c] (hn2 zs row i) = some (.int .i64 1, hn3 zs row i ba n c) := by kernel_rfl
theorem st4 : acall Try.prog X09 LL 400 (.fn 50) [.pointer none, .int .i64 i] (hn3 zs row i ba n c) = some (.int .i64 1, hn4 zs row i ba n c) := by kernel_rfl
theorem st5 : acall Try.prog X09 LL 400 (.fn 51) [.pointer none] (hn4 zs row i ba n c) = some (.slice none 0 0, hn5 zs row i ba n c) := by kernel_rfl
theorem st6 : acall Try.prog X09 LL 400 (.fn 52) [] (hn5 zs row i ba n c) = some (.pointer (some ⟨17, 0, none⟩), hn6 zs row i ba n c) := by kernel_rfl
theorem st7 : acall Try.prog X09 LL 400 (.fn 47) [.pointer none, .pointer (some ⟨17, 0, none⟩)] (hn6 zs row i ba n c) = some (.bool true, hn7 zs row i ba n c) := by kernel_rfl
theorem st8 : acall Try.prog X09 LL 400 (.fn 53) [.pointer none] (hn7 zs row i ba n c) = some (.pointer (some ⟨39, 0, none⟩), hn8 zs row i ba n c) := by kernel_rfl
theorem st9 : acall Try.prog X09 LL 400 (.fn 47) [.pointer (some ⟨39, 0, none⟩), .pointer none] (hn8 zs row i ba n c) = some (.bool true, hn9 zs row i ba n c) := by kernel_rfl
theorem st10 : acall Try.prog X09 LL 400 (.fn 54) [.pointer none] (hn9 zs row i ba n c) = some (.slice (some ⟨76, 0, none⟩) 2 (capUnknown 2), hn10 zs row i ba n c) := by kernel_rfl
theorem st11 : aread Try.prog (hn10 zs row i ba n c) (evA [(71, .slice (some ⟨76, 0, none⟩) 2 (capUnknown 2))]) (.convert 35 9 (.tmp 71)) = some (.string (ByteArray.mk (Array.mk [1, 0]))) := by kernel_rfl
end
theorem st12 : apure Try.prog (evA [(72, .string (ByteArray.mk (Array.mk [1, 0])))]) (partsA [(72, .string (ByteArray.mk (Array.mk [1, 0])))]) (evsA [(72, .string (ByteArray.mk (Array.mk [1, 0])))]) (.binOp .eql 9 (.tmp 72) (.const (.string (ByteArray.mk (Array.mk [1, 0])))) 9) = some (.bool true) := by kernel_rfl

theorem ImageNil_spec (hX : ExtOk Try.prog X09) (zs : List Value) (row : TypeId) (i : Int) (ba : Option Addr) (n c : Nat) : RunsF Try.prog X09 LL (.fn 10) [.int .i64 i, .slice ba n c] (oneBlk zs row) (fun v _ => v = .bool true) := by
  have lives : ∀ {h : AH} {K : Value → AH → Prop}, K (.bool true) h → V.call Try.prog X09 LL (.fn 41) [] h K := fun hk => runsF_ext' X09_41 rfl hk
  apply run10 hX X09_10
  unfold vc10
  refine ⟨fun w h' => w = [] ∧ h' = hn0 zs row, lives ?_, ?_⟩
  · simp only [V.isBool_mk, V.branch_not, V.branch_true]
    refine V.branch_decide.2 ⟨fun _ => lives ?_, fun _ => ⟨by first | trivial | rfl, by first | trivial | rfl⟩⟩
    simp only [V.isBool_mk]
  · rintro w h' ⟨rfl, rfl⟩
    simp only [V.isNil_nil]
    refine RunsF.run (st1 zs row i) ?_
    simp only [V.isTup_mk, V.uncons_cons, V.isSlice_mk, V.isBool_mk, V.isNil_nil]
    refine RunsF.run (st2 zs row i) ?_
    simp only [V.isTup_mk, V.uncons_cons, V.isSlice_mk, V.isNil_nil]
    refine ⟨fun w _ => w = [.bool true], ?_, ?_⟩
    · refine RunsF.run (st3 zs row i ba n c) ?_
      simp only [V.isInt_mk]
      refine V.branch_decide.2 ⟨fun _ => ?_, fun h => absurd (by first | trivial | rfl) h⟩
      refine RunsF.run (st4 zs row i ba n c) ?_
      simp only [V.isInt_mk]
      refine V.branch_decide.2 ⟨fun _ => ?_, fun h => absurd (by first | trivial | rfl) h⟩
      simp only [V.branch_not, V.branch_false]
      refine RunsF.run (st5 zs row i ba n c) ?_
      simp only [V.isSlice_mk]
      refine V.branch_decide.2 ⟨fun _ => V.branch_decide.2 ⟨fun _ => ?_, fun h => absurd (by decide) h⟩, fun h => absurd (by decide) h⟩
      refine RunsF.run (st6 zs row i ba n c) ?_
      simp only [V.isPtr_mk]
      refine RunsF.run (st7 zs row i ba n c) ?_
      simp only [V.isBool_mk, V.branch_true]
      refine RunsF.run (st8 zs row i ba n c) ?_
      simp only [V.isPtr_mk]
      refine RunsF.run (st9 zs row i ba n c) ?_
      simp only [V.isBool_mk, V.branch_true]
      refine RunsF.run (st10 zs row i ba n c) ?_
      simp only [V.isSlice_mk]
      refine ⟨_, st11 zs row i ba n c, ?_⟩
      simp only [V.isStr_mk]
      refine ⟨_, st12, ?_⟩
      simp only [V.isBool_mk]
    · rintro w h' rfl
      simp only [V.uncons_cons, V.isBool_mk, V.isNil_nil]
end Go.Proofs.Ytpngimbillnjdaa

