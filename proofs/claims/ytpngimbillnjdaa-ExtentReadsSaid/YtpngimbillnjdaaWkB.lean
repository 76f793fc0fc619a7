/- ExtentReads: the walk. No conditions beyond those each theorem states. -/
import Derived.Test.YtpngimbillnjdaaWkA
import Derived.Test.YtpngimbillnjdaaAmF
/- ExtentReads: the walk. -/
namespace Go.Proofs.Ytpngimbillnjdaa
open Go Go.Am

theorem runsF_ext {X : Ext} {f : FuncId} {ex : List Value → AH → Option (Value × AH)} (hf : X f = some ex) {args : List Value} {h h' : AH} {v : Value} {K : Value → AH → Prop} (he : ex args h = some (v, h')) (hk : K v h') : RunsF Try.prog X LL (.fn f) args h K := by
  refine ⟨v, h', ⟨1, fun n hn => ?_⟩, hk⟩
  obtain ⟨k, rfl⟩ : ∃ k, n = k + 1 := ⟨n - 1, by omega⟩
  simp only [acall, hf, he]

section

theorem lives08_spec {X : Ext} (hX : XOk X) (hL : X 13 = some (sumConst (.bool true))) {h : AH} : RunsF Try.prog X LL (.fn 13) [] h (fun v h' => h' = h ∧ v = .bool true) :=
  runsF_ext hL rfl ⟨rfl, rfl⟩

theorem ExtentReads_spec {X : Ext} (hX : XOk X) (hL : X 13 = some (sumConst (.bool true))) {a : Option Addr} {n c : Nat} {h : AH} {bs : List UInt8} {most : Int} (hs : Sl h a n c 1 5 (cellsB bs)) : RunsF Try.prog X LL (.fn 4) [.slice a n c, .int .i64 most] h (fun v h' => v = .bool true) := by
  have hlen : bs.length = n := by have := hs.length; simpa using this
  apply run4 hX.ok (hX.no _ rfl)
  unfold vc4
  refine ⟨fun w h' => w = [] ∧ h' = h.m0 ∧ n ≤ 1000, ?_, ?_⟩
  · refine V.call_of (lives08_spec hX hL) ?_
    rintro v h1 ⟨rfl, rfl⟩
    simp only [V.isBool_mk, V.branch_not, V.branch_true]
    refine V.branch_decide.2 ⟨fun hbig => ?_, fun hsm => ⟨by first | trivial | rfl, by first | trivial | rfl, by omega⟩⟩
    refine V.call_of (lives08_spec hX hL) ?_
    rintro v h1 ⟨rfl, rfl⟩
    simp only [V.isBool_mk]
  · rintro w h' ⟨rfl, rfl, hsm⟩
    simp only [V.isNil_nil]
    refine V.call_of (Open_spec hX (h := h.m0) hs (by omega)) ?_
    rintro v h1 ⟨r, rfl, hr, hrd, hk1⟩
    simp only [V.isPtr_mk]
    have hm : -1000000000 ≤ Int.tmod most 100000 ∧ Int.tmod most 100000 ≤ 1000000000 := by
      have h1 : (Int.tmod most 100000).natAbs = most.natAbs % 100000 := Int.natAbs_tmod most 100000
      omega
    generalize Int.tmod most 100000 = mo at *
    refine V.call_of (Read_spec hX hrd (fun b hb => Nat.lt_trans hb.2 hrd.lt) hm.1 hm.2) ?_
    rintro v h2 ⟨⟨a2, c2, rfl, hs2, hf2, hz2⟩, hrd2, hk2⟩
    simp only [V.isTup_mk, V.uncons_cons, V.isSlice_mk, V.isInt_mk, V.isNil_nil]
    have hna : notIn (just r) a := fun p hp hh => by
      subst hp
      have h1 : p.block < h.next := hs.live
      have h2 : p.block = r := hh
      have h3 : h.next ≤ r := hr
      omega
    have hsa : Sl h2 a n c 1 5 (cellsB bs) := (Sl.keep (h := h.m0) hs hk1 (fun _ _ hh => hh)).keep hk2 hna
    have hka : Keep nowt h2 (h2.alloc (.cells [.slice a n c, .int .i64 0] 46 false)) := Keep.alloc _ _ _
    have hrr : RdAt 46 (fun b => b < h2.next) (h2.alloc (.cells [.slice a n c, .int .i64 0] 46 false)) h2.next bs 0 :=
      ⟨by simp, fun hh => Nat.lt_irrefl _ hh, a, n, c, AH.get_alloc_self _ _, hsa.keep hka (fun _ _ hh => hh), fun p hp => by subst hp; exact hsa.live⟩
    refine V.call_of (RRead_spec hX hrr (fun b hb => Nat.lt_succ_of_lt hb) hm.1 hm.2) ?_
    rintro v h3 ⟨⟨a3, c3, rfl, hs3, hf3, hz3⟩, hrd3, hk3⟩
    simp only [V.isTup_mk, V.uncons_cons, V.isSlice_mk, V.isInt_mk, V.isNil_nil]
    have hs2' : Sl h3 a2 (readS mo bs 0).1.length c2 2 48 (cellsR (readS mo bs 0).1) := (hs2.keep hka (fun _ _ hh => hh)).keep hk3 (fun p hp hh => by
      subst hp
      have h1 := hs2.live
      have h2 : p.block = _ := hh
      omega)
    have hLb := readS_length mo bs 0
    generalize (readS mo bs 0).1 = L at *
    generalize (readS mo bs 0).2.1 = er at *
    clear hrd3 hrd2 hrd
    refine ⟨fun w h' => w = [] ∧ h' = h3, V.branch_not_decide.2 ⟨fun hh => absurd (by first | trivial | rfl) hh, fun _ => V.branch_not_decide.2 ⟨fun hh => absurd (by first | trivial | rfl) hh, fun _ => ⟨by first | trivial | rfl, by first | trivial | rfl⟩⟩⟩, ?_⟩
    rintro w h' ⟨rfl, rfl⟩
    simp only [V.isNil_nil]
    refine ⟨fun vs h'' m => ∃ i : Nat, vs = [.int .i64 i] ∧ Keep nowt h' h'' ∧ i ≤ L.length ∧ m = L.length - i, ⟨L.length, 0, rfl, Keep.refl _ _, by omega, rfl⟩, ?_⟩
    rintro vs h4 m ⟨i, rfl, hk4, hi, rfl⟩
    simp only [V.uncons_cons, V.isInt_mk, V.isNil_nil]
    have hnw : ∀ b : Option Addr, notIn nowt b := fun _ _ _ hh => hh
    refine V.branch_decide.2 ⟨fun hlt => ?_, fun _ => by first | trivial | rfl⟩
    have hi' : i < L.length := by omega
    have t2 := hs2'.keep hk4 (hnw _)
    have t3 := hs3.keep hk4 (hnw _)
    cases a2 with
    | none => have := t2.at_.1; omega
    | some p2 =>
    cases a3 with
    | none => have := t3.at_.1; omega
    | some p3 =>
    simp only [V.isSome_some, Int.toNat_natCast]
    refine V.guard_decide.2 ⟨⟨by omega, hlt⟩, t2.ldN hi' ?_⟩
    rw [cellsR_at hi']
    simp only [V.uncons_cons, V.isInt_mk, V.isNil_nil]
    have hg0 : (h4.alloc (.cells [.int .i64 0, .int .i64 0] 48 false)).get h4.next = some (.cells [.int .i64 0, .int .i64 0] 48 false) := AH.get_alloc_self _ _
    refine V.store_of (a := ⟨h4.next, 0, none⟩) hg0 (by simp) rfl ?_
    have hk5 : Keep nowt h4 ((h4.alloc (.cells [.int .i64 0, .int .i64 0] 48 false)).set h4.next (.cells (splice [.int .i64 0, .int .i64 0] 0 [.int .i64 L[i].1, .int .i64 L[i].2]) 48 false)) :=
      (Keep.alloc nowt h4 _).from_ (Keep.set (.inl (.inr (Nat.le_refl _))))
    have hg5 := AH.get_set_self (h4.alloc (.cells [.int .i64 0, .int .i64 0] 48 false)) h4.next (.cells (splice [.int .i64 0, .int .i64 0] 0 [.int .i64 L[i].1, .int .i64 L[i].2]) 48 false)
    generalize (h4.alloc (.cells [.int .i64 0, .int .i64 0] 48 false)).set h4.next (.cells (splice [.int .i64 0, .int .i64 0] 0 [.int .i64 L[i].1, .int .i64 L[i].2]) 48 false) = h5 at *
    have hk6 : Keep nowt h4 (h5.reserve 18) := hk5.trans (Keep.reserve _ _ _)
    have t3' := t3.keep hk6 (hnw _)
    have hm2 : i * 2 + 1 < L.length * 2 := by omega
    refine V.ld_of (a := ⟨h4.next, 0 + 0, none⟩) (h := h5.reserve 18) hg5 rfl ?_
    simp only [V.isInt_mk]
    refine V.guard_decide.2 ⟨⟨by omega, hlt⟩, t3'.ld (o := i * 2) (by omega) (cellsR_get0 hi') ?_⟩
    simp only [V.isInt_mk]
    refine V.branch_not_decide.2 ⟨fun hh => absurd (by first | trivial | rfl) hh, fun _ => ?_⟩
    refine V.ld_of (a := ⟨h4.next, 0 + 1, none⟩) (h := h5.reserve 18) hg5 rfl ?_
    simp only [V.isInt_mk]
    refine V.guard_decide.2 ⟨⟨by omega, hlt⟩, ?_⟩
    rw [Nat.add_assoc]
    refine t3'.ld (o := i * 2 + 1) (by omega) (cellsR_get1 hi') ?_
    simp only [V.isInt_mk]
    refine V.branch_not_decide.2 ⟨fun hh => absurd (by first | trivial | rfl) hh, fun _ => ?_⟩
    refine ⟨L.length - (i + 1), by omega, i + 1, ?_, hk4.trans hk6, by omega, rfl⟩
    have : (i : Int) < 9223372036854775807 := by
      omega
    rw [wrapF_i64 (by omega) (by omega)]
    rfl
end
end Go.Proofs.Ytpngimbillnjdaa

