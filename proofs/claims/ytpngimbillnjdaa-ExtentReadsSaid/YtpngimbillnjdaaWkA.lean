/- Numbers as bytes, and sets that are read: the walks. No conditions beyond those each theorem states. -/
import Derived.Test.YtpngimbillnjdaaVcB
import Derived.Test.YtpngimbillnjdaaFnA
/- Numbers as bytes: plain. -/
namespace Go.Am
open Go

/-- What varint.Next gives: the number, how many bytes, the error; i bytes on, n of them so far. -/
def nxP : List UInt8 → Nat → Nat → Nat × Nat × Nat
  | [], _, _ => (0, 0, 2)
  | c :: l, i, n =>
    if (i = 9 ∧ 1 < c.toNat) ∨ (0 < i ∧ c.toNat = 0) then (0, 0, 3)
    else if c.toNat < 128 then (n + c.toNat % 128 * 2 ^ (7 * i), i + 1, 0)
    else nxP l (i + 1) (n + c.toNat % 128 * 2 ^ (7 * i))
def valB : List UInt8 → Nat
  | [] => 0
  | c :: l => c.toNat % 128 + 128 * valB l

theorem wrapF_i64 {x : Int} (h1 : -9223372036854775808 ≤ x) (h2 : x < 9223372036854775808) : wrapF .i64 x = x := by
  simp only [wrapF]; omega
theorem wrapF_u64 {x : Int} (h1 : 0 ≤ x) (h2 : x < 18446744073709551616) : wrapF .u64 x = x := by
  simp only [wrapF]; omega
theorem wrap_u64 {x : Int} (h1 : 0 ≤ x) (h2 : x < 18446744073709551616) : IntKind.u64.wrap x = x := by
  simp [IntKind.wrap, IntKind.bits, IntKind.signed]; omega
theorem and127 (c : Nat) (hc : c < 256) : andI .u8 c 127 = (c % 128 : Nat) := by
  have h : (c : Nat) &&& 127 = c % 128 := Nat.and_two_pow_sub_one_eq_mod c 7
  unfold andI
  have e1 : (BitVec.ofInt IntKind.u8.bits (c : Int)).toNat = c := by simp [IntKind.bits]; omega
  have e2 : (BitVec.ofInt IntKind.u8.bits (127 : Int)).toNat = 127 := by decide
  rw [BitVec.toNat_and, e1, e2, h]
  simp [IntKind.wrap, IntKind.bits, IntKind.signed]; omega
theorem pow64 {i : Nat} (hi : i ≤ 9) : 2 ^ (7 * i) ≤ 9223372036854775808 := by
  have : 2 ^ (7 * i) ≤ 2 ^ 63 := Nat.pow_le_pow_right (by omega) (by omega)
  simpa using this
theorem orAdd (n d i : Nat) (hn : n < 2 ^ (7 * i)) (hi : i ≤ 9) (hd : d < 128) (h9 : i = 9 → d ≤ 1) : orI .u64 n (shlI .u64 (wrapF .u64 d) (wrapF .i64 (7 * (i : Int)))) = (n + d * 2 ^ (7 * i) : Nat) := by
  have hp := pow64 hi
  have hlt : n + d * 2 ^ (7 * i) < 18446744073709551616 := by
    by_cases h : i = 9
    · have := h9 h; subst h
      have : d * 2 ^ (7 * 9) ≤ 1 * 2 ^ (7 * 9) := Nat.mul_le_mul_right _ this
      omega
    · have h2 : 2 ^ (7 * i) ≤ 2 ^ 56 := Nat.pow_le_pow_right (by omega) (by omega)
      have h3 : d * 2 ^ (7 * i) ≤ 127 * 2 ^ 56 := Nat.mul_le_mul (by omega) h2
      omega
  rw [wrapF_u64 (by omega) (by omega), wrapF_i64 (by omega) (by omega)]
  have hs : shlI .u64 d (7 * (i : Int)) = (d * 2 ^ (7 * i) : Nat) := by
    unfold shlI
    have : min (7 * (i : Int)).toNat IntKind.u64.bits = 7 * i := by simp [IntKind.bits]; omega
    have h2 : (d : Int) * 2 ^ (7 * i) = ((d * 2 ^ (7 * i) : Nat) : Int) := by simp
    rw [this, h2, wrap_u64 (by omega) (by omega)]
  rw [hs]
  unfold orI
  have e1 : (BitVec.ofInt IntKind.u64.bits (n : Int)).toNat = n := by simp [IntKind.bits]; omega
  have e2 : (BitVec.ofInt IntKind.u64.bits ((d * 2 ^ (7 * i) : Nat) : Int)).toNat = d * 2 ^ (7 * i) := by
    rw [BitVec.ofInt_natCast, BitVec.toNat_ofNat]
    exact Nat.mod_eq_of_lt (by simp [IntKind.bits]; omega)
  rw [BitVec.toNat_or, e1, e2]
  have : n ||| d * 2 ^ (7 * i) = n + d * 2 ^ (7 * i) := by
    have := Nat.two_pow_add_eq_or_of_lt hn d
    rw [Nat.or_comm, Nat.mul_comm d, ← this, Nat.add_comm]
  rw [this, wrap_u64] <;> omega

theorem valB_append (l m : List UInt8) : valB (l ++ m) = valB l + 2 ^ (7 * l.length) * valB m := by
  induction l with
  | nil => simp [valB]
  | cons c l ih =>
    simp only [List.cons_append, valB, ih, List.length_cons, Nat.mul_add, Nat.pow_add]
    have : (128 : Nat) * (2 ^ (7 * l.length) * valB m) = 2 ^ (7 * l.length) * 2 ^ (7 * 1) * valB m := by rw [← Nat.mul_assoc, Nat.mul_comm 128]
    omega
theorem valB_take_succ {bs : List UInt8} {i : Nat} (hi : i < bs.length) : valB (bs.take (i + 1)) = valB (bs.take i) + bs[i].toNat % 128 * 2 ^ (7 * i) := by
  rw [List.take_add_one, List.getElem?_eq_getElem hi, valB_append]
  simp [valB, Nat.min_eq_left (Nat.le_of_lt hi), Nat.mul_comm]
theorem valB_lt (l : List UInt8) : valB l < 2 ^ (7 * l.length) := by
  induction l with
  | nil => simp [valB]
  | cons c l ih =>
    simp only [valB, List.length_cons, Nat.mul_add, Nat.pow_add]
    have : (2 : Nat) ^ (7 * 1) = 128 := rfl
    rw [this]; omega
theorem valB_drop_le (l : List UInt8) (j : Nat) : valB (l.drop j) ≤ valB l := by
  induction l generalizing j with
  | nil => simp
  | cons c l ih =>
    cases j with
    | zero => exact Nat.le_refl _
    | succ j => simp only [List.drop_succ_cons, valB]; have := ih j; omega
theorem nxP_size : ∀ (l : List UInt8) (i n : Nat), (nxP l i n).2.2 = 0 → (nxP l i n).2.1 ≤ i + l.length := by
  intro l
  induction l with
  | nil => intro i n h; simp [nxP] at h
  | cons c l ih =>
    intro i n h
    simp only [nxP] at h ⊢
    split at h
    · simp at h
    · rename_i h1
      rw [if_neg h1]
      split at h
      · rename_i h2; rw [if_pos h2]; simp
      · rename_i h2; rw [if_neg h2]; have := ih _ _ h; simp at this ⊢; omega
theorem nxP_bound : ∀ (l : List UInt8) (i n : Nat), i ≤ 9 → n < 2 ^ (7 * i) → (nxP l i n).1 < 18446744073709551616 := by
  intro l
  induction l with
  | nil => intro i n _ _; simp [nxP]
  | cons c l ih =>
    intro i n hi hn
    have hc := c.toNat_lt
    simp only [nxP]
    split
    · simp
    · rename_i h1
      have hp := pow64 hi
      split
      · rename_i h2
        by_cases h9 : i = 9
        · subst h9
          have : c.toNat % 128 * 2 ^ (7 * 9) ≤ 1 * 2 ^ (7 * 9) := Nat.mul_le_mul_right _ (by omega)
          show _ < _; omega
        · have h3 : 2 ^ (7 * i) ≤ 2 ^ 56 := Nat.pow_le_pow_right (by omega) (by omega)
          have h4 : c.toNat % 128 * 2 ^ (7 * i) ≤ 127 * 2 ^ 56 := Nat.mul_le_mul (by omega) h3
          show _ < _; omega
      · rename_i h2
        refine ih _ _ (by omega) ?_
        have : 2 ^ (7 * (i + 1)) = 128 * 2 ^ (7 * i) := by rw [Nat.mul_add, Nat.pow_add, Nat.mul_comm]
        have h2 : c.toNat % 128 * 2 ^ (7 * i) ≤ 127 * 2 ^ (7 * i) := Nat.mul_le_mul_right _ (by omega)
        omega

/-- A reader's number: it, the bytes that are left, the error. -/
def numS (bs : List UInt8) (e : Int) (most : Int) : Int × List UInt8 × Int :=
  if e = 0 then
    if (nxP bs 0 0).2.2 = 0 then
      if ((nxP bs 0 0).1 : Int) > most then (0, bs, 5) else ((nxP bs 0 0).1, bs.drop (nxP bs 0 0).2.1, 0)
    else (0, bs, (nxP bs 0 0).2.2)
  else (0, bs, e)
end Go.Am

/- Sets that are read: plain. -/
namespace Go.Am
open Go

theorem numS_le {bs : List UInt8} {e m : Int} (hm : 0 ≤ m) : 0 ≤ (numS bs e m).1 ∧ (numS bs e m).1 ≤ m := by
  unfold numS
  split
  · split
    · split
      · exact ⟨Int.le_refl _, hm⟩
      · constructor
        · show (0 : Int) ≤ ((nxP bs 0 0).1 : Nat); omega
        · show (((nxP bs 0 0).1 : Nat) : Int) ≤ m; omega
    · exact ⟨Int.le_refl _, hm⟩
  · exact ⟨Int.le_refl _, hm⟩
theorem numS_err {bs : List UInt8} {e m : Int} (h : e ≠ 0) : numS bs e m = (0, bs, e) := by unfold numS; rw [if_neg h]

/-- A set that is read: k runs more, from at on, behind some others: the runs, the error; what is left, and what is wrong. -/
def readG (most : Int) : Nat → List UInt8 → Int → Int → List (Int × Int) → List (Int × Int) × Int × List UInt8 × Int
  | 0, bs, e, _, out => if e = 0 then (out, 0, bs, e) else ([], e, bs, e)
  | k + 1, bs, e, at_, out =>
    let g := numS bs e (max (most - at_) 0)
    let s := numS g.2.1 g.2.2 (max (most - (at_ + g.1)) 0)
    if s.2.2 = 0 then
      if s.1 = 0 ∨ (g.1 = 0 ∧ out ≠ []) then ([], 3, s.2.1, s.2.2)
      else readG most k s.2.1 s.2.2 (at_ + g.1 + s.1) (out ++ [(at_ + g.1, at_ + g.1 + s.1)])
    else ([], s.2.2, s.2.1, s.2.2)
def readS (most : Int) (bs : List UInt8) (e : Int) : List (Int × Int) × Int × List UInt8 × Int :=
  let c := numS bs e (max most 0)
  readG most c.1.toNat c.2.1 c.2.2 0 []

/-- Runs as cells. -/
def cellsR (l : List (Int × Int)) : List Value := l.flatMap fun r => [.int .i64 r.1, .int .i64 r.2]
@[simp] theorem cellsR_length (l : List (Int × Int)) : (cellsR l).length = l.length * 2 := by
  induction l with
  | nil => rfl
  | cons r l ih => simp [cellsR, List.flatMap_cons] at ih ⊢; omega
theorem cellsR_append (l m : List (Int × Int)) : cellsR (l ++ m) = cellsR l ++ cellsR m := by simp [cellsR]
theorem cellsR_one (l : List (Int × Int)) : (cellsR l).all one = true := by
  simp [cellsR, List.all_eq_true, one]
theorem cellsR_cons (r : Int × Int) (l : List (Int × Int)) : cellsR (r :: l) = .int .i64 r.1 :: .int .i64 r.2 :: cellsR l := by simp [cellsR]
theorem cellsR_drop (l : List (Int × Int)) (i : Nat) : (cellsR l).drop (i * 2) = cellsR (l.drop i) := by
  induction i generalizing l with
  | zero => simp
  | succ i ih =>
    cases l with
    | nil => simp [cellsR]
    | cons r l => rw [cellsR_cons, show (i + 1) * 2 = i * 2 + 1 + 1 from by omega]; simp only [List.drop_succ_cons]; exact ih l
theorem cellsR_at {l : List (Int × Int)} {i : Nat} (hi : i < l.length) : ((cellsR l).drop (i * 2)).take 2 = [.int .i64 l[i].1, .int .i64 l[i].2] := by
  rw [cellsR_drop, List.drop_eq_getElem_cons hi, cellsR_cons]; simp
theorem cellsR_get0 {l : List (Int × Int)} {i : Nat} (hi : i < l.length) : (cellsR l)[i * 2]? = some (.int .i64 l[i].1) := by
  have := congrArg (fun x => x[0]?) (cellsR_at hi); simpa [List.getElem?_take, List.getElem?_drop] using this
theorem cellsR_get1 {l : List (Int × Int)} {i : Nat} (hi : i < l.length) : (cellsR l)[i * 2 + 1]? = some (.int .i64 l[i].2) := by
  have := congrArg (fun x => x[1]?) (cellsR_at hi); simpa [List.getElem?_take, List.getElem?_drop] using this

theorem readG_length (most : Int) : ∀ (k : Nat) (bs : List UInt8) (e at_ : Int) (out : List (Int × Int)), (readG most k bs e at_ out).1.length ≤ out.length + k := by
  intro k
  induction k with
  | zero => intro bs e at_ out; simp only [readG]; split <;> simp
  | succ k ih =>
    intro bs e at_ out
    simp only [readG]
    split
    · split
      · simp
      · refine Nat.le_trans (ih _ _ _ _) ?_
        simp; omega
    · simp
theorem readS_length (most : Int) (bs : List UInt8) (e : Int) : ((readS most bs e).1.length : Int) ≤ max most 0 := by
  have h1 := readG_length most (numS bs e (max most 0)).1.toNat (numS bs e (max most 0)).2.1 (numS bs e (max most 0)).2.2 0 []
  have h2 := numS_le (bs := bs) (e := e) (m := max most 0) (by omega)
  have h3 : (readS most bs e).1.length ≤ (numS bs e (max most 0)).1.toNat := by simpa [readS] using h1
  omega
end Go.Am

/- varint: the walks. -/
namespace Go.Proofs.Ytpngimbillnjdaa
open Go Go.Am

def nxV (bs : List UInt8) : Value := .tuple ⟨[.int .u64 (nxP bs 0 0).1, .int .i64 (nxP bs 0 0).2.1, .int .i64 (nxP bs 0 0).2.2]⟩

/-- Functions for which a summary may be plugged in. -/
def exts : List Nat := [13, 30, 41, 51, 66, 98, 100, 138, 166]
structure XOk (X : Ext) : Prop where
  ok : ExtOk Try.prog X
  no : ∀ f, exts.contains f = false → X f = none

/-- A reader of bytes, that stand in blocks of U. -/
def RdAt (ty : TypeId) (U : Nat → Prop) (h : AH) (r : Nat) (bs : List UInt8) (e : Int) : Prop :=
  r < h.next ∧ ¬ U r ∧ ∃ a n c, h.get r = some (.cells [.slice a n c, .int .i64 e] ty false) ∧ Sl h a n c 1 5 (cellsB bs) ∧ ∀ p, a = some p → U p.block
section
variable {ty : TypeId} {U S : Nat → Prop} {h h' : AH} {r : Nat} {bs : List UInt8} {e : Int}
theorem RdAt.lt (hr : RdAt ty U h r bs e) : r < h.next := hr.1
theorem RdAt.not (hr : RdAt ty U h r bs e) : ¬ U r := hr.2.1
theorem RdAt.ex (hr : RdAt ty U h r bs e) : ∃ a n c, h.get r = some (.cells [.slice a n c, .int .i64 e] ty false) ∧ Sl h a n c 1 5 (cellsB bs) ∧ ∀ p, a = some p → U p.block := hr.2.2
theorem RdAt.keep (hr : RdAt ty U h r bs e) (hk : Keep S h h') (hS : ¬ S r) (hU : ∀ b, U b → ¬ S b) : RdAt ty U h' r bs e := by
  obtain ⟨a, n, c, hg, hs, hn⟩ := hr.ex
  exact ⟨Nat.lt_of_lt_of_le hr.lt hk.next, hr.not, a, n, c, (hk.get r hr.lt hS).trans hg, hs.keep hk (fun p hp => hU _ (hn p hp)), hn⟩
end
theorem sliceTy35 : Try.prog.underlying 35 = some (.slice 5) := by kernel_rfl
theorem sz5 : Go.Am.sz Try.prog 5 = some 1 := by kernel_rfl

section

set_option maxRecDepth 10000 in
theorem Next_spec {X : Ext} (hX : XOk X) {a : Option Addr} {n c : Nat} {h : AH} {bs : List UInt8} (hs : Sl h a n c 1 5 (cellsB bs)) : RunsF Try.prog X LL (.fn 113) [.slice a n c] h (fun v h' => h' = h ∧ v = nxV bs) := by
  have hlen : bs.length = n := by have := hs.length; simpa using this
  apply run113 hX.ok (hX.no _ rfl)
  unfold vc113
  refine ⟨fun vs h' m => ∃ (i acc : Nat), h' = h.m0 ∧ vs = [.int .u64 acc, .int .i64 i] ∧ i ≤ bs.length ∧ i ≤ 9 ∧ acc < 2 ^ (7 * i) ∧ nxP (bs.drop i) i acc = nxP bs 0 0 ∧ m = bs.length - i, ⟨bs.length, 0, 0, rfl, rfl, by omega, by omega, by simp, by simp, rfl⟩, ?_⟩
  rintro vs h' m ⟨i, acc, rfl, rfl, hi, hi9, hacc, heq, rfl⟩
  simp only [V.uncons_cons, V.isInt_mk, V.isNil_nil, V.branch_decide]
  refine ⟨fun hlt => ?_, fun hge => ?_⟩
  · cases a with
    | none => have := hs.at_.1; omega
    | some p =>
    have hib : i < bs.length := by omega
    have hcs : bs.drop i = bs[i] :: bs.drop (i + 1) := List.drop_eq_getElem_cons hib
    simp only [V.isSome_some, V.guard_decide, Int.toNat_natCast, Nat.mul_one]
    refine ⟨⟨by omega, hlt⟩, Sl.ld (h := h.m0) (hs) (o := i) (by omega) (cellsB_get hib) ?_⟩
    have hc := bs[i].toNat_lt
    rw [hcs] at heq
    generalize bs[i] = ch at *
    generalize hcc : ch.toNat = cc at *
    simp only [V.isInt_mk]
    refine ⟨fun w h' => h' = h.m0 ∧ w = [.bool (decide ((i = 9 ∧ 1 < cc) ∨ (0 < i ∧ cc = 0)))], ?_, ?_⟩
    · simp only [V.branch_decide]
      refine ⟨fun a1 => ⟨fun a2 => ?_, fun a2 => ⟨fun a3 => ?_, fun a3 => ?_⟩⟩, fun a1 => ⟨fun a3 => ?_, fun a3 => ?_⟩⟩ <;> refine ⟨trivial, ?_⟩ <;> first | exact boolT (by omega) | exact boolF (by omega) | exact boolI (by omega)
    · rintro vs h' ⟨rfl, rfl⟩
      simp only [V.uncons_cons, V.isBool_mk, V.isNil_nil, V.branch_decide, V.guard_decide]
      refine ⟨fun hbad => ?_, fun hok => ?_⟩
      · simp only [nxP, hcc, if_pos hbad] at heq
        refine ⟨rfl, ?_⟩
        unfold nxV; rw [← heq]; rfl
      · simp only [nxP, hcc, if_neg hok] at heq
        rw [and127 cc hc, orAdd acc (cc % 128) i hacc hi9 (by omega) (by omega), wrapF_i64 (x := (i : Int) + 1) (by omega) (by omega)]
        refine ⟨by rw [wrapF_i64] <;> omega, fun hl => ?_, fun hl => ?_⟩
        · rw [if_pos (by omega)] at heq
          refine ⟨rfl, ?_⟩
          unfold nxV; rw [← heq]; rfl
        · rw [if_neg (by omega)] at heq
          refine ⟨bs.length - (i + 1), by omega, i + 1, _, by first | trivial | rfl, rfl, by omega, by omega, ?_, heq, rfl⟩
          have : 2 ^ (7 * (i + 1)) = 128 * 2 ^ (7 * i) := by rw [Nat.mul_add, Nat.pow_add, Nat.mul_comm]
          have h2 : cc % 128 * 2 ^ (7 * i) ≤ 127 * 2 ^ (7 * i) := Nat.mul_le_mul_right _ (by omega)
          omega
  · have : i = bs.length := by omega
    rw [this] at heq
    simp only [List.drop_length, nxP] at heq
    refine ⟨rfl, ?_⟩
    unfold nxV; rw [← heq]; rfl

set_option maxRecDepth 10000 in
theorem RNext_spec {X : Ext} (hX : XOk X) {a : Option Addr} {n c : Nat} {h : AH} {bs : List UInt8} (hs : Sl h a n c 1 5 (cellsB bs)) : RunsF Try.prog X LL (.fn 115) [.slice a n c] h (fun v h' => h' = h ∧ v = nxV bs) := by
  have hlen : bs.length = n := by have := hs.length; simpa using this
  apply run115 hX.ok (hX.no _ rfl)
  unfold vc115
  have hs0 : Sl h.m0 a n c 1 5 (cellsB bs) := hs
  refine ⟨fun vs h' m => ∃ (i : Nat), h' = h.m0 ∧ vs = [.int .i64 i] ∧ i ≤ bs.length ∧ i ≤ 9 ∧ nxP (bs.drop i) i (valB (bs.take i)) = nxP bs 0 0 ∧ m = bs.length - i, ⟨bs.length, 0, rfl, rfl, by omega, by omega, by simp [valB], rfl⟩, ?_⟩
  rintro vs h' m ⟨i, rfl, rfl, hi, hi9, heq, rfl⟩
  simp only [V.uncons_cons, V.isInt_mk, V.isNil_nil, V.branch_decide]
  refine ⟨fun hlt => ?_, fun hge => ?_⟩
  · cases a with
    | none => have := hs.at_.1; omega
    | some p =>
    have hib : i < bs.length := by omega
    have hcs : bs.drop i = bs[i] :: bs.drop (i + 1) := List.drop_eq_getElem_cons hib
    simp only [V.isSome_some, V.guard_decide, Int.toNat_natCast, Nat.mul_one]
    have hld : ∀ {k : Value → Prop}, k (.int .u8 (bs[i].toNat : Nat)) → V.ld h.m0 ⟨p.block, p.off + i, none⟩ k := fun hk => hs0.ld (o := i) (by omega) (cellsB_get hib) hk
    have hvt := valB_take_succ hib
    have hvl := valB_lt (bs.take i)
    rw [List.length_take, Nat.min_eq_left hi] at hvl
    have hc := bs[i].toNat_lt
    rw [hcs] at heq
    generalize hch : bs[i] = ch at *
    generalize hcc : ch.toNat = cc at *
    refine ⟨fun w h' => h' = h.m0 ∧ w = [.bool (decide ((i = 9 ∧ 1 < cc) ∨ (0 < i ∧ cc = 0)))], ?_, ?_⟩
    · refine ⟨fun a1 => ⟨⟨by omega, hlt⟩, hld ?_⟩, fun a1 => ⟨fun a3 => ⟨⟨by omega, hlt⟩, hld ?_⟩, fun a3 => ?_⟩⟩
      · simp only [V.isInt_mk]
        refine ⟨fun a2 => ⟨trivial, boolT (by omega)⟩, fun a2 => ⟨fun a3 => ⟨⟨by omega, hlt⟩, hld ?_⟩, fun a3 => ⟨trivial, boolF (by omega)⟩⟩⟩
        simp only [V.isInt_mk]
        exact ⟨trivial, boolI (by omega)⟩
      · simp only [V.isInt_mk]
        exact ⟨trivial, boolI (by omega)⟩
      · exact ⟨by first | trivial | rfl, boolF (by omega)⟩
    · rintro vs h' ⟨rfl, rfl⟩
      simp only [V.uncons_cons, V.isBool_mk, V.isNil_nil, V.branch_decide, V.guard_decide]
      refine ⟨fun hbad => ?_, fun hok => ⟨⟨by omega, hlt⟩, hld ?_⟩⟩
      · simp only [nxP, hcc, if_pos hbad] at heq
        refine ⟨rfl, ?_⟩
        unfold nxV; rw [← heq]; rfl
      · simp only [V.isInt_mk]
        simp only [nxP, hcc, if_neg hok, ← hvt] at heq
        rw [wrapF_i64 (x := (i : Int) + 1) (by omega) (by omega)]
        refine ⟨fun hl => ?_, fun hl => ?_⟩
        · rw [if_pos (by omega)] at heq
          have htot : valB (bs.take (i + 1)) < 18446744073709551616 := by
            have := nxP_bound bs 0 0 (by omega) (by omega)
            rw [← heq] at this; exact this
          -- the inner loop
          refine ⟨fun vs h' m => ∃ (j : Nat), h' = h.m0 ∧ vs = [.int .u64 (valB ((bs.take (i + 1)).drop j) : Nat), .int .i64 ((j : Int) - 1)] ∧ j ≤ i + 1 ∧ m = j, ⟨i + 1, i + 1, rfl, ?_, by omega, rfl⟩, ?_⟩
          · have : (bs.take (i + 1)).drop (i + 1) = [] := by simp
            rw [this]
            simp [valB]
          · rintro vs h' j ⟨_, rfl, rfl, hj, rfl⟩
            simp only [V.uncons_cons, V.isInt_mk, V.isNil_nil, V.branch_decide]
            refine ⟨fun hj0 => ?_, fun hj0 => ?_⟩
            · obtain ⟨k, rfl⟩ : ∃ k, j = k + 1 := ⟨j - 1, by omega⟩
              have hk : k < bs.length := by omega
              have e1 : ((k + 1 : Nat) : Int) - 1 = k := by omega
              simp only [e1, V.isSome_some, V.guard_decide, Int.toNat_natCast, Nat.mul_one]
              refine ⟨⟨by omega, by omega⟩, hs0.ld (o := k) (by omega) (cellsB_get hk) ?_⟩
              simp only [V.isInt_mk]
              have hkt : k < (bs.take (i + 1)).length := by rw [List.length_take]; omega
              have hd : (bs.take (i + 1)).drop k = bs[k] :: (bs.take (i + 1)).drop (k + 1) := by
                rw [List.drop_eq_getElem_cons hkt, List.getElem_take]
              have hv : valB ((bs.take (i + 1)).drop k) = bs[k].toNat % 128 + 128 * valB ((bs.take (i + 1)).drop (k + 1)) := by rw [hd]; rfl
              have hle := valB_drop_le (bs.take (i + 1)) k
              have hck := bs[k].toNat_lt
              generalize bs[k] = ck at *
              have hm : Int.tmod (ck.toNat : Int) 128 = (ck.toNat % 128 : Nat) := by rw [Int.tmod_eq_emod_of_nonneg (by omega)]; omega
              refine ⟨k, by omega, k, by first | trivial | rfl, ?_, by omega, rfl⟩
              rw [hm, wrapF_u64 (x := 128 * _) (by omega) (by omega), wrapF_u64 (x := ((ck.toNat % 128 : Nat) : Int)) (by omega) (by omega), wrapF_u64 (by omega) (by omega), wrapF_i64 (by omega) (by omega), hv]
              congr 2; omega
            · have : j = 0 := by omega
              subst this
              refine ⟨rfl, ?_⟩
              unfold nxV; rw [← heq]; rfl
        · rw [if_neg (by omega)] at heq
          exact ⟨bs.length - (i + 1), by omega, i + 1, by first | trivial | rfl, rfl, by omega, by omega, heq, rfl⟩
  · have : i = bs.length := by omega
    rw [this] at heq
    simp only [List.drop_length, nxP] at heq
    refine ⟨rfl, ?_⟩
    unfold nxV; rw [← heq]; rfl

theorem Failed_spec {X : Ext} (hX : XOk X) {U : Nat → Prop} {h : AH} {r : Nat} {bs : List UInt8} {e : Int} (hr : RdAt 163 U h r bs e) : RunsF Try.prog X LL (.fn 74) [.pointer (some ⟨r, 0, none⟩)] h (fun v h' => h' = h ∧ v = .int .i64 e) := by
  obtain ⟨a, n, c, hg, hs, hn⟩ := hr.ex
  apply run74 hX.ok (hX.no _ rfl)
  unfold vc74
  simp only [Option.isNone_some, V.branch_false, V.isSome_some]
  exact V.ld_of (a := ⟨r, 0 + 1, none⟩) (h := h.m0) hg rfl (by simp)

theorem fail_spec {X : Ext} (hX : XOk X) {U : Nat → Prop} {h : AH} {r : Nat} {bs : List UInt8} {e : Int} (hr : RdAt 163 U h r bs 0) : RunsF Try.prog X LL (.fn 114) [.pointer (some ⟨r, 0, none⟩), .int .i64 e] h (fun v h' => v = .tuple ⟨[]⟩ ∧ RdAt 163 U h' r bs e ∧ Keep (just r) h h') := by
  obtain ⟨a, n, c, hg, hs, hU⟩ := hr.ex
  have hn : notIn (just r) a := fun p hp e => hr.not (by rw [← (show p.block = r from e)]; exact hU p hp)
  apply run114 hX.ok (hX.no _ rfl)
  unfold vc114
  simp only [V.isSome_some]
  refine V.ld_of (a := ⟨r, 0 + 1, none⟩) (h := h.m0) hg rfl ?_
  simp only [V.isInt_mk, V.branch_decide]
  refine ⟨fun _ => ?_, fun h => absurd trivial h⟩
  refine V.store_of (a := ⟨r, 0 + 1, none⟩) (h := h.m0) hg (by simp) rfl ?_
  have hk : Keep (just r) h ((h.m0.set r (.cells (splice [Value.slice a n c, .int .i64 0] 1 [.int .i64 e]) 163 false)).mr h) := ⟨by simp, fun b hb hn => by simp; exact AH.get_set_ne hn⟩
  exact ⟨by first | trivial | rfl, ⟨hr.lt, hr.not, a, n, c, AH.get_set_self _ _ _, hs.keep hk hn, hU⟩, hk⟩

theorem Number_spec {X : Ext} (hX : XOk X) {U : Nat → Prop} {h : AH} {r : Nat} {bs : List UInt8} {e most : Int} (hr : RdAt 163 U h r bs e) : RunsF Try.prog X LL (.fn 73) [.pointer (some ⟨r, 0, none⟩), .int .u64 most] h (fun v h' => v = .int .u64 (numS bs e most).1 ∧ RdAt 163 U h' r (numS bs e most).2.1 (numS bs e most).2.2 ∧ Keep (just r) h h') := by
  obtain ⟨a, n, c, hg, hs, hU⟩ := hr.ex
  have hn : notIn (just r) a := fun p hp e => hr.not (by rw [← (show p.block = r from e)]; exact hU p hp)
  have hlen : bs.length = n := by have := hs.length; simpa using this
  have hr0 : RdAt 163 U h.m0 r bs e := hr
  have k0 : Keep (just r) h (h.m0.mr h) := Keep.refl _ _
  apply run73 hX.ok (hX.no _ rfl)
  unfold vc73
  refine V.call_of (Failed_spec hX hr0) ?_
  rintro v h1 ⟨rfl, rfl⟩
  simp only [V.isInt_mk, V.branch_not_decide, V.isSome_some]
  unfold numS
  refine ⟨fun he => ?_, fun he => ?_⟩
  · rw [if_neg he]; exact ⟨rfl, hr, k0⟩
  · rw [if_pos he]
    subst he
    refine V.ld_of (a := ⟨r, 0 + 0, none⟩) (h := h.m0) hg rfl ?_
    simp only [V.isSlice_mk]
    refine V.call_of (Next_spec hX (hs)) ?_
    rintro v h1 ⟨rfl, rfl⟩
    simp only [nxV, V.isTup_mk, V.uncons_cons, V.isInt_mk, V.isNil_nil]
    have hsz := nxP_size bs 0 0
    generalize nxP bs 0 0 = q at *
    obtain ⟨v, k, er⟩ := q
    simp only at hsz ⊢
    have hs0 : Sl h.m0 a n c 1 5 (cellsB bs) := hs
    refine ⟨fun w h' => h' = h.m0 ∧ w = [.int .i64 (if er = 0 ∧ (v : Int) > most then 5 else (er : Int))], ?_, ?_⟩
    · refine V.branch_decide.2 ⟨fun a1 => V.branch_decide.2 ⟨fun a2 => ⟨rfl, ?_⟩, fun a2 => ⟨rfl, ?_⟩⟩, fun a1 => ⟨rfl, ?_⟩⟩
      · rw [if_pos ⟨by omega, a2⟩]
      · rw [if_neg (fun hh => a2 hh.2)]
      · rw [if_neg (by omega)]
    · rintro vs h' ⟨rfl, rfl⟩
      simp only [V.uncons_cons, V.isInt_mk, V.isNil_nil, V.branch_not_decide]
      refine ⟨fun hbad => ?_, fun hgood => ?_⟩
      · refine V.call_of (fail_spec hX hr0) ?_
        rintro w h1 ⟨rfl, hr1, hk1⟩
        simp only [V.isTup_mk, V.isNil_nil]
        have hk : Keep (just r) h (h1.mr h) := ⟨hk1.next, hk1.get⟩
        by_cases h1' : er = 0 ∧ (v : Int) > most
        · rw [if_pos h1'.1, if_pos h1'.2]
          rw [if_pos h1'] at hr1
          exact ⟨rfl, hr1, hk⟩
        · rw [if_neg h1'] at hbad hr1
          rw [if_neg (by omega)]
          exact ⟨rfl, hr1, hk⟩
      · have her : er = 0 := by
          by_cases h1 : er = 0 ∧ (v : Int) > most
          · rw [if_pos h1] at hgood; omega
          · rw [if_neg h1] at hgood; omega
        subst her
        have hvm : ¬ (v : Int) > most := fun h1 => by rw [if_pos ⟨rfl, h1⟩] at hgood; omega
        have hkn : k ≤ n := by have := hsz rfl; omega
        refine V.ld_of (a := ⟨r, 0 + 0, none⟩) (h := h.m0) hg rfl ?_
        simp only [V.isSlice_mk]
        refine V.rd_drop sliceTy35 sz5 (by decide) hs0 hkn ?_
        intro a' c' hs' hn'
        simp only [V.isSlice_mk]
        refine V.store_of (a := ⟨r, 0 + 0, none⟩) (h := h.m0) hg (by simp) rfl ?_
        have hk : Keep (just r) h ((h.m0.set r (.cells (splice [Value.slice a n c, .int .i64 0] 0 [.slice a' (n - k) c']) 163 false)).mr h) := ⟨by simp, fun b hb hn => by simp; exact AH.get_set_ne hn⟩
        first | rw [if_pos rfl, if_neg hvm] | rw [if_pos trivial, if_neg hvm]
        refine ⟨rfl, ⟨hr.lt, hr.not, a', n - k, c', AH.get_set_self _ _ _, ?_, fun p hp => Classical.byContradiction fun hx => hn' (fun b => ¬ U b) (fun p hp hx => hx (hU p hp)) p hp hx⟩, hk⟩
        have hs2 : Sl h a' (n - k) c' 1 5 (cellsB (bs.drop k)) := by
          rw [Nat.mul_one, cellsB_drop] at hs'
          exact hs'.congr (h' := h) (Nat.le_refl _) fun _ _ => rfl
        exact hs2.keep hk (hn' _ hn)

theorem RNumber_spec {X : Ext} (hX : XOk X) {U : Nat → Prop} {h : AH} {r : Nat} {bs : List UInt8} {e most : Int} (hr : RdAt 46 U h r bs e) : RunsF Try.prog X LL (.fn 76) [.pointer (some ⟨r, 0, none⟩), .int .u64 most] h (fun v h' => v = .int .u64 (numS bs e most).1 ∧ RdAt 46 U h' r (numS bs e most).2.1 (numS bs e most).2.2 ∧ Keep (just r) h h') := by
  obtain ⟨a, n, c, hg, hs, hU⟩ := hr.ex
  have hn : notIn (just r) a := fun p hp e => hr.not (by rw [← (show p.block = r from e)]; exact hU p hp)
  have hlen : bs.length = n := by have := hs.length; simpa using this
  have k0 : Keep (just r) h (h.m0.mr h) := Keep.refl _ _
  apply run76 hX.ok (hX.no _ rfl)
  unfold vc76
  simp only [V.isSome_some]
  refine V.ld_of (a := ⟨r, 0 + 1, none⟩) (h := h.m0) hg rfl ?_
  simp only [V.isInt_mk, V.branch_not_decide]
  unfold numS
  refine ⟨fun he => ?_, fun he => ?_⟩
  · rw [if_neg he]; exact ⟨rfl, hr, k0⟩
  · rw [if_pos he]
    subst he
    refine V.ld_of (a := ⟨r, 0 + 0, none⟩) (h := h.m0) hg rfl ?_
    simp only [V.isSlice_mk]
    refine V.call_of (RNext_spec hX (hs)) ?_
    rintro v h1 ⟨rfl, rfl⟩
    simp only [nxV, V.isTup_mk, V.uncons_cons, V.isInt_mk, V.isNil_nil]
    have hsz := nxP_size bs 0 0
    generalize nxP bs 0 0 = q at *
    obtain ⟨v, k, er⟩ := q
    simp only at hsz ⊢
    have hs0 : Sl h.m0 a n c 1 5 (cellsB bs) := hs
    refine ⟨fun w h' => h' = h.m0 ∧ w = [.int .i64 (if er = 0 ∧ (v : Int) > most then 5 else (er : Int))], ?_, ?_⟩
    · refine V.branch_decide.2 ⟨fun a1 => V.branch_decide.2 ⟨fun a2 => ⟨rfl, ?_⟩, fun a2 => ⟨rfl, ?_⟩⟩, fun a1 => ⟨rfl, ?_⟩⟩
      · rw [if_pos ⟨by omega, a2⟩]
      · rw [if_neg (fun hh => a2 hh.2)]
      · rw [if_neg (by omega)]
    · rintro vs h' ⟨rfl, rfl⟩
      simp only [V.uncons_cons, V.isInt_mk, V.isNil_nil, V.branch_not_decide]
      refine ⟨fun hbad => ?_, fun hgood => ?_⟩
      · refine V.store_of (a := ⟨r, 0 + 1, none⟩) (h := h.m0) hg (by simp) rfl ?_
        have hk : ∀ x, Keep (just r) h ((h.m0.set r (.cells (splice [Value.slice a n c, .int .i64 0] 1 [.int .i64 x]) 46 false)).mr h) := fun x => ⟨by simp, fun b hb hn => by simp; exact AH.get_set_ne hn⟩
        by_cases h1' : er = 0 ∧ (v : Int) > most
        · rw [if_pos h1'.1, if_pos h1'.2, if_pos h1']
          exact ⟨rfl, ⟨hr.lt, hr.not, a, n, c, AH.get_set_self _ _ _, hs.keep (hk 5) hn, hU⟩, hk 5⟩
        · rw [if_neg h1'] at hbad ⊢
          rw [if_neg (by omega)]
          exact ⟨rfl, ⟨hr.lt, hr.not, a, n, c, AH.get_set_self _ _ _, hs.keep (hk er) hn, hU⟩, hk er⟩
      · have her : er = 0 := by
          by_cases h1 : er = 0 ∧ (v : Int) > most
          · rw [if_pos h1] at hgood; omega
          · rw [if_neg h1] at hgood; omega
        subst her
        have hvm : ¬ (v : Int) > most := fun h1 => by rw [if_pos ⟨rfl, h1⟩] at hgood; omega
        have hkn : k ≤ n := by have := hsz rfl; omega
        refine V.ld_of (a := ⟨r, 0 + 0, none⟩) (h := h.m0) hg rfl ?_
        simp only [V.isSlice_mk]
        refine V.rd_drop sliceTy35 sz5 (by decide) hs0 hkn ?_
        intro a' c' hs' hn'
        simp only [V.isSlice_mk]
        refine V.store_of (a := ⟨r, 0 + 0, none⟩) (h := h.m0) hg (by simp) rfl ?_
        have hk : Keep (just r) h ((h.m0.set r (.cells (splice [Value.slice a n c, .int .i64 0] 0 [.slice a' (n - k) c']) 46 false)).mr h) := ⟨by simp, fun b hb hn => by simp; exact AH.get_set_ne hn⟩
        first | rw [if_pos rfl, if_neg hvm] | rw [if_pos trivial, if_neg hvm]
        refine ⟨rfl, ⟨hr.lt, hr.not, a', n - k, c', AH.get_set_self _ _ _, ?_, fun p hp => Classical.byContradiction fun hx => hn' (fun b => ¬ U b) (fun p hp hx => hx (hU p hp)) p hp hx⟩, hk⟩
        have hs2 : Sl h a' (n - k) c' 1 5 (cellsB (bs.drop k)) := by
          rw [Nat.mul_one, cellsB_drop] at hs'
          exact hs'.congr (h' := h) (Nat.le_refl _) fun _ _ => rfl
        exact hs2.keep hk (hn' _ hn)
end
end Go.Proofs.Ytpngimbillnjdaa

/- varint.Open, and sets that are read: the walks. -/
namespace Go.Proofs.Ytpngimbillnjdaa
open Go Go.Am

theorem elem5 : ElemOk Try.prog 5 1 1 := ElemOk.mk' (z := undef) (by kernel_rfl) (by kernel_rfl) (by kernel_rfl) (by kernel_rfl) (by decide)

theorem maxu {x : Int} (h1 : -9223372036854775808 < x) (h2 : x < 9223372036854775808) : wrapF .u64 (if 0 > x then 0 else x) = max x 0 := by
  split
  · rw [wrapF_u64 (by omega) (by omega)]; omega
  · rw [wrapF_u64 (by omega) (by omega)]; omega

/-- Runs, and an error. -/
def RunsV (e : TypeId) (h : AH) (v : Value) (l : List (Int × Int)) (er : Int) (U : Nat → Prop) : Prop :=
  ∃ a c, v = .tuple ⟨[.slice a l.length c, .int .i64 er]⟩ ∧ Sl h a l.length c 2 e (cellsR l) ∧ (∀ p, a = some p → U p.block) ∧ (a = none → c = 0)

theorem elem48 : ElemOk Try.prog 48 2 16 := ElemOk.mk' (z := undef) (by kernel_rfl) (by kernel_rfl) (by kernel_rfl) (by kernel_rfl) (by decide)
theorem sliceTy27 : Try.prog.underlying 27 = some (.slice 48) := by kernel_rfl

theorem cellsB_one (bs : List UInt8) : (cellsB bs).all one = true := by
  simp [cellsB, List.all_eq_true, one]

/-- A slice of such bytes. -/
def BytesV (h : AH) (v : Value) (bs : List UInt8) (U : Nat → Prop) : Prop := ∃ a c, v = .slice a bs.length c ∧ Sl h a bs.length c 1 5 (cellsB bs) ∧ (∀ p, a = some p → U p.block) ∧ (a = none → c = 0)

section

theorem Clone_spec {X : Ext} (hX : XOk X) {a : Option Addr} {n c : Nat} {h : AH} {bs : List UInt8} (hs : Sl h a n c 1 5 (cellsB bs)) (hb : n ≤ 1000000) : RunsF Try.prog X LL (.fn 75) [.slice a n c] h (fun v h' => BytesV h' v bs (fun b => h.next ≤ b) ∧ Keep nowt h h') := by
  have hlen : bs.length = n := by have := hs.length; simpa using this
  apply run75 hX.ok (hX.no _ rfl)
  unfold vc75
  cases a with
  | none =>
    obtain ⟨rfl, h2⟩ := hs.at_
    have : bs = [] := List.eq_nil_of_length_eq_zero hlen
    subst this
    exact ⟨⟨none, 0, rfl, Sl.nil, (by intro p hp; cases hp), fun _ => rfl⟩, Keep.refl _ _⟩
  | some p =>
    simp only [Option.isNone_some, V.branch_false]
    have hs1 : Sl (h.m0.alloc (.cells [] 5 false)) (some p) n c 1 5 (cellsB bs) := Sl.keep (h := h.m0) hs (Keep.alloc nowt _ _) (fun _ _ hh => hh)
    refine V.ef_app elem5 sliceTy35 sliceTy35 (.inl ⟨_, rfl⟩) (by decide) (Sl.fresh (h := h.m0) (sz := 1) (n := 0) rfl (by decide)) OwnA.fresh (asrc_slice hs1) (cellsB_one bs) (by simp [hlen]) (by omega) (by intro hh; cases hh) ?_
    intro a' c' h' g1 g2 g3 g4 g5
    simp only [V.isSlice_mk]
    have hk : Keep nowt h.m0 h' := (Keep.alloc nowt h.m0 (.cells [] 5 false)).from_ (g3.weaken (fun b hb hb' => by obtain ⟨q, hq, e⟩ := hb'; injection hq with hq; subst hq; subst e; exact .inr (Nat.le_refl _)))
    rw [Nat.zero_add] at g1
    refine ⟨⟨a', c', by rw [hlen, Nat.zero_add], by rw [hlen]; exact g1, fun p hp => ?_, g5⟩, ⟨hk.next, hk.get⟩⟩
    rcases g4 p hp with hh | hh
    · obtain ⟨q, hq, e⟩ := hh; injection hq with hq; subst hq; rw [← e]; exact Nat.le_refl _
    · have : h.next + 1 ≤ p.block := hh
      show h.next ≤ p.block; omega

theorem Open_spec {X : Ext} (hX : XOk X) {a : Option Addr} {n c : Nat} {h : AH} {bs : List UInt8} (hs : Sl h a n c 1 5 (cellsB bs)) (hb : n ≤ 1000000) : RunsF Try.prog X LL (.fn 25) [.slice a n c] h (fun v h' => ∃ r, v = .pointer (some ⟨r, 0, none⟩) ∧ h.next ≤ r ∧ RdAt 163 (fun b => h.next ≤ b ∧ b < r) h' r bs 0 ∧ Keep nowt h h') := by
  apply run25 hX.ok (hX.no _ rfl)
  unfold vc25
  refine V.call_of (Clone_spec hX (h := h.m0) hs hb) ?_
  rintro v h1 ⟨⟨a', c', rfl, hs', hU, hz⟩, hk⟩
  simp only [V.isSlice_mk]
  have hk2 : Keep nowt h (h1.alloc (.cells [.slice a' bs.length c', .int .i64 0] 163 false)) := (Keep.trans (h := h) ⟨hk.next, hk.get⟩ (Keep.alloc _ _ _))
  refine ⟨h1.next, rfl, hk.next, ⟨by simp, fun hh => Nat.lt_irrefl _ hh.2, a', bs.length, c', AH.get_alloc_self _ _, ?_, ?_⟩, ⟨hk2.next, hk2.get⟩⟩
  · have := Sl.keep (S := nowt) hs' (Keep.alloc nowt h1 (.cells [.slice a' bs.length c', .int .i64 0] 163 false)) (fun _ _ hh => hh)
    exact this
  · intro p hp
    refine ⟨hU p hp, ?_⟩
    subst hp; exact hs'.live

theorem bound_spec {X : Ext} (hX : XOk X) {m : Int} {h : AH} (hb : m < 9223372036854775808) : RunsF Try.prog X LL (.fn 77) [.int .i64 m] h (fun v h' => h' = h ∧ v = .int .u64 (max m 0)) := by
  apply run77 hX.ok (hX.no _ rfl)
  unfold vc77
  refine V.branch_decide.2 ⟨fun h1 => ⟨rfl, ?_⟩, fun h1 => ⟨rfl, ?_⟩⟩
  · rw [Int.max_eq_right (by omega)]
  · rw [wrapF_u64 (by omega) (by omega), Int.max_eq_left (by omega)]

theorem Read_spec {X : Ext} (hX : XOk X) {U : Nat → Prop} {h : AH} {r : Nat} {bs : List UInt8} {e most : Int} (hr : RdAt 163 U h r bs e) (hU : ∀ b, U b → b < h.next) (hm1 : -1000000000 ≤ most) (hm2 : most ≤ 1000000000) :
    RunsF Try.prog X LL (.fn 24) [.pointer (some ⟨r, 0, none⟩), .int .i64 most] h (fun v h' => RunsV 48 h' v (readS most bs e).1 (readS most bs e).2.1 (fun b => h.next ≤ b) ∧ RdAt 163 U h' r (readS most bs e).2.2.1 (readS most bs e).2.2.2 ∧ Keep (just r) h h') := by
  apply run24 hX.ok (hX.no _ rfl)
  unfold vc24
  rw [maxu (x := most) (by omega) (by omega)]
  refine V.call_of (Number_spec hX (h := h.m0) hr) ?_
  rintro v h1 ⟨rfl, hr1, hk1⟩
  simp only [V.isInt_mk]
  have hc := numS_le (bs := bs) (e := e) (m := max most 0) (by omega)
  have hR : readS most bs e = readG most (numS bs e (max most 0)).1.toNat (numS bs e (max most 0)).2.1 (numS bs e (max most 0)).2.2 0 [] := rfl
  generalize readS most bs e = R at *
  generalize numS bs e (max most 0) = q at *
  obtain ⟨cnt, bs1, e1⟩ := q
  simp only at hc hR hr1 ⊢
  refine ⟨fun vs h' m => ∃ (oa : Option Addr) (oc k : Nat) (at_ : Int) (out : List (Int × Int)) (bs2 : List UInt8) (e2 : Int), vs = [.slice oa out.length oc, .int .i64 at_, .int .u64 k] ∧ m = k ∧
      Sl h' oa out.length oc 2 48 (cellsR out) ∧ OwnA h' oa 48 ∧ (∀ p, oa = some p → h.next ≤ p.block) ∧ (oa = none → oc = 0) ∧ RdAt 163 U h' r bs2 e2 ∧ Keep (just r) h.m0 h' ∧ R = readG most k bs2 e2 at_ out ∧ 0 ≤ at_ ∧ at_ ≤ max most 0 ∧ (out.length + k : Int) ≤ max most 0,
    ⟨cnt.toNat, none, 0, cnt.toNat, 0, [], bs1, e1, by simp; omega, rfl, Sl.nil, OwnA.nil, (by intro p hp; cases hp), fun _ => rfl, hr1, hk1, hR, by omega, by omega, by simp; omega⟩, ?_⟩
  rintro vs h' k ⟨oa, oc, _, at_, out, bs2, e2, rfl, rfl, hs, ho, hf, hz, hr2, hk2, hR2, ha1, ha2, hlen⟩
  simp only [V.uncons_cons, V.isSlice_mk, V.isInt_mk, V.isNil_nil]
  refine V.branch_decide.2 ⟨fun hk0 => ?_, fun hk0 => ?_⟩
  · obtain ⟨k', rfl⟩ : ∃ k', k = k' + 1 := ⟨k - 1, by omega⟩
    rw [wrapF_i64 (x := most - at_) (by omega) (by omega), maxu (x := most - at_) (by omega) (by omega)]
    refine V.call_of (Number_spec hX hr2) ?_
    rintro v h3 ⟨rfl, hr3, hk3⟩
    have hg := numS_le (bs := bs2) (e := e2) (m := max (most - at_) 0) (by omega)
    simp only [readG] at hR2
    generalize numS bs2 e2 (max (most - at_) 0) = g at *
    obtain ⟨gap, bs3, e3⟩ := g
    simp only at hg hR2 hr3
    simp only [V.isInt_mk]
    rw [wrapF_i64 (x := gap) (by omega) (by omega), wrapF_i64 (x := at_ + gap) (by omega) (by omega), wrapF_i64 (x := most - (at_ + gap)) (by omega) (by omega), maxu (x := most - (at_ + gap)) (by omega) (by omega)]
    refine V.call_of (Number_spec hX hr3) ?_
    rintro v h4 ⟨rfl, hr4, hk4⟩
    have hsz := numS_le (bs := bs3) (e := e3) (m := max (most - (at_ + gap)) 0) (by omega)
    generalize numS bs3 e3 (max (most - (at_ + gap)) 0) = s at *
    obtain ⟨size, bs4, e4⟩ := s
    simp only at hsz hR2 hr4
    simp only [V.isInt_mk]
    refine V.call_of (Failed_spec hX hr4) ?_
    rintro v h5 ⟨rfl, rfl⟩
    simp only [V.isInt_mk]
    rw [wrapF_i64 (x := size) (by omega) (by omega), wrapF_i64 (x := at_ + gap + size) (by omega) (by omega)]
    have hk5 : Keep (just r) h.m0 h5 := (hk2.trans hk3).trans hk4
    have hno : notIn (just r) oa := fun p hp hh => by have h1 := hf p hp; have h2 : p.block = r := hh; have h3 := hr.lt; omega
    have hs5 : Sl h5 oa out.length oc 2 48 (cellsR out) := (hs.keep hk3 hno).keep hk4 hno
    have hlive : ∀ (x : AH) (y : List Value), Sl x oa out.length oc 2 48 y → ∀ p, oa = some p → p.block < x.next := fun x y hx p hp => by subst hp; exact hx.live
    have ho5 : OwnA h5 oa 48 := (ho.keep hk3 (hlive _ _ hs) hno).keep hk4 (hlive _ _ (hs.keep hk3 hno)) hno
    refine V.branch_not_decide.2 ⟨fun hbad => ?_, fun hgood => ?_⟩
    · refine V.call_of (Failed_spec hX hr4) ?_
      rintro v h6 ⟨rfl, rfl⟩
      simp only [V.isInt_mk]
      refine V.branch_not_decide.2 ⟨fun _ => ?_, fun hh => absurd hh hbad⟩
      rw [if_neg hbad] at hR2
      subst hR2
      exact ⟨⟨none, 0, rfl, Sl.nil, (by intro p hp; cases hp), fun _ => rfl⟩, hr4, hk5.mr⟩
    · rw [if_pos hgood] at hR2
      have form : (size = 0 ∨ gap = 0 ∧ out ≠ []) → RunsV 48 (h5.mr h) (.tuple ⟨[.slice none 0 0, .int .i64 3]⟩) R.1 R.2.1 (fun b => h.next ≤ b) ∧ RdAt 163 U (h5.mr h) r R.2.2.1 R.2.2.2 ∧ Keep (just r) h (h5.mr h) := by
        intro hh
        rw [if_pos hh] at hR2
        subst hR2
        exact ⟨⟨none, 0, rfl, Sl.nil, (by intro p hp; cases hp), fun _ => rfl⟩, hr4, hk5.mr⟩
      have app : ∀ (K : Value → AH → Prop), ¬ (size = 0 ∨ gap = 0 ∧ out ≠ []) → (∀ a' c' h6, Sl h6 a' (out.length + 1) c' 2 48 (cellsR (out ++ [(at_ + gap, at_ + gap + size)])) → OwnA h6 a' 48 → (∀ p, a' = some p → h.next ≤ p.block) → (a' = none → c' = 0) → RdAt 163 U h6 r bs4 e4 → Keep (just r) h.m0 h6 → K (.slice a' (out.length + 1) c') h6) →
          V.ef Try.prog (Op.call (Call.mk (Callee.builtin Builtin.append) (Array.mk [Operand.tmp 58, Operand.tmp 62]) (Array.mk [27, 27]))) [(58, Value.slice oa out.length oc), (62, Value.slice (some (Addr.mk (AH.next h5) 0 none)) 1 1)] (AH.alloc h5 (AObj.cells [Value.int IntKind.i64 (at_ + gap), Value.int IntKind.i64 (at_ + gap + size)] 48 false)) K := by
        intro K hh hK
        have hka : Keep nowt h5 (AH.alloc h5 (AObj.cells [Value.int IntKind.i64 (at_ + gap), Value.int IntKind.i64 (at_ + gap + size)] 48 false)) := Keep.alloc _ _ _
        have hbig : (out.length + 1) * (16 + 1) ≤ 1099511627776 := by
          have : out.length ≤ 1000000000 := by omega
          omega
        have hnw : ∀ b : Option Addr, notIn nowt b := fun _ _ _ hh => hh
        refine V.ef_app elem48 sliceTy27 sliceTy27 (.inl ⟨_, rfl⟩) (by decide) (hs5.keep hka (hnw _)) (ho5.keep hka (hlive _ _ hs5) (hnw _)) (asrc_slice (Sl.fresh (h := h5) (sz := 2) (n := 1) (cs := cellsR [(at_ + gap, at_ + gap + size)]) rfl (by decide))) (cellsR_one _) rfl hbig hz ?_
        intro a' c' h6 g1 g2 g3 g4 g5
        have hnr : ¬ inA oa r := fun ⟨p, hp, e⟩ => by have := hf p hp; have := hr.lt; omega
        have hnU : ∀ b, U b → ¬ inA oa b := fun b hb ⟨p, hp, e⟩ => by have := hf p hp; have := hU b hb; omega
        refine hK a' c' h6 (by rw [cellsR_append]; exact g1) g2 (fun p hp => ?_) g5 ((hr4.keep hka (fun hh => hh) (fun _ _ hh => hh)).keep g3 hnr hnU) ?_
        · rcases g4 p hp with ⟨q, hq, e⟩ | hh
          · rw [← e]; exact hf q hq
          · have h1 := hk5.next; have h2 : h5.next + 1 ≤ p.block := hh; have h3 : h.next ≤ h5.next := h1; omega
        · refine Keep.from_ (hk5.trans (hka.weaken fun _ _ hh => hh.elim)) (g3.weaken fun b hb hh => ?_)
          obtain ⟨p, hp, e⟩ := hh
          exact .inr (by rw [← e]; exact hf p hp)
      have next : ∀ a' c' h6, ¬ (size = 0 ∨ gap = 0 ∧ out ≠ []) → Sl h6 a' (out.length + 1) c' 2 48 (cellsR (out ++ [(at_ + gap, at_ + gap + size)])) → OwnA h6 a' 48 → (∀ p, a' = some p → h.next ≤ p.block) → (a' = none → c' = 0) → RdAt 163 U h6 r bs4 e4 → Keep (just r) h.m0 h6 →
          ∃ m', m' < k' + 1 ∧ ∃ (oa : Option Addr) (oc k : Nat) (at1 : Int) (out1 : List (Int × Int)) (bs2 : List UInt8) (e2 : Int), [Value.slice a' (out.length + 1) c', .int .i64 (at_ + gap + size), .int .u64 (wrapF .u64 (((k' + 1 : Nat) : Int) - 1))] = [.slice oa out1.length oc, .int .i64 at1, .int .u64 k] ∧ m' = k ∧
            Sl h6 oa out1.length oc 2 48 (cellsR out1) ∧ OwnA h6 oa 48 ∧ (∀ p, oa = some p → h.next ≤ p.block) ∧ (oa = none → oc = 0) ∧ RdAt 163 U h6 r bs2 e2 ∧ Keep (just r) h.m0 h6 ∧ R = readG most k bs2 e2 at1 out1 ∧ 0 ≤ at1 ∧ at1 ≤ max most 0 ∧ (out1.length + k : Int) ≤ max most 0 := by
        intro a' c' h6 hh g1 g2 g3 g4 g5 g6
        rw [if_neg hh] at hR2
        refine ⟨k', by omega, a', c', k', at_ + gap + size, out ++ [(at_ + gap, at_ + gap + size)], bs4, e4, ?_, rfl, by simpa using g1, g2, g3, g4, g5, g6, hR2, by omega, by omega, by simp; omega⟩
        rw [wrapF_u64 (by omega) (by omega)]
        simp
      refine V.branch_decide.2 ⟨fun c1 => form (.inl c1), fun c1 => V.branch_decide.2 ⟨fun c2 => V.branch_decide.2 ⟨fun c3 => form (.inr ⟨c2, fun hh => by subst hh; simp at c3⟩), fun c3 => ?_⟩, fun c2 => ?_⟩⟩
      · have hn : ¬ (size = 0 ∨ gap = 0 ∧ out ≠ []) := fun hh => by
          rcases hh with hh | ⟨_, hh⟩
          · exact c1 hh
          · exact hh (List.eq_nil_of_length_eq_zero (by omega))
        exact app _ hn fun a' c' h6 g1 g2 g3 g4 g5 g6 => next a' c' h6 hn g1 g2 g3 g4 g5 g6
      · have hn : ¬ (size = 0 ∨ gap = 0 ∧ out ≠ []) := fun hh => by
          rcases hh with hh | ⟨hh, _⟩
          · exact c1 hh
          · exact c2 hh
        exact app _ hn fun a' c' h6 g1 g2 g3 g4 g5 g6 => next a' c' h6 hn g1 g2 g3 g4 g5 g6
  · have : k = 0 := by omega
    subst this
    simp only [readG] at hR2
    refine V.call_of (Failed_spec hX hr2) ?_
    rintro v h6 ⟨rfl, rfl⟩
    simp only [V.isInt_mk]
    refine V.branch_not_decide.2 ⟨fun hbad => ?_, fun hgood => ?_⟩
    · rw [if_neg hbad] at hR2; subst hR2
      exact ⟨⟨none, 0, rfl, Sl.nil, (by intro p hp; cases hp), fun _ => rfl⟩, hr2, hk2.mr⟩
    · rw [if_pos hgood] at hR2; subst hR2
      exact ⟨⟨oa, oc, rfl, hs, hf, hz⟩, hr2, hk2.mr⟩
end
end Go.Proofs.Ytpngimbillnjdaa

/- The document's reading of sets: the walk. -/
namespace Go.Proofs.Ytpngimbillnjdaa
open Go Go.Am

theorem elem49 : ElemOk Try.prog 49 2 16 := ElemOk.mk' (z := undef) (by kernel_rfl) (by kernel_rfl) (by kernel_rfl) (by kernel_rfl) (by decide)
theorem sliceTy41 : Try.prog.underlying 41 = some (.slice 49) := by kernel_rfl
theorem numS_pos {bs : List UInt8} {e m : Int} (h : (numS bs e m).1 ≠ 0) : (numS bs e m).2.2 = 0 := by
  unfold numS at h ⊢
  split at h
  · rename_i h1
    rw [if_pos h1]
    split at h
    · rename_i h2
      rw [if_pos h2]
      split at h
      · exact absurd rfl h
      · rename_i h3; rw [if_neg h3]
    · exact absurd rfl h
  · exact absurd rfl h
theorem RdAt.err {ty : TypeId} {U : Nat → Prop} {h : AH} {r : Nat} {bs : List UInt8} {e : Int} (hr : RdAt ty U h r bs e) {h' : AH} (hg : h'.get r = h.get r) {k : Value → Prop} (hk : k (.int .i64 e)) : V.ld h' ⟨r, 0 + 1, none⟩ k := by
  obtain ⟨a, n, c, hg', hs, hn⟩ := hr.ex
  exact V.ld_of (a := ⟨r, 0 + 1, none⟩) (hg.trans hg') rfl hk

section

theorem RRead_spec {X : Ext} (hX : XOk X) {U : Nat → Prop} {h : AH} {r : Nat} {bs : List UInt8} {e most : Int} (hr : RdAt 46 U h r bs e) (hU : ∀ b, U b → b < h.next) (hm1 : -1000000000 ≤ most) (hm2 : most ≤ 1000000000) :
    RunsF Try.prog X LL (.fn 26) [.pointer (some ⟨r, 0, none⟩), .int .i64 most] h (fun v h' => RunsV 49 h' v (readS most bs e).1 (readS most bs e).2.1 (fun b => h.next ≤ b) ∧ RdAt 46 U h' r (readS most bs e).2.2.1 (readS most bs e).2.2.2 ∧ Keep (just r) h h') := by
  apply run26 hX.ok (hX.no _ rfl)
  unfold vc26
  refine V.call_of (bound_spec hX (by omega)) ?_
  rintro v h1 ⟨rfl, rfl⟩
  simp only [V.isInt_mk]
  refine V.call_of (RNumber_spec hX (h := h.m0) hr) ?_
  rintro v h1 ⟨rfl, hr1, hk1⟩
  simp only [V.isInt_mk]
  have hc := numS_le (bs := bs) (e := e) (m := max most 0) (by omega)
  have hp1 := numS_pos (bs := bs) (e := e) (m := max most 0)
  have hR : readS most bs e = readG most (numS bs e (max most 0)).1.toNat (numS bs e (max most 0)).2.1 (numS bs e (max most 0)).2.2 0 [] := rfl
  generalize readS most bs e = R at *
  generalize numS bs e (max most 0) = q at *
  obtain ⟨cnt, bs1, e1⟩ := q
  simp only at hc hR hr1 hp1 ⊢
  rw [wrapF_i64 (x := cnt) (by omega) (by omega)]
  refine ⟨fun vs h' m => ∃ (oa : Option Addr) (oc k : Nat) (at_ : Int) (out : List (Int × Int)) (bs2 : List UInt8) (e2 : Int), vs = [.slice oa out.length oc, .int .i64 at_, .int .i64 out.length] ∧ m = k ∧ (out.length + k : Int) = cnt ∧ (k ≠ 0 → e2 = 0) ∧
      Sl h' oa out.length oc 2 49 (cellsR out) ∧ OwnA h' oa 49 ∧ (∀ p, oa = some p → h.next ≤ p.block) ∧ (oa = none → oc = 0) ∧ RdAt 46 U h' r bs2 e2 ∧ Keep (just r) h.m0 h' ∧ R = readG most k bs2 e2 at_ out ∧ 0 ≤ at_ ∧ at_ ≤ max most 0,
    ⟨cnt.toNat, none, 0, cnt.toNat, 0, [], bs1, e1, rfl, rfl, by simp; omega, fun hh => hp1 (by omega), Sl.nil, OwnA.nil, (by intro p hp; cases hp), fun _ => rfl, hr1, hk1, hR, by omega, by omega⟩, ?_⟩
  rintro vs h' k ⟨oa, oc, _, at_, out, bs2, e2, rfl, rfl, hlen, hke, hs, ho, hf, hz, hr2, hk2, hR2, ha1, ha2⟩
  simp only [V.uncons_cons, V.isSlice_mk, V.isInt_mk, V.isNil_nil, V.isSome_some]
  have stop : ∀ (h6 : AH) (e6 : Int) (bs6 : List UInt8), Keep (just r) h.m0 h6 → RdAt 46 U h6 r bs6 e6 → R = ([], e6, bs6, e6) → e6 ≠ 0 → V.branch (!decide (e6 = 0)) (V.ld (AH.reserve h6 6) ⟨r, 0 + 1, none⟩ fun v => V.isInt .i64 v fun i => RunsV 49 ((h6.reserve 6).mr h) (.tuple ⟨[.slice none 0 0, .int .i64 i]⟩) R.1 R.2.1 (fun b => h.next ≤ b) ∧ RdAt 46 U ((h6.reserve 6).mr h) r R.2.2.1 R.2.2.2 ∧ Keep (just r) h ((h6.reserve 6).mr h)) False := by
    intro h6 e6 bs6 hk6 hr6 hR6 he6
    refine V.branch_not_decide.2 ⟨fun _ => hr6.err (h' := AH.reserve h6 6) rfl ?_, fun hh => he6 hh⟩
    simp only [V.isInt_mk]
    subst hR6
    exact ⟨⟨none, 0, rfl, Sl.nil, (by intro p hp; cases hp), fun _ => rfl⟩, (show RdAt 46 U (h6.reserve 6) r bs6 e6 from hr6.keep (S := nowt) (Keep.reserve nowt _ _) (fun hh => hh) (fun _ _ hh => hh)), (hk6.trans (Keep.reserve _ _ _)).mr⟩
  have stop' : ∀ {q : Prop} (h6 : AH) (e6 : Int) (bs6 : List UInt8), Keep (just r) h.m0 h6 → RdAt 46 U h6 r bs6 e6 → R = ([], e6, bs6, e6) → e6 ≠ 0 → V.branch (!decide (e6 = 0)) (V.ld (AH.reserve h6 6) ⟨r, 0 + 1, none⟩ fun v => V.isInt .i64 v fun i => RunsV 49 ((h6.reserve 6).mr h) (.tuple ⟨[.slice none 0 0, .int .i64 i]⟩) R.1 R.2.1 (fun b => h.next ≤ b) ∧ RdAt 46 U ((h6.reserve 6).mr h) r R.2.2.1 R.2.2.2 ∧ Keep (just r) h ((h6.reserve 6).mr h)) q := by
    intro q h6 e6 bs6 a b c d
    have := V.branch_not_decide.1 (stop h6 e6 bs6 a b c d)
    exact V.branch_not_decide.2 ⟨this.1, fun hh => (d hh).elim⟩
  have atEnd : k = 0 → V.branch (!decide (e2 = 0)) (V.ld (AH.reserve h' 6) ⟨r, 0 + 1, none⟩ fun v => V.isInt .i64 v fun i => RunsV 49 ((h'.reserve 6).mr h) (.tuple ⟨[.slice none 0 0, .int .i64 i]⟩) R.1 R.2.1 (fun b => h.next ≤ b) ∧ RdAt 46 U ((h'.reserve 6).mr h) r R.2.2.1 R.2.2.2 ∧ Keep (just r) h ((h'.reserve 6).mr h))
      (RunsV 49 (h'.mr h) (.tuple ⟨[.slice oa out.length oc, .int .i64 0]⟩) R.1 R.2.1 (fun b => h.next ≤ b) ∧ RdAt 46 U (h'.mr h) r R.2.2.1 R.2.2.2 ∧ Keep (just r) h (h'.mr h)) := by
    intro hk0
    subst hk0
    simp only [readG] at hR2
    by_cases he2 : e2 = 0
    · rw [if_pos he2] at hR2
      refine V.branch_not_decide.2 ⟨fun hh => absurd he2 hh, fun _ => ?_⟩
      subst hR2
      exact ⟨⟨oa, oc, rfl, hs, hf, hz⟩, hr2, hk2.mr⟩
    · rw [if_neg he2] at hR2
      exact stop' h' e2 bs2 hk2 hr2 hR2 he2
  refine ⟨fun w h'' => w = [] ∧ h'' = h' ∧ k ≠ 0 ∧ e2 = 0, ?_, ?_⟩
  · refine V.branch_decide.2 ⟨fun hlt => hr2.err rfl ?_, fun hge => hr2.err rfl ?_⟩
    · simp only [V.isInt_mk]
      refine V.branch_decide.2 ⟨fun he => ⟨by first | trivial | rfl, by first | trivial | rfl, by omega, he⟩, fun he => absurd (hke (by omega)) he⟩
    · simp only [V.isInt_mk]
      exact atEnd (by omega)
  rintro w h'' ⟨rfl, rfl, hk0, rfl⟩
  simp only [V.isNil_nil]
  obtain ⟨k', rfl⟩ : ∃ k', k = k' + 1 := ⟨k - 1, by omega⟩
  rw [wrapF_i64 (x := most - at_) (by omega) (by omega)]
  refine V.call_of (bound_spec hX (by omega)) ?_
  rintro v hh ⟨rfl, rfl⟩
  simp only [V.isInt_mk]
  refine V.call_of (RNumber_spec hX hr2) ?_
  rintro v h3 ⟨rfl, hr3, hk3⟩
  have hg := numS_le (bs := bs2) (e := 0) (m := max (most - at_) 0) (by omega)
  simp only [readG] at hR2
  generalize numS bs2 0 (max (most - at_) 0) = g at *
  obtain ⟨gap, bs3, e3⟩ := g
  simp only at hg hR2 hr3
  simp only [V.isInt_mk]
  rw [wrapF_i64 (x := gap) (by omega) (by omega), wrapF_i64 (x := at_ + gap) (by omega) (by omega), wrapF_i64 (x := most - (at_ + gap)) (by omega) (by omega)]
  refine V.call_of (bound_spec hX (by omega)) ?_
  rintro v hh ⟨rfl, rfl⟩
  simp only [V.isInt_mk]
  refine V.call_of (RNumber_spec hX hr3) ?_
  rintro v h5 ⟨rfl, hr4, hk4⟩
  have hsz := numS_le (bs := bs3) (e := e3) (m := max (most - (at_ + gap)) 0) (by omega)
  generalize numS bs3 e3 (max (most - (at_ + gap)) 0) = s at *
  obtain ⟨size, bs4, e4⟩ := s
  simp only at hsz hR2 hr4
  simp only [V.isInt_mk, V.isSome_some]
  refine hr4.err rfl ?_
  simp only [V.isInt_mk]
  rw [wrapF_i64 (x := size) (by omega) (by omega), wrapF_i64 (x := at_ + gap + size) (by omega) (by omega)]
  have hk5 : Keep (just r) h.m0 h5 := (hk2.trans hk3).trans hk4
  have hno : notIn (just r) oa := fun p hp hh => by have h1 := hf p hp; have h2 : p.block = r := hh; have h3 := hr.lt; omega
  have hs5 : Sl h5 oa out.length oc 2 49 (cellsR out) := (hs.keep hk3 hno).keep hk4 hno
  have hlive : ∀ (x : AH) (y : List Value), Sl x oa out.length oc 2 49 y → ∀ p, oa = some p → p.block < x.next := fun x y hx p hp => by subst hp; exact hx.live
  have ho5 : OwnA h5 oa 49 := (ho.keep hk3 (hlive _ _ hs) hno).keep hk4 (hlive _ _ (hs.keep hk3 hno)) hno
  by_cases hgood : e4 = 0
  · rw [if_pos hgood] at hR2
    refine V.branch_not_decide.2 ⟨fun hh => absurd hgood hh, fun _ => ?_⟩
    have form : (size = 0 ∨ gap = 0 ∧ out ≠ []) → RunsV 49 (h5.mr h) (.tuple ⟨[.slice none 0 0, .int .i64 3]⟩) R.1 R.2.1 (fun b => h.next ≤ b) ∧ RdAt 46 U (h5.mr h) r R.2.2.1 R.2.2.2 ∧ Keep (just r) h (h5.mr h) := by
      intro hh
      rw [if_pos hh] at hR2
      subst hR2
      exact ⟨⟨none, 0, rfl, Sl.nil, (by intro p hp; cases hp), fun _ => rfl⟩, hr4, hk5.mr⟩
    have app : ∀ (K : Value → AH → Prop), ¬ (size = 0 ∨ gap = 0 ∧ out ≠ []) → (∀ a' c' h6, Sl h6 a' (out.length + 1) c' 2 49 (cellsR (out ++ [(at_ + gap, at_ + gap + size)])) → OwnA h6 a' 49 → (∀ p, a' = some p → h.next ≤ p.block) → (a' = none → c' = 0) → RdAt 46 U h6 r bs4 e4 → Keep (just r) h.m0 h6 → K (.slice a' (out.length + 1) c') h6) →
        V.ef Try.prog (Op.call (Call.mk (Callee.builtin Builtin.append) (Array.mk [Operand.tmp 69, Operand.tmp 73]) (Array.mk [41, 41]))) [(69, Value.slice oa out.length oc), (73, Value.slice (some (Addr.mk (AH.next h5) 0 none)) 1 1)] (AH.alloc h5 (AObj.cells [Value.int IntKind.i64 (at_ + gap), Value.int IntKind.i64 (at_ + gap + size)] 49 false)) K := by
      intro K hh hK
      have hka : Keep nowt h5 (AH.alloc h5 (AObj.cells [Value.int IntKind.i64 (at_ + gap), Value.int IntKind.i64 (at_ + gap + size)] 49 false)) := Keep.alloc _ _ _
      have hbig : (out.length + 1) * (16 + 1) ≤ 1099511627776 := by
        have : out.length ≤ 1000000000 := by omega
        omega
      have hnw : ∀ b : Option Addr, notIn nowt b := fun _ _ _ hh => hh
      refine V.ef_app elem49 sliceTy41 sliceTy41 (.inl ⟨_, rfl⟩) (by decide) (hs5.keep hka (hnw _)) (ho5.keep hka (hlive _ _ hs5) (hnw _)) (asrc_slice (Sl.fresh (h := h5) (sz := 2) (n := 1) (cs := cellsR [(at_ + gap, at_ + gap + size)]) rfl (by decide))) (cellsR_one _) rfl hbig hz ?_
      intro a' c' h6 g1 g2 g3 g4 g5
      have hnr : ¬ inA oa r := fun ⟨p, hp, e⟩ => by have := hf p hp; have := hr.lt; omega
      have hnU : ∀ b, U b → ¬ inA oa b := fun b hb ⟨p, hp, e⟩ => by have := hf p hp; have := hU b hb; omega
      refine hK a' c' h6 (by rw [cellsR_append]; exact g1) g2 (fun p hp => ?_) g5 ((hr4.keep hka (fun hh => hh) (fun _ _ hh => hh)).keep g3 hnr hnU) ?_
      · rcases g4 p hp with ⟨q, hq, e⟩ | hh
        · rw [← e]; exact hf q hq
        · have h1 := hk5.next; have h2 : h5.next + 1 ≤ p.block := hh; have h3 : h.next ≤ h5.next := h1; omega
      · refine Keep.from_ (hk5.trans (hka.weaken fun _ _ hh => hh.elim)) (g3.weaken fun b hb hh => ?_)
        obtain ⟨p, hp, e⟩ := hh
        exact .inr (by rw [← e]; exact hf p hp)
    have next : ∀ a' c' h6, ¬ (size = 0 ∨ gap = 0 ∧ out ≠ []) → Sl h6 a' (out.length + 1) c' 2 49 (cellsR (out ++ [(at_ + gap, at_ + gap + size)])) → OwnA h6 a' 49 → (∀ p, a' = some p → h.next ≤ p.block) → (a' = none → c' = 0) → RdAt 46 U h6 r bs4 e4 → Keep (just r) h.m0 h6 →
        ∃ m', m' < k' + 1 ∧ ∃ (oa : Option Addr) (oc k : Nat) (at1 : Int) (out1 : List (Int × Int)) (bs2 : List UInt8) (e2 : Int), [Value.slice a' (out.length + 1) c', .int .i64 (at_ + gap + size), .int .i64 (wrapF .i64 ((out.length : Int) + 1))] = [.slice oa out1.length oc, .int .i64 at1, .int .i64 out1.length] ∧ m' = k ∧ (out1.length + k : Int) = cnt ∧ (k ≠ 0 → e2 = 0) ∧
          Sl h6 oa out1.length oc 2 49 (cellsR out1) ∧ OwnA h6 oa 49 ∧ (∀ p, oa = some p → h.next ≤ p.block) ∧ (oa = none → oc = 0) ∧ RdAt 46 U h6 r bs2 e2 ∧ Keep (just r) h.m0 h6 ∧ R = readG most k bs2 e2 at1 out1 ∧ 0 ≤ at1 ∧ at1 ≤ max most 0 := by
      intro a' c' h6 hh g1 g2 g3 g4 g5 g6
      rw [if_neg hh] at hR2
      refine ⟨k', by omega, a', c', k', at_ + gap + size, out ++ [(at_ + gap, at_ + gap + size)], bs4, e4, ?_, rfl, by simp; omega, fun _ => hgood, by simpa using g1, g2, g3, g4, g5, g6, hR2, by omega, by omega⟩
      rw [wrapF_i64 (by omega) (by omega)]
      simp
    refine V.branch_decide.2 ⟨fun c1 => form (.inl c1), fun c1 => V.branch_decide.2 ⟨fun c2 => V.branch_decide.2 ⟨fun c3 => form (.inr ⟨c2, fun hh => by subst hh; simp at c3⟩), fun c3 => ?_⟩, fun c2 => ?_⟩⟩
    · have hn : ¬ (size = 0 ∨ gap = 0 ∧ out ≠ []) := fun hh => by
        rcases hh with hh | ⟨_, hh⟩
        · exact c1 hh
        · exact hh (List.eq_nil_of_length_eq_zero (by omega))
      exact app _ hn fun a' c' h6 g1 g2 g3 g4 g5 g6 => next a' c' h6 hn g1 g2 g3 g4 g5 g6
    · have hn : ¬ (size = 0 ∨ gap = 0 ∧ out ≠ []) := fun hh => by
        rcases hh with hh | ⟨hh, _⟩
        · exact c1 hh
        · exact c2 hh
      exact app _ hn fun a' c' h6 g1 g2 g3 g4 g5 g6 => next a' c' h6 hn g1 g2 g3 g4 g5 g6
  · rw [if_neg hgood] at hR2
    exact stop' h5 e4 bs4 hk5 hr4 hR2 hgood
end
end Go.Proofs.Ytpngimbillnjdaa

