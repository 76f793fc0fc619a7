/- Rules by which verification conditions are shown. No conditions beyond those each theorem states. -/
import Derived.Test.YtpngimbillnjdaaVcA
import Derived.Test.YtpngimbillnjdaaAmF
import Derived.Deep.Slices
import Derived.ChangeSlices
/- Verification conditions: rules by which they are shown. -/
namespace Go.Am
open Go

/-! ### Nodes -/
@[simp] theorem V.branch_decide {c : Prop} [Decidable c] {p q : Prop} : V.branch (decide c) p q ↔ (c → p) ∧ (¬ c → q) := by
  by_cases h : c <;> simp [V.branch, h]
@[simp] theorem V.branch_not_decide {c : Prop} [Decidable c] {p q : Prop} : V.branch (!decide c) p q ↔ (¬ c → p) ∧ (c → q) := by
  by_cases h : c <;> simp [V.branch, h]
@[simp] theorem V.branch_true {p q : Prop} : V.branch true p q ↔ p := Iff.rfl
@[simp] theorem V.branch_false {p q : Prop} : V.branch false p q ↔ q := Iff.rfl
theorem V.branch_bool {b : Bool} {p q : Prop} : V.branch b p q ↔ (b = true → p) ∧ (b = false → q) := by cases b <;> simp
@[simp] theorem V.branch_not {b : Bool} {p q : Prop} : V.branch (!b) p q ↔ V.branch b q p := by cases b <;> simp
@[simp] theorem V.guard_decide {c : Prop} [Decidable c] {p : Prop} : V.guard (decide c) p ↔ c ∧ p := by
  by_cases h : c <;> simp [V.guard, h]
@[simp] theorem V.guard_true {p : Prop} : V.guard true p ↔ p := Iff.rfl
theorem V.guard_bool {b : Bool} {p : Prop} : V.guard b p ↔ b = true ∧ p := by cases b <;> simp [V.guard]
@[simp] theorem V.isBool_mk {b : Bool} {k : Bool → Prop} : V.isBool (.bool b) k ↔ k b := Iff.rfl
@[simp] theorem V.isInt_mk {kd : IntKind} {i : Int} {k : Int → Prop} : V.isInt kd (.int kd i) k ↔ k i := by simp [V.isInt]
@[simp] theorem V.isStr_mk {s : ByteArray} {k : ByteArray → Prop} : V.isStr (.string s) k ↔ k s := Iff.rfl
@[simp] theorem V.isPtr_mk {p : Option Addr} {k : Option Addr → Prop} : V.isPtr (.pointer p) k ↔ k p := Iff.rfl
@[simp] theorem V.isSlice_mk {a : Option Addr} {n c : Nat} {k : Option Addr → Nat → Nat → Prop} : V.isSlice (.slice a n c) k ↔ k a n c := Iff.rfl
@[simp] theorem V.isMap_mk {m : Option Nat} {k : Option Nat → Prop} : V.isMap (.map m) k ↔ k m := Iff.rfl
@[simp] theorem V.isAgg_mk {l : List Value} {k : List Value → Prop} : V.isAgg (.agg ⟨l⟩) k ↔ k l := Iff.rfl
@[simp] theorem V.isTup_mk {l : List Value} {k : List Value → Prop} : V.isTup (.tuple ⟨l⟩) k ↔ k l := Iff.rfl
@[simp] theorem V.uncons_cons {v : Value} {l : List Value} {k : Value → List Value → Prop} : V.uncons (v :: l) k ↔ k v l := Iff.rfl
@[simp] theorem V.isNil_nil {p : Prop} : V.isNil [] p ↔ p := Iff.rfl
@[simp] theorem V.isSome_some {a : Addr} {k : Addr → Prop} : V.isSome (some a) k ↔ k a := Iff.rfl

theorem RunsF.mono {P : Program} {X : Ext} {LL : FuncId → Lv} {tg : Tgt} {args : List Value} {h : AH} {K K' : Value → AH → Prop} (hr : RunsF P X LL tg args h K) (hk : ∀ v h', K v h' → K' v h') : RunsF P X LL tg args h K' := by
  obtain ⟨v, h', h1, h2⟩ := hr
  exact ⟨v, h', h1, hk _ _ h2⟩
theorem V.call_of {P : Program} {X : Ext} {LL : FuncId → Lv} {tg : Tgt} {args : List Value} {h : AH} {K K' : Value → AH → Prop} (hr : RunsF P X LL tg args h K) (hk : ∀ v h', K v h' → K' v h') : V.call P X LL tg args h K' := hr.mono hk

theorem boolT {p : Prop} [Decidable p] (h : p) : [Value.bool true] = [Value.bool (decide p)] := by simp [h]
theorem boolF {p : Prop} [Decidable p] (h : ¬ p) : [Value.bool false] = [Value.bool (decide p)] := by simp [h]
theorem boolI {p q : Prop} [Decidable p] [Decidable q] (h : p ↔ q) : [Value.bool (decide p)] = [Value.bool (decide q)] := by simp [h]

/-! ### Memory -/
@[simp] theorem AH.get_m0 (h : AH) (a : Nat) : h.m0.get a = h.get a := rfl
@[simp] theorem AH.next_m0 (h : AH) : h.m0.next = h.next := rfl
@[simp] theorem AH.get_mr (h h0 : AH) (a : Nat) : (h.mr h0).get a = h.get a := rfl
@[simp] theorem AH.next_mr (h h0 : AH) : (h.mr h0).next = h.next := rfl
@[simp] theorem AH.mr_m0 (h : AH) : h.m0.mr h = h := rfl
@[simp] theorem AH.next_alloc (h : AH) (o : AObj) : (h.alloc o).next = h.next + 1 := rfl
@[simp] theorem AH.next_set (h : AH) (a : Nat) (o : AObj) : (h.set a o).next = h.next := rfl
@[simp] theorem AH.next_drop (h : AH) (a : Nat) : (h.drop a).next = h.next := rfl
@[simp] theorem AH.next_reserve (h : AH) (m : Nat) : (h.reserve m).next = h.next + m := rfl
@[simp] theorem AH.get_reserve' (h : AH) (m a : Nat) : (h.reserve m).get a = h.get a := rfl
theorem AH.get_alloc_self (h : AH) (o : AObj) : (h.alloc o).get h.next = some o := by rw [AH.get_alloc, if_pos rfl]
theorem AH.get_alloc_old {h : AH} {o : AObj} {a : Nat} (ha : a < h.next) : (h.alloc o).get a = h.get a := by rw [AH.get_alloc, if_neg (by omega)]
theorem AH.get_set_self (h : AH) (a : Nat) (o : AObj) : (h.set a o).get a = some o := by rw [AH.get_set, if_pos rfl]
theorem AH.get_set_ne {h : AH} {a b : Nat} {o : AObj} (hn : b ≠ a) : (h.set a o).get b = h.get b := by rw [AH.get_set, if_neg hn]

/-- What was there is as it was, but for some blocks. -/
structure Keep (S : Nat → Prop) (h h' : AH) : Prop where
  next : h.next ≤ h'.next
  get : ∀ a, a < h.next → ¬ S a → h'.get a = h.get a
def nowt : Nat → Prop := fun _ => False
def just (r : Nat) : Nat → Prop := fun a => a = r
theorem Keep.refl (S : Nat → Prop) (h : AH) : Keep S h h := ⟨Nat.le_refl _, fun _ _ _ => rfl⟩
theorem Keep.trans {S : Nat → Prop} {h h1 h2 : AH} (x : Keep S h h1) (y : Keep S h1 h2) : Keep S h h2 :=
  ⟨Nat.le_trans x.next y.next, fun a ha hn => (y.get a (Nat.lt_of_lt_of_le ha x.next) hn).trans (x.get a ha hn)⟩
theorem Keep.weaken {S T : Nat → Prop} {h h' : AH} (x : Keep S h h') (hs : ∀ a, a < h.next → S a → T a) : Keep T h h' :=
  ⟨x.next, fun a ha hn => x.get a ha (fun hS => hn (hs a ha hS))⟩
theorem Keep.alloc (S : Nat → Prop) (h : AH) (o : AObj) : Keep S h (h.alloc o) := ⟨by simp, fun a ha _ => AH.get_alloc_old ha⟩
theorem Keep.reserve (S : Nat → Prop) (h : AH) (m : Nat) : Keep S h (h.reserve m) := ⟨by simp, fun a ha _ => rfl⟩
theorem Keep.set {S : Nat → Prop} {h : AH} {a : Nat} {o : AObj} (ha : S a ∨ h.next ≤ a) : Keep S h (h.set a o) :=
  ⟨by simp, fun b hb hn => AH.get_set_ne (fun e => by subst e; rcases ha with ha | ha; exact hn ha; omega)⟩
theorem Keep.drop {S : Nat → Prop} {h : AH} {a : Nat} (ha : S a ∨ h.next ≤ a) : Keep S h (h.drop a) :=
  ⟨by simp, fun b hb hn => by rw [AH.get_drop, if_neg (fun e => by subst e; rcases ha with ha | ha; exact hn ha; omega)]⟩
theorem Keep.from_ {S : Nat → Prop} {h h1 h2 : AH} (x : Keep S h h1) (y : Keep (fun a => S a ∨ h.next ≤ a) h1 h2) : Keep S h h2 :=
  ⟨Nat.le_trans x.next y.next, fun a ha hn => (y.get a (Nat.lt_of_lt_of_le ha x.next) (fun h => by rcases h with h | h; exact hn h; omega)).trans (x.get a ha hn)⟩

theorem Keep.mr {S : Nat → Prop} {h h1 : AH} (x : Keep S h.m0 h1) : Keep S h (h1.mr h) := ⟨x.next, x.get⟩
theorem V.ld_of {h : AH} {a : Addr} {c : List Value} {e : TypeId} {ro : Bool} {v : Value} {k : Value → Prop} (hg : h.get a.block = some (.cells c e ro)) (hc : c[a.off]? = some v) (hk : k v) : V.ld h a k := ⟨c, e, ro, v, hg, hc, hk⟩
theorem V.ldN_of {n : Nat} {h : AH} {a : Addr} {l : List Value} {k : List Value → Prop} (hc : cellsAt h a n = some l) (hk : k l) : V.ldN n h a k := ⟨l, hc, hk⟩
theorem V.store_of {h : AH} {a : Addr} {vs c : List Value} {e : TypeId} {k : AH → Prop} (hg : h.get a.block = some (.cells c e false)) (hl : a.off + vs.length ≤ c.length) (h1 : vs.all one = true) (hk : k (h.set a.block (.cells (splice c a.off vs) e false))) : V.store h a vs k :=
  ⟨_, by unfold astore; rw [hg]; simp only [h1, Nat.ble_eq_true_of_le hl, Bool.and_self, cond_true], hk⟩

/-! ### Slices -/
theorem cellsAt_inv {h : AH} {p : Addr} {n : Nat} {l : List Value} (hc : cellsAt h p n = some l) : ∃ c e ro, h.get p.block = some (.cells c e ro) ∧ p.off + n ≤ c.length ∧ l = (c.drop p.off).take n := by
  unfold cellsAt at hc
  split at hc
  · rename_i c e ro hg
    cases hb : Nat.ble (p.off + n) c.length with
    | false => rw [hb] at hc; cases hc
    | true =>
      rw [hb] at hc
      injection hc with hc
      exact ⟨c, e, ro, hg, Nat.le_of_ble_eq_true hb, hc.symm⟩
  · cases hc
theorem cellsAt_of {h : AH} {p : Addr} {n : Nat} {c : List Value} {e : TypeId} {ro : Bool} (hg : h.get p.block = some (.cells c e ro)) (hl : p.off + n ≤ c.length) : cellsAt h p n = some ((c.drop p.off).take n) := by
  unfold cellsAt; rw [hg]; simp only [Nat.ble_eq_true_of_le hl, cond_true]
theorem cellsAt_congr {h h' : AH} {p : Addr} {n : Nat} (hg : h'.get p.block = h.get p.block) : cellsAt h' p n = cellsAt h p n := by unfold cellsAt; rw [hg]
/-- The elements of a slice (of so many cells each, of a type). -/
def SlAt (h : AH) (a : Option Addr) (n c sz : Nat) (e : TypeId) (l : List Value) : Prop := match a with
  | none => n = 0 ∧ l = []
  | some p => p.block < h.next ∧ ∃ cs e' ro, h.get p.block = some (.cells cs e' ro) ∧ (capExact c = true ∨ e' = e) ∧ p.off + capLow c * sz ≤ cs.length ∧ l = (cs.drop p.off).take (n * sz)
def Sl (h : AH) (a : Option Addr) (n c sz : Nat) (e : TypeId) (l : List Value) : Prop := n ≤ capLow c ∧ SlAt h a n c sz e l
theorem Sl.cap {h : AH} {a : Option Addr} {n c sz : Nat} {e : TypeId} {l : List Value} (hs : Sl h a n c sz e l) : n ≤ capLow c := hs.1
theorem Sl.at_ {h : AH} {a : Option Addr} {n c sz : Nat} {e : TypeId} {l : List Value} (hs : Sl h a n c sz e l) : SlAt h a n c sz e l := hs.2
def notIn (S : Nat → Prop) (a : Option Addr) : Prop := ∀ p, a = some p → ¬ S p.block
variable {h h' : AH} {a : Option Addr} {p : Addr} {n c sz : Nat} {e : TypeId} {l : List Value} {S : Nat → Prop}
theorem Sl.room (hs : Sl h (some p) n c sz e l) : ∃ cs e' ro, h.get p.block = some (.cells cs e' ro) ∧ p.off + capLow c * sz ≤ cs.length ∧ p.off + n * sz ≤ cs.length ∧ l = (cs.drop p.off).take (n * sz) := by
  obtain ⟨_, cs, e', ro, hg, _, hl, he⟩ := hs.at_
  have := Nat.mul_le_mul_right sz hs.cap
  exact ⟨cs, e', ro, hg, hl, by omega, he⟩
theorem Sl.length (hs : Sl h a n c sz e l) : l.length = n * sz := by
  cases a with
  | none => obtain ⟨rfl, rfl⟩ := hs.at_; simp
  | some p => obtain ⟨c, e', ro, _, _, hl, rfl⟩ := hs.room; simp; omega
theorem Sl.nil {c : Nat} : Sl h none 0 c sz e [] := ⟨Nat.zero_le _, rfl, rfl⟩
theorem Sl.live (hs : Sl h (some p) n c sz e l) : p.block < h.next := hs.at_.1
theorem Sl.congr (hs : Sl h a n c sz e l) (hn : h.next ≤ h'.next) (hg : ∀ p, a = some p → h'.get p.block = h.get p.block) : Sl h' a n c sz e l := by
  refine ⟨hs.cap, ?_⟩
  have hs := hs.at_
  cases a with
  | none => exact hs
  | some p => obtain ⟨h1, c, e', ro, h2, h3⟩ := hs; exact ⟨Nat.lt_of_lt_of_le h1 hn, c, e', ro, (hg p rfl).trans h2, h3⟩
theorem Sl.get (hs : Sl h (some p) n c sz e l) {i : Nat} (hi : i < n * sz) : ∃ c e' ro, h.get p.block = some (.cells c e' ro) ∧ c[p.off + i]? = l[i]? ∧ i < l.length := by
  have hlen := Sl.length hs
  obtain ⟨c, e', ro, hg, _, hl, hl'⟩ := hs.room
  refine ⟨c, e', ro, hg, ?_, by omega⟩
  rw [hl', List.getElem?_take, if_pos hi, List.getElem?_drop]
theorem Sl.keep (hs : Sl h a n c sz e l) (hk : Keep S h h') (hn : notIn S a) : Sl h' a n c sz e l :=
  hs.congr hk.next fun p hp => hk.get _ (by subst hp; exact hs.live) (hn p hp)
theorem notIn.weaken {T : Nat → Prop} (hn : notIn S a) (hs : ∀ b, T b → S b) : notIn T a := fun p hp hT => hn p hp (hs _ hT)
/-- One cell is read. -/
theorem Sl.ld (hs : Sl h (some p) n c sz e l) {o : Nat} {v : Value} {k : Value → Prop} (ho : o < n * sz) (hv : l[o]? = some v) (hk : k v) : V.ld h ⟨p.block, p.off + o, none⟩ k := by
  obtain ⟨c, e', ro, hg, hc, _⟩ := hs.get ho
  exact V.ld_of (a := ⟨p.block, p.off + o, none⟩) hg (hc.trans hv) hk
/-- One element is read. -/
theorem Sl.ldN (hs : Sl h (some p) n c sz e l) {i : Nat} {k : List Value → Prop} (hi : i < n) (hk : k ((l.drop (i * sz)).take sz)) : V.ldN sz h ⟨p.block, p.off + i * sz, none⟩ k := by
  obtain ⟨c, e', ro, hg, _, hl, hl'⟩ := hs.room
  have h1 : i * sz + sz ≤ n * sz := by rw [← Nat.succ_mul]; exact Nat.mul_le_mul_right _ hi
  refine V.ldN_of ?_ hk
  rw [cellsAt_of (p := ⟨p.block, p.off + i * sz, none⟩) hg (by show p.off + i * sz + sz ≤ _; omega), hl']
  simp only [List.drop_take, List.take_take, List.drop_drop]
  congr 2; omega

/-! ### Slices of slices -/
theorem abound_lo {k : IntKind} {lo b d : Nat} (h : lo ≤ b) : abound (some (some (.int k lo))) b d = some lo := by
  simp only [abound]; rw [if_pos (by omega)]; simp
theorem elemOk_of (hs : Sl h a n c sz e l) : elemOk h a c e = true := by
  unfold elemOk
  cases a with
  | none => simp
  | some p =>
    obtain ⟨_, c', e', ro, hg, hx, _⟩ := hs.at_
    rcases hx with hx | rfl <;> simp [hg, *]
section
variable {P : Program} {ty : TypeId}
theorem aslice_of (hty : P.underlying ty = some (.slice e)) (hsz : Go.Am.sz P e = some sz) (hs : Sl h a n c sz e l) {lo hi : Option (Option Value)} {l0 h0 : Nat} (hhi : abound hi (capLow c) n = some h0) (hlo : abound lo h0 0 = some l0) (h1 : l0 ≤ h0) (h2 : h0 ≤ n) :
    ∃ a' c', aslice P h ty (.slice a n c) lo hi none = some (.slice a' (h0 - l0) c') ∧ Sl h a' (h0 - l0) c' sz e ((l.drop (l0 * sz)).take ((h0 - l0) * sz)) ∧ ∀ S, notIn S a → notIn S a' := by
  have hcap := hs.cap
  refine ⟨bif capExact c && Nat.beq c l0 then a else a.map fun p => ⟨p.block, p.off + l0 * sz, none⟩, bif capExact c then c - l0 else capUnknown (capLow c - l0), ?_, ⟨?_, ?_⟩, ?_⟩
  · simp only [aslice, hty, elemOk_of hs, hsz, hhi, hlo, Bool.not_true, cond_false]
  · cases hx : capExact c with
    | true =>
      simp only [cond_true]
      have hk : Nat.blt c K = true := hx
      have e1 : capLow c = c := by unfold capLow; rw [hk]; rfl
      rw [e1] at hcap
      have : capLow (c - l0) = c - l0 := by
        have h3 : c < K := by simpa [Nat.blt_eq] using hk
        have h4 : Nat.blt (c - l0) K = true := by simp [Nat.blt_eq]; omega
        unfold capLow; rw [h4]; rfl
      rw [this]; omega
    | false =>
      simp only [cond_false]
      have : capLow (capUnknown (capLow c - l0)) = capLow c - l0 := by
        have h4 : Nat.blt (K + (capLow c - l0)) K = false := by
          cases hb : Nat.blt (K + (capLow c - l0)) K with
          | false => rfl
          | true => have : K + (capLow c - l0) < K := by simpa [Nat.blt_eq] using hb
                    omega
        unfold capUnknown; rw [capLow, h4]; simp
      rw [this]; omega
  · have hat := hs.at_
    cases a with
    | none =>
      obtain ⟨rfl, rfl⟩ := hat
      have : h0 - l0 = 0 := by omega
      rw [this]
      cases (capExact c && Nat.beq c l0) <;> exact ⟨rfl, by simp⟩
    | some p =>
      obtain ⟨hlt, c', e', ro, hg, hex, hlc, hl'⟩ := hat
      have hln : p.off + n * sz ≤ c'.length := by have := Nat.mul_le_mul_right sz hs.cap; omega
      have hcl : capLow (bif capExact c then c - l0 else capUnknown (capLow c - l0)) = capLow c - l0 := by
        cases hx : capExact c with
        | true =>
          simp only [cond_true]
          have hk : Nat.blt c K = true := hx
          have h3 : c < K := by simpa [Nat.blt_eq] using hk
          have h4 : Nat.blt (c - l0) K = true := by simp [Nat.blt_eq]; omega
          unfold capLow; rw [hk, h4]; rfl
        | false =>
          simp only [cond_false]
          have h4 : Nat.blt (K + (capLow c - l0)) K = false := by
            cases hb : Nat.blt (K + (capLow c - l0)) K with
            | false => rfl
            | true => have : K + (capLow c - l0) < K := by simpa [Nat.blt_eq] using hb
                      omega
          unfold capUnknown; rw [capLow, h4]; simp
      have hexact : capExact (bif capExact c then c - l0 else capUnknown (capLow c - l0)) = true ∨ e' = e := by
        rcases hex with hx | hx
        · left
          have h3 : c < K := by have : Nat.blt c K = true := hx; simpa [Nat.blt_eq] using this
          rw [hx]; simp only [cond_true, capExact, Nat.blt_eq]; omega
        · exact .inr hx
      have hmulc : l0 * sz + (capLow c - l0) * sz ≤ capLow c * sz := by rw [← Nat.add_mul]; exact Nat.mul_le_mul_right _ (by omega)
      have hmul : l0 * sz + (h0 - l0) * sz ≤ n * sz := by rw [← Nat.add_mul]; exact Nat.mul_le_mul_right _ (by omega)
      cases hx : (capExact c && Nat.beq c l0) with
      | true =>
        simp only [cond_true]
        simp only [Bool.and_eq_true] at hx
        have hc := Nat.eq_of_beq_eq_true hx.2
        have e1 : capLow c = c := by
          have hk : Nat.blt c K = true := hx.1
          unfold capLow; rw [hk]; rfl
        have hz : h0 - l0 = 0 := by omega
        have hz2 : capLow c - l0 = 0 := by omega
        refine ⟨hlt, c', e', ro, hg, hexact, by rw [hcl, hz2]; omega, by rw [hz]; simp⟩
      | false =>
        simp only [cond_false, Option.map_some]
        refine ⟨hlt, c', e', ro, hg, hexact, by rw [hcl]; show p.off + l0 * sz + _ ≤ _; omega, ?_⟩
        rw [hl']
        simp only [List.drop_take, List.take_take, List.drop_drop]
        congr 1; omega
  · intro S hn
    cases (capExact c && Nat.beq c l0)
    · intro p hp
      cases a with
      | none => cases hp
      | some q => simp only [cond_false, Option.map_some] at hp; injection hp with hp; subst hp; exact hn q rfl
    · exact hn
/-- s[lo:] -/
theorem V.rd_drop {i j : Nat} {k : IntKind} {lo : Nat} {K : Value → Prop} (hty : P.underlying ty = some (.slice e)) (hsz : Go.Am.sz P e = some sz) (hij : i ≠ j) (hs : Sl h a n c sz e l) (hlo : lo ≤ n)
    (hk : ∀ a' c', Sl h a' (n - lo) c' sz e (l.drop (lo * sz)) → (∀ S, notIn S a → notIn S a') → K (.slice a' (n - lo) c')) : V.rd P (.slice ty (.tmp i) (some (.tmp j)) none none) [(i, .slice a n c), (j, .int k lo)] h K := by
  obtain ⟨a', c', h1, h2, h3⟩ := aslice_of (lo := some (some (.int k lo))) (hi := none) hty hsz hs (h0 := n) (l0 := lo) rfl (abound_lo hlo) hlo (Nat.le_refl _)
  refine ⟨_, ?_, hk a' c' ?_ h3⟩
  · have e1 : evA [(i, Value.slice a n c), (j, .int k lo)] (.tmp i) = some (.slice a n c) := by simp [evA, envGet, beqt]
    have e2 : evA [(i, Value.slice a n c), (j, .int k lo)] (.tmp j) = some (.int k lo) := by simp only [evA, envGet]; rw [beqf (Ne.symm hij), beqt rfl]; rfl
    simp only [aread, e1, Option.map_some, Option.map_none, e2]
    exact h1
  · have := hs.length
    have e : (l.drop (lo * sz)).take ((n - lo) * sz) = l.drop (lo * sz) := List.take_of_length_le (by rw [List.length_drop, this, Nat.sub_mul]; exact Nat.le_refl _)
    rw [e] at h2; exact h2
end

/-! ### Bytes -/
def cellsB (bs : List UInt8) : List Value := bs.map fun b => .int .u8 b.toNat
@[simp] theorem cellsB_length (bs : List UInt8) : (cellsB bs).length = bs.length := by simp [cellsB]
theorem cellsB_get {bs : List UInt8} {i : Nat} (hi : i < bs.length) : (cellsB bs)[i]? = some (.int .u8 (bs[i].toNat : Nat)) := by simp [cellsB, hi]
theorem cellsB_drop (bs : List UInt8) (i : Nat) : (cellsB bs).drop i = cellsB (bs.drop i) := by simp [cellsB, List.map_drop]
theorem cellsB_take (bs : List UInt8) (i : Nat) : (cellsB bs).take i = cellsB (bs.take i) := by simp [cellsB, List.map_take]
end Go.Am

/- Verification conditions: appending. -/
namespace Go.Am
open Go

section
variable {P : Program} {h : AH} {a : Option Addr} {n c sz : Nat} {e : TypeId} {l : List Value}

def inA (a : Option Addr) : Nat → Prop := fun b => ∃ p, a = some p ∧ p.block = b
/-- A slice's block may be written. -/
def OwnA (h : AH) (a : Option Addr) (e : TypeId) : Prop := ∀ p, a = some p → ∃ c, h.get p.block = some (.cells c e false)

theorem spliceLen {c : List Value} {o : Nat} {vs : List Value} (h : o + vs.length ≤ c.length) : (splice c o vs).length = c.length := by
  simp [splice]; omega
theorem splice_take {c : List Value} {o : Nat} {vs : List Value} (h : o + vs.length ≤ c.length) {b m : Nat} (hb : b + m = o) : ((splice c o vs).drop b).take (m + vs.length) = (c.drop b).take m ++ vs := by
  unfold splice
  apply List.ext_getElem?
  intro i
  simp only [List.getElem?_take, List.getElem?_drop, List.getElem?_append, List.length_append, List.length_take, List.length_drop]
  by_cases h1 : i < m
  · rw [if_pos (by omega), if_pos (by omega), if_pos (by omega), if_pos (by omega), if_pos (by omega)]
    rw [if_pos (by omega)]
  · by_cases h2 : i < m + vs.length
    · rw [if_pos h2, if_pos (by omega), if_neg (by omega), if_neg (by omega)]
      congr 1; omega
    · rw [if_neg h2, if_neg (by omega)]
      rw [List.getElem?_eq_none (by omega)]

/-- append(s, x..), s's block being one's own. -/
theorem aappend_of {ty tx : TypeId} {dx : TypeDesc} {i : TypeInfo} {z x : Value} {m : Nat} {news : List Value} (hty : P.underlying ty = some (.slice e)) (htx : P.underlying tx = some dx) (hdx : (∃ e', dx = .slice e') ∨ dx = .string) (hi : P.info? e = some i) (hz : zeroOf P e = some z) (h1 : 1 ≤ i.size)
    (hs : Sl h a n c i.size e l) (ho : OwnA h a e) (hx : asrc h i.size x = some (m, news)) (hone : news.all one = true) (hl : news.length = m * i.size) (hb : (n + m) * (i.bytes + 1) ≤ 1099511627776) (hc0 : a = none → c = 0) :
    ∃ a' c' h', aappend P h [ty, tx] (.slice a n c) x = some (.slice a' (n + m) c', h') ∧ Sl h' a' (n + m) c' i.size e (l ++ news) ∧ OwnA h' a' e ∧ Keep (inA a) h h' ∧ (∀ p, a' = some p → inA a p.block ∨ h.next ≤ p.block) ∧ (a' = none → c' = 0) := by
  have hA : aappend P h [ty, tx] (.slice a n c) x = aappendL h e i (.slice a n c) x := by
    unfold aappend
    rcases hdx with ⟨e', rfl⟩ | rfl <;> simp only [hty, htx, hi, hz]
  rw [hA]
  have hne : (Nat.ble 1 i.size && news.all one) = true := by rw [Nat.ble_eq_true_of_le h1, hone]; rfl
  have hfresh : ∀ (cs : List Value) (h1 : AH), h1.next = h.next → cs.length = (n + m) * i.size → Sl (h1.alloc (.cells cs e false)) (some ⟨h1.next, 0, none⟩) (n + m) (capUnknown (n + m)) i.size e cs ∧ OwnA (h1.alloc (.cells cs e false)) (some ⟨h1.next, 0, none⟩) e := by
    intro cs h1 hn hcs
    refine ⟨⟨by rw [capLow_unknown]; exact Nat.le_refl _, by show h1.next < h1.next + 1; omega, cs, e, false, AH.get_alloc_self _ _, .inr rfl, by rw [capLow_unknown, hcs]; show 0 + _ ≤ _; omega, by show cs = (cs.drop 0).take _; rw [← hcs]; simp⟩, ?_⟩
    intro p hp; injection hp with hp; subst hp; exact ⟨cs, AH.get_alloc_self _ _⟩
  cases a with
  | none =>
    obtain ⟨rfl, rfl⟩ := hs.at_
    have hc := hc0 rfl; subst hc
    by_cases hm : m = 0
    · subst hm
      have : news = [] := List.eq_nil_of_length_eq_zero (by simpa using hl)
      subst this
      exact ⟨none, 0, h, by simp only [aappendL, hx, hne]; rfl, Sl.nil, (by intro p hp; cases hp), Keep.refl _ _, (by intro p hp; cases hp), fun _ => rfl⟩
    · obtain ⟨f1, f2⟩ := hfresh news h rfl (by rw [hl]; simp)
      refine ⟨some ⟨h.next, 0, none⟩, capUnknown (0 + m), h.alloc (.cells news e false), ?_, by simpa using f1, f2, Keep.alloc _ _ _, (by intro p hp; injection hp with hp; subst hp; exact .inr (Nat.le_refl _)), (by intro hh; cases hh)⟩
      simp only [aappendL, hx, hne, Bool.not_true, cond_false, beqf hm, Nat.zero_add]
      rw [Nat.ble_eq_true_of_le (by simpa using hb)]; rfl
  | some p =>
    obtain ⟨cs, e0, ro, hg, hlc, hln, he⟩ := hs.room
    obtain ⟨cs', hg'⟩ := ho p rfl
    rw [hg] at hg'; injection hg' with hg'; injection hg' with q1 q2 q3; subst q1; have q2 := q2.symm; subst q2; subst q3
    by_cases hm : m = 0
    · subst hm
      have : news = [] := List.eq_nil_of_length_eq_zero (by simpa using hl)
      subst this
      refine ⟨some p, c, h, by simp only [aappendL, hx, hne]; rfl, by simpa using hs, ho, Keep.refl _ _, (by intro q hq; injection hq with hq; subst hq; exact .inl ⟨p, rfl, rfl⟩), (by intro hh; cases hh)⟩
    · by_cases hfit : n + m ≤ capLow c
      · have hmul : n * i.size + m * i.size ≤ capLow c * i.size := by rw [← Nat.add_mul]; exact Nat.mul_le_mul_right _ hfit
        have hroom : p.off + n * i.size + news.length ≤ cs.length := by rw [hl]; omega
        refine ⟨some p, c, h.set p.block (.cells (splice cs (p.off + n * i.size) news) e false), ?_, ⟨hfit, ?_⟩, ?_, Keep.set (.inl ⟨p, rfl, rfl⟩), (by intro q hq; injection hq with hq; subst hq; exact .inl ⟨p, rfl, rfl⟩), (by intro hh; cases hh)⟩
        · simp only [aappendL, hx, hne, Bool.not_true, cond_false, beqf hm, Nat.ble_eq_true_of_le hfit, cond_true, astore, hg, Nat.ble_eq_true_of_le hroom, hone, Bool.and_self, Nat.ble_eq_true_of_le h1]
        · refine ⟨by simpa using hs.live, _, _, false, AH.get_set_self _ _ _, .inr rfl, by rw [spliceLen hroom]; exact hlc, ?_⟩
          rw [he, Nat.add_mul, ← hl]
          exact (splice_take hroom rfl).symm
        · intro q hq; injection hq with hq; subst hq; exact ⟨_, AH.get_set_self _ _ _⟩
      · have hcat : cellsAt h p (n * i.size) = some l := by rw [cellsAt_of hg hln, he]
        have hfit' : Nat.ble (n + m) (capLow c) = false := by
          cases hb : Nat.ble (n + m) (capLow c) with
          | false => rfl
          | true => exact absurd (Nat.le_of_ble_eq_true hb) hfit
        have hb' : (Nat.ble ((n + m) * (i.bytes + 1)) 1099511627776 && Nat.beq e e) = true := by rw [Nat.ble_eq_true_of_le hb, beqt rfl]; rfl
        have hlen : (l ++ news).length = (n + m) * i.size := by rw [List.length_append, hs.length, hl, Nat.add_mul]
        cases hx' : capExact c with
        | true =>
          obtain ⟨f1, f2⟩ := hfresh (l ++ news) h rfl hlen
          refine ⟨_, _, _, ?_, f1, f2, Keep.alloc _ _ _, (by intro q hq; injection hq with hq; subst hq; exact .inr (Nat.le_refl _)), (by intro hh; cases hh)⟩
          simp only [aappendL, hx, hne, Bool.not_true, cond_false, beqf hm, hfit', hg, hcat, hb', hx', cond_true]
        | false =>
          obtain ⟨f1, f2⟩ := hfresh (l ++ news) (h.drop p.block) rfl hlen
          refine ⟨_, _, _, ?_, f1, f2, ?_, (by intro q hq; injection hq with hq; subst hq; exact .inr (Nat.le_refl _)), (by intro hh; cases hh)⟩
          · simp only [aappendL, hx, hne, Bool.not_true, cond_false, beqf hm, hfit', hg, hcat, hb', hx']; rfl
          · exact (Keep.drop (S := inA (some p)) (.inl ⟨p, rfl, rfl⟩)).trans (Keep.alloc _ _ _)

theorem asrc_slice {a : Option Addr} {n c : Nat} {l : List Value} (hs : Sl h a n c sz e l) : asrc h sz (.slice a n c) = some (n, l) := by
  cases a with
  | none => obtain ⟨rfl, rfl⟩ := hs.at_; rfl
  | some p =>
    obtain ⟨cs, e', ro, hg, hlc, hln, he⟩ := hs.room
    simp only [asrc, cellsAt_of hg hln, he]

theorem V.ef_append {ty tx : TypeId} {dx : TypeDesc} {i j : Nat} {ti : TypeInfo} {z x : Value} {m : Nat} {news : List Value} {K : Value → AH → Prop} (hij : i ≠ j) (hty : P.underlying ty = some (.slice e)) (htx : P.underlying tx = some dx) (hdx : (∃ e', dx = .slice e') ∨ dx = .string) (hi : P.info? e = some ti) (hz : zeroOf P e = some z) (h1 : 1 ≤ ti.size)
    (hs : Sl h a n c ti.size e l) (ho : OwnA h a e) (hx : asrc h ti.size x = some (m, news)) (hone : news.all one = true) (hl : news.length = m * ti.size) (hb : (n + m) * (ti.bytes + 1) ≤ 1099511627776) (hc0 : a = none → c = 0)
    (hk : ∀ a' c' h', Sl h' a' (n + m) c' ti.size e (l ++ news) → OwnA h' a' e → Keep (inA a) h h' → (∀ p, a' = some p → inA a p.block ∨ h.next ≤ p.block) → (a' = none → c' = 0) → K (.slice a' (n + m) c') h') :
    V.ef P (.call (Call.mk (.builtin .append) (Array.mk [.tmp i, .tmp j]) (Array.mk [ty, tx]))) [(i, .slice a n c), (j, x)] h K := by
  obtain ⟨a', c', h', g1, g2, g3, g4, g5, g6⟩ := aappend_of hty htx hdx hi hz h1 hs ho hx hone hl hb hc0
  refine ⟨_, _, ?_, hk a' c' h' g2 g3 g4 g5 g6⟩
  have e1 : evA [(i, Value.slice a n c), (j, x)] (.tmp i) = some (.slice a n c) := by simp [evA, envGet, beqt]
  have e2 : evA [(i, Value.slice a n c), (j, x)] (.tmp j) = some x := by simp only [evA, envGet]; rw [beqf (Ne.symm hij), beqt rfl]; rfl
  simp only [aeff, evsA, e1, e2]
  exact g1

/-- What is known of a type of elements. -/
def ElemOk (P : Program) (e : TypeId) (sz by_ : Nat) : Prop := (∃ ti z, P.info? e = some ti ∧ ti.size = sz ∧ ti.bytes = by_ ∧ zeroOf P e = some z) ∧ 1 ≤ sz
theorem ElemOk.mk' {e : TypeId} {sz by_ : Nat} {z : Value} (h1 : P.info? e = some ((P.info? e).getD default)) (h2 : ((P.info? e).getD default).size = sz) (h3 : ((P.info? e).getD default).bytes = by_) (h4 : zeroOf P e = some ((zeroOf P e).getD undef)) (h5 : 1 ≤ sz) : ElemOk P e sz by_ :=
  ⟨⟨_, _, h1, h2, h3, h4⟩, h5⟩
/-- append(s, x..): s is one's own. -/
theorem V.ef_app {ty tx : TypeId} {dx : TypeDesc} {i j by_ : Nat} {x : Value} {m : Nat} {news : List Value} {K : Value → AH → Prop} (hel : ElemOk P e sz by_) (hty : P.underlying ty = some (.slice e)) (htx : P.underlying tx = some dx) (hdx : (∃ e', dx = .slice e') ∨ dx = .string) (hij : i ≠ j)
    (hs : Sl h a n c sz e l) (ho : OwnA h a e) (hx : asrc h sz x = some (m, news)) (hone : news.all one = true) (hl : news.length = m * sz) (hb : (n + m) * (by_ + 1) ≤ 1099511627776) (hc0 : a = none → c = 0)
    (hk : ∀ a' c' h', Sl h' a' (n + m) c' sz e (l ++ news) → OwnA h' a' e → Keep (inA a) h h' → (∀ p, a' = some p → inA a p.block ∨ h.next ≤ p.block) → (a' = none → c' = 0) → K (.slice a' (n + m) c') h') :
    V.ef P (.call (Call.mk (.builtin .append) (Array.mk [.tmp i, .tmp j]) (Array.mk [ty, tx]))) [(i, .slice a n c), (j, x)] h K := by
  obtain ⟨⟨ti, z, h1, rfl, rfl, h4⟩, h5⟩ := hel
  exact V.ef_append hij hty htx hdx h1 h4 h5 hs ho hx hone hl hb hc0 hk
/-- What was just made. -/
theorem Sl.fresh {h : AH} {cs : List Value} {e : TypeId} {n sz : Nat} (hl : cs.length = n * sz) (hn : n < K) : Sl (h.alloc (.cells cs e false)) (some ⟨h.next, 0, none⟩) n n sz e cs := by
  have e1 : capLow n = n := capLow_exact (by simpa [capExact, Nat.blt_eq] using hn)
  refine ⟨by rw [e1]; exact Nat.le_refl _, by show h.next < h.next + 1; omega, cs, e, false, AH.get_alloc_self _ _, .inr rfl, by rw [e1, hl]; show 0 + _ ≤ _; omega, by show cs = (cs.drop 0).take _; rw [← hl]; simp⟩
theorem OwnA.fresh {h : AH} {cs : List Value} {e : TypeId} : OwnA (h.alloc (.cells cs e false)) (some ⟨h.next, 0, none⟩) e := by
  intro p hp; injection hp with hp; subst hp; exact ⟨cs, AH.get_alloc_self _ _⟩
theorem OwnA.keep {S : Nat → Prop} {h h' : AH} {a : Option Addr} {e : TypeId} (ho : OwnA h a e) (hk : Keep S h h') (hl : ∀ p, a = some p → p.block < h.next) (hn : notIn S a) : OwnA h' a e := by
  intro p hp
  obtain ⟨c, hg⟩ := ho p hp
  exact ⟨c, (hk.get _ (hl p hp) (hn p hp)).trans hg⟩
theorem OwnA.nil {h : AH} {e : TypeId} : OwnA h none e := by intro p hp; cases hp
end
end Go.Am

/- From a run on the abstract machine to the call, where what came in is only read. -/
namespace Go.Am
open Go Go.RowKit Go.ChangeShapes Go.WideShapes

theorem calls_ro {P : Program} (hP : Good P) {X : Ext} (hX : ExtOk P X) {LL : FuncId → Lv} {f : FuncId} {args : List Value} {h : AH} (hr : RunsF P X LL (.fn f) args h (fun v _ => v = .bool true)) (hro : ∀ a o, h.get a = some o → isRo o = true)
    {ρ : Ren} {W : World} {rargs : List Value} (hrel : Rel P ρ h W) (hl : LRel ρ args rargs) : Calls P f rargs.toArray W fun e w' => e = .returned (.bool true) ∧ Below W.heap.size W w' := by
  obtain ⟨v, h', ⟨N, hN⟩, rfl⟩ := hr
  refine (((acall_sound hP hX LL N).fn f args h (.bool true) h' (hN N (Nat.le_refl _)) ρ W rargs hrel hl).2).mono ?_
  rintro e w' ⟨rv, ρ', rfl, h1, h2⟩
  refine ⟨by rw [h1.flat_eq rfl], h2.os, h2.tape, h2.output, h2.grow, fun k hk => h2.keep k hk ?_⟩
  rintro ⟨a, q, o, _, _, hg, hn⟩
  rw [hro a o hg] at hn; cases hn

/-! ### What came in -/
theorem rowAt_le {P : Program} {fits : TypeId → Bool} : ∀ (d : Nat) (e : TypeId) (count off n : Nat), rowAt P fits d e count off n = true → P.cellsOf e ≠ 0 ∧ off ≤ count * P.cellsOf e := by
  intro d e count off n h
  cases d with
  | zero => simp [rowAt] at h
  | succ d =>
    simp only [rowAt] at h
    split at h
    · cases h
    · rename_i hs
      refine ⟨hs, ?_⟩
      have hdm := Nat.div_add_mod off (P.cellsOf e)
      have hlt := Nat.mod_lt off (Nat.pos_of_ne_zero hs)
      simp only [Bool.or_eq_true, Bool.and_eq_true, decide_eq_true_eq, beq_iff_eq] at h
      rcases h with ⟨⟨h1, h2⟩, _⟩ | ⟨h1, _⟩
      · rw [h1, Nat.add_zero, Nat.mul_comm] at hdm
        rw [← hdm]
        exact Nat.mul_le_mul_right _ (by omega)
      · have : (off / P.cellsOf e + 1) * P.cellsOf e ≤ count * P.cellsOf e := Nat.mul_le_mul_right _ h1
        rw [Nat.add_mul, Nat.mul_comm (off / P.cellsOf e)] at this
        omega
theorem liesAt_le {P : Program} : ∀ (d : Nat) (e : TypeId) (count off : Nat) (u : TypeId) (n : Nat), liesAt P d e count off u n = true → P.cellsOf e ≠ 0 ∧ off ≤ count * P.cellsOf e := by
  intro d
  induction d with
  | zero => intro e count off u n h; simp [liesAt] at h
  | succ d ih =>
    intro e count off u n h
    simp only [liesAt, Bool.or_eq_true] at h
    rcases h with h | h
    · exact rowAt_le _ _ _ _ _ h
    · split at h
      · exact ih _ _ _ _ _ h
      · cases h
theorem sz_of_cells {P : Program} {e : TypeId} (h : P.cellsOf e ≠ 0) : ∃ s, sz P e = some s := by
  unfold Program.cellsOf at h
  unfold sz
  cases hi : P.info? e with
  | none => rw [hi] at h; exact absurd rfl h
  | some i => exact ⟨_, rfl⟩

/-- A slice's own block: what the slice's cells hold. -/
structure InBlk (P : Program) (W : World) (v : Value) (n : Nat) (zs : List Value) : Prop where
  ex : ∃ blk off c rc row fr s, v = .slice (some ⟨blk, off, none⟩) n c ∧ n ≤ c ∧ c < K ∧ W.heap[blk]? = some (.cells rc row fr) ∧ sz P row = some s ∧ off + c ≤ rc.size ∧ zs.length = c ∧ ∀ i, i < c → rc[off + i]? = zs[i]?

theorem open_bytesA {P : Program} {H : Type} {enc : TypeId × Value → H} {W : World} {base : Nat} {t e : TypeId} {v : Value} {d : DataW H} {ps : List MemPlace} (ht : P.underlying t = some (.slice e)) (he : P.underlying e = some (.int .u8)) (hc : P.cellsOf e = 1)
    (hval : Value.okWide P W .any base t v) (hd : DataW.Trod enc P W 0 (fun _ => true) true t v d ps) :
    v = .slice none 0 0 ∨ ∃ (zs : List UInt8) (n : Nat), n ≤ zs.length ∧ InBlk P W v n (cellsB zs) := by
  obtain ⟨a1, len, cap, rfl⟩ := okWide_slice ht hval
  obtain ⟨fuel, hf⟩ := hd
  rcases open_ints ht he hc hf with ⟨hcs, hx⟩ | ⟨a, len', cap', zs, hcs, _, hl, hm, hz, hx, hcell, hwz⟩
  · simp [Value.cells] at hcs
    obtain ⟨rfl, rfl, rfl⟩ := hcs
    exact .inl rfl
  · simp [Value.cells] at hcs
    obtain ⟨rfl, rfl, rfl⟩ := hcs
    simp only [if_true] at hz
    right
    have hok : W.has P .any base a e cap := by
      have := hval
      simp only [Value.okWide, ht, Cell.okWide, Cell.ok] at this
      exact this.2.2
    obtain ⟨_, hspot, row, cells, hshape, hlies⟩ := hok
    obtain ⟨ab, ao, spot⟩ := a
    simp only at hspot
    subst hspot
    obtain ⟨hs0, hle⟩ := liesAt_le _ _ _ _ _ _ hlies
    obtain ⟨s, hs⟩ := sz_of_cells hs0
    have hle2 : cells / P.cellsOf row * P.cellsOf row ≤ cells := Nat.div_mul_le_self _ _
    unfold World.shape? at hshape
    split at hshape
    · rename_i rc row' fr hheap
      injection hshape with hshape; injection hshape with q1 q2; subst q1; subst q2
      have hget : ∀ i, i < cap → rc[ao + i]? = some (.int .u8 (zs.getD i 0)) := by
        intro i hi
        have := hcell i (by omega)
        rw [Addr.add_lit] at this
        unfold World.cell? at this
        simp only at this
        rw [hheap] at this
        simpa using this
      have hsz : ao + cap ≤ rc.size := by
        by_cases h0 : cap = 0
        · subst h0; simp only at hle; omega
        · have := hget (cap - 1) (by omega)
          have := (Array.getElem?_eq_some_iff.1 this).1
          omega
      refine ⟨zs.map fun n => UInt8.ofNat n.toNat, len, by simp; omega, ⟨ab, ao, cap, rc, _, fr, s, rfl, hl, ?_, hheap, hs, hsz, by simp; omega, ?_⟩⟩
      · unfold maxLen at hm; unfold K; omega
      · intro i hi
        rw [hget i hi]
        have hi' : i < zs.length := by omega
        have hw := hwz zs[i] (List.getElem_mem hi')
        have e : zs.getD i 0 = zs[i] := by simp [List.getD, List.getElem?_eq_getElem hi']
        rw [e, cellsB_get (by simpa using hi')]
        simp only [List.getElem_map]
        have hr : 0 ≤ zs[i] ∧ zs[i] < 256 := by
          have := hw
          simp [Lit.wf, IntKind.has, IntKind.min, IntKind.max, IntKind.bits, IntKind.signed] at this
          omega
        congr 2
        rw [UInt8.toNat_ofNat']
        omega
    · cases hshape

/-- One block that is read. -/
def oneBlk (zs : List Value) (row : TypeId) : AH := ⟨1, PT.nil.set 0 (.cells zs row true), []⟩
theorem oneBlk_get (zs : List Value) (row : TypeId) (a : Nat) : (oneBlk zs row).get a = if a = 0 then some (.cells zs row true) else none := by
  show (PT.nil.set 0 _).get a = _
  rw [PT.get_set]; rfl
theorem oneBlk_rel {P : Program} {W : World} {v : Value} {n : Nat} {zs : List Value} (hone : ∀ z ∈ zs, flat z = true) (hb : InBlk P W v n zs) : ∃ (ρ : Ren) (row : TypeId) (c : Nat), Rel P ρ (oneBlk zs row) W ∧ VRel ρ (.slice (some ⟨0, 0, none⟩) n c) v ∧ n ≤ c ∧ c < K ∧ zs.length = c := by
  obtain ⟨blk, off, c, rc, row, fr, s, rfl, hn, hk, hheap, hs, hsz, hlen, hcell⟩ := hb.ex
  have hlt : blk < W.heap.size := (Array.getElem?_eq_some_iff.1 hheap).1
  refine ⟨fun a => if a = 0 then some ⟨blk, off, s, rc.size⟩ else none, row, c, ?_, ?_, hn, hk, hlen⟩
  · refine ⟨fun a q hq => ?_, fun a q o hq ho => ?_, fun a a' q q' o o' hq hq' ho hro ho' hr => ?_, fun a ha => ?_⟩
    · split at hq
      · rename_i ha; injection hq with hq; subst hq; subst ha; exact ⟨Nat.zero_lt_one, hlt⟩
      · cases hq
    · split at hq
      · rename_i ha
        injection hq with hq; subst hq; subst ha
        rw [oneBlk_get, if_pos rfl] at ho
        injection ho with ho; subst ho
        refine ⟨rc, fr, hheap, rfl, hs, by show off + zs.length ≤ _; omega, fun i z hz => ?_, fun hh => by cases hh⟩
        have hi : i < c := by have := (List.getElem?_eq_some_iff.1 hz).1; omega
        exact ⟨z, (hcell i hi).trans hz, VRel.flat (hone z (List.mem_of_getElem? hz))⟩
      · cases hq
    · rw [oneBlk_get] at ho
      split at ho
      · injection ho with ho; subst ho; cases hro
      · cases ho
    · rw [oneBlk_get, if_neg]
      have : (1 : Nat) ≤ a := ha
      omega
  · have hx : capExact c = true := by simpa [capExact, Nat.blt_eq] using hk
    exact VRel.slice 0 0 n c off c ⟨blk, off, s, rc.size⟩ rfl (.inl rfl) (by rw [capLow_exact hx]; exact hn) (.inl ⟨hx, rfl⟩)
theorem oneBlk_sl {zs : List UInt8} {row : TypeId} {n c : Nat} (hn : n ≤ c) (hk : c < K) (hl : (cellsB zs).length = c) : Sl (oneBlk (cellsB zs) row) (some ⟨0, 0, none⟩) n c 1 5 (cellsB (zs.take n)) := by
  have hx : capExact c = true := by simpa [capExact, Nat.blt_eq] using hk
  refine ⟨by rw [capLow_exact hx]; exact hn, Nat.zero_lt_one, cellsB zs, row, true, by rw [oneBlk_get, if_pos rfl], .inl hx, by rw [capLow_exact hx, hl]; show 0 + c * 1 ≤ c; omega, ?_⟩
  show _ = ((cellsB zs).drop 0).take (n * 1)
  rw [List.drop_zero, Nat.mul_one, cellsB_take]
end Go.Am

