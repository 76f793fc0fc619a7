/- Verification conditions, and that they are enough. No conditions beyond those each theorem states. -/
import Derived.Test.YtpngimbillnjdaaAmE
import Derived.Test.YtpngimbillnjdaaAmF
/- Verification conditions: what a piece of code asks, as a term over an algebra. Definitions alone. -/
namespace Go.Am
open Go

/-- The nodes of a condition. -/
structure Alg (α : Type) where
  fail : α
  branch : Bool → α → α → α
  guard : Bool → α → α
  isBool : Value → (Bool → α) → α
  isInt : IntKind → Value → (Int → α) → α
  isStr : Value → (ByteArray → α) → α
  isPtr : Value → (Option Addr → α) → α
  isSlice : Value → (Option Addr → Nat → Nat → α) → α
  isMap : Value → (Option Nat → α) → α
  isAgg : Value → (List Value → α) → α
  isArr : Nat → Value → (Array Value → α) → α
  isTup : Value → (List Value → α) → α
  uncons : List Value → (Value → List Value → α) → α
  isNil : List Value → α → α
  isSome : Option Addr → (Addr → α) → α
  nilc : Value → (Value → α) → α
  ext : Value → Nat → (Value → α) → α
  ld : AH → Addr → (Value → α) → α
  ldN : Nat → AH → Addr → (List Value → α) → α
  store : AH → Addr → List Value → (AH → α) → α
  pu : Op → List (Nat × Value) → (Value → α) → α
  rd : Op → List (Nat × Value) → AH → (Value → α) → α
  al : Op → List (Nat × Value) → (AObj → (Nat → Value) → α) → α
  ef : Op → List (Nat × Value) → AH → (Value → AH → α) → α
  reread : Op → List (Nat × Value) → AH → Value → α → α
  call : Tgt → List Value → AH → (Value → AH → α) → α
  callv : Value → List Value → AH → (Value → AH → α) → α
  callf : Value → List Value → AH → (Value → AH → α) → α
  invoke : Value → String → List Value → AH → (Value → AH → α) → α
  loop : List Value → AH → (List Value → AH → (List Value → AH → α) → α) → α
  join : ((List Value → AH → α) → α) → (List Value → AH → α) → α
  loopAt : AH → Nat → Nat → α → α
  exits : AH → Nat → List (AExit × α) → α
  unmark : AH → (AH → α) → α

/-! ### Whole numbers -/
def andI (k : IntKind) (a b : Int) : Int := k.wrap ((BitVec.ofInt k.bits a &&& BitVec.ofInt k.bits b).toNat : Nat)
def orI (k : IntKind) (a b : Int) : Int := k.wrap ((BitVec.ofInt k.bits a ||| BitVec.ofInt k.bits b).toNat : Nat)
def xorI (k : IntKind) (a b : Int) : Int := k.wrap ((BitVec.ofInt k.bits a ^^^ BitVec.ofInt k.bits b).toNat : Nat)
def andNotI (k : IntKind) (a b : Int) : Int := k.wrap ((BitVec.ofInt k.bits a &&& ~~~BitVec.ofInt k.bits b).toNat : Nat)
def shlI (k : IntKind) (a b : Int) : Int := k.wrap (a * 2 ^ (min b.toNat k.bits))
def shrI (k : IntKind) (a b : Int) : Int := a.fdiv (2 ^ (min b.toNat k.bits))
def quoI (k : IntKind) (a b : Int) : Int := k.wrap (a.tdiv b)

section
variable {α : Type} (A : Alg α) (P : Program)

def dint (op : BinOp) (k : IntKind) (a : Int) (k' : IntKind) (b : Int) (K : Value → α) : α :=
  match op with
  | .shl => A.guard (decide (0 ≤ b)) (K (.int k (shlI k a b)))
  | .shr => A.guard (decide (0 ≤ b)) (K (.int k (shrI k a b)))
  | op => if k = k' then match op with
    | .add => K (.int k (wrapF k (a + b)))
    | .sub => K (.int k (wrapF k (a - b)))
    | .mul => K (.int k (wrapF k (a * b)))
    | .quo => A.guard (!decide (b = 0)) (K (.int k (quoI k a b)))
    | .rem => A.guard (!decide (b = 0)) (K (.int k (a.tmod b)))
    | .and => K (.int k (andI k a b))
    | .or => K (.int k (orI k a b))
    | .xor => K (.int k (xorI k a b))
    | .andNot => K (.int k (andNotI k a b))
    | .eql => K (.bool (decide (a = b)))
    | .neq => K (.bool (!decide (a = b)))
    | .lss => K (.bool (decide (a < b)))
    | .leq => K (.bool (decide (a ≤ b)))
    | .gtr => K (.bool (decide (a > b)))
    | .geq => K (.bool (decide (a ≥ b)))
    | _ => A.fail
    else A.fail

/-! ### Values by their types -/
def catL : List (Option (List TypeId)) → Option (List TypeId)
  | [] => some []
  | some l :: ls => match catL ls with
    | some m => some (l ++ m)
    | none => none
  | none :: _ => none
/-- The types of the cells of a type, where there are few. -/
def leaves : Nat → TypeId → Option (List TypeId)
  | 0, _ => none
  | n + 1, t => match P.underlying t with
    | some (.struct fs) => catL (fs.toList.map fun f => leaves n f.type)
    | some (.array k e) => bif Nat.ble k 8 then catL ((List.replicate k e).map fun e => leaves n e) else none
    | some _ => some [t]
    | none => none

def cast1 (t : TypeId) (v : Value) (K : Value → α) : α :=
  match P.underlying t with
  | some .bool => A.isBool v fun b => K (.bool b)
  | some (.int k) => A.isInt k v fun i => K (.int k i)
  | some .string => A.isStr v fun s => K (.string s)
  | some (.pointer _) => A.isPtr v fun p => K (.pointer p)
  | some (.slice _) => A.isSlice v fun a n c => K (.slice a n c)
  | some (.map _ _) => A.isMap v fun m => K (.map m)
  | _ => K v
def castL : List TypeId → List Value → (List Value → α) → α
  | [], vs, K => A.isNil vs (K [])
  | t :: ts, vs, K => A.uncons vs fun v vs => cast1 A P t v fun v => castL ts vs fun l => K (v :: l)
def castT1 (t : TypeId) (v : Value) (K : Value → α) : α :=
  match aggT P t with
  | some true => match leaves P 6 t with
    | some ls => A.isAgg v fun cs => castL A P ls cs fun l => K (.agg ⟨l⟩)
    | none => match sz P t with
      | some n => A.isArr n v fun cs => K (.agg cs)
      | none => A.fail
  | _ => cast1 A P t v K
def castTs : List TypeId → List Value → (List Value → α) → α
  | [], vs, K => A.isNil vs (K [])
  | t :: ts, vs, K => A.uncons vs fun v vs => castT1 A P t v fun v => castTs ts vs fun l => K (v :: l)
def castT (t : TypeId) (v : Value) (K : Value → α) : α :=
  match P.underlying t with
  | some (.tuple ts) => A.isTup v fun cs => castTs A P ts.toList cs fun l => K (.tuple ⟨l⟩)
  | _ => castT1 A P t v K
def castO (o : Oper) (v : Value) (K : Value → α) : α := match o.dst with
  | none => K v
  | some _ => castT A P o.type v K

/-- A part of a tuple. -/
def castX (o : Oper) (v : Value) (K : Value → α) : α := match P.underlying o.type with
  | some (.tuple _) => K v
  | some _ => castT1 A P o.type v K
  | none => K v

/-- What stands in memory, by its type. -/
def dload (h : AH) (t : TypeId) (a : Addr) (K : Value → α) : α :=
  match aggT P t, sz P t with
  | some true, some n => A.ldN n h a fun l => castT1 A P t (.agg ⟨l⟩) K
  | some false, some _ => A.ld h a fun v => cast1 A P t v K
  | _, _ => A.fail

/-! ### Operations -/
/-- What an operation's operands are. -/
def envOf (t : Tmps) : List Operand → List (Nat × Value)
  | [] => []
  | .tmp i :: l => match t.get i with
    | some v => (i, v) :: envOf t l
    | none => envOf t l
  | _ :: l => envOf t l
def envGet (i : Nat) : List (Nat × Value) → Option Value
  | [] => none
  | (j, v) :: l => bif Nat.beq i j then some v else envGet i l
def evA (e : List (Nat × Value)) : Operand → Option Value
  | .tmp i => envGet i e
  | .const v => bif flat v then some v else none
  | .func f => some (.func (.func f) #[] #[])
  | .global _ => none
def evsA (e : List (Nat × Value)) : List Operand → Option (List Value)
  | [] => some []
  | x :: xs => match evA e x, evsA e xs with
    | some v, some vs => some (v :: vs)
    | _, _ => none
def partsA (e : List (Nat × Value)) : List (Nat × Operand) → Option (List (Nat × Value))
  | [] => some []
  | (i, x) :: xs => match evA e x, partsA e xs with
    | some v, some vs => some ((i, v) :: vs)
    | _, _ => none

def dput (h : AH) (id : Option Nat) (o : AObj) (f : Nat → Value) (K : Value → AH → α) : α := match id with
  | none => K (f h.next) (h.alloc o)
  | some a => K (f a) (h.set a o)

def genop (t : Tmps) (h : AH) (id : Option Nat) (op : Op) (K : Value → AH → α) : α :=
  match cls P op with
  | 0 => A.pu op (envOf t op.operands.toList) fun v => K v h
  | 1 => A.rd op (envOf t op.operands.toList) h fun v => K v h
  | 2 => A.al op (envOf t op.operands.toList) fun o f => dput h id o f K
  | 3 => match op with
    | .call { callee := .value _, .. } => A.fail
    | .call { callee := .invoke _ _, .. } => A.fail
    | op => A.ef op (envOf t op.operands.toList) h K
  | _ => A.fail

def direct (t : Tmps) (h : AH) (op : Op) (K : Value → AH → α) : α :=
  match cls P op with
  | 0 => match apure P (aev t) (aparts t) (aevs t) op with
    | some v => K v h
    | none => A.fail
  | _ => A.fail

def isC : Operand → Bool
  | .const _ => true
  | _ => false

/-- Pointers, or slices, asked whether they are nil. -/
def dnilP (t : Tmps) (op : BinOp) (x y : Operand) (K : Value → α) : α :=
  bif isC y then match op, aev t x, aev t y with
    | .eql, some (.pointer p), some (.pointer none) => K (.bool p.isNone)
    | .neq, some (.pointer p), some (.pointer none) => K (.bool (!p.isNone))
    | _, _, _ => A.fail
  else A.fail
def dnilS (t : Tmps) (op : BinOp) (x y : Operand) (K : Value → α) : α :=
  bif isC y then match op, aev t x, aev t y with
    | .eql, some (.slice p _ _), some (.slice none _ _) => K (.bool p.isNone)
    | .neq, some (.slice p _ _), some (.slice none _ _) => K (.bool (!p.isNone))
    | _, _, _ => A.fail
  else A.fail

def dop (t : Tmps) (h : AH) (id : Option Nat) (o : Oper) (K : Value → AH → α) : α :=
  match o.op with
  | .move x => match aev t x with
    | some v => K v h
    | none => A.fail
  | .assign x => match aev t x with
    | some v => K v h
    | none => A.fail
  | .pick c a b => match aev t c, aev t a, aev t b with
    | some (.bool x), some v, some w => A.branch x (K v h) (K w h)
    | _, _, _ => A.fail
  | .build _ _ => direct A P t h o.op K
  | .makeInterface _ _ => direct A P t h o.op K
  | .makeFunc _ _ _ => direct A P t h o.op K
  | .extract x i => match aev t x with
    | some v => A.ext v i fun v => castX A P o v fun v => K v h
    | none => A.fail
  | .range _ _ => genop A P t h id o.op K
  | .next _ _ => genop A P t h id o.op K
  | .nilCheck x => match aev t x with
    | some v => A.nilc v fun v => K v h
    | none => A.fail
  | .binOp op ty x y _ => match P.underlying ty with
    | some (.int _) => match aev t x, aev t y with
      | some (.int k a), some (.int k' b) => dint A op k a k' b fun v => K v h
      | _, _ => A.fail
    | some .bool => match op, aev t x, aev t y with
      | .eql, some (.bool a), some (.bool b) => K (.bool (a == b)) h
      | .neq, some (.bool a), some (.bool b) => K (.bool (!(a == b))) h
      | _, _, _ => A.fail
    | some (.pointer _) => dnilP A t op x y (fun v => K v h)
    | some (.slice _) => dnilS A t op x y (fun v => K v h)
    | _ => genop A P t h id o.op fun v h => castO A P o v fun v => K v h
  | .unOp op ty x => match op, P.underlying ty, aev t x with
    | .not, some .bool, some (.bool b) => K (.bool (!b)) h
    | _, _, _ => genop A P t h id o.op fun v h => castO A P o v fun v => K v h
  | .convert s d x => match P.underlying s, P.underlying d with
    | some (.int _), some (.int k) => match aev t x with
      | some (.int _ n) => K (.int k (wrapF k n)) h
      | _ => A.fail
    | some .string, some .string => match aev t x with
      | some (.string b) => K (.string b) h
      | _ => A.fail
    | _, _ => genop A P t h id o.op fun v h => castO A P o v fun v => K v h
  | .field ty _ _ => match leaves P 6 ty with
    | some _ => direct A P t h o.op K
    | none => genop A P t h id o.op fun v h => castO A P o v fun v => K v h
  | .fieldAddr s x f => match P.underlying s with
    | some (.struct fields) => match fields[f]? with
      | some fd => match sz P fd.type with
        | some (_ + 1) => match aev t x with
          | some (.pointer p) => A.isSome p fun a => K (.pointer (some ⟨a.block, a.off + fd.offset, none⟩)) h
          | _ => A.fail
        | _ => A.fail
      | none => A.fail
    | _ => A.fail
  | .indexAddr ty x i => match P.underlying ty with
    | some (.slice e) => match sz P e, aev t x, aev t i with
      | some size, some (.slice a n _), some (.int _ j) => A.isSome a fun p => A.guard (decide (0 ≤ j ∧ j < (n : Int))) (K (.pointer (some ⟨p.block, p.off + j.toNat * size, none⟩)) h)
      | _, _, _ => A.fail
    | some (.array n e) => match sz P e, aev t x, aev t i with
      | some size, some (.pointer a), some (.int _ j) => A.isSome a fun p => A.guard (decide (0 ≤ j ∧ j < (n : Int))) (K (.pointer (some ⟨p.block, p.off + j.toNat * size, none⟩)) h)
      | _, _, _ => A.fail
    | _ => A.fail
  | .load ty x => match aev t x with
    | some (.pointer p) => A.isSome p fun a => dload A P h ty a fun v => K v h
    | _ => A.fail
  | .alloc e => match zeroOf P e with
    | some z => dput h id (.cells z.cells.toList e false) (fun a => .pointer (some ⟨a, 0, none⟩)) K
    | none => A.fail
  | .box e x => match aev t x, sz P e with
    | some v, some _ => A.guard (v.cells.toList.all one) (dput h id (.cells v.cells.toList e false) (fun a => .pointer (some ⟨a, 0, none⟩)) K)
    | _, _ => A.fail
  | .buildSlice ty n ps => match P.underlying ty, aparts t ps.toList with
    | some (.slice e), some vs => match sz P e, zeroOf P e with
      | some size, some z =>
        bif Nat.ble (n * size) 16777216 && Nat.ble 1 size then
          match Instr.fill (fun i => some (i * size, size)) (repeatCells z.cells.toList n).toArray vs with
          | some cs => A.guard (cs.toList.all one) (dput h id (.cells cs.toList e false) (fun a => .slice (some ⟨a, 0, none⟩) n n) K)
          | none => A.fail
        else A.fail
      | _, _ => A.fail
    | _, _ => A.fail
  | .makeSlice ty l c => match P.underlying ty, aev t l, aev t c with
    | some (.slice e), some (.int _ l), some (.int _ c) => match P.info? e, zeroOf P e with
      | some i, some z =>
        A.guard (decide (0 ≤ l ∧ l ≤ c ∧ c * (i.bytes + 1 : Int) ≤ 1099511627776) && Nat.ble 1 i.size)
          (dput h id (.cells (repeatCells z.cells.toList c.toNat) e false) (fun a => .slice (some ⟨a, 0, none⟩) l.toNat c.toNat) K)
      | _, _ => A.fail
    | _, _, _ => A.fail
  | .store ty x v => match aev t x, aev t v, sz P ty with
    | some (.pointer p), some v, some n => A.isSome p fun a => A.guard (Nat.beq v.cells.size n) (A.store h a v.cells.toList fun h' => K undef h')
    | _, _, _ => A.fail
  | .call c => match c.callee with
    | .builtin .len => match c.argTypes.toList with
      | [ty] => match P.underlying ty with
        | some (.map _ _) => genop A P t h id o.op fun v h => castO A P o v fun v => K v h
        | _ => direct A P t h o.op K
      | _ => A.fail
    | .builtin .max => direct A P t h o.op K
    | .builtin .min => direct A P t h o.op K
    | .builtin .cap => match c.argTypes.toList, c.args.toList with
      | [ty], [x] => match P.underlying ty, aev t x with
        | some (.slice _), some (.slice _ _ cp) => A.guard (capExact cp) (K (.int .i64 cp) h)
        | _, _ => A.fail
      | _, _ => A.fail
    | .builtin _ => genop A P t h id o.op fun v h => castO A P o v fun v => K v h
    | .value (.func f) => match aevs t c.args.toList with
      | some args => A.call (.fn f) args h fun v h => castO A P o v fun v => K v h
      | none => A.fail
    | .value f => match aev t f, aevs t c.args.toList with
      | some v, some args => A.callv v args h fun v h => castO A P o v fun v => K v h
      | _, _ => A.fail
    | .invoke r name => match aev t r, aevs t c.args.toList with
      | some v, some args => A.invoke v name args h fun v h => castO A P o v fun v => K v h
      | _, _ => A.fail
  | .entry _ => genop A P t h id o.op K
  | .index _ _ _ | .typeAssert _ _ _ _ | .slice _ _ _ _ _ | .lookup _ _ _ _ | .makeMap _ _ | .mapUpdate _ _ _ _ => genop A P t h id o.op fun v h => castO A P o v fun v => K v h
  | _ => A.fail

/-- Is an operation wanted? -/
def dwant (ops : Array Oper) (t : Tmps) (g : Option (Nat × Bool)) (yes no : Tmps → α) : α :=
  match g with
  | none => yes t
  | some (j, want) => match ops[j]? with
    | some o => match o.dst with
      | some d => match t.get d with
        | some (.bool b) => A.branch b (bif want then yes (t.set d (.bool true)) else no (t.set d (.bool true))) (bif want then no (t.set d (.bool false)) else yes (t.set d (.bool false)))
        | some (.tuple _) => no t
        | _ => A.fail
      | none => A.fail
    | none => A.fail

def dops (ops : Array Oper) : List Oper → Tmps → AH → (Tmps → AH → α) → α
  | [], t, h, K => K t h
  | o :: os, t, h, K => dwant A ops t o.guard (fun t => dop A P t h none o fun v h' => dops ops os (aput t o.dst v) h' K) (fun t => dops ops os (aput t o.dst undef) h K)

def ddraws (ops : Array Oper) (base : Nat) : Nat → List Oper → Tmps → AH → (List Rec → Tmps → AH → α) → α
  | _, [], t, h, K => K [] t h
  | k, o :: os, t, h, K => dwant A ops t o.guard
      (fun t => dop A P (restr t (slotsOf ops o)) h (some (base + k)) o fun v h' => ddraws ops base (k + 1) os (aput t o.dst v) h' fun rs t' h'' => K (⟨k, o, true, restr t (slotsOf ops o), h, h', v⟩ :: rs) t' h'')
      (fun t => ddraws ops base (k + 1) os (aput t o.dst undef) h fun rs t' h'' => K (⟨k, o, false, restr t (slotsOf ops o), h, h, undef⟩ :: rs) t' h'')

def dcheckE (bs : List Nat) (r : Rec) : List Rec → α → α
  | [], K => K
  | e :: es, K => bif !(e.wanted && Nat.beq (cls P e.o.op) 3) || isBefore bs e.k r.k || isBefore bs r.k e.k then dcheckE bs r es K
    else A.reread r.o.op (envOf r.t r.o.op.operands.toList) (bif Nat.blt e.k r.k then e.h else e.h') r.v (dcheckE bs r es K)
def dcheckR (bs : List Nat) (all : List Rec) : List Rec → α → α
  | [], K => K
  | r :: rs, K => bif r.wanted && Nat.beq (cls P r.o.op) 1 then dcheckE A P bs r all (dcheckR bs all rs K) else dcheckR bs all rs K

def ddraw (ops : Array Oper) (t : Tmps) (h : AH) (K : Tmps → AH → α) : α :=
  bif statOk P ops then ddraws A P ops h.next 0 ops.toList t (h.reserve ops.size) fun rs t' h' => dcheckR A P (befs ops.toList []) rs rs (K t' h')
  else A.fail

/-! ### Code -/
def getAll (t : Tmps) : List Nat → Option (List Value)
  | [] => some []
  | i :: is => match t.get i, getAll t is with
    | some v, some vs => some (v :: vs)
    | _, _ => none
/-- The slots that are told, with these values. -/
def buildT : List Nat → List Value → Tmps
  | [], _ => .nil
  | _, [] => .nil
  | i :: is, v :: vs => (buildT is vs).set i v
def varying (ls : List (Nat × Option TypeId)) : List Nat := match ls with
  | [] => []
  | (i, some _) :: l => i :: varying l
  | (_, none) :: l => varying l
def staying (ls : List (Nat × Option TypeId)) : List Nat := match ls with
  | [] => []
  | (_, some _) :: l => staying l
  | (i, none) :: l => i :: staying l
/-- The values of all slots out of those that vary and those that stay; each that varies is looked at by its type. -/
def merge : List (Nat × Option TypeId) → List Value → List Value → (List Value → α) → α
  | [], vs, _, K => A.isNil vs (K [])
  | (_, some ty) :: l, vs, cs, K => A.uncons vs fun v vs => castT1 A P ty v fun v => merge l vs cs fun r => K (v :: r)
  | (_, none) :: l, vs, c :: cs, K => merge l vs cs fun r => K (c :: r)
  | (_, none) :: _, _, [], _ => A.fail

/-- Of a function, its loops' slots. -/
def findL (f : FuncId) : List (Nat × Lv) → Lv
  | [] => []
  | (g, l) :: ls => bif Nat.beq f g then l else findL f ls
/-- A loop's block, whose rounds' deferred calls are those of block d. -/
def LoopAt (h : AH) (l d : Nat) : Prop := ∃ st x t ps as bd, h.get l = some (.loop st x t ps as bd d)
def exitsOf : Code → List AExit
  | .exit i => [.exit i]
  | .ret => [.ret]
  | .seq a b => exitsOf a ++ exitsOf b
  | .cond _ a b => exitsOf a ++ exitsOf b
  | .block _ b => exitsOf b
  | .loop b => exitsOf b
  | .scope b => exitsOf b
  | .rangeFunc _ _ a b => exitsOf a ++ exitsOf b
  | _ => []
def sameX : AExit → AExit → Bool
  | .normal, .normal => true
  | .exit i, .exit j => Nat.beq i j
  | .ret, .ret => true
  | _, _ => false
def onceX : List AExit → List AExit
  | [] => []
  | x :: xs => bif (onceX xs).any (sameX x) then onceX xs else x :: onceX xs

/-- A slot that was asked. -/
def known (t : Tmps) (c : Operand) (b : Bool) : Tmps := match c with
  | .tmp d => t.set d (.bool b)
  | _ => t
/-- Slots that code may write. -/
def asgOps (ops : List Oper) (i : Nat) : Bool := ops.any fun o => match o.dst with
  | some d => Nat.beq d i
  | none => false
def asg (i : Nat) : Code → Bool
  | .region _ ops _ => asgOps ops.toList i
  | .seq a b => asg i a || asg i b
  | .cond _ a b => asg i a || asg i b
  | .block _ b => asg i b
  | .loop b => asg i b
  | .scope b => asg i b
  | _ => false
def dcode (L : Lv) (rd : Option (Nat × Nat)) : Code → Tmps → AH → (AExit → Tmps → AH → α) → α
  | .skip, t, h, K => K .normal t h
  | .region _ ops false, t, h, K => dops A P ops ops.toList t h fun t h => K .normal t h
  | .region _ ops true, t, h, K => ddraw A P ops t h fun t h => K .normal t h
  | .seq a b, t, h, K => match meetOf L a with
    | none => dcode L rd a t h fun x t h => match x with
      | .normal => dcode L rd b t h K
      | .exit i => K (.exit i) t h
      | .ret => K .ret t h
    | some ls => bif (staying ls).any fun i => asg i a then A.fail else match getAll t (staying ls) with
      | none => A.fail
      | some cs => A.join (fun j => dcode L rd a t h fun x t' h' => match x with
          | .normal => match getAll t' (varying ls), getAll t' (staying ls) with
            | some vs, some _ => j vs h'
            | _, _ => A.fail
          | .exit i => K (.exit i) t' h'
          | .ret => K .ret t' h')
        fun vs h' => merge A P ls vs cs fun all => dcode L rd b (buildT (ls.map (·.1)) all) h' K
  | .cond c x y, t, h, K => match aev t c with
    | some (.bool b) => A.branch b (dcode L rd x (known t c true) h K) (dcode L rd y (known t c false) h K)
    | _ => A.fail
  | .block id body, t, h, K => dcode L rd body t h fun x t h => match x with
    | .normal => K .normal t h
    | .exit i => K (bif Nat.beq i id then .normal else .exit i) t h
    | .ret => K .ret t h
  | .loop body, t, h, K => match liveOf L body with
    | some ls => bif (staying ls).any fun i => asg i body then A.fail else match getAll t (varying ls), getAll t (staying ls) with
      | some vs, some cs => A.loop vs h fun vs' h' step => merge A P ls vs' cs fun all =>
        dcode L rd body (buildT (ls.map (·.1)) all) h' fun x t'' h'' => match x with
          | .normal => match getAll t'' (varying ls), getAll t'' (staying ls) with
            | some vs'', some _ => step vs'' h''
            | _, _ => A.fail
          | .exit i => K (.exit i) t'' h''
          | .ret => K .ret t'' h''
      | _, _ => A.fail
    | none => A.fail
  | .exit id, t, h, K => K (.exit id) t h
  | .ret, t, h, K => K .ret t h
  | .rangeFunc f ps assign body, t, h, K => match aev t f with
    | some fv => match rd with
      | none => A.callf fv [.func (.yield (h.next + 1)) #[] #[]] { (h.alloc .defd).alloc (.loop .ready .normal (cut L body t) ps assign body h.next) with marks := h.next :: h.marks } fun _ h2 =>
          A.exits h2 (h.next + 1) ((.normal :: onceX (exitsOf body)).map fun x => (x, K x t (h2.drop (h.next + 1))))
      | some (l0, d) => A.loopAt h l0 d <| A.callf fv [.func (.yield h.next) #[] #[]] (h.alloc (.loop .ready .normal (cut L body t) ps assign body d)) fun _ h2 =>
          A.exits h2 h.next ((.normal :: onceX (exitsOf body)).map fun x => (x, K x t (h2.drop h.next)))
    | none => A.fail
  | _, _, _, _ => A.fail

/-! ### Calls -/
def _root_.Go.Am.AH.m0 (h : AH) : AH := { h with marks := [] }
def _root_.Go.Am.AH.mr (h1 h : AH) : AH := { h1 with marks := h.marks }
def dresults : List ResultVar → Tmps → AH → (List Value → α) → α
  | [], _, _, K => K []
  | .tmp i :: rs, t, h, K => match t.get i with
    | some v => dresults rs t h fun vs => K (v :: vs)
    | none => A.fail
  | .cell i ty :: rs, t, h, K => match t.get i with
    | some (.pointer p) => A.isSome p fun a => dload A P h ty a fun v => dresults rs t h fun vs => K (v :: vs)
    | _ => A.fail

def retV (vs : List Value) : Value := match vs with
  | [v] => v
  | vs => .tuple ⟨vs⟩

def hasRange : Code → Bool
  | .seq a b => hasRange a || hasRange b
  | .cond _ a b => hasRange a || hasRange b
  | .block _ b => hasRange b
  | .loop b => hasRange b
  | .scope b => hasRange b
  | .rangeFunc .. => true
  | _ => false

def dcall (L : FuncId → Lv) (f : FuncId) (args : List Value) (h : AH) (K : Value → AH → α) : α :=
  match P.funcs[f]? with
  | some fn => match fn.body with
    | some c => bif Nat.ble args.length fn.ntmps then
        dcode A P (L f) none c (params 0 args .nil) h fun x t h1 => match x with
          | .exit _ => A.fail
          | .normal => bif hasRange c then A.unmark h1 fun h2 => dresults A P fn.results.toList t h2 fun vs => K (retV vs) h2 else dresults A P fn.results.toList t h1 fun vs => K (retV vs) h1
          | .ret => bif hasRange c then A.unmark h1 fun h2 => dresults A P fn.results.toList t h2 fun vs => K (retV vs) h2 else dresults A P fn.results.toList t h1 fun vs => K (retV vs) h1
      else A.fail
    | none => A.fail
  | none => A.fail
end
end Go.Am

/- Verification conditions: what they ask is enough. -/
namespace Go.Am
open Go

section
variable (P : Program) (X : Ext) (LL : FuncId → Lv)

/-- A call comes to an end, with whatever bound that is great enough. -/
def Lim (tg : Tgt) (args : List Value) (h : AH) (v : Value) (h' : AH) : Prop := ∃ N, ∀ n, N ≤ n → acall P X LL n tg args h = some (v, h')
def RunsF (tg : Tgt) (args : List Value) (h : AH) (K : Value → AH → Prop) : Prop := ∃ v h', Lim P X LL tg args h v h' ∧ K v h'

def tgtOf (fv : Value) (args : List Value) : Option (Tgt × List Value) := match fv with
  | .func (.func g) first captured => some (.fn g, first.toList ++ args ++ captured.toList)
  | .func (.yield l) _ _ => some (.yield l, args)
  | _ => none
end
/-! ### What the nodes ask -/
namespace V
def branch (b : Bool) (p q : Prop) : Prop := match b with
  | true => p
  | false => q
def guard (b : Bool) (p : Prop) : Prop := match b with
  | true => p
  | false => False
def isBool (v : Value) (k : Bool → Prop) : Prop := match v with
  | .bool b => k b
  | _ => False
def isInt (kd : IntKind) (v : Value) (k : Int → Prop) : Prop := match v with
  | .int kd' i => if kd' = kd then k i else False
  | _ => False
def isStr (v : Value) (k : ByteArray → Prop) : Prop := match v with
  | .string s => k s
  | _ => False
def isPtr (v : Value) (k : Option Addr → Prop) : Prop := match v with
  | .pointer p => k p
  | _ => False
def isSlice (v : Value) (k : Option Addr → Nat → Nat → Prop) : Prop := match v with
  | .slice a n c => k a n c
  | _ => False
def isMap (v : Value) (k : Option Nat → Prop) : Prop := match v with
  | .map m => k m
  | _ => False
def isAgg (v : Value) (k : List Value → Prop) : Prop := match v with
  | .agg cs => k cs.toList
  | _ => False
def isArr (n : Nat) (v : Value) (k : Array Value → Prop) : Prop := match v with
  | .agg cs => cs.size = n ∧ k cs
  | _ => False
def isTup (v : Value) (k : List Value → Prop) : Prop := match v with
  | .tuple cs => k cs.toList
  | _ => False
def uncons (l : List Value) (k : Value → List Value → Prop) : Prop := match l with
  | v :: vs => k v vs
  | [] => False
def isNil (l : List Value) (p : Prop) : Prop := match l with
  | [] => p
  | _ => False
def isSome (p : Option Addr) (k : Addr → Prop) : Prop := match p with
  | some a => k a
  | none => False
def nilc (v : Value) (k : Value → Prop) : Prop := match v with
  | .pointer p => isSome p fun a => k (.pointer (some a))
  | .func (.func f) a b => k (.func (.func f) a b)
  | .iface t v => k (.iface t v)
  | _ => False
def ext (v : Value) (i : Nat) (k : Value → Prop) : Prop := match v with
  | .tuple vs => match vs[i]? with
    | some x => k x
    | none => False
  | _ => False
def ld (h : AH) (a : Addr) (k : Value → Prop) : Prop := ∃ c e ro v, h.get a.block = some (.cells c e ro) ∧ c[a.off]? = some v ∧ k v
def ldN (n : Nat) (h : AH) (a : Addr) (k : List Value → Prop) : Prop := ∃ l, cellsAt h a n = some l ∧ k l
def store (h : AH) (a : Addr) (vs : List Value) (k : AH → Prop) : Prop := ∃ h', astore h a vs = some h' ∧ k h'
def loop (vs : List Value) (h : AH) (body : List Value → AH → (List Value → AH → Prop) → Prop) : Prop :=
  ∃ I : List Value → AH → Nat → Prop, (∃ m, I vs h m) ∧ ∀ vs h m, I vs h m → body vs h (fun vs' h' => ∃ m', m' < m ∧ I vs' h' m')
def join (pre : (List Value → AH → Prop) → Prop) (post : List Value → AH → Prop) : Prop := ∃ J : List Value → AH → Prop, pre J ∧ ∀ vs h, J vs h → post vs h
def exits (h : AH) (l : Nat) (ks : List (AExit × Prop)) : Prop := ∃ st x t ps as bd d, h.get l = some (.loop st x t ps as bd d) ∧ (st = .ready ∨ st = .done) ∧ ∃ p ∈ ks, p.1 = x ∧ p.2
def unmark (h : AH) (k : AH → Prop) : Prop := ∃ h', dropMarks h.marks h = some h' ∧ k h'
def loopAt (h : AH) (l d : Nat) (p : Prop) : Prop := LoopAt h l d ∧ p
section
variable (P : Program)
def pu (op : Op) (e : List (Nat × Value)) (k : Value → Prop) : Prop := ∃ v, apure P (evA e) (partsA e) (evsA e) op = some v ∧ k v
def rd (op : Op) (e : List (Nat × Value)) (h : AH) (k : Value → Prop) : Prop := ∃ v, aread P h (evA e) op = some v ∧ k v
def al (op : Op) (e : List (Nat × Value)) (k : AObj → (Nat → Value) → Prop) : Prop := ∃ o f, aalloc P (evA e) (partsA e) op = some (o, f) ∧ k o f
def ef (op : Op) (e : List (Nat × Value)) (h : AH) (k : Value → AH → Prop) : Prop := ∃ v h', aeff P (fun _ _ _ => none) h (evA e) (evsA e) op = some (v, h') ∧ k v h'
def reread (op : Op) (e : List (Nat × Value)) (h : AH) (v : Value) (p : Prop) : Prop := (∃ v', aread P h (evA e) op = some v' ∧ sameV 3 v' v = true) ∧ p
variable (X : Ext) (LL : FuncId → Lv)
def call (tg : Tgt) (args : List Value) (h : AH) (k : Value → AH → Prop) : Prop := RunsF P X LL tg args h k
def callv (fv : Value) (args : List Value) (h : AH) (k : Value → AH → Prop) : Prop := ∃ tg as, tgtOf fv args = some (tg, as) ∧ RunsF P X LL tg as h k
def callf (fv : Value) (args : List Value) (h : AH) (k : Value → AH → Prop) : Prop := ∃ g a b, fv = .func (.func g) a b ∧ RunsF P X LL (.fn g) (a.toList ++ args ++ b.toList) h k
def invoke (r : Value) (name : String) (args : List Value) (h : AH) (k : Value → AH → Prop) : Prop := ∃ t v g recv, r = .iface t v ∧ amethod P t v name = some (g, recv) ∧ RunsF P X LL (.fn g) (recv :: args) h k
end
end V

section
variable (P : Program) (X : Ext) (LL : FuncId → Lv)
def pAlg : Alg Prop where
  fail := False
  branch := V.branch
  guard := V.guard
  isBool := V.isBool
  isInt := V.isInt
  isStr := V.isStr
  isPtr := V.isPtr
  isSlice := V.isSlice
  isMap := V.isMap
  isAgg := V.isAgg
  isArr := V.isArr
  isTup := V.isTup
  uncons := V.uncons
  isNil := V.isNil
  isSome := V.isSome
  nilc := V.nilc
  ext := V.ext
  ld := V.ld
  ldN := V.ldN
  store := V.store
  pu := V.pu P
  rd := V.rd P
  al := V.al P
  ef := V.ef P
  reread := V.reread P
  call := V.call P X LL
  callv := V.callv P X LL
  callf := V.callf P X LL
  invoke := V.invoke P X LL
  loop := V.loop
  join := V.join
  loopAt := V.loopAt
  exits := V.exits
  unmark := V.unmark

abbrev PA := pAlg P X LL

variable {P X LL}
/-! ### Out of what a node asks -/
theorem V.branch_inv {b : Bool} {p q : Prop} (h : V.branch b p q) : (b = true → p) ∧ (b = false → q) := by
  cases b with
  | true => exact ⟨fun _ => h, fun e => Bool.noConfusion e⟩
  | false => exact ⟨fun e => Bool.noConfusion e, fun _ => h⟩
theorem V.guard_inv {b : Bool} {p : Prop} (h : V.guard b p) : b = true ∧ p := by cases b with
  | true => exact ⟨rfl, h⟩
  | false => exact h.elim
theorem V.isBool_inv {v : Value} {k : Bool → Prop} (h : V.isBool v k) : ∃ b, v = .bool b ∧ k b := by unfold V.isBool at h; split at h <;> first | exact ⟨_, rfl, h⟩ | exact h.elim
theorem V.isInt_inv {kd : IntKind} {v : Value} {k : Int → Prop} (h : V.isInt kd v k) : ∃ i, v = .int kd i ∧ k i := by
  unfold V.isInt at h
  split at h
  · split at h
    · rename_i e; subst e; exact ⟨_, rfl, h⟩
    · exact h.elim
  · exact h.elim
theorem V.isStr_inv {v : Value} {k : ByteArray → Prop} (h : V.isStr v k) : ∃ b, v = .string b ∧ k b := by unfold V.isStr at h; split at h <;> first | exact ⟨_, rfl, h⟩ | exact h.elim
theorem V.isPtr_inv {v : Value} {k : Option Addr → Prop} (h : V.isPtr v k) : ∃ b, v = .pointer b ∧ k b := by unfold V.isPtr at h; split at h <;> first | exact ⟨_, rfl, h⟩ | exact h.elim
theorem V.isSlice_inv {v : Value} {k : Option Addr → Nat → Nat → Prop} (h : V.isSlice v k) : ∃ a n c, v = .slice a n c ∧ k a n c := by unfold V.isSlice at h; split at h <;> first | exact ⟨_, _, _, rfl, h⟩ | exact h.elim
theorem V.isMap_inv {v : Value} {k : Option Nat → Prop} (h : V.isMap v k) : ∃ b, v = .map b ∧ k b := by unfold V.isMap at h; split at h <;> first | exact ⟨_, rfl, h⟩ | exact h.elim
theorem V.isAgg_inv {v : Value} {k : List Value → Prop} (h : V.isAgg v k) : ∃ cs, v = .agg ⟨cs⟩ ∧ k cs := by unfold V.isAgg at h; split at h <;> first | exact ⟨_, rfl, h⟩ | exact h.elim
theorem V.isArr_inv {n : Nat} {v : Value} {k : Array Value → Prop} (h : V.isArr n v k) : ∃ cs, v = .agg cs ∧ cs.size = n ∧ k cs := by unfold V.isArr at h; split at h <;> first | exact ⟨_, rfl, h⟩ | exact h.elim
theorem V.isTup_inv {v : Value} {k : List Value → Prop} (h : V.isTup v k) : ∃ cs, v = .tuple ⟨cs⟩ ∧ k cs := by unfold V.isTup at h; split at h <;> first | exact ⟨_, rfl, h⟩ | exact h.elim
theorem V.uncons_inv {l : List Value} {k : Value → List Value → Prop} (h : V.uncons l k) : ∃ v vs, l = v :: vs ∧ k v vs := by unfold V.uncons at h; split at h <;> first | exact ⟨_, _, rfl, h⟩ | exact h.elim
theorem V.isNil_inv {l : List Value} {p : Prop} (h : V.isNil l p) : l = [] ∧ p := by unfold V.isNil at h; split at h <;> first | exact ⟨rfl, h⟩ | exact h.elim
theorem V.isSome_inv {p : Option Addr} {k : Addr → Prop} (h : V.isSome p k) : ∃ a, p = some a ∧ k a := by unfold V.isSome at h; split at h <;> first | exact ⟨_, rfl, h⟩ | exact h.elim

/-! ### Operands -/
theorem envOf_get (t : Tmps) : ∀ (l : List Operand) (i : Nat), Operand.tmp i ∈ l → envGet i (envOf t l) = t.get i := by
  intro l
  induction l with
  | nil => intro i h; cases h
  | cons x l ih =>
    intro i h
    cases x with
    | tmp j =>
      simp only [envOf]
      by_cases e : i = j
      · subst e
        cases hj : t.get i with
        | none =>
          simp only []
          -- absent altogether
          have : ∀ l : List Operand, envGet i (envOf t l) = none := by
            intro l
            induction l with
            | nil => rfl
            | cons y l ih' =>
              cases y with
              | tmp k =>
                simp only [envOf]
                cases hk : t.get k with
                | none => exact ih'
                | some v =>
                  simp only [envGet]
                  have : Nat.beq i k = false := beqf (fun e => by subst e; rw [hj] at hk; cases hk)
                  rw [this]; exact ih'
              | const => exact ih'
              | func => exact ih'
              | global => exact ih'
          exact this l
        | some v => simp only [envGet]; rw [beqt rfl]; rfl
      · have hm : Operand.tmp i ∈ l := by
          rcases List.mem_cons.1 h with h | h
          · injection h with h; exact absurd h e
          · exact h
        cases hj : t.get j with
        | none => exact ih i hm
        | some v => simp only [envGet]; rw [beqf e]; exact ih i hm
    | const v => exact ih i (by simpa using h)
    | func f => exact ih i (by simpa using h)
    | global g => exact ih i (by simpa using h)

theorem envOf_ev (t : Tmps) (l : List Operand) : ∀ x ∈ l, aev t x = evA (envOf t l) x := by
  intro x hx
  cases x with
  | tmp i => simp only [aev, evA]; rw [envOf_get t l i hx]
  | const v => rfl
  | func f => rfl
  | global g => rfl
theorem evs_congr {t : Tmps} {e : List (Nat × Value)} : ∀ l : List Operand, (∀ x ∈ l, aev t x = evA e x) → aevs t l = evsA e l := by
  intro l
  induction l with
  | nil => intro _; rfl
  | cons x l ih =>
    intro h
    simp only [aevs, evsA]
    rw [h x (by simp), ih (fun y hy => h y (by simp [hy]))]
    cases evA e x <;> cases evsA e l <;> rfl
theorem parts_congr {t : Tmps} {e : List (Nat × Value)} : ∀ l : List (Nat × Operand), (∀ x ∈ l.map (·.2), aev t x = evA e x) → aparts t l = partsA e l := by
  intro l
  induction l with
  | nil => intro _; rfl
  | cons x l ih =>
    intro h
    obtain ⟨i, x⟩ := x
    simp only [aparts, partsA]
    rw [h x (by simp), ih (fun y hy => h y (by simp at hy ⊢; exact .inr hy))]
    cases evA e x <;> cases partsA e l <;> rfl

theorem pure_congr {t : Tmps} {e : List (Nat × Value)} (op : Op) (h : ∀ x ∈ op.operands.toList, aev t x = evA e x) : apure P (aev t) (aparts t) (aevs t) op = apure P (evA e) (partsA e) (evsA e) op := by
  cases op with
  | call c =>
    obtain ⟨callee, args, tys⟩ := c
    have ha : aevs t args.toList = evsA e args.toList := evs_congr _ fun x hx => h x (by simp [Op.operands, Call.operands, hx])
    cases callee with
    | builtin b => cases b <;> simp only [apure, ha]
    | value f => rfl
    | invoke r n => rfl
  | build ty ps => simp only [apure]; rw [parts_congr _ fun x hx => h x (by simpa [Op.operands] using hx)]
  | makeFunc f a b =>
    have h1 : aevs t a.toList = evsA e a.toList := evs_congr _ fun x hx => h x (by simp [Op.operands, hx])
    have h2 : aevs t b.toList = evsA e b.toList := evs_congr _ fun x hx => h x (by simp [Op.operands, hx])
    simp only [apure, h1, h2]
  | move x => simp only [apure, h x (by simp [Op.operands])]
  | assign x => simp only [apure, h x (by simp [Op.operands])]
  | pick a b c => simp only [apure, h a (by simp [Op.operands]), h b (by simp [Op.operands]), h c (by simp [Op.operands])]
  | nilCheck x => simp only [apure, h x (by simp [Op.operands])]
  | binOp o ty x y yt => simp only [apure, h x (by simp [Op.operands]), h y (by simp [Op.operands])]
  | unOp o ty x => simp only [apure, h x (by simp [Op.operands])]
  | convert s d x => simp only [apure, h x (by simp [Op.operands])]
  | makeInterface ty x => simp only [apure, h x (by simp [Op.operands])]
  | fieldAddr ty x i => simp only [apure, h x (by simp [Op.operands])]
  | field ty x i => simp only [apure, h x (by simp [Op.operands])]
  | indexAddr ty x i => simp only [apure, h x (by simp [Op.operands]), h i (by simp [Op.operands])]
  | index ty x i => simp only [apure, h x (by simp [Op.operands]), h i (by simp [Op.operands])]
  | typeAssert x ty as ok => simp only [apure, h x (by simp [Op.operands])]
  | extract x i => simp only [apure, h x (by simp [Op.operands])]
  | _ => rfl

theorem read_congr {t : Tmps} {e : List (Nat × Value)} {hp : AH} (op : Op) (h : ∀ x ∈ op.operands.toList, aev t x = evA e x) : aread P hp (aev t) op = aread P hp (evA e) op := by
  cases op with
  | load ty x => simp only [aread, h x (by simp [Op.operands])]
  | convert s d x => simp only [aread, h x (by simp [Op.operands])]
  | entry x => simp only [aread, amread, aentry, h x (by simp [Op.operands])]
  | lookup ty x i ok => simp only [aread, amread, h x (by simp [Op.operands]), h i (by simp [Op.operands])]
  | slice ty x lo hi mx =>
    have e1 : lo.map (aev t) = lo.map (evA e) := by cases lo with
      | none => rfl
      | some y => simp only [Option.map_some]; rw [h y (by simp [Op.operands])]
    have e2 : hi.map (aev t) = hi.map (evA e) := by cases hi with
      | none => rfl
      | some y => simp only [Option.map_some]; rw [h y (by simp [Op.operands])]
    have e3 : mx.map (aev t) = mx.map (evA e) := by cases mx with
      | none => rfl
      | some y => simp only [Option.map_some]; rw [h y (by simp [Op.operands])]
    simp only [aread, e1, e2, e3, h x (by simp [Op.operands])]
  | call c =>
    obtain ⟨callee, args, tys⟩ := c
    have ha : ∀ x ∈ args.toList, aev t x = evA e x := fun x hx => h x (by simp [Op.operands, Call.operands, hx])
    cases callee with
    | builtin b =>
      cases b <;> try rfl
      simp only [aread, amread]
      rcases hl : args.toList with _ | ⟨x, _ | ⟨y, l⟩⟩
      · rfl
      · have hx := ha x (by rw [hl]; simp)
        rcases tys.toList with _ | ⟨ty, _ | ⟨ty2, l2⟩⟩
        · rfl
        · simp only []; rw [hx]
        · rfl
      · rfl
    | value f => rfl
    | invoke r n => rfl
  | _ => rfl

theorem alloc_congr {t : Tmps} {e : List (Nat × Value)} (op : Op) (h : ∀ x ∈ op.operands.toList, aev t x = evA e x) : aalloc P (aev t) (aparts t) op = aalloc P (evA e) (partsA e) op := by
  cases op with
  | box e x => simp only [aalloc, h x (by simp [Op.operands])]
  | buildSlice ty n ps => simp only [aalloc]; rw [parts_congr _ fun x hx => h x (by simpa [Op.operands] using hx)]
  | makeSlice ty l c => simp only [aalloc, h l (by simp [Op.operands]), h c (by simp [Op.operands])]
  | convert s d x => simp only [aalloc, h x (by simp [Op.operands])]
  | _ => rfl

/-- Calls aside. -/
def noCall : Op → Bool
  | .call { callee := .value _, .. } => false
  | .call { callee := .invoke _ _, .. } => false
  | _ => true
theorem eff_congr {t : Tmps} {e : List (Nat × Value)} {C : CallFn} {hp : AH} (op : Op) (hn : noCall op = true) (h : ∀ x ∈ op.operands.toList, aev t x = evA e x) : aeff P C hp (aev t) (aevs t) op = aeff P (fun _ _ _ => none) hp (evA e) (evsA e) op := by
  cases op with
  | store ty x v => simp only [aeff, h x (by simp [Op.operands]), h v (by simp [Op.operands])]
  | convert s d x => simp only [aeff, h x (by simp [Op.operands])]
  | makeMap ty r => cases r with
    | none => rfl
    | some x => simp only [aeff, ameff, h x (by simp [Op.operands])]
  | mapUpdate ty m k v => simp only [aeff, ameff, h m (by simp [Op.operands]), h k (by simp [Op.operands]), h v (by simp [Op.operands])]
  | range ty x => simp only [aeff, ameff, h x (by simp [Op.operands])]
  | next x b => cases b with
    | true => rfl
    | false => simp only [aeff, ameff, h x (by simp [Op.operands])]
  | call c =>
    obtain ⟨callee, args, tys⟩ := c
    have ha : aevs t args.toList = evsA e args.toList := evs_congr _ fun x hx => h x (by simp [Op.operands, Call.operands, hx])
    cases callee with
    | builtin b => cases b <;> simp only [aeff, ha]
    | value f => simp [noCall] at hn
    | invoke r n => simp [noCall] at hn
  | _ => rfl

/-! ### Values by their types -/
theorem cast1_sound {t : TypeId} {v : Value} {K : Value → Prop} (h : cast1 (PA P X LL) P t v K) : K v := by
  unfold cast1 at h
  split at h
  · obtain ⟨_, rfl, h⟩ := V.isBool_inv (k := fun b => K (.bool b)) h; exact h
  · rename_i kd _; obtain ⟨i, e, h⟩ := V.isInt_inv (kd := kd) (k := fun b => K (.int kd b)) h; rw [e]; exact h
  · obtain ⟨_, rfl, h⟩ := V.isStr_inv (k := fun b => K (.string b)) h; exact h
  · obtain ⟨_, rfl, h⟩ := V.isPtr_inv (k := fun b => K (.pointer b)) h; exact h
  · obtain ⟨_, _, _, rfl, h⟩ := V.isSlice_inv (k := fun a n c => K (.slice a n c)) h; exact h
  · obtain ⟨_, rfl, h⟩ := V.isMap_inv (k := fun b => K (.map b)) h; exact h
  · exact h
theorem castL_sound : ∀ (ts : List TypeId) (vs : List Value) (K : List Value → Prop), castL (PA P X LL) P ts vs K → K vs := by
  intro ts
  induction ts with
  | nil => intro vs K h; obtain ⟨rfl, h⟩ := V.isNil_inv (p := K []) h; exact h
  | cons t ts ih => intro vs K h; obtain ⟨v, vs', rfl, h⟩ := V.uncons_inv (k := fun v vs => cast1 (PA P X LL) P t v fun v => castL (PA P X LL) P ts vs fun l => K (v :: l)) h; exact ih _ (fun l => K (v :: l)) (cast1_sound (K := fun v => castL (PA P X LL) P ts vs' fun l => K (v :: l)) h)
theorem castT1_sound {t : TypeId} {v : Value} {K : Value → Prop} (h : castT1 (PA P X LL) P t v K) : K v := by
  unfold castT1 at h
  split at h
  · split at h
    · rename_i ls _; obtain ⟨cs, rfl, h⟩ := V.isAgg_inv (k := fun cs => castL (PA P X LL) P ls cs fun l => K (.agg ⟨l⟩)) h; exact castL_sound _ _ (fun l => K (.agg ⟨l⟩)) h
    · split at h
      · obtain ⟨cs, rfl, _, h⟩ := V.isArr_inv (k := fun cs => K (.agg cs)) h; exact h
      · exact h.elim
  · exact cast1_sound h
theorem castTs_sound : ∀ (ts : List TypeId) (vs : List Value) (K : List Value → Prop), castTs (PA P X LL) P ts vs K → K vs := by
  intro ts
  induction ts with
  | nil => intro vs K h; obtain ⟨rfl, h⟩ := V.isNil_inv (p := K []) h; exact h
  | cons t ts ih => intro vs K h; obtain ⟨v, vs', rfl, h⟩ := V.uncons_inv (k := fun v vs => castT1 (PA P X LL) P t v fun v => castTs (PA P X LL) P ts vs fun l => K (v :: l)) h; exact ih _ (fun l => K (v :: l)) (castT1_sound (K := fun v => castTs (PA P X LL) P ts vs' fun l => K (v :: l)) h)
theorem castT_sound {t : TypeId} {v : Value} {K : Value → Prop} (h : castT (PA P X LL) P t v K) : K v := by
  unfold castT at h
  split at h
  · rename_i ts _; obtain ⟨cs, rfl, h⟩ := V.isTup_inv (k := fun cs => castTs (PA P X LL) P ts.toList cs fun l => K (.tuple ⟨l⟩)) h; exact castTs_sound _ _ (fun l => K (.tuple ⟨l⟩)) h
  · exact castT1_sound h
theorem castO_sound {o : Oper} {v : Value} {K : Value → Prop} (h : castO (PA P X LL) P o v K) : K v := by
  unfold castO at h
  split at h
  · exact h
  · exact castT_sound h
theorem dload_sound {hp : AH} {t : TypeId} {a : Addr} {K : Value → Prop} (h : dload (PA P X LL) P hp t a K) : ∃ v, aload P hp t a = some v ∧ K v := by
  unfold dload at h
  split at h
  · rename_i h1 h2
    obtain ⟨l, hl, h⟩ := h
    exact ⟨_, by simp only [aload, h1, h2, hl], castT1_sound h⟩
  · rename_i h1 h2
    obtain ⟨c, e, ro, v, hg, hv, h⟩ := h
    exact ⟨v, by simp only [aload, h1, h2, hg, hv], cast1_sound h⟩
  · exact h.elim

/-! ### Operations -/
theorem dint_sound {cst : Bool} {op : BinOp} {ty : TypeId} {k k' : IntKind} {a b : Int} {K : Value → Prop} (h : dint (PA P X LL) op k a k' b K) : ∃ v, abin P cst op ty (.int k a) (.int k' b) = some v ∧ K v := by
  unfold dint at h
  cases op <;> simp only [] at h <;> first
    | (obtain ⟨h1, h⟩ := V.guard_inv h
       refine ⟨_, ?_, h⟩
       have h1 := of_decide_eq_true h1
       have : ¬ b < 0 := by omega
       simp [abin, runPure, binOp, Op.shift, this, shlI, shrI])
    | (split at h
       · rename_i e; subst e
         first
          | (obtain ⟨h1, h⟩ := V.guard_inv h; refine ⟨_, ?_, h⟩; (simp at h1; simp [abin, runPure, binOp, Op.intDiv, h1, quoI]; done))
          | (refine ⟨_, ?_, h⟩; (simp [abin, runPure, binOp, Op.intBits, andI, orI, xorI, andNotI]; done))
          | (refine ⟨_, ?_, h⟩; (simp [abin]; done))
          | exact h.elim
       · exact h.elim)

/-- What is said of an operation. -/
def OpRun (t : Tmps) (h : AH) (id : Option Nat) (op : Op) (K : Value → AH → Prop) : Prop :=
  ∃ v h', (∃ N, ∀ m, N ≤ m → aoper P (acall P X LL m) t h id op = some (v, h')) ∧ K v h'

theorem oprun_pure {t : Tmps} {h : AH} {id : Option Nat} {op : Op} {v : Value} {K : Value → AH → Prop} (hc : cls P op = 0) (ha : apure P (aev t) (aparts t) (aevs t) op = some v) (hk : K v h) : OpRun (P := P) (X := X) (LL := LL) t h id op K :=
  ⟨v, h, ⟨0, fun m _ => by simp [aoper, hc, ha]⟩, hk⟩
theorem oprun_read {t : Tmps} {h : AH} {id : Option Nat} {op : Op} {v : Value} {K : Value → AH → Prop} (hc : cls P op = 1) (ha : aread P h (aev t) op = some v) (hk : K v h) : OpRun (P := P) (X := X) (LL := LL) t h id op K :=
  ⟨v, h, ⟨0, fun m _ => by simp [aoper, hc, ha]⟩, hk⟩
theorem oprun_alloc {t : Tmps} {h : AH} {id : Option Nat} {op : Op} {o : AObj} {f : Nat → Value} {K : Value → AH → Prop} (hc : cls P op = 2) (ha : aalloc P (aev t) (aparts t) op = some (o, f)) (hk : dput h id o f K) : OpRun (P := P) (X := X) (LL := LL) t h id op K := by
  cases id with
  | none => exact ⟨f h.next, h.alloc o, ⟨0, fun m _ => by simp [aoper, hc, ha]⟩, hk⟩
  | some a => exact ⟨f a, h.set a o, ⟨0, fun m _ => by simp [aoper, hc, ha]⟩, hk⟩
theorem oprun_eff {t : Tmps} {h h' : AH} {id : Option Nat} {op : Op} {v : Value} {K : Value → AH → Prop} (hc : cls P op = 3) (ha : ∃ N, ∀ m, N ≤ m → aeff P (acall P X LL m) h (aev t) (aevs t) op = some (v, h')) (hk : K v h') : OpRun (P := P) (X := X) (LL := LL) t h id op K := by
  obtain ⟨N, ha⟩ := ha
  exact ⟨v, h', ⟨N, fun m hm => by simp [aoper, hc, ha m hm]⟩, hk⟩

theorem genop_sound {t : Tmps} {h : AH} {id : Option Nat} {op : Op} {K : Value → AH → Prop} (hd : genop (PA P X LL) P t h id op K) : OpRun (P := P) (X := X) (LL := LL) t h id op K := by
  have key := envOf_ev t op.operands.toList
  unfold genop at hd
  split at hd
  · rename_i hc
    obtain ⟨v, h1, h2⟩ := hd
    rw [← pure_congr op key] at h1
    exact oprun_pure hc h1 h2
  · rename_i hc
    obtain ⟨v, h1, h2⟩ := hd
    rw [← read_congr op key] at h1
    exact oprun_read hc h1 h2
  · rename_i hc
    obtain ⟨o, f, h1, h2⟩ := hd
    rw [← alloc_congr op key] at h1
    exact oprun_alloc hc h1 h2
  · rename_i hc
    split at hd
    · exact hd.elim
    · exact hd.elim
    · rename_i hn1 hn2
      have hn : noCall op = true := by
        unfold noCall
        split
        · exact (hn1 _ _ _ rfl).elim
        · exact (hn2 _ _ _ _ rfl).elim
        · rfl
      obtain ⟨v, h', h1, h2⟩ := hd
      exact oprun_eff hc ⟨0, fun m _ => by rw [eff_congr op hn key]; exact h1⟩ h2
  · exact hd.elim

theorem direct_sound {t : Tmps} {h : AH} {id : Option Nat} {op : Op} {K : Value → AH → Prop} (hd : direct (PA P X LL) P t h op K) : OpRun (P := P) (X := X) (LL := LL) t h id op K := by
  unfold direct at hd
  split at hd
  · rename_i hc
    split at hd
    · rename_i v hv; exact oprun_pure hc hv hd
    · exact hd.elim
  · exact hd.elim

theorem OpRun.mono {t : Tmps} {h : AH} {id : Option Nat} {op : Op} {K K' : Value → AH → Prop} (hr : OpRun (P := P) (X := X) (LL := LL) t h id op K) (hk : ∀ v h', K v h' → K' v h') : OpRun (P := P) (X := X) (LL := LL) t h id op K' := by
  obtain ⟨v, h', h1, h2⟩ := hr
  exact ⟨v, h', h1, hk _ _ h2⟩
theorem genop_sound' {t : Tmps} {h : AH} {id : Option Nat} {o : Oper} {K : Value → AH → Prop} (hd : genop (PA P X LL) P t h id o.op fun v h => castO (PA P X LL) P o v fun v => K v h) : OpRun (P := P) (X := X) (LL := LL) t h id o.op K :=
  (genop_sound hd).mono fun v h' h => castO_sound h
end
end Go.Am

/- Verification conditions: what they ask of operations is enough. -/
namespace Go.Am
open Go

section
variable {P : Program} {X : Ext} {LL : FuncId → Lv}

theorem castX_sound {o : Oper} {v : Value} {K : Value → Prop} (h : castX (PA P X LL) P o v K) : K v := by
  unfold castX at h
  split at h
  · exact h
  · exact castT1_sound h
  · exact h

theorem dnilP_sound {t : Tmps} {op : BinOp} {ty yt : TypeId} {x y : Operand} {e : TypeId} {K : Value → Prop} (hty : P.underlying ty = some (.pointer e)) (h : dnilP (PA P X LL) t op x y K) : ∃ v, apure P (aev t) (aparts t) (aevs t) (.binOp op ty x y yt) = some v ∧ K v := by
  unfold dnilP at h
  cases hy : isC y with
  | false => rw [hy] at h; exact h.elim
  | true =>
    rw [hy] at h
    simp only [cond_true] at h
    split at h
    · rename_i p hx hy'
      refine ⟨_, ?_, h⟩
      simp only [apure, hx, hy']
      cases p <;> simp [abin, abin.aeq, hty]
    · rename_i p hx hy'
      refine ⟨_, ?_, h⟩
      simp only [apure, hx, hy']
      cases p <;> simp [abin, abin.aeq, hty]
    · exact h.elim
theorem dnilS_sound {t : Tmps} {op : BinOp} {ty yt : TypeId} {x y : Operand} {e : TypeId} {K : Value → Prop} (hty : P.underlying ty = some (.slice e)) (h : dnilS (PA P X LL) t op x y K) : ∃ v, apure P (aev t) (aparts t) (aevs t) (.binOp op ty x y yt) = some v ∧ K v := by
  unfold dnilS at h
  cases hy : isC y with
  | false => rw [hy] at h; exact h.elim
  | true =>
    rw [hy] at h
    simp only [cond_true] at h
    split at h
    · rename_i p _ _ _ _ hx hy'
      refine ⟨_, ?_, h⟩
      simp only [apure, hx, hy']
      cases p <;> simp [abin, abin.aeq, hty]
    · rename_i p _ _ _ _ hx hy'
      refine ⟨_, ?_, h⟩
      simp only [apure, hx, hy']
      cases p <;> simp [abin, abin.aeq, hty]
    · exact h.elim

theorem runsF_eff {tg : Tgt} {args : List Value} {h : AH} {K : Value → AH → Prop} (hr : RunsF P X LL tg args h K) : ∃ v h', (∃ N, ∀ m, N ≤ m → acall P X LL m tg args h = some (v, h')) ∧ K v h' := hr

theorem dop_sound {t : Tmps} {h : AH} {id : Option Nat} {o : Oper} {K : Value → AH → Prop} (hd : dop (PA P X LL) P t h id o K) : OpRun (P := P) (X := X) (LL := LL) t h id o.op K := by
  obtain ⟨dst, op, oty, pos, after, guard⟩ := o
  unfold dop at hd
  cases op with
  | move x =>
    simp only at hd
    split at hd
    · rename_i v hv; exact oprun_pure rfl (by simp only [apure, hv]) hd
    · exact hd.elim
  | assign x =>
    simp only at hd
    split at hd
    · rename_i v hv; exact oprun_pure rfl (by simp only [apure, hv]) hd
    · exact hd.elim
  | pick c a b =>
    simp only at hd
    split at hd
    · rename_i x v w h1 h2 h3
      obtain ⟨k1, k2⟩ := V.branch_inv hd
      cases x with
      | true => exact oprun_pure rfl (by simp only [apure, h1, h2]) (k1 rfl)
      | false => exact oprun_pure rfl (by simp only [apure, h1, h3]) (k2 rfl)
    · exact hd.elim
  | build ty ps => exact direct_sound hd
  | makeInterface ty x => exact direct_sound hd
  | makeFunc f a b => exact direct_sound hd
  | extract x i =>
    simp only at hd
    split at hd
    · rename_i v hv
      have hd : V.ext v i fun v => castX (PA P X LL) P ⟨dst, .extract x i, oty, pos, after, guard⟩ v fun v => K v h := hd
      unfold V.ext at hd
      split at hd
      · split at hd
        · rename_i hx
          exact oprun_pure rfl (by simp only [apure, hv]; exact hx) (castX_sound hd)
        · exact hd.elim
      · exact hd.elim
    · exact hd.elim
  | nilCheck x =>
    simp only at hd
    split at hd
    · rename_i v hv
      have hd : V.nilc v fun v => K v h := hd
      unfold V.nilc at hd
      split at hd
      · obtain ⟨a, rfl, hd⟩ := V.isSome_inv hd
        exact oprun_pure rfl (by simp only [apure, hv]) hd
      · exact oprun_pure rfl (by simp only [apure, hv]) hd
      · exact oprun_pure rfl (by simp only [apure, hv]) hd
      · exact hd.elim
    · exact hd.elim
  | binOp op ty x y yt =>
    simp only at hd
    split at hd
    · split at hd
      · rename_i k a k' b hx hy
        obtain ⟨v, h1, h2⟩ := dint_sound (cst := isConst x || isConst y) (ty := ty) hd
        exact oprun_pure rfl (by simp only [apure, hx, hy, h1]) h2
      · exact hd.elim
    · rename_i hty
      split at hd
      · rename_i a b hx hy
        exact oprun_pure rfl (by simp only [apure, hx, hy]; simp [abin, abin.aeq, hty]) hd
      · rename_i a b hx hy
        exact oprun_pure rfl (by simp only [apure, hx, hy]; simp [abin, abin.aeq, hty]) hd
      · exact hd.elim
    · rename_i hty
      obtain ⟨v, h1, h2⟩ := dnilP_sound hty hd
      exact oprun_pure rfl h1 h2
    · rename_i hty
      obtain ⟨v, h1, h2⟩ := dnilS_sound hty hd
      exact oprun_pure rfl h1 h2
    · exact genop_sound' (o := ⟨dst, .binOp op ty x y yt, oty, pos, after, guard⟩) hd
  | unOp op ty x =>
    simp only at hd
    split at hd
    · rename_i b h2 h3
      refine oprun_pure rfl ?_ hd
      simp only [apure, h3]
      simp [aun, flat, flatN, runPure, Op.unary]
    · exact genop_sound' (o := ⟨dst, .unOp _ ty x, oty, pos, after, guard⟩) hd
  | convert s d x =>
    simp only at hd
    split at hd
    · rename_i h1 h2
      split at hd
      · rename_i hx
        refine oprun_pure (by simp only [cls, convClass, h1, h2]) ?_ hd
        simp only [apure, hx, aconv, h1, h2]
      · exact hd.elim
    · rename_i h1 h2
      split at hd
      · rename_i hx
        refine oprun_pure (by simp only [cls, convClass, h1, h2]) ?_ hd
        simp only [apure, hx, aconv, h1, h2]
      · exact hd.elim
    · exact genop_sound' (o := ⟨dst, .convert s d x, oty, pos, after, guard⟩) hd
  | field ty x i =>
    simp only at hd
    split at hd
    · exact direct_sound hd
    · exact genop_sound' (o := ⟨dst, .field ty x i, oty, pos, after, guard⟩) hd
  | fieldAddr s x f =>
    simp only at hd
    split at hd
    · rename_i h1
      split at hd
      · rename_i h2
        split at hd
        · rename_i h3
          split at hd
          · rename_i h4
            obtain ⟨a, rfl, hd⟩ := V.isSome_inv hd
            exact oprun_pure rfl (by simp only [apure, h1, h2, h3, h4]) hd
          · exact hd.elim
        · exact hd.elim
      · exact hd.elim
    · exact hd.elim
  | indexAddr ty x i =>
    simp only at hd
    split at hd
    · rename_i h1
      split at hd
      · rename_i h2 h3 h4
        obtain ⟨a, rfl, hd⟩ := V.isSome_inv hd
        obtain ⟨h5, hd⟩ := V.guard_inv hd
        have h5 := of_decide_eq_true h5
        exact oprun_pure rfl (by simp only [apure, h1, h2, h3, h4, if_pos h5]) hd
      · exact hd.elim
    · rename_i h1
      split at hd
      · rename_i h2 h3 h4
        obtain ⟨a, rfl, hd⟩ := V.isSome_inv hd
        obtain ⟨h5, hd⟩ := V.guard_inv hd
        have h5 := of_decide_eq_true h5
        exact oprun_pure rfl (by simp only [apure, h1, h2, h3, h4, if_pos h5]) hd
      · exact hd.elim
    · exact hd.elim
  | load ty x =>
    simp only at hd
    split at hd
    · rename_i hx
      obtain ⟨a, rfl, hd⟩ := V.isSome_inv hd
      obtain ⟨v, h1, hd⟩ := dload_sound hd
      exact oprun_read rfl (by simp only [aread, hx, h1]) hd
    · exact hd.elim
  | alloc e =>
    simp only at hd
    split at hd
    · rename_i z hz
      exact oprun_alloc rfl (by simp only [aalloc, hz]) hd
    · exact hd.elim
  | box e x =>
    simp only at hd
    split at hd
    · rename_i v n h1 h2
      obtain ⟨h3, hd⟩ := V.guard_inv hd
      exact oprun_alloc rfl (by simp only [aalloc, h1, h2, h3, cond_true]) hd
    · exact hd.elim
  | buildSlice ty n ps =>
    simp only at hd
    split at hd
    · rename_i h1 h2
      split at hd
      · rename_i size z h3 h4
        cases hb : (Nat.ble (n * size) 16777216 && Nat.ble 1 size) with
        | false => rw [hb] at hd; exact hd.elim
        | true =>
          rw [hb] at hd
          simp only [cond_true] at hd
          split at hd
          · rename_i cs hcs
            obtain ⟨h5, hd⟩ := V.guard_inv hd
            exact oprun_alloc rfl (by simp only [aalloc, h1, h2, h3, h4, hb, cond_true, hcs, h5]) hd
          · exact hd.elim
      · exact hd.elim
    · exact hd.elim
  | makeSlice ty l c =>
    simp only at hd
    split at hd
    · rename_i h1 h2 h3
      split at hd
      · rename_i i z h4 h5
        obtain ⟨h6, hd⟩ := V.guard_inv hd
        simp only [Bool.and_eq_true, decide_eq_true_eq] at h6
        exact oprun_alloc rfl (by simp only [aalloc, h1, h2, h3, h4, h5]; rw [if_pos ⟨h6.1.1, h6.1.2.1, h6.1.2.2, Nat.le_of_ble_eq_true h6.2⟩]) hd
      · exact hd.elim
    · exact hd.elim
  | store ty x v =>
    simp only at hd
    split at hd
    · rename_i h1 h2 h3
      obtain ⟨a, rfl, hd⟩ := V.isSome_inv hd
      obtain ⟨h4, hd⟩ := V.guard_inv hd
      obtain ⟨h', h5, hd⟩ := hd
      exact oprun_eff rfl ⟨0, fun m _ => by simp only [aeff, h1, h2, h3, h4, cond_true, h5]⟩ hd
    · exact hd.elim
  | index ty x i => exact genop_sound' (o := ⟨dst, .index ty x i, oty, pos, after, guard⟩) hd
  | typeAssert x ty as ok => exact genop_sound' (o := ⟨dst, .typeAssert x ty as ok, oty, pos, after, guard⟩) hd
  | slice ty x lo hi mx => exact genop_sound' (o := ⟨dst, .slice ty x lo hi mx, oty, pos, after, guard⟩) hd
  | lookup ty x i ok => exact genop_sound' (o := ⟨dst, .lookup ty x i ok, oty, pos, after, guard⟩) hd
  | makeMap ty r => exact genop_sound' (o := ⟨dst, .makeMap ty r, oty, pos, after, guard⟩) hd
  | mapUpdate ty m k v => exact genop_sound' (o := ⟨dst, .mapUpdate ty m k v, oty, pos, after, guard⟩) hd
  | range ty x => exact genop_sound hd
  | next x b => exact genop_sound hd
  | entry x => exact genop_sound hd
  | call c =>
    obtain ⟨callee, args, tys⟩ := c
    cases callee with
    | builtin b =>
      have gen : genop (PA P X LL) P t h id (.call ⟨.builtin b, args, tys⟩) (fun v h => castO (PA P X LL) P ⟨dst, .call ⟨.builtin b, args, tys⟩, oty, pos, after, guard⟩ v fun v => K v h) → OpRun (P := P) (X := X) (LL := LL) t h id (.call ⟨.builtin b, args, tys⟩) K :=
        fun hd => genop_sound' (o := ⟨dst, .call ⟨.builtin b, args, tys⟩, oty, pos, after, guard⟩) hd
      cases b <;> first
        | exact gen hd
        | exact direct_sound hd
        | (simp only at hd
           split at hd
           · split at hd
             · exact gen hd
             · exact direct_sound hd
           · exact hd.elim)
        | (simp only at hd
           split at hd
           · rename_i ty x hty hx
             split at hd
             · rename_i h1 h2
               obtain ⟨h3, hd⟩ := V.guard_inv hd
               refine oprun_pure rfl ?_ hd
               simp only [apure, hty, hx, aevs, h2, acap, h1, h3, cond_true]
             · exact hd.elim
           · exact hd.elim)
    | value f =>
      have call : ∀ (tg : Tgt) (as : List Value), (∀ m, aeff P (acall P X LL m) h (aev t) (aevs t) (.call ⟨.value f, args, tys⟩) = acall P X LL m tg as h) →
          RunsF P X LL tg as h (fun v h => castO (PA P X LL) P ⟨dst, .call ⟨.value f, args, tys⟩, oty, pos, after, guard⟩ v fun v => K v h) → OpRun (P := P) (X := X) (LL := LL) t h id (.call ⟨.value f, args, tys⟩) K := by
        rintro tg as he ⟨v, h', ⟨N, hN⟩, hk⟩
        exact oprun_eff rfl ⟨N, fun m hm => by rw [he]; exact hN m hm⟩ (castO_sound hk)
      have viav : (match aev t f, aevs t args.toList with
          | some v, some as => (PA P X LL).callv v as h fun v h => castO (PA P X LL) P ⟨dst, .call ⟨.value f, args, tys⟩, oty, pos, after, guard⟩ v fun v => K v h
          | _, _ => (PA P X LL).fail) → OpRun (P := P) (X := X) (LL := LL) t h id (.call ⟨.value f, args, tys⟩) K := by
        intro hd
        split at hd
        · rename_i v as h1 h2
          obtain ⟨tg, as', h3, hd⟩ := hd
          refine call tg as' ?_ hd
          intro m
          simp only [aeff, h1, h2]
          unfold tgtOf at h3
          split at h3
          · injection h3 with h3; injection h3 with e1 e2; subst e1; subst e2; rfl
          · injection h3 with h3; injection h3 with e1 e2; subst e1; subst e2; rfl
          · cases h3
        · exact hd.elim
      cases f with
      | func g =>
        simp only at hd
        split at hd
        · rename_i as h2
          refine call (.fn g) as ?_ hd
          intro m
          simp only [aeff, aev, h2]; simp
        · exact hd.elim
      | tmp i => exact viav hd
      | const v => exact viav hd
      | global g => exact viav hd
    | invoke r name =>
      simp only at hd
      split at hd
      · rename_i v as h1 h2
        obtain ⟨ty, v0, g, recv, rfl, h3, v', h', ⟨N, hN⟩, hk⟩ := hd
        exact oprun_eff rfl ⟨N, fun m hm => by simp only [aeff, h1, h2, h3]; exact hN m hm⟩ (castO_sound hk)
      · exact hd.elim
  | _ => exact hd.elim
end
end Go.Am

/- Verification conditions: what they ask of code, and of calls, is enough. -/
namespace Go.Am
open Go

theorem PT.setF_self {α : Type} : ∀ (f : Nat) (t : PT α) (n : Nat) (x : α), n < f → t.get n = some x → t.setF f n (some x) = t := by
  intro f
  induction f with
  | zero => intro t n x h; omega
  | succ f ih =>
    intro t n x h hg
    cases t with
    | nil => cases hg
    | node l v r =>
      simp only [PT.setF, PT.get] at hg ⊢
      cases h0 : Nat.beq n 0 with
      | true => rw [h0] at hg; simp only [cond_true] at hg ⊢; rw [hg]
      | false =>
        rw [h0] at hg
        simp only [cond_false] at hg ⊢
        have hn : ¬ n = 0 := of_beqf h0
        cases h1 : Nat.beq (n % 2) 1 with
        | true => rw [h1] at hg; simp only [cond_true] at hg ⊢; rw [ih l _ x (by omega) hg]
        | false => rw [h1] at hg; simp only [cond_false] at hg ⊢; rw [ih r _ x (by omega) hg]
theorem PT.set_self {α : Type} {t : PT α} {n : Nat} {x : α} (h : t.get n = some x) : t.set n x = t := PT.setF_self _ _ _ _ (by omega) h

section
variable {P : Program} {X : Ext} {LL : FuncId → Lv}

theorem dwant_sound {ops : Array Oper} {t : Tmps} {g : Option (Nat × Bool)} {yes no : Tmps → Prop} (h : dwant (PA P X LL) ops t g yes no) : (awanted ops t g = some true ∧ yes t) ∨ (awanted ops t g = some false ∧ no t) := by
  unfold dwant at h
  unfold awanted
  cases g with
  | none => exact .inl ⟨rfl, h⟩
  | some g =>
    obtain ⟨j, want⟩ := g
    simp only at h ⊢
    cases ho : ops[j]? with
    | none => rw [ho] at h; exact h.elim
    | some o =>
      rw [ho] at h
      simp only at h ⊢
      cases hd : o.dst with
      | none => rw [hd] at h; exact h.elim
      | some d =>
        rw [hd] at h
        simp only at h ⊢
        split at h
        · rename_i b hb
          obtain ⟨h1, h2⟩ := V.branch_inv h
          rw [hb]
          cases b with
          | true =>
            have h1 := h1 rfl
            rw [PT.set_self hb] at h1
            cases want
            · exact .inr ⟨rfl, h1⟩
            · exact .inl ⟨rfl, h1⟩
          | false =>
            have h2 := h2 rfl
            rw [PT.set_self hb] at h2
            cases want
            · exact .inl ⟨rfl, h2⟩
            · exact .inr ⟨rfl, h2⟩
        · rename_i vs hvs
          rw [hvs]
          exact .inr ⟨rfl, h⟩
        · exact h.elim

theorem dops_sound {ops : Array Oper} : ∀ (l : List Oper) (t : Tmps) (h : AH) (K : Tmps → AH → Prop), dops (PA P X LL) P ops l t h K → ∃ t' h', (∃ N, ∀ m, N ≤ m → aops P (acall P X LL m) ops l t h = some (t', h')) ∧ K t' h' := by
  intro l
  induction l with
  | nil => intro t h K hd; exact ⟨t, h, ⟨0, fun _ _ => rfl⟩, hd⟩
  | cons o os ih =>
    intro t h K hd
    simp only [dops] at hd
    rcases dwant_sound hd with ⟨hw, hd⟩ | ⟨hw, hd⟩
    · obtain ⟨v, h1, ⟨N1, hN1⟩, hd⟩ := dop_sound hd
      obtain ⟨t', h', ⟨N2, hN2⟩, hk⟩ := ih _ _ _ hd
      refine ⟨t', h', ⟨max N1 N2, fun m hm => ?_⟩, hk⟩
      simp only [aops, hw, hN1 m (by omega), hN2 m (by omega)]
    · obtain ⟨t', h', ⟨N2, hN2⟩, hk⟩ := ih _ _ _ hd
      exact ⟨t', h', ⟨N2, fun m hm => by simp only [aops, hw, hN2 m hm]⟩, hk⟩

theorem ddraws_sound {ops : Array Oper} {base : Nat} : ∀ (l : List Oper) (k : Nat) (t : Tmps) (h : AH) (K : List Rec → Tmps → AH → Prop), ddraws (PA P X LL) P ops base k l t h K →
    ∃ rs t' h', (∃ N, ∀ m, N ≤ m → adraws P (acall P X LL m) ops base k l t h = some (rs, t', h')) ∧ K rs t' h' := by
  intro l
  induction l with
  | nil => intro k t h K hd; exact ⟨[], t, h, ⟨0, fun _ _ => rfl⟩, hd⟩
  | cons o os ih =>
    intro k t h K hd
    simp only [ddraws] at hd
    rcases dwant_sound hd with ⟨hw, hd⟩ | ⟨hw, hd⟩
    · obtain ⟨v, h1, ⟨N1, hN1⟩, hd⟩ := dop_sound hd
      obtain ⟨rs, t', h', ⟨N2, hN2⟩, hk⟩ := ih _ _ _ _ hd
      refine ⟨_, t', h', ⟨max N1 N2, fun m hm => ?_⟩, hk⟩
      simp only [adraws, hw, hN1 m (by omega), hN2 m (by omega)]
    · obtain ⟨rs, t', h', ⟨N2, hN2⟩, hk⟩ := ih _ _ _ _ hd
      exact ⟨_, t', h', ⟨N2, fun m hm => by simp only [adraws, hw, hN2 m hm]⟩, hk⟩

theorem dcheckE_sound {bs : List Nat} {r : Rec} {K : Prop} : ∀ (es : List Rec), dcheckE (PA P X LL) P bs r es K → (es.all fun e => !(e.wanted && Nat.beq (cls P e.o.op) 3) || isBefore bs e.k r.k || isBefore bs r.k e.k ||
      (match aread P (bif Nat.blt e.k r.k then e.h else e.h') (aev r.t) r.o.op with
       | some v => sameV 3 v r.v
       | none => false)) = true ∧ K := by
  intro es
  induction es with
  | nil => intro h; exact ⟨rfl, h⟩
  | cons e es ih =>
    intro h
    simp only [dcheckE] at h
    simp only [List.all_cons, Bool.and_eq_true]
    cases hb : (!(e.wanted && Nat.beq (cls P e.o.op) 3) || isBefore bs e.k r.k || isBefore bs r.k e.k) with
    | true =>
      rw [hb] at h
      obtain ⟨h1, h2⟩ := ih h
      exact ⟨⟨by simp, h1⟩, h2⟩
    | false =>
      rw [hb] at h
      simp only [cond_false] at h
      obtain ⟨⟨v', h3, h4⟩, h⟩ := h
      obtain ⟨h1, h2⟩ := ih h
      rw [← read_congr r.o.op (envOf_ev r.t _)] at h3
      refine ⟨⟨?_, h1⟩, h2⟩
      rw [h3]
      simpa using h4
theorem dcheckR_sound {bs : List Nat} {all : List Rec} {K : Prop} : ∀ (rs : List Rec), dcheckR (PA P X LL) P bs all rs K → (rs.all fun r => !(r.wanted && Nat.beq (cls P r.o.op) 1) ||
    all.all fun e => !(e.wanted && Nat.beq (cls P e.o.op) 3) || isBefore bs e.k r.k || isBefore bs r.k e.k ||
      (match aread P (bif Nat.blt e.k r.k then e.h else e.h') (aev r.t) r.o.op with
       | some v => sameV 3 v r.v
       | none => false)) = true ∧ K := by
  intro rs
  induction rs with
  | nil => intro h; exact ⟨rfl, h⟩
  | cons r rs ih =>
    intro h
    simp only [dcheckR] at h
    simp only [List.all_cons, Bool.and_eq_true]
    cases hb : (r.wanted && Nat.beq (cls P r.o.op) 1) with
    | true =>
      rw [hb] at h
      simp only [cond_true] at h
      obtain ⟨h1, h⟩ := dcheckE_sound _ h
      obtain ⟨h2, h3⟩ := ih h
      exact ⟨⟨by rw [h1]; simp, h2⟩, h3⟩
    | false =>
      rw [hb] at h
      obtain ⟨h2, h3⟩ := ih h
      exact ⟨⟨by simp, h2⟩, h3⟩

theorem ddraw_sound {ops : Array Oper} {t : Tmps} {h : AH} {K : Tmps → AH → Prop} (hd : ddraw (PA P X LL) P ops t h K) : ∃ t' h', (∃ N, ∀ m, N ≤ m → adraw P (acall P X LL m) ops t h = some (t', h')) ∧ K t' h' := by
  unfold ddraw at hd
  cases hs : statOk P ops with
  | false => rw [hs] at hd; exact hd.elim
  | true =>
    rw [hs] at hd
    simp only [cond_true] at hd
    obtain ⟨rs, t', h', ⟨N, hN⟩, hd⟩ := ddraws_sound _ _ _ _ _ hd
    obtain ⟨h1, hk⟩ := dcheckR_sound _ hd
    refine ⟨t', h', ⟨N, fun m hm => ?_⟩, hk⟩
    unfold adraw
    rw [hs, hN m hm]
    simp only [cond_true]
    have : readsOk P (befs ops.toList []) rs = true := h1
    rw [this]; rfl

/-! ### Loops' slots -/
theorem merge_sound : ∀ (ls : List (Nat × Option TypeId)) (vs cs : List Value) (K : List Value → Prop), merge (PA P X LL) P ls vs cs K → ∃ all, K all ∧ all.length = ls.length ∧ ∀ t : Tmps, getAll t (varying ls) = some vs → getAll t (staying ls) = some cs → restr t (ls.map (·.1)) = buildT (ls.map (·.1)) all := by
  intro ls
  induction ls with
  | nil => intro vs cs K h; obtain ⟨rfl, h⟩ := V.isNil_inv h; exact ⟨[], h, rfl, fun _ _ _ => rfl⟩
  | cons l ls ih =>
    intro vs cs K h
    obtain ⟨i, ty⟩ := l
    cases ty with
    | some ty =>
      simp only [merge] at h
      obtain ⟨v, vs', rfl, h1⟩ := V.uncons_inv (k := fun v vs => castT1 (PA P X LL) P ty v fun v => merge (PA P X LL) P ls vs cs fun r => K (v :: r)) h
      have h := castT1_sound (K := fun v => merge (PA P X LL) P ls vs' cs fun r => K (v :: r)) h1
      obtain ⟨all, hk, hl, hr⟩ := ih _ _ _ h
      refine ⟨_, hk, by simp [hl], fun t h1 h2 => ?_⟩
      simp only [varying, getAll] at h1
      simp only [staying] at h2
      split at h1
      · rename_i v0 vs0 e1 e2
        injection h1 with h1
        injection h1 with e3 e4; subst e3; subst e4
        simp only [List.map_cons, restr, e1, buildT]
        rw [hr t e2 h2]
      · cases h1
    | none =>
      cases cs with
      | nil => simp only [merge] at h; exact h.elim
      | cons c cs =>
        simp only [merge] at h
        obtain ⟨all, hk, hl, hr⟩ := ih _ _ _ h
        refine ⟨_, hk, by simp [hl], fun t h1 h2 => ?_⟩
        simp only [varying] at h1
        simp only [staying, getAll] at h2
        split at h2
        · rename_i v0 vs0 e1 e2
          injection h2 with h2
          injection h2 with e3 e4; subst e3; subst e4
          simp only [List.map_cons, restr, e1, buildT]
          rw [hr t h1 e2]
        · cases h2

/-! ### Code -/
def CodeRun (L : Lv) (rd : Option Nat) (c : Code) (t : Tmps) (h : AH) (K : AExit → Tmps → AH → Prop) : Prop :=
  ∃ x t' h', (∃ N, ∀ m, N ≤ m → ∀ n, N ≤ n → acode P (acall P X LL m) L rd n c t h = some (x, t', h')) ∧ K x t' h'

theorem known_self {t : Tmps} {c : Operand} {b : Bool} (h : aev t c = some (.bool b)) : known t c b = t := by
  cases c with
  | tmp d => exact PT.set_self h
  | _ => rfl

theorem aops_asg {C : CallFn} {ops : Array Oper} {i : Nat} : ∀ (l : List Oper) (t t' : Tmps) (h h' : AH), asgOps l i = false → aops P C ops l t h = some (t', h') → t'.get i = t.get i := by
  intro l
  induction l with
  | nil => intro t t' h h' _ ha; simp only [aops] at ha; injection ha with ha; injection ha with e1 e2; rw [e1]
  | cons o os ih =>
    intro t t' h h' hn ha
    simp only [asgOps, List.any_cons, Bool.or_eq_false_iff] at hn
    have hput : ∀ v, (aput t o.dst v).get i = t.get i := by
      intro v
      cases hd : o.dst with
      | none => rfl
      | some d =>
        have := hn.1; rw [hd] at this
        exact PT.get_set_ne _ _ (fun e => of_beqf this e.symm)
    simp only [aops] at ha
    split at ha
    · split at ha
      · exact (ih _ _ _ _ hn.2 ha).trans (hput _)
      · cases ha
    · exact (ih _ _ _ _ hn.2 ha).trans (hput _)
    · cases ha
theorem adraws_asg {C : CallFn} {ops : Array Oper} {base i : Nat} : ∀ (l : List Oper) (k : Nat) (t t' : Tmps) (h h' : AH) (rs : List Rec), asgOps l i = false → adraws P C ops base k l t h = some (rs, t', h') → t'.get i = t.get i := by
  intro l
  induction l with
  | nil => intro k t t' h h' rs _ ha; simp only [adraws] at ha; injection ha with ha; injection ha with e0 ha; injection ha with e1 e2; rw [e1]
  | cons o os ih =>
    intro k t t' h h' rs hn ha
    simp only [asgOps, List.any_cons, Bool.or_eq_false_iff] at hn
    have hput : ∀ v, (aput t o.dst v).get i = t.get i := by
      intro v
      cases hd : o.dst with
      | none => rfl
      | some d =>
        have := hn.1; rw [hd] at this
        exact PT.get_set_ne _ _ (fun e => of_beqf this e.symm)
    simp only [adraws] at ha
    split at ha
    · split at ha
      · split at ha
        · rename_i hr
          injection ha with ha; injection ha with e0 ha; injection ha with e1 e2; subst e1
          exact (ih _ _ _ _ _ _ hn.2 hr).trans (hput _)
        · cases ha
      · cases ha
    · split at ha
      · rename_i hr
        injection ha with ha; injection ha with e0 ha; injection ha with e1 e2; subst e1
        exact (ih _ _ _ _ _ _ hn.2 hr).trans (hput _)
      · cases ha
    · cases ha
theorem adraw_asg {C : CallFn} {ops : Array Oper} {i : Nat} {t t' : Tmps} {h h' : AH} (hn : asgOps ops.toList i = false) (ha : adraw P C ops t h = some (t', h')) : t'.get i = t.get i := by
  unfold adraw at ha
  cases hst : statOk P ops with
  | false => rw [hst] at ha; cases ha
  | true =>
    rw [hst] at ha
    simp only [cond_true] at ha
    split at ha
    · rename_i hr
      cases hro : readsOk P (befs ops.toList []) _ with
      | false => rw [hro] at ha; cases ha
      | true =>
        rw [hro] at ha
        simp only [cond_true] at ha
        injection ha with ha; injection ha with e1 e2; subst e1
        exact adraws_asg _ _ _ _ _ _ _ hn hr
    · cases ha
/-- A slot that code doesn't write is as it was, if it is kept. -/
theorem acode_asg {C : CallFn} {L : Lv} {rd : Option Nat} {i : Nat} : ∀ (n : Nat) (c : Code) (t t' : Tmps) (h h' : AH) (x : AExit), asg i c = false → acode P C L rd n c t h = some (x, t', h') → ∀ v, t'.get i = some v → t.get i = some v := by
  intro n
  induction n with
  | zero => intro c t t' h h' x _ ha; simp [acode] at ha
  | succ n ih =>
    intro c t t' h h' x hr ha v hv
    cases c with
    | skip => simp only [acode] at ha; injection ha with ha; injection ha with e1 e2; injection e2 with e2 e3; rw [e2]; exact hv
    | exit id => simp only [acode] at ha; injection ha with ha; injection ha with e1 e2; injection e2 with e2 e3; rw [e2]; exact hv
    | ret => simp only [acode] at ha; injection ha with ha; injection ha with e1 e2; injection e2 with e2 e3; rw [e2]; exact hv
    | region id ops b =>
      simp only [asg] at hr
      cases b with
      | false =>
        simp only [acode] at ha
        split at ha
        · rename_i hops
          injection ha with ha; injection ha with e1 e2; injection e2 with e2 e3; subst e2
          rw [← aops_asg _ _ _ _ _ hr hops]; exact hv
        · cases ha
      | true =>
        simp only [acode] at ha
        split at ha
        · rename_i hops
          injection ha with ha; injection ha with e1 e2; injection e2 with e2 e3; subst e2
          rw [← adraw_asg hr hops]; exact hv
        · cases ha
    | seq c1 c2 =>
      simp only [asg, Bool.or_eq_false_iff] at hr
      simp only [acode] at ha
      split at ha
      · rename_i hb
        refine ih _ _ _ _ _ _ hr.1 hb _ ?_
        have hget := ih _ _ _ _ _ _ hr.2 ha v hv
        unfold meet at hget
        split at hget
        · exact (restr_get _ _ _ _ hget).2
        · exact hget
      · exact ih _ _ _ _ _ _ hr.1 ha v hv
    | cond c1 x1 y1 =>
      simp only [asg, Bool.or_eq_false_iff] at hr
      simp only [acode] at ha
      split at ha
      · exact ih _ _ _ _ _ _ hr.1 ha v hv
      · exact ih _ _ _ _ _ _ hr.2 ha v hv
      · cases ha
    | block id body =>
      simp only [asg] at hr
      simp only [acode] at ha
      split at ha
      · rename_i hb
        injection ha with ha; injection ha with e1 e2; injection e2 with e2 e3; subst e2
        exact ih body _ _ _ _ _ hr hb v hv
      · exact ih body _ _ _ _ _ hr ha v hv
    | loop body =>
      have hr' := hr
      simp only [asg] at hr
      have hcut : ∀ w, (cut L body t).get i = some w → t.get i = some w := by
        intro w hw
        unfold cut at hw
        split at hw
        · exact (restr_get _ _ _ _ hw).2
        · exact hw
      simp only [acode] at ha
      split at ha
      · rename_i hb
        exact hcut _ (ih body _ _ _ _ _ hr hb _ (ih (.loop body) _ _ _ _ _ hr' ha v hv))
      · exact hcut _ (ih body _ _ _ _ _ hr ha v hv)
    | rangeFunc g ps assign body =>
      simp only [acode] at ha
      split at ha
      · split at ha
        · split at ha
          · injection ha with ha; injection ha with e1 e2; injection e2 with e2 e3; subst e2; exact hv
          · injection ha with ha; injection ha with e1 e2; injection e2 with e2 e3; subst e2; exact hv
          · cases ha
        · cases ha
      · cases ha
    | scope => simp [acode] at ha
    | label => simp [acode] at ha
    | goto => simp [acode] at ha
    | refuse => simp [acode] at ha

theorem buildT_get : ∀ (is : List Nat) (vs : List Value) (i : Nat) (v : Value), (buildT is vs).get i = some v → ∃ k : Nat, is[k]? = some i ∧ vs[k]? = some v := by
  intro is
  induction is with
  | nil => intro vs i v h; cases h
  | cons j is ih =>
    intro vs i v h
    cases vs with
    | nil => cases h
    | cons w vs =>
      simp only [buildT] at h
      rw [PT.get_set] at h
      split at h
      · rename_i e; subst e; injection h with h; subst h; exact ⟨0, rfl, rfl⟩
      · obtain ⟨k, h1, h2⟩ := ih _ _ _ h; exact ⟨k + 1, h1, h2⟩
/-- What stays is what it was. -/
theorem getAll_same {t t1 : Tmps} : ∀ (is : List Nat) (vs vs1 : List Value), (∀ i, i ∈ is → ∀ v, t1.get i = some v → t.get i = some v) → getAll t is = some vs → getAll t1 is = some vs1 → vs1 = vs := by
  intro is
  induction is with
  | nil => intro vs vs1 _ h1 h2; simp only [getAll] at h1 h2; injection h1 with h1; injection h2 with h2; rw [← h1, ← h2]
  | cons i is ih =>
    intro vs vs1 hs h1 h2
    simp only [getAll] at h1 h2
    split at h1
    · rename_i v l e1 e2
      split at h2
      · rename_i v' l' e3 e4
        injection h1 with h1; injection h2 with h2; subst h1; subst h2
        have := hs i (by simp) v' e3
        rw [e1] at this; injection this with this; subst this
        rw [ih _ _ (fun j hj => hs j (by simp [hj])) e2 e4]
      · cases h2
    · cases h1

theorem mem_once {x : AExit} {p : AExit → Prop} {K : AExit → Prop} {l : List AExit} (h : ∃ q ∈ l.map fun x => (x, K x), q.1 = x ∧ q.2) : K x := by
  obtain ⟨q, hq, rfl, h⟩ := h
  obtain ⟨y, hy, rfl⟩ := List.mem_map.1 hq
  exact h

theorem dcode_sound (L : Lv) (rd : Option (Nat × Nat)) : ∀ (c : Code) (t : Tmps) (h : AH) (K : AExit → Tmps → AH → Prop), dcode (PA P X LL) P L rd c t h K → CodeRun (P := P) (X := X) (LL := LL) L (rd.map (·.1)) c t h K := by
  intro c
  induction c with
  | skip =>
    intro t h K hd
    exact ⟨.normal, t, h, ⟨1, fun m hm n hn => by obtain ⟨k, rfl⟩ : ∃ k, n = k + 1 := ⟨n - 1, by omega⟩; rfl⟩, hd⟩
  | exit id =>
    intro t h K hd
    exact ⟨.exit id, t, h, ⟨1, fun m hm n hn => by obtain ⟨k, rfl⟩ : ∃ k, n = k + 1 := ⟨n - 1, by omega⟩; rfl⟩, hd⟩
  | ret =>
    intro t h K hd
    exact ⟨.ret, t, h, ⟨1, fun m hm n hn => by obtain ⟨k, rfl⟩ : ∃ k, n = k + 1 := ⟨n - 1, by omega⟩; rfl⟩, hd⟩
  | region id ops b =>
    intro t h K hd
    cases b with
    | false =>
      obtain ⟨t', h', ⟨N, hN⟩, hk⟩ := dops_sound _ _ _ _ hd
      refine ⟨.normal, t', h', ⟨N + 1, fun m hm n hn => ?_⟩, hk⟩
      obtain ⟨k, rfl⟩ : ∃ k, n = k + 1 := ⟨n - 1, by omega⟩
      simp only [acode, hN m (by omega)]
    | true =>
      obtain ⟨t', h', ⟨N, hN⟩, hk⟩ := ddraw_sound hd
      refine ⟨.normal, t', h', ⟨N + 1, fun m hm n hn => ?_⟩, hk⟩
      obtain ⟨k, rfl⟩ : ∃ k, n = k + 1 := ⟨n - 1, by omega⟩
      simp only [acode, hN m (by omega)]
  | seq a b iha ihb =>
    intro t h K hd
    simp only [dcode] at hd
    split at hd
    · rename_i hmeet
      have hm : ∀ t, meet L a t = t := fun t => by unfold meet; rw [hmeet]
      obtain ⟨x, t1, h1, ⟨N1, hN1⟩, hk⟩ := iha _ _ _ hd
      cases x with
      | normal =>
        obtain ⟨x, t2, h2, ⟨N2, hN2⟩, hk⟩ := ihb _ _ _ hk
        refine ⟨x, t2, h2, ⟨max N1 N2 + 1, fun m hm' n hn => ?_⟩, hk⟩
        obtain ⟨k, rfl⟩ : ∃ k, n = k + 1 := ⟨n - 1, by omega⟩
        simp only [acode, hN1 m (by omega) k (by omega), hm, hN2 m (by omega) k (by omega)]
      | exit i =>
        refine ⟨_, _, _, ⟨N1 + 1, fun m hm' n hn => ?_⟩, hk⟩
        obtain ⟨k, rfl⟩ : ∃ k, n = k + 1 := ⟨n - 1, by omega⟩
        simp only [acode, hN1 m (by omega) k (by omega)]
      | ret =>
        refine ⟨_, _, _, ⟨N1 + 1, fun m hm' n hn => ?_⟩, hk⟩
        obtain ⟨k, rfl⟩ : ∃ k, n = k + 1 := ⟨n - 1, by omega⟩
        simp only [acode, hN1 m (by omega) k (by omega)]
    · rename_i ls hmeet
      cases hany : (staying ls).any fun i => asg i a with
      | true => rw [hany] at hd; exact hd.elim
      | false =>
      rw [hany] at hd
      simp only [cond_false] at hd
      have hasg : ∀ i, i ∈ staying ls → asg i a = false := fun i hi => by
        cases hb : asg i a with
        | false => rfl
        | true => rw [List.any_eq_true.2 ⟨i, hi, hb⟩] at hany; cases hany
      split at hd
      · exact hd.elim
      · rename_i cs hcs
        obtain ⟨J, hpre, hpost⟩ := hd
        obtain ⟨x, t1, h1, ⟨N1, hN1⟩, hk⟩ := iha _ _ _ hpre
        cases x with
        | normal =>
          simp only at hk
          split at hk
          · rename_i vs1 cs1 hv1 hc1
            have hcs1 : cs1 = cs := getAll_same _ _ _ (fun i hi v hv => acode_asg _ a _ _ _ _ _ (hasg i hi) (hN1 N1 (Nat.le_refl _) N1 (Nat.le_refl _)) v hv) hcs hc1
            subst hcs1
            obtain ⟨all, hb, _, hr⟩ := merge_sound _ _ _ _ (hpost vs1 h1 hk)
            have hm : meet L a t1 = buildT (ls.map (·.1)) all := by unfold meet; rw [hmeet]; exact hr t1 hv1 hc1
            obtain ⟨x, t2, h2, ⟨N2, hN2⟩, hk⟩ := ihb _ _ _ hb
            refine ⟨x, t2, h2, ⟨max N1 N2 + 1, fun m hm' n hn => ?_⟩, hk⟩
            obtain ⟨k, rfl⟩ : ∃ k, n = k + 1 := ⟨n - 1, by omega⟩
            simp only [acode, hN1 m (by omega) k (by omega), hm, hN2 m (by omega) k (by omega)]
          · exact hk.elim
        | exit i =>
          refine ⟨_, _, _, ⟨N1 + 1, fun m hm' n hn => ?_⟩, hk⟩
          obtain ⟨k, rfl⟩ : ∃ k, n = k + 1 := ⟨n - 1, by omega⟩
          simp only [acode, hN1 m (by omega) k (by omega)]
        | ret =>
          refine ⟨_, _, _, ⟨N1 + 1, fun m hm' n hn => ?_⟩, hk⟩
          obtain ⟨k, rfl⟩ : ∃ k, n = k + 1 := ⟨n - 1, by omega⟩
          simp only [acode, hN1 m (by omega) k (by omega)]
  | cond c x y ihx ihy =>
    intro t h K hd
    simp only [dcode] at hd
    split at hd
    · rename_i b hb
      obtain ⟨h1, h2⟩ := V.branch_inv hd
      cases b with
      | true =>
        have h1 := h1 rfl
        rw [known_self hb] at h1
        obtain ⟨x, t2, h2, ⟨N2, hN2⟩, hk⟩ := ihx _ _ _ h1
        refine ⟨_, _, _, ⟨N2 + 1, fun m hm n hn => ?_⟩, hk⟩
        obtain ⟨k, rfl⟩ : ∃ k, n = k + 1 := ⟨n - 1, by omega⟩
        simp only [acode, hb, hN2 m (by omega) k (by omega)]
      | false =>
        have h2 := h2 rfl
        rw [known_self hb] at h2
        obtain ⟨x, t2, h2, ⟨N2, hN2⟩, hk⟩ := ihy _ _ _ h2
        refine ⟨_, _, _, ⟨N2 + 1, fun m hm n hn => ?_⟩, hk⟩
        obtain ⟨k, rfl⟩ : ∃ k, n = k + 1 := ⟨n - 1, by omega⟩
        simp only [acode, hb, hN2 m (by omega) k (by omega)]
    · exact hd.elim
  | block id body ih =>
    intro t h K hd
    simp only [dcode] at hd
    obtain ⟨x, t1, h1, ⟨N1, hN1⟩, hk⟩ := ih _ _ _ hd
    cases x with
    | normal =>
      refine ⟨_, _, _, ⟨N1 + 1, fun m hm n hn => ?_⟩, hk⟩
      obtain ⟨k, rfl⟩ : ∃ k, n = k + 1 := ⟨n - 1, by omega⟩
      simp only [acode, hN1 m (by omega) k (by omega)]
    | exit i =>
      refine ⟨_, _, _, ⟨N1 + 1, fun m hm n hn => ?_⟩, hk⟩
      obtain ⟨k, rfl⟩ : ∃ k, n = k + 1 := ⟨n - 1, by omega⟩
      simp only [acode, hN1 m (by omega) k (by omega)]
    | ret =>
      refine ⟨_, _, _, ⟨N1 + 1, fun m hm n hn => ?_⟩, hk⟩
      obtain ⟨k, rfl⟩ : ∃ k, n = k + 1 := ⟨n - 1, by omega⟩
      simp only [acode, hN1 m (by omega) k (by omega)]
  | loop body ih =>
    intro t h K hd
    simp only [dcode] at hd
    split at hd
    · rename_i ls hls
      cases hany : (staying ls).any fun i => asg i body with
      | true => rw [hany] at hd; exact hd.elim
      | false =>
      rw [hany] at hd
      simp only [cond_false] at hd
      have hasg : ∀ i, i ∈ staying ls → asg i body = false := fun i hi => by
        cases hb : asg i body with
        | false => rfl
        | true => rw [List.any_eq_true.2 ⟨i, hi, hb⟩] at hany; cases hany
      split at hd
      · rename_i vs cs hvs hcs
        obtain ⟨I, ⟨M, hI⟩, hstep⟩ := hd
        have claim : ∀ M, ∀ (vs : List Value) (h : AH), I vs h M → ∀ t : Tmps, getAll t (varying ls) = some vs → getAll t (staying ls) = some cs → CodeRun (P := P) (X := X) (LL := LL) L (rd.map (·.1)) (.loop body) t h K := by
          intro M
          induction M using Nat.strongRecOn with
          | _ M ihM =>
            intro vs h hI t hv hc
            obtain ⟨all, hb, _, hr⟩ := merge_sound _ _ _ _ (hstep vs h M hI)
            have hcut : cut L body t = buildT (ls.map (·.1)) all := by unfold cut; rw [hls]; exact hr t hv hc
            obtain ⟨x, t1, h1, ⟨N1, hN1⟩, hk⟩ := ih _ _ _ hb
            cases x with
            | normal =>
              simp only at hk
              split at hk
              · rename_i vs1 cs1 hv1 hc1
                obtain ⟨M', hM', hI'⟩ := hk
                have hcs1 : cs1 = cs := getAll_same _ _ _ (fun i hi v hv => by
                  have := acode_asg _ body _ _ _ _ _ (hasg i hi) (hN1 N1 (Nat.le_refl _) N1 (Nat.le_refl _)) v hv
                  have h2 : (cut L body t).get i = some v := by rw [hcut]; exact this
                  unfold cut at h2
                  rw [hls] at h2
                  exact (restr_get _ _ _ _ h2).2) hc hc1
                subst hcs1
                obtain ⟨x, t2, h2, ⟨N2, hN2⟩, hk⟩ := ihM M' hM' vs1 h1 hI' t1 hv1 hc1
                refine ⟨_, _, _, ⟨max N1 N2 + 1, fun m hm n hn => ?_⟩, hk⟩
                obtain ⟨k, rfl⟩ : ∃ k, n = k + 1 := ⟨n - 1, by omega⟩
                simp only [acode, hcut, hN1 m (by omega) k (by omega), hN2 m (by omega) k (by omega)]
              · exact hk.elim
            | exit i =>
              refine ⟨_, _, _, ⟨N1 + 1, fun m hm n hn => ?_⟩, hk⟩
              obtain ⟨k, rfl⟩ : ∃ k, n = k + 1 := ⟨n - 1, by omega⟩
              simp only [acode, hcut, hN1 m (by omega) k (by omega)]
            | ret =>
              refine ⟨_, _, _, ⟨N1 + 1, fun m hm n hn => ?_⟩, hk⟩
              obtain ⟨k, rfl⟩ : ∃ k, n = k + 1 := ⟨n - 1, by omega⟩
              simp only [acode, hcut, hN1 m (by omega) k (by omega)]
        exact claim M vs h hI t hvs hcs
      · exact hd.elim
    · exact hd.elim
  | rangeFunc f ps assign body _ _ =>
    intro t h K hd
    simp only [dcode] at hd
    split at hd
    · rename_i fv hfv
      have fin : ∀ (l : Nat) (h1 : AH), aenter (rd.map (·.1)) (cut L body t) ps assign body h = some (l, h1) →
          (PA P X LL).callf fv [.func (.yield l) #[] #[]] h1 (fun _ h2 => (PA P X LL).exits h2 l ((.normal :: onceX (exitsOf body)).map fun x => (x, K x t (h2.drop l)))) → CodeRun (P := P) (X := X) (LL := LL) L (rd.map (·.1)) (.rangeFunc f ps assign body) t h K := by
        rintro l h1 hent ⟨g, a, b, rfl, v, h2, ⟨N, hN⟩, ⟨st, x, tt, pp, aa, bb, dd, hgl, hst, hex⟩⟩
        have hk : K x t (h2.drop l) := mem_once (p := fun _ => True) (K := fun x => K x t (h2.drop l)) hex
        refine ⟨x, t, h2.drop l, ⟨N + 1, fun m hm n hn => ?_⟩, hk⟩
        obtain ⟨k, rfl⟩ : ∃ k, n = k + 1 := ⟨n - 1, by omega⟩
        have hN' := hN m (by omega)
        simp only [acode, hfv, hent, hN', hgl]
        rcases hst with rfl | rfl <;> rfl
      cases rd with
      | none => exact fin _ _ rfl hd
      | some ld =>
        obtain ⟨l0, d⟩ := ld
        obtain ⟨⟨st, x, t0, ps0, as0, bd0, hl⟩, hd⟩ := hd
        refine fin _ _ ?_ hd
        simp only [Option.map_some, aenter, hl]
    · exact hd.elim
  | _ => intro t h K hd; exact hd.elim

/-! ### Calls -/
theorem dresults_sound : ∀ (rs : List ResultVar) (t : Tmps) (h : AH) (K : List Value → Prop), dresults (PA P X LL) P rs t h K → ∃ vs, resultsL P t h rs = some vs ∧ K vs := by
  intro rs
  induction rs with
  | nil => intro t h K hd; exact ⟨[], rfl, hd⟩
  | cons r rs ih =>
    intro t h K hd
    cases r with
    | tmp i =>
      simp only [dresults] at hd
      split at hd
      · rename_i v hv
        obtain ⟨vs, h1, h2⟩ := ih _ _ _ hd
        exact ⟨_, by simp only [resultsL, results1, hv, h1], h2⟩
      · exact hd.elim
    | cell i ty =>
      simp only [dresults] at hd
      split at hd
      · rename_i p hp
        obtain ⟨a, rfl, hd⟩ := V.isSome_inv hd
        obtain ⟨v, hv, hd⟩ := dload_sound hd
        obtain ⟨vs, h1, h2⟩ := ih _ _ _ hd
        exact ⟨_, by simp only [resultsL, results1, hp, hv, h1], h2⟩
      · exact hd.elim

theorem aresults_ret {rs : List ResultVar} {t : Tmps} {h : AH} {vs : List Value} (hv : resultsL P t h rs = some vs) : aresults P rs t h = some (retV vs) := by
  unfold aresults
  rw [hv]
  rcases vs with _ | ⟨v, _ | ⟨w, l⟩⟩ <;> rfl

theorem acode_marks {C : CallFn} (hC : COnw C) (L : Lv) (rd : Option Nat) : ∀ (n : Nat) (c : Code) (t t' : Tmps) (h h' : AH) (x : AExit), hasRange c = false → acode P C L rd n c t h = some (x, t', h') → h'.marks = h.marks := by
  intro n
  induction n with
  | zero => intro c t t' h h' x _ ha; simp [acode] at ha
  | succ n ih =>
    intro c t t' h h' x hr ha
    cases c with
    | skip => simp only [acode] at ha; injection ha with ha; injection ha with e1 e2; injection e2 with e2 e3; rw [e3]
    | exit id => simp only [acode] at ha; injection ha with ha; injection ha with e1 e2; injection e2 with e2 e3; rw [e3]
    | ret => simp only [acode] at ha; injection ha with ha; injection ha with e1 e2; injection e2 with e2 e3; rw [e3]
    | region id ops b =>
      cases b with
      | false =>
        simp only [acode] at ha
        split at ha
        · rename_i t1 h1 hops
          injection ha with ha; injection ha with e1 e2; injection e2 with e2 e3; subst e3
          exact (aops_onw hC _ _ _ _ _ hops).marks
        · cases ha
      | true =>
        simp only [acode] at ha
        split at ha
        · rename_i t1 h1 hops
          injection ha with ha; injection ha with e1 e2; injection e2 with e2 e3; subst e3
          exact (adraw_onw hC hops).marks
        · cases ha
    | seq c1 c2 =>
      simp only [hasRange, Bool.or_eq_false_iff] at hr
      simp only [acode] at ha
      split at ha
      · rename_i t1 h1 hb
        exact (ih _ _ _ _ _ _ hr.2 ha).trans (ih _ _ _ _ _ _ hr.1 hb)
      · exact ih _ _ _ _ _ _ hr.1 ha
    | cond c1 x1 y1 =>
      simp only [hasRange, Bool.or_eq_false_iff] at hr
      simp only [acode] at ha
      split at ha
      · exact ih _ _ _ _ _ _ hr.1 ha
      · exact ih _ _ _ _ _ _ hr.2 ha
      · cases ha
    | block id body =>
      simp only [hasRange] at hr
      simp only [acode] at ha
      split at ha
      · rename_i i t1 h1 hb
        injection ha with ha; injection ha with e1 e2; injection e2 with e2 e3; subst e3
        exact ih _ _ _ _ _ _ hr hb
      · exact ih _ _ _ _ _ _ hr ha
    | loop body =>
      simp only [acode] at ha
      split at ha
      · rename_i t1 h1 hb
        exact (ih _ _ _ _ _ _ hr ha).trans (ih body _ _ _ _ _ hr hb)
      · exact ih body _ _ _ _ _ hr ha
    | rangeFunc g ps assign body => simp [hasRange] at hr
    | scope => simp [acode] at ha
    | label => simp [acode] at ha
    | goto => simp [acode] at ha
    | refuse => simp [acode] at ha

/-- A call, by what its code asks. -/
theorem dcall_sound (hX : ExtOk P X) {f : FuncId} (hf : X f = none) {args : List Value} {h : AH} {K : Value → AH → Prop} (hd : dcall (PA P X LL) P LL f args h.m0 (fun v h1 => K v (h1.mr h))) : RunsF P X LL (.fn f) args h K := by
  unfold dcall at hd
  split at hd
  · rename_i fn hfn
    split at hd
    · rename_i c hc
      cases hb : Nat.ble args.length fn.ntmps with
      | false => rw [hb] at hd; exact hd.elim
      | true =>
        rw [hb] at hd
        simp only [cond_true] at hd
        obtain ⟨x, t, h1, ⟨N, hN⟩, hk⟩ := dcode_sound (LL f) none _ _ _ _ hd
        have hcode : ∀ n, N ≤ n → acode P (acall P X LL n) (LL f) none n c (params 0 args .nil) { h with marks := [] } = some (x, t, h1) := fun n hn => hN n hn n hn
        have done : (∀ i, x ≠ .exit i) → (bif hasRange c then (PA P X LL).unmark h1 fun h2 => dresults (PA P X LL) P fn.results.toList t h2 fun vs => K (retV vs) (h2.mr h) else dresults (PA P X LL) P fn.results.toList t h1 fun vs => K (retV vs) (h1.mr h)) → RunsF P X LL (.fn f) args h K := by
          intro hx hk
          have key : ∃ h2, dropMarks h1.marks h1 = some h2 ∧ dresults (PA P X LL) P fn.results.toList t h2 fun vs => K (retV vs) (h2.mr h) := by
            cases hr : hasRange c with
            | true => rw [hr] at hk; exact hk
            | false =>
              rw [hr] at hk
              have hm : h1.marks = [] := (acode_marks (acall_onw hX LL N) (LL f) none _ _ _ _ _ _ _ hr (hcode N (Nat.le_refl _)))
              exact ⟨h1, by rw [hm]; rfl, hk⟩
          obtain ⟨h2, hdm, hk⟩ := key
          obtain ⟨vs, hv, hk⟩ := dresults_sound _ _ _ _ hk
          refine ⟨_, _, ⟨N + 1, fun n hn => ?_⟩, hk⟩
          obtain ⟨k, rfl⟩ : ∃ k, n = k + 1 := ⟨n - 1, by omega⟩
          have hc' := hcode k (by omega)
          simp only [acall, hf, hfn, hc, hb, cond_true]
          rw [hc']
          cases x with
          | normal => simp only [hdm, aresults_ret hv]; rfl
          | exit i => exact absurd rfl (hx i)
          | ret => simp only [hdm, aresults_ret hv]; rfl
        cases x with
        | normal => exact done (by intro i; exact fun e => by cases e) hk
        | exit i => exact hk.elim
        | ret => exact done (by intro i; exact fun e => by cases e) hk
    · exact hd.elim
  · exact hd.elim
end
end Go.Am

/- More time changes nothing: what a run gives with a bound, it gives with a greater one. -/
namespace Go.Am
open Go

section
variable {P : Program} {C C' : CallFn}

def CLe (C C' : CallFn) : Prop := ∀ tg args h r, C tg args h = some r → C' tg args h = some r

theorem aeff_mono (hC : CLe C C') {h : AH} {ev : Operand → Option Value} {evs : List Operand → Option (List Value)} {op : Op} {r : Value × AH} (ha : aeff P C h ev evs op = some r) : aeff P C' h ev evs op = some r := by
  cases op with
  | call c =>
    obtain ⟨callee, args, tys⟩ := c
    cases callee with
    | builtin b => cases b <;> exact ha
    | value f =>
      simp only [aeff] at ha ⊢
      split at ha
      · rename_i h1 h2; (try simp only [h1, h2]); exact hC _ _ _ _ ha
      · rename_i h1 h2; (try simp only [h1, h2]); exact hC _ _ _ _ ha
      · cases ha
    | invoke x n =>
      simp only [aeff] at ha ⊢
      split at ha
      · rename_i h1 h2
        (try simp only [h1, h2])
        split at ha
        · rename_i h3; (try simp only [h3]); exact hC _ _ _ _ ha
        · cases ha
      · cases ha
  | _ => exact ha
theorem aoper_mono (hC : CLe C C') {t : Tmps} {h : AH} {id : Option Nat} {op : Op} {r : Value × AH} (ha : aoper P C t h id op = some r) : aoper P C' t h id op = some r := by
  unfold aoper at ha ⊢
  split at ha
  · rename_i hc; (try simp only [hc]); exact ha
  · rename_i hc; (try simp only [hc]); exact ha
  · rename_i hc; (try simp only [hc]); exact ha
  · rename_i hc; (try simp only [hc]); exact aeff_mono hC ha
  · cases ha
theorem aops_mono (hC : CLe C C') {ops : Array Oper} : ∀ (l : List Oper) (t : Tmps) (h : AH) (r : Tmps × AH), aops P C ops l t h = some r → aops P C' ops l t h = some r := by
  intro l
  induction l with
  | nil => intro t h r ha; exact ha
  | cons o os ih =>
    intro t h r ha
    simp only [aops] at ha ⊢
    split at ha
    · rename_i hw
      (try simp only [hw])
      split at ha
      · rename_i h1; simp only [aoper_mono hC h1]; exact ih _ _ _ ha
      · cases ha
    · rename_i hw; (try simp only [hw]); exact ih _ _ _ ha
    · cases ha
theorem adraws_mono (hC : CLe C C') {ops : Array Oper} {base : Nat} : ∀ (l : List Oper) (k : Nat) (t : Tmps) (h : AH) (r : List Rec × Tmps × AH), adraws P C ops base k l t h = some r → adraws P C' ops base k l t h = some r := by
  intro l
  induction l with
  | nil => intro k t h r ha; exact ha
  | cons o os ih =>
    intro k t h r ha
    simp only [adraws] at ha ⊢
    split at ha
    · rename_i hw
      (try simp only [hw])
      split at ha
      · rename_i h1
        simp only [aoper_mono hC h1]
        split at ha
        · rename_i h2; simp only [ih _ _ _ _ h2]; exact ha
        · cases ha
      · cases ha
    · rename_i hw
      (try simp only [hw])
      split at ha
      · rename_i h2; simp only [ih _ _ _ _ h2]; exact ha
      · cases ha
    · cases ha
theorem adraw_mono (hC : CLe C C') {ops : Array Oper} {t : Tmps} {h : AH} {r : Tmps × AH} (ha : adraw P C ops t h = some r) : adraw P C' ops t h = some r := by
  unfold adraw at ha ⊢
  cases hs : statOk P ops with
  | false => rw [hs] at ha; cases ha
  | true =>
    rw [hs] at ha
    simp only [cond_true] at ha ⊢
    split at ha
    · rename_i h1; simp only [adraws_mono hC _ _ _ _ _ h1]; exact ha
    · cases ha

theorem acode_mono (hC : CLe C C') (L : Lv) (rd : Option Nat) : ∀ (n : Nat) (c : Code) (t : Tmps) (h : AH) (r : AExit × Tmps × AH), acode P C L rd n c t h = some r → ∀ m, n ≤ m → acode P C' L rd m c t h = some r := by
  intro n
  induction n with
  | zero => intro c t h r ha; simp [acode] at ha
  | succ n ih =>
    intro c t h r ha m hm
    obtain ⟨m, rfl⟩ : ∃ k, m = k + 1 := ⟨m - 1, by omega⟩
    have hm : n ≤ m := by omega
    cases c with
    | skip => exact ha
    | exit id => exact ha
    | ret => exact ha
    | region id ops b =>
      cases b with
      | false =>
        simp only [acode] at ha ⊢
        split at ha
        · rename_i h1; simp only [aops_mono hC _ _ _ _ h1]; exact ha
        · cases ha
      | true =>
        simp only [acode] at ha ⊢
        split at ha
        · rename_i h1; simp only [adraw_mono hC h1]; exact ha
        · cases ha
    | seq a b =>
      simp only [acode] at ha ⊢
      split at ha
      · rename_i h1; simp only [ih _ _ _ _ h1 m hm]; exact ih _ _ _ _ ha m hm
      · rename_i r0 hr0
        have := ih _ _ _ _ ha m hm
        rw [this]
        obtain ⟨x, t', h'⟩ := r
        cases x with
        | normal => exact absurd ha (hr0 _ _)
        | exit i => rfl
        | ret => rfl
    | cond c x y =>
      simp only [acode] at ha ⊢
      split at ha
      · rename_i h1; (try simp only [h1]); exact ih _ _ _ _ ha m hm
      · rename_i h1; (try simp only [h1]); exact ih _ _ _ _ ha m hm
      · cases ha
    | block id body =>
      simp only [acode] at ha ⊢
      split at ha
      · rename_i h1; simp only [ih _ _ _ _ h1 m hm]; exact ha
      · rename_i r0 hr0
        have := ih _ _ _ _ ha m hm
        rw [this]
        obtain ⟨x, t', h'⟩ := r
        cases x with
        | normal => rfl
        | exit i => exact absurd ha (hr0 _ _ _)
        | ret => rfl
    | loop body =>
      simp only [acode] at ha ⊢
      split at ha
      · rename_i h1; simp only [ih _ _ _ _ h1 m hm]; exact ih _ _ _ _ ha m hm
      · rename_i r0 hr0
        have := ih _ _ _ _ ha m hm
        rw [this]
        obtain ⟨x, t', h'⟩ := r
        cases x with
        | normal => exact absurd ha (hr0 _ _)
        | exit i => rfl
        | ret => rfl
    | rangeFunc f ps assign body =>
      simp only [acode] at ha ⊢
      split at ha
      · rename_i h1 h2
        (try simp only [h1, h2])
        split at ha
        · rename_i h3; simp only [hC _ _ _ _ h3]; exact ha
        · cases ha
      · cases ha
    | scope => simp [acode] at ha
    | label => simp [acode] at ha
    | goto => simp [acode] at ha
    | refuse => simp [acode] at ha

theorem acall_step {X : Ext} {LL : FuncId → Lv} : ∀ n, CLe (acall P X LL n) (acall P X LL (n + 1)) := by
  intro n
  induction n with
  | zero => intro tg args h r ha; simp [acall] at ha
  | succ n ih =>
    intro tg args h r ha
    cases tg with
    | fn f =>
      rw [acall] at ha ⊢
      split at ha
      · rename_i h1; (try simp only [h1]); exact ha
      · rename_i h1
        (try simp only [h1])
        split at ha
        · rename_i h2
          (try simp only [h2])
          split at ha
          · rename_i fn _ c h3
            (try simp only [h3])
            cases hb : Nat.ble args.length fn.ntmps with
            | false => rw [hb] at ha; cases ha
            | true =>
              rw [hb] at ha
              simp only [cond_true] at ha ⊢
              split at ha
              · cases ha
              · rename_i x t1 h1' hx h4
                simp only [acode_mono ih _ _ _ _ _ _ _ h4 (n + 1) (by omega)]
                cases x with
                | exit i => exact absurd rfl (hx i)
                | normal => exact ha
                | ret => exact ha
              · cases ha
          · cases ha
        · cases ha
    | yield l =>
      rw [acall] at ha ⊢
      split at ha
      · rename_i h1
        (try simp only [h1])
        split at ha
        · rename_i h2
          (try simp only [h2])
          split at ha
          · rename_i h3
            simp only [acode_mono ih _ _ _ _ _ _ _ h3 (n + 1) (by omega)]
            split at ha
            · rename_i h4
              (try simp only [h4])
              split at ha
              · rename_i h5
                simp only [acode_mono ih _ _ _ _ _ _ _ h5 (n + 1) (by omega)]
                exact ha
              · cases ha
            · cases ha
          · cases ha
        · cases ha
      · cases ha
theorem acall_mono {X : Ext} {LL : FuncId → Lv} {n : Nat} {tg : Tgt} {args : List Value} {h : AH} {r : Value × AH} (ha : acall P X LL n tg args h = some r) : ∀ m, n ≤ m → acall P X LL m tg args h = some r := by
  intro m hm
  obtain ⟨k, rfl⟩ : ∃ k, m = n + k := ⟨m - n, by omega⟩
  induction k with
  | zero => exact ha
  | succ k ih => exact acall_step _ _ _ _ _ (ih (by omega))
/-- What a run with some bound gives. -/
theorem RunsF.run {X : Ext} {LL : FuncId → Lv} {n : Nat} {tg : Tgt} {args : List Value} {h : AH} {r : Value × AH} {K : Value → AH → Prop} (ha : acall P X LL n tg args h = some r) (hk : K r.1 r.2) : RunsF P X LL tg args h K :=
  ⟨r.1, r.2, ⟨n, fun m hm => acall_mono ha m hm⟩, hk⟩
end
end Go.Am

