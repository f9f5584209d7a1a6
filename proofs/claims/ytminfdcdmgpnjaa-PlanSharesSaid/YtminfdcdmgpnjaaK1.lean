/- Values, blocks and a heap of plain data, and the run of a Go function's text over them (no memory of the machine in it): the definitions. -/
import Derived.Orders
import Derived.LoopN
import Derived.KernelRfl
import Derived.Below
set_option linter.unusedVariables false
set_option linter.unusedSimpArgs false
namespace Go.Proofs.Ytminfdcdmgpnjaa.K
open Go

/-! ### Values -/
inductive V where
  | undef
  | int (k : IntKind) (n : Int)
  | bool (b : Bool)
  | str (s : List Nat)
  | nilp
  | ptr (id off : Nat)
  | nils
  | sl (id off len es : Nat) (g : Bool)  -- g: it may grow in its place
  | nilm
  | map (id : Nat)
  | nilc
  | chan (id : Nat)
  | nilf
  | fn (f : FuncId) (caps : List V)
  | nili
  | iface (t : TypeId) (v : V)
  | agg (cs : List V)
  | tup (vs : List V)
  deriving Inhabited

def V.cells : V → List V
  | .agg l => l
  | v => [v]

/-- A value that fills one cell, and is known. -/
def V.one : V → Bool
  | .undef | .agg _ | .tup _ => false
  | _ => true

def ofCell : Value → V
  | .bool b => .bool b
  | .int k n => .int k n
  | .string s => .str (s.data.toList.map UInt8.toNat)
  | .pointer none => .nilp
  | .slice none 0 0 => .nils
  | .map none => .nilm
  | .chan none => .nilc
  | .nilFunc => .nilf
  | .nilIface => .nili
  | _ => .undef

def ofValue : Value → V
  | .agg cs => .agg (cs.toList.map ofCell)
  | v => ofCell v

/-! ### Blocks and the heap -/
inductive Blk where
  | row (cs : List V)
  | ro (cs : List V)
  | map (es : List (V × V))
  | chan (n : Nat)
  deriving Inhabited

def Blk.own : Blk → Bool
  | .ro _ => false
  | _ => true

/-- All but a read-only row without cells. -/
def Blk.real : Blk → Bool
  | .ro [] => false
  | _ => true

abbrev BL := List (Nat × Blk)

def lk : Nat → BL → Option Blk
  | _, [] => none
  | i, (j, b) :: r => cond (Nat.beq i j) (some b) (lk i r)

def upd : Nat → Blk → BL → BL
  | _, _, [] => []
  | i, b, (j, c) :: r => cond (Nat.beq i j) ((j, b) :: r) ((j, c) :: upd i b r)

def del : Nat → BL → BL
  | _, [] => []
  | i, (j, c) :: r => cond (Nat.beq i j) (del i r) ((j, c) :: del i r)

def keep : Nat → BL → BL
  | _, [] => []
  | n, (j, c) :: r => cond (Nat.blt j n) ((j, c) :: keep n r) (keep n r)

structure Heap where
  next : Nat
  bl : BL

abbrev Ans := Option (V × Heap)

def nth {α : Type} : List α → Nat → Option α
  | [], _ => none
  | c :: _, 0 => some c
  | _ :: cs, n + 1 => nth cs n

/-- Cells from a place on, written over. -/
def over : List V → List V → List V
  | l, [] => l
  | [], _ :: _ => []
  | _ :: l, c :: cs => c :: over l cs
def setAt : List V → Nat → List V → List V
  | l, 0, cs => over l cs
  | [], _ + 1, _ => []
  | x :: l, n + 1, cs => x :: setAt l n cs

def Heap.ldc (H : Heap) (id off : Nat) : Option V :=
  match lk id H.bl with
  | some (.row l) => nth l off
  | some (.ro l) => nth l off
  | _ => none

inductive Kd where
  | int (k : IntKind)
  | bool
  | str
  | oth
  | agg
  deriving DecidableEq, Inhabited

def ldI (H : Heap) (k : IntKind) (id off : Nat) : Option Int :=
  match H.ldc id off with
  | some (.int k' n) => cond (decide (k' = k)) (some n) none
  | _ => none
def ldB (H : Heap) (id off : Nat) : Option Bool :=
  match H.ldc id off with
  | some (.bool b) => some b
  | _ => none
def ldS (H : Heap) (id off : Nat) : Option (List Nat) :=
  match H.ldc id off with
  | some (.str s) => some s
  | _ => none
def ldV (H : Heap) (id off : Nat) : Option V :=
  match H.ldc id off with
  | some v => cond v.one (some v) none
  | none => none

/-- Cells loaded one by one, each by its kind. -/
def ldFlat (H : Heap) (id : Nat) : List Kd → Nat → (List V → Ans) → Ans
  | [], _, K => K []
  | .int k :: ks, off, K => (ldI H k id off).bind fun n => ldFlat H id ks (off + 1) fun l => K (.int k n :: l)
  | .bool :: ks, off, K => (ldB H id off).bind fun b => ldFlat H id ks (off + 1) fun l => K (.bool b :: l)
  | .str :: ks, off, K => (ldS H id off).bind fun s => ldFlat H id ks (off + 1) fun l => K (.str s :: l)
  | .oth :: ks, off, K => (ldV H id off).bind fun v => ldFlat H id ks (off + 1) fun l => K (v :: l)
  | .agg :: _, _, _ => none

/-- Bytes of a row: the numbers. -/
def bytesOf : List V → Nat → Nat → Option (List Nat)
  | _, _, 0 => some []
  | [], _, _ + 1 => none
  | .int .u8 n :: l, 0, m + 1 => (bytesOf l 0 m).map (n.toNat % 256 :: ·)
  | _ :: _, 0, _ + 1 => none
  | _ :: l, o + 1, m + 1 => bytesOf l o (m + 1)
def ldBytes (H : Heap) (id off len : Nat) : Option (List Nat) :=
  match lk id H.bl with
  | some (.row l) => bytesOf l off len
  | some (.ro l) => bytesOf l off len
  | _ => none

/-- Cells of a row, as they are. -/
def cutN (l : List V) (off n : Nat) : Option (List V) :=
  cond (Nat.ble (off + n) l.length && ((l.drop off).take n).all V.one) (some ((l.drop off).take n)) none
def ldN (H : Heap) (id off n : Nat) : Option (List V) :=
  match lk id H.bl with
  | some (.row l) => cutN l off n
  | some (.ro l) => cutN l off n
  | _ => none

def stN (H : Heap) (id off : Nat) (cs : List V) : Option Heap :=
  match lk id H.bl with
  | some (.row l) => cond (cs.all V.one && Nat.ble (off + cs.length) l.length) (some { H with bl := upd id (.row (setAt l off cs)) H.bl }) none
  | _ => none

def Heap.newAt (H : Heap) (id : Nat) (b : Blk) : Heap := { H with bl := (id, b) :: H.bl }
def Heap.new (H : Heap) (b : Blk) : Heap := ⟨H.next + 1, (H.next, b) :: H.bl⟩
def Heap.skip (H : Heap) (n : Nat) : Heap := { H with next := H.next + n }
def Heap.leave (H : Heap) (n : Nat) : Heap := { H with bl := keep n H.bl }

def V.eqb : V → V → Bool
  | .int k n, .int k' n' => decide (k = k') && decide (n = n')
  | .bool a, .bool b => a == b
  | .str a, .str b => decide (a = b)
  | .nilp, .nilp | .nils, .nils | .nilm, .nilm | .nilc, .nilc | .nilf, .nilf | .nili, .nili => true
  | .ptr a b, .ptr a' b' => Nat.beq a a' && Nat.beq b b'
  | .sl a b c d g, .sl a' b' c' d' g' => Nat.beq a a' && Nat.beq b b' && Nat.beq c c' && Nat.beq d d' && (g == g')
  | .map a, .map b | .chan a, .chan b => Nat.beq a b
  | _, _ => false

/-- A key in a map. -/
def keyEq : V → V → Option Bool
  | .int k a, .int k' b => cond (decide (k = k')) (some (a == b)) none
  | _, _ => none
def findM (k : V) : List (V × V) → Option (Option V)
  | [] => some none
  | (k', v) :: es => match keyEq k k' with
    | some true => some (some v)
    | some false => findM k es
    | none => none
def setM (k v : V) : List (V × V) → Option (List (V × V))
  | [] => some [(k, v)]
  | (k', v') :: es => match keyEq k k' with
    | some true => some ((k, v) :: es)
    | some false => (setM k v es).map ((k', v') :: ·)
    | none => none

/-! ### What an operation asks of the heap -/
/-- What kind of result a call gives. -/
inductive Rt where
  | one (k : Kd)
  | tup (ks : List Kd)

def asI {α : Type} (k : IntKind) (v : V) (K : Int → Option α) : Option α :=
  match v with
  | .int k' n => cond (decide (k' = k)) (K n) none
  | _ => none
def asB {α : Type} (v : V) (K : Bool → Option α) : Option α :=
  match v with
  | .bool b => K b
  | _ => none
def asS {α : Type} (v : V) (K : List Nat → Option α) : Option α :=
  match v with
  | .str s => K s
  | _ => none
def asA {α : Type} (v : V) (K : List V → Option α) : Option α :=
  match v with
  | .agg l => K l
  | _ => none
def asKd {α : Type} (k : Kd) (v : V) (K : V → Option α) : Option α :=
  match k with
  | .agg => asA v fun l => K (.agg l)
  | .int k => asI k v fun n => K (.int k n)
  | .bool => asB v fun b => K (.bool b)
  | .str => asS v fun s => K (.str s)
  | .oth => K v
def asL : List Kd → List V → (List V → Ans) → Ans
  | [], vs, K => match vs with
    | [] => K []
    | _ => none
  | k :: ks, vs, K => match vs with
    | v :: vs => asKd k v fun v' => asL ks vs fun l => K (v' :: l)
    | _ => none
def splitN : Nat → List V → (List V → Ans) → Ans
  | 0, vs, K => match vs with
    | [] => K []
    | _ => none
  | n + 1, vs, K => match vs with
    | v :: vs => splitN n vs fun l => K (v :: l)
    | _ => none
def asRt (rt : Rt) (v : V) (K : V → Ans) : Ans :=
  match rt with
  | .one k => asKd k v K
  | .tup ks => match v with
    | .tup vs => splitN ks.length vs fun l => asL ks l fun l' => K (.tup l')
    | _ => none

inductive Rq where
  | val (v : V)
  | ld (id off : Nat) (ks : List Kd) (agg : Bool)
  | bytes (id off len : Nat)
  | look (id : Nat) (k zero : V) (ok : Bool)
  | lenM (id : Nat)
  | lenC (id : Nat)
  | new (b : Blk) (mk : Nat → V)
  | st (id off : Nat) (cs : List V)
  | app (s x : V) (es : Nat)
  | cpy (d s : V) (es : Nat)
  | put (id : Nat) (k v : V)
  | call (f : FuncId) (vs : List V) (rt : Rt)

abbrev Orc := FuncId → List V → Heap → (V → Heap → Ans) → Ans
abbrev Tms := List V

def tget : Tms → Nat → V
  | [], _ => .undef
  | v :: _, 0 => v
  | _ :: l, n + 1 => tget l n
def tset : Tms → Nat → V → Tms
  | [], _, _ => []
  | _ :: l, 0, u => u :: l
  | v :: l, n + 1, u => v :: tset l n u

def ev (a : Tms) : Operand → V
  | .tmp t => tget a t
  | .const v => ofValue v
  | .func f => .fn f []
  | .global _ => .undef

/-- The kinds of a type's cells. -/
def flat (P : Program) : Nat → TypeId → List Kd
  | 0, _ => []
  | d + 1, t => match P.underlying t with
    | some (.int k) => [.int k]
    | some .bool => [.bool]
    | some .string => [.str]
    | some (.struct fs) => fs.toList.flatMap fun f => flat P d f.type
    | some (.array n e) => (List.replicate n (flat P d e)).flatten
    | some _ => [.oth]
    | none => []

def aggT (P : Program) (t : TypeId) : Bool :=
  match P.underlying t with
  | some (.struct _) | some (.array _ _) => true
  | _ => false

def zeroV (P : Program) (t : TypeId) : V :=
  match P.info? t with
  | some i => match i.zero with
    | some v => ofValue v
    | none => .undef
  | none => .undef

/-- The cells of a zero value. -/
def zeroL (P : Program) (t : TypeId) : Option (List V) :=
  match P.info? t with
  | some i => match i.zero with
    | some v => some (ofValue v).cells
    | none => none
  | none => none

def sz (P : Program) (t : TypeId) : Nat := P.cellsOf t

/-- Parts laid over cells. -/
def fillV (place : Nat → Option (Nat × Nat)) : List V → List (Nat × V) → Option (List V)
  | cells, [] => some cells
  | cells, (i, v) :: rest => match place i with
    | none => none
    | some (off, size) => cond (Nat.beq v.cells.length size && Nat.ble (off + size) cells.length && v.cells.all V.one) (fillV place (setAt cells off v.cells) rest) none

def fieldsOf (P : Program) (t : TypeId) : List (Nat × Nat) :=
  match P.underlying t with
  | some (.struct fs) => fs.toList.map fun f => (f.offset, sz P f.type)
  | _ => []

/-- Equality of flat cells, by their kinds. -/
def eqC : Kd → V → V → Option Bool
  | .int k0, .int k a, .int k' b => cond (decide (k = k0) && decide (k' = k0)) (some (a == b)) none
  | .bool, .bool a, .bool b => some (a == b)
  | .str, .str a, .str b => some (a == b)
  | _, _, _ => none
def eqFlat : List Kd → List V → List V → Option Bool
  | [], [], [] => some true
  | k :: ks, c :: cs, d :: ds => (eqC k c d).bind fun e => (eqFlat ks cs ds).map (e && ·)
  | _, _, _ => none

def eqFs (P : Program) (g : TypeId → Bool) : List Field → Nat → Nat → Bool
  | [], off, n => Nat.beq off n
  | f :: fs, off, n => Nat.beq f.offset off && decide (f.name ≠ "_") && g f.type && eqFs P g fs (off + sz P f.type) n
/-- A type whose cells are compared one by one. -/
def eqT (P : Program) : Nat → TypeId → Bool
  | 0, _ => false
  | d + 1, t => match P.underlying t with
    | some (.int _) | some .bool | some .string => Nat.beq (sz P t) 1
    | some (.struct fs) => !P.stoodInHeld t && eqFs P (eqT P d) fs.toList 0 (sz P t)
    | _ => false

def isKd (P : Program) (t : TypeId) : Option Kd :=
  match P.underlying t with
  | some (.int k) => some (.int k)
  | some .bool => some .bool
  | some .string => some .str
  | _ => none

def intOp (op : BinOp) (k : IntKind) (x y : Int) {α : Type} (K : Rq → Option α) : Option α :=
  match op with
  | .add => K (.val (.int k (k.wrap (x + y))))
  | .sub => K (.val (.int k (k.wrap (x - y))))
  | .mul => K (.val (.int k (k.wrap (x * y))))
  | .quo => cond (decide (y = 0)) none (K (.val (.int k (k.wrap (x.tdiv y)))))
  | .rem => cond (decide (y = 0)) none (K (.val (.int k (x.tmod y))))
  | .and => K (.val (.int k (k.wrap ((BitVec.ofInt k.bits x) &&& (BitVec.ofInt k.bits y)).toNat)))
  | .or => K (.val (.int k (k.wrap ((BitVec.ofInt k.bits x) ||| (BitVec.ofInt k.bits y)).toNat)))
  | .xor => K (.val (.int k (k.wrap ((BitVec.ofInt k.bits x) ^^^ (BitVec.ofInt k.bits y)).toNat)))
  | .eql => K (.val (.bool (x == y)))
  | .neq => K (.val (.bool (x != y)))
  | .lss => K (.val (.bool (decide (x < y))))
  | .leq => K (.val (.bool (decide (x ≤ y))))
  | .gtr => K (.val (.bool (decide (x > y))))
  | .geq => K (.val (.bool (decide (x ≥ y))))
  | _ => none

def shiftOp (op : BinOp) (k : IntKind) (x y : Int) {α : Type} (K : Rq → Option α) : Option α :=
  match op with
  | .shl => cond (decide (y < 0)) none (K (.val (.int k (k.wrap (x * 2 ^ (min y.toNat k.bits))))))
  | .shr => cond (decide (y < 0)) none (K (.val (.int k (x.fdiv (2 ^ (min y.toNat k.bits))))))
  | _ => none

def eqOp0 (P : Program) (t : TypeId) (neg : Bool) (x y : V) {α : Type} (K : Rq → Option α) : Option α :=
  match P.underlying t, x, y with
  | some .bool, .bool a, .bool b => K (.val (.bool (cond neg (!(a == b)) (a == b))))
  | some (.pointer _), .nilp, .nilp => K (.val (.bool (!neg)))
  | some (.pointer _), .nilp, .ptr _ _ => K (.val (.bool neg))
  | some (.pointer _), .ptr _ _, .nilp => K (.val (.bool neg))
  | some (.slice _), .nils, .nils => K (.val (.bool (!neg)))
  | some (.slice _), .nils, .sl _ _ _ _ _ => K (.val (.bool neg))
  | some (.slice _), .sl _ _ _ _ _, .nils => K (.val (.bool neg))
  | some (.struct _), .agg a, .agg b => cond (eqT P 20 t && !P.eqGuardType P.depth t) ((eqFlat (flat P 20 t) a b).bind fun r => K (.val (.bool (cond neg (!r) r)))) none
  | _, _, _ => none

def eqP {α : Type} (neg : Bool) (x y : V) (K : Bool → Option α) : Option α :=
  match x, y with
  | .nilp, .nilp => K (!neg)
  | .nilp, .ptr _ _ => K neg
  | .ptr _ _, .nilp => K neg
  | _, _ => none
def eqS {α : Type} (neg : Bool) (x y : V) (K : Bool → Option α) : Option α :=
  match x, y with
  | .nils, .nils => K (!neg)
  | .nils, .sl _ _ _ _ _ => K neg
  | .sl _ _ _ _ _, .nils => K neg
  | _, _ => none
def eqOp (P : Program) (t : TypeId) (neg : Bool) (x y : V) {α : Type} (K : Rq → Option α) : Option α :=
  match P.underlying t with
  | some .bool => match x, y with
    | .bool a, .bool b => K (.val (.bool (cond neg (!(a == b)) (a == b))))
    | _, _ => none
  | some (.pointer _) => eqP neg x y fun b => K (.val (.bool b))
  | some (.slice _) => eqS neg x y fun b => K (.val (.bool b))
  | some (.struct _) => match x, y with
    | .agg a, .agg b => cond (eqT P 20 t && !P.eqGuardType P.depth t) ((eqFlat (flat P 20 t) a b).bind fun r => K (.val (.bool (cond neg (!r) r)))) none
    | _, _ => none
  | _ => none

/-- Longer texts are not made. -/
def big : Nat := 1099511627776

def strOp (op : BinOp) (x y : List Nat) {α : Type} (K : Rq → Option α) : Option α :=
  match op with
  | .add => cond (Nat.ble (x.length + y.length) big) (K (.val (.str (x ++ y)))) none
  | .eql => K (.val (.bool (x == y)))
  | .neq => K (.val (.bool (!(x == y))))
  | _ => none

def binV0 (P : Program) (op : BinOp) (t : TypeId) (x y : V) {α : Type} (K : Rq → Option α) : Option α :=
  match x, y with
  | .int k a, .int k' b => match op with
    | .shl | .shr => shiftOp op k a b K
    | _ => cond (decide (k = k')) (intOp op k a b K) none
  | .str a, .str b => strOp op a b K
  | x, y => match op with
    | .eql => eqOp P t false x y K
    | .neq => eqOp P t true x y K
    | _ => none

def binV (P : Program) (op : BinOp) (t : TypeId) (x y : V) {α : Type} (K : Rq → Option α) : Option α :=
  match P.underlying t with
  | some (.int _) => match x, y with
    | .int k a, .int k' b => match op with
      | .shl | .shr => shiftOp op k a b K
      | _ => cond (decide (k = k')) (intOp op k a b K) none
    | _, _ => none
  | some .string => match x, y with
    | .str a, .str b => strOp op a b K
    | _, _ => none
  | _ => match op with
    | .eql => eqOp P t false x y K
    | .neq => eqOp P t true x y K
    | _ => none

def unV (op : UnOp) (x : V) {α : Type} (K : Rq → Option α) : Option α :=
  match op, x with
  | .neg, .int k n => K (.val (.int k (k.wrap (0 - n))))
  | .not, .bool b => K (.val (.bool (!b)))
  | _, _ => none

def isU8 (P : Program) (e : TypeId) : Bool :=
  match P.underlying e with
  | some (.int .u8) => true
  | _ => false

def asBy {α : Type} (x : V) (Kb : Nat → Nat → Nat → Option α) (K0 : Option α) : Option α :=
  match x with
  | .sl id off len es _ => cond (Nat.beq es 1) (Kb id off len) none
  | .nils => K0
  | _ => none
def convV (P : Program) (src dst : TypeId) (x : V) {α : Type} (K : Rq → Option α) : Option α :=
  match P.underlying src, P.underlying dst with
  | some (.slice e), some .string => cond (isU8 P e) (asBy x (fun id off len => K (.bytes id off len)) (K (.val (.str [])))) none
  | some _, some (.int k) => match x with
    | .int _ n => K (.val (.int k (k.wrap n)))
    | _ => none
  | some _, some .string => match x with
    | .str s => K (.val (.str s))
    | _ => none
  | _, _ => none

def bounds (n : Nat) (lo hi : Option V) {α : Type} (k : Nat → Nat → Option α) : Option α :=
  match lo, hi with
  | none, none => k 0 n
  | some (.int _ l), none => cond (decide (0 ≤ l) && decide (l ≤ n)) (k l.toNat n) none
  | none, some (.int _ h) => cond (decide (0 ≤ h) && decide (h ≤ n)) (k 0 h.toNat) none
  | some (.int _ l), some (.int _ h) => cond (decide (0 ≤ h) && decide (h ≤ n)) (cond (decide (0 ≤ l) && decide (l ≤ h)) (k l.toNat h.toNat) none) none
  | _, _ => none

def sliceV (P : Program) (t : TypeId) (x : V) (lo hi : Option V) {α : Type} (K : Rq → Option α) : Option α :=
  match P.underlying t, x with
  | some .string, .str s => bounds s.length lo hi fun l h => K (.val (.str ((s.drop l).take (h - l))))
  | some (.slice e), .sl id off len es g => cond (Nat.beq es (sz P e) && Nat.blt 0 (sz P e)) (bounds len lo hi fun l h => K (.val (.sl id (off + l * es) (h - l) es g))) none
  | some (.slice e), .nils => cond (Nat.blt 0 (sz P e)) (bounds 0 lo hi fun _ _ => K (.val .nils)) none
  | some (.array n e), .ptr id off => cond (Nat.blt 0 (sz P e)) (bounds n lo hi fun l h => K (.val (.sl id (off + l * sz P e) (h - l) (sz P e) false))) none
  | _, _ => none

def idxA (P : Program) (t : TypeId) (x i : V) {α : Type} (K : Rq → Option α) : Option α :=
  match P.underlying t, x, i with
  | some (.slice e), .sl id off len es _, .int _ i => cond (Nat.beq es (sz P e) && Nat.blt 0 (sz P e)) (cond (decide (0 ≤ i) && decide (i < len)) (K (.val (.ptr id (off + i.toNat * es)))) none) none
  | some (.array n e), .ptr id off, .int _ i => cond (decide (0 ≤ i) && decide (i < n) && Nat.blt 0 (sz P e)) (K (.val (.ptr id (off + i.toNat * sz P e)))) none
  | _, _, _ => none

def idxV (P : Program) (t : TypeId) (x i : V) {α : Type} (K : Rq → Option α) : Option α :=
  match P.underlying t, x, i with
  | some .string, .str s, .int _ i => cond (decide (0 ≤ i)) ((nth s i.toNat).bind fun c => K (.val (.int .u8 (Int.ofNat c)))) none
  | some (.array n e), .agg cs, .int _ i => cond (decide (0 ≤ i) && decide (i < n) && aggT P e && Nat.blt 0 (sz P e))
      (cond (Nat.ble ((i.toNat + 1) * sz P e) cs.length) (K (.val (.agg ((cs.drop (i.toNat * sz P e)).take (sz P e))))) none) none
  | _, _, _ => none

def kdOf (P : Program) (t : TypeId) : Kd :=
  match P.underlying t with
  | some (.int k) => .int k
  | some .bool => .bool
  | some .string => .str
  | some (.struct _) => .agg
  | some (.array _ _) => .agg
  | _ => .oth

def partV (P : Program) (t : TypeId) (cs : List V) (off : Nat) {α : Type} (K : Rq → Option α) : Option α :=
  cond (aggT P t) (cond (Nat.ble (off + sz P t) cs.length) (K (.val (.agg ((cs.drop off).take (sz P t))))) none) ((nth cs off).bind fun c => asKd (kdOf P t) c fun c' => K (.val c'))

def minV : V → List V → Option V
  | v, [] => some v
  | .int k x, .int k' y :: r => minV (.int k (if y < x then y else x)) r
  | _, _ => none
def maxV : V → List V → Option V
  | v, [] => some v
  | .int k x, .int k' y :: r => maxV (.int k (if y > x then y else x)) r
  | _, _ => none

def lenV (P : Program) (t : TypeId) (x : V) {α : Type} (K : Rq → Option α) : Option α :=
  match P.underlying t, x with
  | some .string, .str s => K (.val (.int .i64 (s.length : Int)))
  | some (.array n _), _ => K (.val (.int .i64 (n : Int)))
  | some (.slice _), .sl _ _ len _ _ => K (.val (.int .i64 (len : Int)))
  | some (.slice _), .nils => K (.val (.int .i64 0))
  | some (.map _ _), .map id => K (.lenM id)
  | some (.map _ _), .nilm => K (.val (.int .i64 0))
  | some (.chan _ _), .chan id => K (.lenC id)
  | _, _ => none

/-- Elements that can be appended: their zero is known, they are not large. -/
def appT (P : Program) (e : TypeId) : Bool :=
  Nat.blt 0 (sz P e) && Nat.ble (P.bytesOf e) 1024 && match zeroL P e with
    | some z => Nat.beq z.length (sz P e)
    | none => false

/-- Longer rows are not appended to. -/
def lim : Nat := 4294967296

def callB (P : Program) (b : Builtin) (ts : List TypeId) (vs : List V) {α : Type} (K : Rq → Option α) : Option α :=
  match b, ts, vs with
  | .len, t :: _, [x] => lenV P t x K
  | .min, _, v :: r => (minV v r).bind fun u => K (.val u)
  | .max, _, v :: r => (maxV v r).bind fun u => K (.val u)
  | .append, [t, t'], [s, x] => match P.underlying t, P.underlying t' with
    | some (.slice e), some (.slice _) => cond (appT P e) (K (.app s x (sz P e))) none
    | some (.slice e), some .string => cond (appT P e && Nat.beq (sz P e) 1) (K (.app s x 1)) none
    | _, _ => none
  | .copy, t :: _, [d, s] => match P.underlying t with
    | some (.slice e) => cond (Nat.blt 0 (sz P e)) (K (.cpy d s (sz P e))) none
    | _ => none
  | _, _, _ => none

def rtOf (P : Program) (t : TypeId) : Rt :=
  match P.underlying t with
  | some (.tuple ts) => .tup (ts.toList.map (kdOf P))
  | _ => .one (kdOf P t)

/-- What an operation asks, out of the temporaries alone. -/
def req (P : Program) (a : Tms) (o : Oper) {α : Type} (K : Rq → Option α) : Option α :=
  match o.op with
  | .move x => K (.val (ev a x))
  | .assign x => K (.val (ev a x))
  | .pick c x y => match ev a c with
    | .bool b => cond b (K (.val (ev a x))) (K (.val (ev a y)))
    | _ => none
  | .nilCheck x => match ev a x with
    | .ptr i f => K (.val (.ptr i f))
    | _ => none
  | .fieldAddr t x i => match ev a x, nth (fieldsOf P t) i with
    | .ptr id off, some (o, n) => cond (Nat.blt 0 n) (K (.val (.ptr id (off + o)))) none
    | _, _ => none
  | .field t x i => match ev a x, P.underlying t with
    | .agg cs, some (.struct fs) => match nth fs.toList i with
      | some f => cond (P.underlying f.type).isSome (partV P f.type cs f.offset K) none
      | none => none
    | _, _ => none
  | .load t x => match ev a x with
    | .ptr id off => cond (Nat.beq (flat P 20 t).length (sz P t)) (K (.ld id off (flat P 20 t) (aggT P t))) none
    | _ => none
  | .store t x v => match ev a x with
    | .ptr id off => cond (Nat.beq (ev a v).cells.length (sz P t) && Nat.blt 0 (sz P t)) (K (.st id off (ev a v).cells)) none
    | _ => none
  | .binOp op t x y _ => binV P op t (ev a x) (ev a y) K
  | .unOp op _ x => unV op (ev a x) K
  | .convert s d x => convV P s d (ev a x) K
  | .indexAddr t x i => idxA P t (ev a x) (ev a i) K
  | .index t x i => idxV P t (ev a x) (ev a i) K
  | .slice t x lo hi none => sliceV P t (ev a x) (lo.map (ev a)) (hi.map (ev a)) K
  | .extract x i => match ev a x with
    | .tup vs => (nth vs i).bind fun v => K (.val v)
    | _ => none
  | .build t ps => match P.underlying t with
    | some (.struct _) => cond ((fieldsOf P t).all fun p => Nat.blt 0 p.2) ((zeroL P t).bind fun z => (fillV (nth (fieldsOf P t)) z (ps.toList.map fun (i, x) => (i, ev a x))).bind fun l => K (.val (.agg l))) none
    | some (.array _ e) => cond (Nat.blt 0 (sz P e)) ((zeroL P t).bind fun z => (fillV (fun i => some (i * sz P e, sz P e)) z (ps.toList.map fun (i, x) => (i, ev a x))).bind fun l => K (.val (.agg l))) none
    | _ => none
  | .alloc t => (zeroL P t).bind fun l => K (.new (.row l) fun id => .ptr id 0)
  | .box t x => cond ((ev a x).cells.all V.one) (K (.new (.row (ev a x).cells) fun id => .ptr id 0)) none
  | .buildSlice t n ps => match P.underlying t with
    | some (.slice e) => cond (Nat.blt 0 (n * sz P e) && Nat.ble (n * sz P e) 65536)
        ((zeroL P e).bind fun z => cond (Nat.beq z.length (sz P e)) ((fillV (fun i => some (i * sz P e, sz P e)) (List.replicate n z).flatten (ps.toList.map fun (i, x) => (i, ev a x))).bind fun l =>
          K (.new (.row l) fun id => .sl id 0 n (sz P e) true)) none) none
    | _ => none
  | .makeSlice t l c => match P.underlying t, ev a l, ev a c with
    | some (.slice e), .int _ l, .int _ c => cond (decide (0 ≤ l) && decide (l ≤ c) && decide (c ≤ 4294967296) && Nat.ble (P.bytesOf e) 1024 && Nat.blt 0 (sz P e))
        ((zeroL P e).bind fun z => cond (Nat.beq z.length (sz P e)) (K (.new (.row (List.replicate l.toNat z).flatten) fun id => .sl id 0 l.toNat (sz P e) true)) none) none
    | _, _, _ => none
  | .makeFunc (.func f) fst caps => cond (Nat.beq fst.size 0) (K (.val (.fn f (caps.toList.map (ev a))))) none
  | .makeMap _ none => K (.new (.map []) fun id => .map id)
  | .makeChan t n => match P.underlying t, ev a n with
    | some (.chan _ e), .int _ n => cond (decide (0 ≤ n) && decide (n ≤ 4096) && Nat.ble (P.bytesOf e) 1024 && (P.info? e).isSome) (K (.new (.chan 0) fun id => .chan id)) none
    | _, _ => none
  | .lookup t x k ok => match P.underlying t, ev a x with
    | some (.map kt e), .map id => match isKd P kt with
      | some (.int _) => cond (zeroV P e).one (K (.look id (ev a k) (zeroV P e) ok)) none
      | _ => none
    | _, _ => none
  | .mapUpdate t m k v => match P.underlying t, ev a m with
    | some (.map kt _), .map id => match isKd P kt with
      | some (.int _) => K (.put id (ev a k) (ev a v))
      | _ => none
    | _, _ => none
  | .call c => match c.callee with
    | .value f => match ev a f with
      | .fn f caps => K (.call f (c.args.toList.map (ev a) ++ caps) (rtOf P o.type))
      | _ => none
    | .builtin b => callB P b c.argTypes.toList (c.args.toList.map (ev a)) K
    | _ => none
  | _ => none

/-- A slice's cells, to be read: of a row, or a string's bytes. -/
def srcCells (H : Heap) (x : V) (es n : Nat) : Option (List V) :=
  match x with
  | .nils => some []
  | .sl id off _ es' _ => cond (Nat.beq es es') (ldN H id off (n * es)) none
  | .str s => cond (Nat.beq es 1) (some ((s.take n).map fun b : Nat => .int .u8 (Int.ofNat b))) none
  | _ => none
def lenOfV : V → Nat
  | .sl _ _ n _ _ => n
  | .str s => s.length
  | _ => 0

/-- A row of one's own, taken whole for an append: its first cells; it is gone. -/
def takeRow (H : Heap) (id len es : Nat) : Option (List V) :=
  match lk id H.bl with
  | some (.row l) => cond (Nat.ble (len * es) l.length) (some (l.take (len * es))) none
  | _ => none

/-- What is asked is done. slot: the number that a new block gets (none: the next one). -/
def exec (orc : Orc) (slot : Option Nat) (H : Heap) (K : V → Heap → Ans) : Rq → Ans
  | .val v => K v H
  | .ld id off ks ag => ldFlat H id ks off fun l => match ag with
    | true => K (.agg l) H
    | false => match l with
      | [v] => K v H
      | _ => none
  | .bytes id off len => (ldBytes H id off len).bind fun s => K (.str s) H
  | .look id k zero ok => match lk id H.bl with
    | some (.map es) => (findM k es).bind fun r => match ok with
      | true => K (.tup [r.getD zero, .bool r.isSome]) H
      | false => K (r.getD zero) H
    | _ => none
  | .lenM id => match lk id H.bl with
    | some (.map es) => K (.int .i64 (es.length : Int)) H
    | _ => none
  | .lenC id => match lk id H.bl with
    | some (.chan n) => K (.int .i64 (n : Int)) H
    | _ => none
  | .new b mk => match slot with
    | none => K (mk H.next) (H.new b)
    | some id => K (mk id) (H.newAt id b)
  | .st id off cs => (stN H id off cs).bind fun H' => K .undef H'
  | .app s x es => (srcCells H x es (lenOfV x)).bind fun xs => match s with
    | .nils => match xs with
      | [] => K .nils H
      | _ :: _ => cond (Nat.ble (lenOfV x) lim) (K (.sl H.next 0 (lenOfV x) es true) (H.new (.row xs))) none
    | .sl id 0 len es' true => cond (Nat.beq es es' && Nat.ble (len + lenOfV x) lim) ((takeRow H id len es).bind fun l =>
        K (.sl H.next 0 (len + lenOfV x) es true) ⟨H.next + 1, (H.next, .row (l ++ xs)) :: del id H.bl⟩) none
    | _ => none
  | .cpy d s es => match d with
    | .sl id off len es' _ => cond (Nat.beq es es') ((srcCells H s es (min (lenOfV s) len)).bind fun xs => (stN H id off xs).bind fun H' => K (.int .i64 ((min (lenOfV s) len : Nat) : Int)) H') none
    | _ => none
  | .put id k v => match lk id H.bl with
    | some (.map es) => cond (k.one && v.one) ((setM k v es).bind fun es' => K .undef { H with bl := upd id (.map es') H.bl }) none
    | _ => none
  | .call f vs rt => orc f vs H fun v H' => asRt rt v fun v' => K v' H'

/-! ### A region -/
def putD (a : Tms) (d : Option Tmp) (v : V) : Tms :=
  match d with
  | some d => tset a d v
  | none => a

/-- One operation, its guard asked. dstOf: what the operation at a place writes. -/
def step1 (P : Program) (orc : Orc) (ops : List Oper) (slot : Option Nat) (o : Oper) (a : Tms) (H : Heap) (K : Tms → Heap → Ans) : Ans :=
  match o.guard with
  | none => req P a o (exec orc slot H fun v H' => K (putD a o.dst v) H')
  | some (j, want) => match (nth ops j).bind (·.dst) with
    | none => none
    | some t => match tget a t with
      | .bool b => cond b
          (cond want (req P (tset a t (.bool true)) o (exec orc slot H fun v H' => K (putD (tset a t (.bool true)) o.dst v) H')) (K (putD (tset a t (.bool true)) o.dst (.tup [])) H))
          (cond want (K (putD (tset a t (.bool false)) o.dst (.tup [])) H) (req P (tset a t (.bool false)) o (exec orc slot H fun v H' => K (putD (tset a t (.bool false)) o.dst v) H')))
      | .tup [] => K (putD a o.dst (.tup [])) H
      | _ => none

/-- The operations in the order of the text. -/
def runOps (P : Program) (orc : Orc) (ops : List Oper) : List Oper → Tms → Heap → (Tms → Heap → Ans) → Ans
  | [], a, H, K => K a H
  | o :: r, a, H, K => step1 P orc ops none o a H fun a' H' => runOps P orc ops r a' H' K

end Go.Proofs.Ytminfdcdmgpnjaa.K
