/- Words for the printed runs. -/
import Derived.Test.YtminfdcdmgpnjaaK16
set_option linter.unusedVariables false
set_option linter.unusedSimpArgs false
namespace Go.Proofs.Ytminfdcdmgpnjaa.K
open Go

def newB (H : Heap) (b : Blk) (K : Nat → Heap → Ans) : Ans := K H.next (H.new b)
def asP (x : V) (K : Nat → Nat → Ans) : Ans :=
  match x with
  | .ptr i o => K i o
  | _ => none
def asT0 (x : V) (K : Ans) : Ans :=
  match x with
  | .tup [] => K
  | _ => none
def asT2 (x : V) (K : V → V → Ans) : Ans :=
  match x with
  | .tup [a, b] => K a b
  | _ => none
def asT3 (x : V) (K : V → V → V → Ans) : Ans :=
  match x with
  | .tup [a, b, c] => K a b c
  | _ => none
def idxS (sz : Nat) (x : V) (i : Int) (K : Nat → Nat → Ans) : Ans :=
  match x with
  | .sl id off len es _ => cond (Nat.beq es sz && Nat.blt 0 sz) (cond (decide (0 ≤ i) && decide (i < len)) (K id (off + i.toNat * es)) none) none
  | _ => none
def slS (sz : Nat) (x : V) (lo hi : Option V) (K : V → Ans) : Ans :=
  match x with
  | .sl id off len es g => cond (Nat.beq es sz && Nat.blt 0 sz) (bounds len lo hi fun l h => K (.sl id (off + l * es) (h - l) es g)) none
  | .nils => cond (Nat.blt 0 sz) (bounds 0 lo hi fun _ _ => K .nils) none
  | _ => none
def lenS (x : V) (K : Int → Ans) : Ans :=
  match x with
  | .sl _ _ len _ _ => K (len : Int)
  | .nils => K 0
  | _ => none
def bytesV (H : Heap) (x : V) (K : List Nat → Ans) : Ans := asBy x (fun id off len => (ldBytes H id off len).bind K) (K [])
def appV (H : Heap) (s x : V) (es : Nat) (K : V → Heap → Ans) : Ans := exec (fun _ _ _ _ => none) none H K (.app s x es)
def cpyV (H : Heap) (d s : V) (es : Nat) (K : Int → Heap → Ans) : Ans :=
  match d with
  | .sl id off len es' _ => cond (Nat.beq es es') ((srcCells H s es (min (lenOfV s) len)).bind fun xs => (stN H id off xs).bind fun H' => K ((min (lenOfV s) len : Nat) : Int) H') none
  | _ => none
def callV (orc : Orc) (f : V) (vs : List V) (H : Heap) (K : V → Heap → Ans) : Ans :=
  match f with
  | .fn g caps => orc g (vs ++ caps) H K
  | _ => none

def asM (x : V) (K : Nat → Ans) : Ans :=
  match x with
  | .map i => K i
  | _ => none
def asC (x : V) (K : Nat → Ans) : Ans :=
  match x with
  | .chan i => K i
  | _ => none
def lookM (H : Heap) (id : Nat) (k : V) (K : Option V → Ans) : Ans :=
  match lk id H.bl with
  | some (.map es) => (findM k es).bind K
  | _ => none
def lenCh (H : Heap) (id : Nat) (K : Int → Ans) : Ans :=
  match lk id H.bl with
  | some (.chan n) => K (n : Int)
  | _ => none
def putM (H : Heap) (id : Nat) (k v : V) (K : Heap → Ans) : Ans :=
  match lk id H.bl with
  | some (.map es) => cond (k.one && v.one) ((setM k v es).bind fun es' => K { H with bl := upd id (.map es') H.bl }) none
  | _ => none

end Go.Proofs.Ytminfdcdmgpnjaa.K
