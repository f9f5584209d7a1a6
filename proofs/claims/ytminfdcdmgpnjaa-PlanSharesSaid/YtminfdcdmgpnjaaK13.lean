/- A region whose order is open: its run over the blocks, in one order, with checks that no other order shows. -/
import Derived.Test.YtminfdcdmgpnjaaK12
set_option linter.unusedVariables false
set_option linter.unusedSimpArgs false
namespace Go.Proofs.Ytminfdcdmgpnjaa.K
open Go

mutual
/-- The same value, known to be so. -/
def V.same : V → V → Bool
  | .int k n, b => match b with | .int k' n' => decide (k = k') && decide (n = n') | _ => false
  | .bool a, b => match b with | .bool b => a == b | _ => false
  | .str a, b => match b with | .str b => decide (a = b) | _ => false
  | .nilp, b => match b with | .nilp => true | _ => false
  | .nils, b => match b with | .nils => true | _ => false
  | .nilm, b => match b with | .nilm => true | _ => false
  | .nilc, b => match b with | .nilc => true | _ => false
  | .nilf, b => match b with | .nilf => true | _ => false
  | .nili, b => match b with | .nili => true | _ => false
  | .ptr i o, b => match b with | .ptr i' o' => Nat.beq i i' && Nat.beq o o' | _ => false
  | .sl i o n s g, b => match b with | .sl i' o' n' s' g' => Nat.beq i i' && Nat.beq o o' && Nat.beq n n' && Nat.beq s s' && (g == g') | _ => false
  | .map i, b => match b with | .map i' => Nat.beq i i' | _ => false
  | .chan i, b => match b with | .chan i' => Nat.beq i i' | _ => false
  | .agg l, b => match b with | .agg l' => sameL l l' | _ => false
  | .tup l, b => match b with | .tup l' => sameL l l' | _ => false
  | _, _ => false
def sameL : List V → List V → Bool
  | [], b => match b with | [] => true | _ => false
  | x :: l, b => match b with | y :: l' => V.same x y && sameL l l' | _ => false
end

mutual
theorem V.same_eq : ∀ {a b : V}, V.same a b = true → a = b
  | .int k n, b, h => by cases b <;> simp_all [V.same]
  | .bool a, b, h => by cases b <;> simp_all [V.same]
  | .str a, b, h => by cases b <;> simp_all [V.same]
  | .nilp, b, h => by cases b <;> simp_all [V.same]
  | .nils, b, h => by cases b <;> simp_all [V.same]
  | .nilm, b, h => by cases b <;> simp_all [V.same]
  | .nilc, b, h => by cases b <;> simp_all [V.same]
  | .nilf, b, h => by cases b <;> simp_all [V.same]
  | .nili, b, h => by cases b <;> simp_all [V.same]
  | .ptr i o, b, h => by cases b <;> simp_all [V.same]
  | .sl i o n s g, b, h => by cases b <;> simp_all [V.same]
  | .map i, b, h => by cases b <;> simp_all [V.same]
  | .chan i, b, h => by cases b <;> simp_all [V.same]
  | .agg l, b, h => by
    cases b <;> simp only [V.same] at h <;> first | cases h | exact congrArg _ (sameL_eq h)
  | .tup l, b, h => by
    cases b <;> simp only [V.same] at h <;> first | cases h | exact congrArg _ (sameL_eq h)
  | .undef, b, h => by simp [V.same] at h
  | .fn _ _, b, h => by simp [V.same] at h
  | .iface _ _, b, h => by simp [V.same] at h
theorem sameL_eq : ∀ {a b : List V}, sameL a b = true → a = b
  | [], b, h => by cases b <;> simp_all [sameL]
  | x :: l, b, h => by
    cases b with
    | nil => simp [sameL] at h
    | cons y l' =>
      simp only [sameL, Bool.and_eq_true] at h
      rw [V.same_eq h.1, sameL_eq h.2]
end

/-- The operations before each, as numbers whose bits are they. -/
def befores (ops : List Oper) : List Nat → List Oper → List Nat
  | acc, [] => acc
  | acc, o :: r => befores ops (acc ++ [o.after.toList.foldl (fun s e => cond (Region.binds .any e) (s ||| 2 ^ e.on ||| (nth acc e.on).getD 0) s) 0]) r

/-- Temporaries that an operation looks at. -/
def looks (ops : List Oper) (o : Oper) : List Tmp :=
  (o.op.operands.toList.filterMap fun x => match x with | .tmp t => some t | _ => none) ++
  (match o.guard with
   | some (g, _) => ((nth ops g).bind (·.dst)).toList
   | none => [])

/-- The number of the operation that writes a temporary. -/
def writer (ops : List Oper) (t : Tmp) : Option Nat := ops.findIdx? fun o => o.dst == some t

/-- What must hold of a region for its run in one order to tell of all: edges go back, each temporary is written once, what is looked at was written before; the order is one of all. -/
def regionOk (ops : List Oper) (bf : List Nat) (π : List Nat) : Bool :=
  Nat.beq bf.length ops.length &&
  (ops.zipIdx.all fun (o, i) => o.after.toList.all fun e => !Region.binds .any e || Nat.blt e.on i) &&
  (ops.zipIdx.all fun (o, i) => match o.dst with
    | some d => writer ops d == some i
    | none => true) &&
  (ops.zipIdx.all fun (o, i) => (looks ops o).all fun t => match writer ops t with
    | some j => ((nth bf i).getD 0).testBit j || ((nth bf j).getD 0).testBit i
    | none => true) &&
  Nat.beq π.length ops.length && ((List.range ops.length).all fun i => π.elem i)

/-- What was read is read again behind a change. L: the reads done; b: what the change must come behind. -/
def again (H : Heap) (b : Nat) : List (Nat × Rq × V) → Ans → Ans
  | [], K => K
  | (j, rq, v) :: L, K => cond (b.testBit j) (again H b L K) (exec (fun _ _ _ _ => none) none H (fun v' _ => cond (V.same v v') (again H b L K) none) rq)

def heavy (o : Oper) : Bool :=
  match o.op with
  | .store .. | .mapUpdate .. | .call _ => true
  | _ => false

structure DSt where
  a : Tms
  G : Heap
  N : BL
  L : List (Nat × Rq × V)
  done : Nat
  hm : Nat
  nm : Nat

/-- What is asked, in a region whose order is open. -/
def askD (orc : Orc) (base i b : Nat) (o : Oper) (s : DSt) (K : DSt → Ans) : Rq → Ans
  | .val v => K { s with a := putD s.a o.dst v, done := s.done ||| 2 ^ i }
  | .new bk mk => K { s with a := putD s.a o.dst (mk (base + i)), N := (base + i, bk) :: s.N, done := s.done ||| 2 ^ i, nm := s.nm ||| 2 ^ i }
  | rq => cond rq.reads
      (cond (Nat.beq (s.hm &&& b) s.hm) (exec orc none s.G (fun v _ => K { s with a := putD s.a o.dst v, L := (i, rq, v) :: s.L, done := s.done ||| 2 ^ i }) rq) none)
      (cond (heavy o && Nat.beq (s.hm &&& b) s.hm && Nat.beq (s.nm &&& b) s.nm)
        (exec orc none ⟨s.G.next, s.N ++ s.G.bl⟩ (fun v H' => again H' b s.L (K { s with a := putD s.a o.dst v, G := H', N := [], done := s.done ||| 2 ^ i, hm := s.hm ||| 2 ^ i, nm := 0 })) rq) none)

def stepD (P : Program) (orc : Orc) (ops : List Oper) (base i b : Nat) (o : Oper) (s : DSt) (K : DSt → Ans) : Ans :=
  cond (Nat.beq (s.done &&& b) b && !s.done.testBit i)
    (match o.guard with
      | none => req P s.a o (askD orc base i b o s K)
      | some (j, want) => match (nth ops j).bind (·.dst) with
        | none => none
        | some t => match tget s.a t with
          | .bool v => cond v
              (cond want (req P (tset s.a t (.bool true)) o (askD orc base i b o { s with a := tset s.a t (.bool true) } K)) (K { s with a := putD (tset s.a t (.bool true)) o.dst (.tup []), done := s.done ||| 2 ^ i }))
              (cond want (K { s with a := putD (tset s.a t (.bool false)) o.dst (.tup []), done := s.done ||| 2 ^ i }) (req P (tset s.a t (.bool false)) o (askD orc base i b o { s with a := tset s.a t (.bool false) } K)))
          | .tup [] => K { s with a := putD s.a o.dst (.tup []), done := s.done ||| 2 ^ i }
          | _ => none)
    none

def goD (P : Program) (orc : Orc) (ops : List Oper) (bf : List Nat) (base : Nat) : List Nat → DSt → (DSt → Ans) → Ans
  | [], s, K => K s
  | i :: π, s, K => match nth ops i, nth bf i with
    | some o, some b => stepD P orc ops base i b o s fun s' => goD P orc ops bf base π s' K
    | _, _ => none

def runD (P : Program) (orc : Orc) (ops : List Oper) (π : List Nat) (a : Tms) (H : Heap) (K : Tms → Heap → Ans) : Ans :=
  cond (regionOk ops (befores ops [] ops) π)
    (goD P orc ops (befores ops [] ops) H.next π ⟨a, H.skip ops.length, [], [], 0, 0, 0⟩ fun s => K s.a ⟨s.G.next, s.N ++ s.G.bl⟩)
    none

end Go.Proofs.Ytminfdcdmgpnjaa.K
