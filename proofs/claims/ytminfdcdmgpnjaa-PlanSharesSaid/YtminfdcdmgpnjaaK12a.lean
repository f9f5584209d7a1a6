/- What an operation asks does not depend on who is told. -/
import Derived.Test.YtminfdcdmgpnjaaK11
set_option linter.unusedVariables false
set_option linter.unusedSimpArgs false
namespace Go.Proofs.Ytminfdcdmgpnjaa.K
open Go

theorem cond_bind {α β : Type} (c : Bool) (x y : Option α) (K : α → Option β) : (cond c x y).bind K = cond c (x.bind K) (y.bind K) := by cases c <;> rfl
theorem bind_bind {α β γ : Type} (x : Option α) (f : α → Option β) (g : β → Option γ) : (x.bind f).bind g = x.bind fun a => (f a).bind g := by cases x <;> rfl

section
variable {α : Type} (K : Rq → Option α) {P : Program}

theorem intOp_one (op : BinOp) (k : IntKind) (x y : Int) : intOp op k x y K = (intOp op k x y some).bind K := by
  unfold intOp
  split <;> simp [cond_bind]
theorem shiftOp_one (op : BinOp) (k : IntKind) (x y : Int) : shiftOp op k x y K = (shiftOp op k x y some).bind K := by
  unfold shiftOp
  split <;> simp [cond_bind]
theorem strOp_one (op : BinOp) (x y : List Nat) : strOp op x y K = (strOp op x y some).bind K := by
  unfold strOp
  split <;> simp [cond_bind]
theorem eqP_one {α β : Type} (neg : Bool) (x y : V) (F : Bool → Option α) (K : α → Option β) : (eqP neg x y F).bind K = eqP neg x y fun b => (F b).bind K := by
  unfold eqP; split <;> rfl
theorem eqS_one {α β : Type} (neg : Bool) (x y : V) (F : Bool → Option α) (K : α → Option β) : (eqS neg x y F).bind K = eqS neg x y fun b => (F b).bind K := by
  unfold eqS; split <;> rfl
theorem eqOp_one (t : TypeId) (neg : Bool) (x y : V) : eqOp P t neg x y K = (eqOp P t neg x y some).bind K := by
  unfold eqOp
  split
  · split <;> rfl
  · rw [eqP_one]; rfl
  · rw [eqS_one]; rfl
  · split <;> simp [cond_bind, bind_bind]
  · rfl
theorem binV_one (op : BinOp) (t : TypeId) (x y : V) : binV P op t x y K = (binV P op t x y some).bind K := by
  unfold binV
  split
  · split
    · split
      · exact shiftOp_one K ..
      · exact shiftOp_one K ..
      · rw [cond_bind, ← intOp_one]; rfl
    · rfl
  · split
    · exact strOp_one K ..
    · rfl
  · split
    · exact eqOp_one K ..
    · exact eqOp_one K ..
    · rfl
theorem unV_one (op : UnOp) (x : V) : unV op x K = (unV op x some).bind K := by
  unfold unV
  split <;> rfl
theorem convV_one (s d : TypeId) (x : V) : convV P s d x K = (convV P s d x some).bind K := by
  have hb : ∀ (a : Nat → Nat → Nat → Rq) (b : Rq), asBy x (fun i o l => K (a i o l)) (K b) = (asBy x (fun i o l => some (a i o l)) (some b)).bind K := by
    intro a b
    unfold asBy
    split <;> simp [cond_bind]
  unfold convV
  split
  · rw [hb]; simp [cond_bind]
  · split <;> simp
  · split <;> simp
  · rfl
theorem bounds_one (n : Nat) (lo hi : Option V) (k : Nat → Nat → Rq) : bounds n lo hi (fun l h => K (k l h)) = (bounds n lo hi (fun l h => some (k l h))).bind K := by
  unfold bounds
  split <;> simp [cond_bind]
theorem sliceV_one (t : TypeId) (x : V) (lo hi : Option V) : sliceV P t x lo hi K = (sliceV P t x lo hi some).bind K := by
  unfold sliceV
  split
  · exact bounds_one K _ _ _ fun l h => .val (.str _)
  · rw [cond_bind, ← bounds_one K]; rfl
  · rw [cond_bind, ← bounds_one K]; rfl
  · rw [cond_bind, ← bounds_one K]; rfl
  · rfl
theorem idxA_one (t : TypeId) (x i : V) : idxA P t x i K = (idxA P t x i some).bind K := by
  unfold idxA
  split <;> simp [cond_bind]
theorem idxV_one (t : TypeId) (x i : V) : idxV P t x i K = (idxV P t x i some).bind K := by
  unfold idxV
  split <;> simp [cond_bind, bind_bind]
theorem asKd_bind {α β : Type} (k : Kd) (v : V) (F : V → Option α) (K : α → Option β) : (asKd k v F).bind K = asKd k v fun v' => (F v').bind K := by
  cases k <;> simp only [asKd, asI, asB, asS, asA] <;> split <;> simp [cond_bind]
theorem partV_one (t : TypeId) (cs : List V) (off : Nat) : partV P t cs off K = (partV P t cs off some).bind K := by
  unfold partV
  simp [cond_bind, bind_bind, asKd_bind]
theorem lenV_one (t : TypeId) (x : V) : lenV P t x K = (lenV P t x some).bind K := by
  unfold lenV
  split <;> rfl
theorem callB_one (b : Builtin) (ts : List TypeId) (vs : List V) : callB P b ts vs K = (callB P b ts vs some).bind K := by
  unfold callB
  split
  · exact lenV_one K ..
  · simp [bind_bind]
  · simp [bind_bind]
  · split <;> simp [cond_bind]
  · split <;> simp [cond_bind]
  · rfl

theorem req_one (a : Tms) (o : Oper) : req P a o K = (req P a o some).bind K := by
  unfold req
  split
  · rfl
  · rfl
  · split <;> simp [cond_bind]
  · split <;> rfl
  · split <;> simp [cond_bind]
  · split
    · split
      · rw [cond_bind, ← partV_one]; rfl
      · rfl
    · rfl
  · split <;> simp [cond_bind]
  · split <;> simp [cond_bind]
  · exact binV_one K ..
  · exact unV_one K ..
  · exact convV_one K ..
  · exact idxA_one K ..
  · exact idxV_one K ..
  · exact sliceV_one K ..
  · split <;> simp [bind_bind]
  · split <;> simp [cond_bind, bind_bind]
  · simp [bind_bind]
  · simp [cond_bind]
  · split <;> simp [cond_bind, bind_bind]
  · split <;> simp [cond_bind, bind_bind]
  · simp [cond_bind]
  · rfl
  · split <;> simp [cond_bind]
  · split
    · split <;> simp [cond_bind]
    · rfl
  · split
    · split <;> rfl
    · rfl
  · split
    · split <;> rfl
    · exact callB_one K ..
    · rfl
  · rfl

end

/-- One request, whoever is told. -/
theorem req_rq {α : Type} {P : Program} {a : Tms} {o : Oper} {K : Rq → Option α} {r : α} (h : req P a o K = some r) : ∃ rq, req P a o some = some rq ∧ K rq = some r := by
  rw [req_one] at h
  exact Option.bind_eq_some_iff.1 h

theorem req_does {P : Program} {a : Tms} {o : Oper} {rq : Rq} (h : req P a o some = some rq) {ρ : Rho} {ev' : Operand → Value} (hx : ∀ x ∈ o.op.operands.toList, VRel ρ (ev a x) (ev' x)) : Does P ρ (execOp ev' o) rq := by
  classical
  have h2 : req P a o (fun q => if q = rq then some (V.undef, (⟨0, []⟩ : Heap)) else none) = some (V.undef, ⟨0, []⟩) := by
    rw [req_one, h]; simp
  obtain ⟨q, hq, hd⟩ := req_ok hx h2
  by_cases e : q = rq
  · rw [← e]; exact hd
  · simp [e] at hq

end Go.Proofs.Ytminfdcdmgpnjaa.K
