/- Words for specifications: rows read out of the blocks; a function that only computes. -/
import Derived.Test.YtminfdcdmgpnjaaK18
set_option linter.unusedVariables false
set_option linter.unusedSimpArgs false
namespace Go.Proofs.Ytminfdcdmgpnjaa.K
open Go

def Les (bl bl' : BL) : Prop := ∀ id b, lk id bl = some b → lk id bl' = some b
theorem Les.refl (bl : BL) : Les bl bl := fun _ _ h => h
theorem Les.trans {a b c : BL} (h : Les a b) (h' : Les b c) : Les a c := fun i x e => h' i x (h i x e)

/-- All blocks are numbered below the next number. -/
def Wf (H : Heap) : Prop := ∀ id b, lk id H.bl = some b → id < H.next

theorem Wf.new {H : Heap} (h : Wf H) (b : Blk) : Wf (H.new b) := by
  intro id x hx
  simp only [Heap.new, lk_cons] at hx ⊢
  split at hx
  · omega
  · have := h id x hx; omega
theorem Wf.les {H : Heap} (h : Wf H) (b : Blk) : Les H.bl (H.new b).bl := by
  intro id x hx
  have := h id x hx
  simp only [Heap.new, lk_cons]
  rw [if_neg (by omega)]; exact hx
theorem Wf.skip {H : Heap} (h : Wf H) (n : Nat) : Wf (H.skip n) := fun id x hx => by have := h id x hx; simp only [Heap.skip]; omega

theorem ofCondO {α : Type} {b : Bool} {x : Option α} {r : α} (h : cond b x none = some r) : b = true ∧ x = some r := by
  cases b with
  | true => exact ⟨rfl, h⟩
  | false => cases h

/-- The answer v, over blocks that hold all that was there. -/
def Ends (H0 : Heap) (v : V) (a : Ans) : Prop := ∃ H1, Les H0.bl H1.bl ∧ a = some (v, H1)

/-- A function that only computes: what it answers. -/
def pureO (S : List V → Heap → Option V) : FnM := fun vs H K => (S vs H).bind fun v => K v H

theorem FSound.pure {P : Program} {f : FuncId} {M : FnM} (hM : FSound P f M) (S : List V → Heap → Option V)
    (hS : ∀ vs H v, WF vs H → S vs H = some v → v.under H.next ∧ Ends H v (M vs H pureK)) : FSound P f (pureO S) := by
  refine hM.as fun vs H K r h => ?_
  unfold pureO at h
  rw [Option.bind_eq_some_iff] at h
  obtain ⟨v, hv, hk⟩ := h
  refine ⟨v, H, hk, fun hw => ?_⟩
  obtain ⟨hu, H1, hl, e⟩ := hS vs H v hw hv
  exact ⟨id, v, H1, e, As.pure hu hl hw.bl⟩

theorem WF.wf {vs : List V} {H : Heap} (h : WF vs H) : Wf H := fun id b hb => (h.bl id b hb).1

/-! ### Rows -/
/-- n data of es cells each. -/
def rdRow {α : Type} (es : Nat) (dec : List V → Option α) : Nat → List V → Option (List α)
  | 0, _ => some []
  | n + 1, l => (dec (l.take es)).bind fun a => (rdRow es dec n (l.drop es)).map (a :: ·)

def rowOf (H : Heap) (id : Nat) : Option (List V) :=
  match lk id H.bl with
  | some (.row l) => some l
  | some (.ro l) => some l
  | _ => none

def rdL {α : Type} (es : Nat) (dec : List V → Option α) (H : Heap) (v : V) : Option (List α) :=
  match v with
  | .nils => some []
  | .sl id off n es' _ => cond (Nat.beq es' es) ((rowOf H id).bind fun l => rdRow es dec n (l.drop off)) none
  | _ => none

theorem rowOf_les {H H' : Heap} (h : Les H.bl H'.bl) {id : Nat} {l : List V} (e : rowOf H id = some l) : rowOf H' id = some l := by
  unfold rowOf at e ⊢
  split at e
  · rename_i l' hl; rw [h _ _ hl]; exact e
  · rename_i l' hl; rw [h _ _ hl]; exact e
  · cases e

theorem rdL_les {α : Type} {es : Nat} {dec : List V → Option α} {H H' : Heap} (h : Les H.bl H'.bl) {v : V} {xs : List α} (e : rdL es dec H v = some xs) : rdL es dec H' v = some xs := by
  unfold rdL at e ⊢
  split at e
  · exact e
  · rename_i id off n es' g
    obtain ⟨hc, e⟩ := ofCondO e
    rw [Option.bind_eq_some_iff] at e
    obtain ⟨l, hl, e⟩ := e
    rw [hc]
    simp only [cond_true, rowOf_les h hl, Option.bind_some]
    exact e
  · cases e

theorem rdRow_len {α : Type} {es : Nat} {dec : List V → Option α} : ∀ {n : Nat} {l : List V} {xs : List α}, rdRow es dec n l = some xs → xs.length = n
  | 0, l, xs, h => by simp [rdRow] at h; subst h; rfl
  | n + 1, l, xs, h => by
    simp only [rdRow, Option.bind_eq_some_iff, Option.map_eq_some_iff] at h
    obtain ⟨a, _, ys, hy, rfl⟩ := h
    simp [rdRow_len hy]

theorem rdRow_at {α : Type} {es : Nat} {dec : List V → Option α} : ∀ {n : Nat} {l : List V} {xs : List α} {i : Nat} {x : α}, rdRow es dec n l = some xs → nth xs i = some x → dec ((l.drop (i * es)).take es) = some x
  | 0, l, xs, i, x, h, hx => by simp [rdRow] at h; subst h; simp [nth] at hx
  | n + 1, l, xs, i, x, h, hx => by
    simp only [rdRow, Option.bind_eq_some_iff, Option.map_eq_some_iff] at h
    obtain ⟨a, ha, ys, hy, rfl⟩ := h
    cases i with
    | zero => simp [nth] at hx; subst hx; simpa using ha
    | succ i =>
      simp only [nth] at hx
      have := rdRow_at hy hx
      rw [List.drop_drop] at this
      rw [Nat.succ_mul, Nat.add_comm]; exact this

theorem nth_take_drop (l : List V) (k s j : Nat) (h : j < s) : nth ((l.drop k).take s) j = nth l (k + j) := by
  rw [nth_eq, nth_eq, List.getElem?_take, if_pos h, List.getElem?_drop]

/-- What lies at an index. -/
theorem rdL_at {α : Type} {es : Nat} {dec : List V → Option α} {H : Heap} {v : V} {xs : List α} (h : rdL es dec H v = some xs) (hes : 0 < es) {i : Nat} {x : α} (hx : nth xs i = some x) :
    ∃ id off c, (∀ K : Nat → Nat → Ans, idxS es v (i : Int) K = K id off) ∧ dec c = some x ∧ (∀ j, j < es → H.ldc id (off + j) = nth c j) := by
  unfold rdL at h
  split at h
  · cases h; simp [nth] at hx
  · rename_i id off n es' g
    obtain ⟨hc, h⟩ := ofCondO h
    rw [Option.bind_eq_some_iff] at h
    obtain ⟨l, hl, h⟩ := h
    have e := beq_eq hc
    subst e
    have hn := rdRow_len h
    have hi : i < n := by
      rw [nth_eq] at hx
      have := (List.getElem?_eq_some_iff.1 hx).1
      omega
    refine ⟨id, off + i * es', ((l.drop off).drop (i * es')).take es', fun K => ?_, rdRow_at h hx, fun j hj => ?_⟩
    · simp only [idxS, Nat.beq_refl, lt_blt hes, Bool.and_self, cond_true]
      rw [show (decide (0 ≤ (i : Int)) && decide ((i : Int) < (n : Int))) = true by simp; exact hi]
      simp
    · rw [nth_take_drop _ _ _ _ hj, nth_eq, List.getElem?_drop, ← nth_eq, show off + (i * es' + j) = off + i * es' + j by omega]
      unfold rowOf at hl
      unfold Heap.ldc
      split at hl
      · rename_i l' hl'; cases hl; rw [hl']
      · rename_i l' hl'; cases hl; rw [hl']
      · cases hl
  · cases h

theorem rdL_len {α : Type} {es : Nat} {dec : List V → Option α} {H : Heap} {v : V} {xs : List α} (h : rdL es dec H v = some xs) (K : Int → Ans) : lenS v K = K (xs.length : Int) := by
  unfold rdL at h
  split at h
  · cases h; rfl
  · rename_i id off n es' g
    obtain ⟨hc, h⟩ := ofCondO h
    rw [Option.bind_eq_some_iff] at h
    obtain ⟨l, hl, h⟩ := h
    rw [rdRow_len h]; rfl
  · cases h

theorem nth_lt {α : Type} {xs : List α} {i : Nat} (h : i < xs.length) : nth xs i = some xs[i] := by rw [nth_eq]; simp [h]

/-- The first place at which it holds. -/
def findG {α : Type} (p : α → Bool) : List α → Nat → Option Nat
  | [], _ => none
  | a :: l, k => cond (p a) (some k) (findG p l (k + 1))
def idxI {α : Type} (p : α → Bool) (l : List α) : Int :=
  match findG p l 0 with
  | some k => (k : Int)
  | none => -1

theorem findG_none {α : Type} {p : α → Bool} : ∀ {l : List α} {k : Nat}, findG p l k = none ↔ ∀ x ∈ l, p x = false
  | [], k => by simp [findG]
  | a :: l, k => by
    simp only [findG]
    cases h : p a with
    | true => simp [h]
    | false => simp [h, findG_none (l := l)]
theorem findG_ge {α : Type} {p : α → Bool} : ∀ {l : List α} {k j : Nat}, findG p l k = some j → k ≤ j ∧ j < k + l.length
  | [], k, j, h => by simp [findG] at h
  | a :: l, k, j, h => by
    simp only [findG] at h
    cases ha : p a with
    | true => rw [ha] at h; cases h; simp
    | false => rw [ha] at h; have := findG_ge h; simp; omega

theorem idxI_ge {α : Type} (p : α → Bool) (l : List α) : decide (idxI p l ≥ 0) = l.any p := by
  unfold idxI
  cases h : findG p l 0 with
  | none =>
    rw [findG_none] at h
    have : l.any p = false := List.any_eq_false.2 fun x hx => by simp [h x hx]
    rw [this]; rfl
  | some j =>
    have : l.any p = true := by
      cases ha : l.any p with
      | true => rfl
      | false =>
        rw [List.any_eq_false] at ha
        have : findG p l 0 = none := findG_none.2 fun x hx => by simpa using ha x hx
        rw [h] at this; cases this
    rw [this]; simp

theorem drop_cons {α : Type} {l : List α} {k : Nat} (h : k < l.length) : l.drop k = l[k] :: l.drop (k + 1) := by simp [h]

end Go.Proofs.Ytminfdcdmgpnjaa.K
