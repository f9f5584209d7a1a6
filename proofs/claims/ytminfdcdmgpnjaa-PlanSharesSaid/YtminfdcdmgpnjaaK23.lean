/- Blocks that nobody needs any more, dropped behind a call. -/
import Derived.Test.YtminfdcdmgpnjaaK22
set_option linter.unusedVariables false
set_option linter.unusedSimpArgs false
namespace Go.Proofs.Ytminfdcdmgpnjaa.K
open Go

/-- Less is known behind the call. -/
theorem FSound.less {P : Program} {f : FuncId} {M : FnM} (h : FSound P f M) (g : Heap → V → Heap → BL) (hg : ∀ H v H' id b, lk id (g H v H') = some b → lk id H'.bl = some b) :
    FSound P f (fun vs H K => M vs H fun v H' => K v ⟨H'.next, g H v H'⟩) := by
  intro vs H K r hr
  obtain ⟨v, H', hk, hs⟩ := h vs H _ r hr
  refine ⟨v, ⟨H'.next, g H v H'⟩, hk, fun ρ w us hR hf hl => ?_⟩
  have conv : ∀ u w', (∃ ρ', Goes ρ H w ρ' H' w' ∧ VRel ρ' v u) → ∃ ρ', Goes ρ H w ρ' ⟨H'.next, g H v H'⟩ w' ∧ VRel ρ' v u := by
    rintro u w' ⟨ρ', hgo, hv⟩
    exact ⟨ρ', Goes.less (g := H'.next) (bl := H'.bl) hgo (hg H v H'), hv⟩
  rcases hs ρ w us hR hf hl with ⟨fn, h1, h2, h3, h4⟩ | ⟨u, w', h1, h2⟩
  · exact .inl ⟨fn, h1, h2, h3, h4.mono fun e w' ⟨u, hu, hx⟩ => ⟨u, hu, conv u w' hx⟩⟩
  · exact .inr ⟨u, w', h1, conv u w' h2⟩

/-- New blocks dropped. -/
def lvS (M : FnM) : FnM := fun vs H K => M vs H fun v H' => K v ⟨H'.next, keep H.next H'.bl⟩
theorem FSound.lv {P : Program} {f : FuncId} {M : FnM} (h : FSound P f M) : FSound P f (lvS M) :=
  h.less (fun H _ H' => keep H.next H'.bl) fun H v H' id b e => by
    rw [lk_keep] at e
    split at e
    · exact e
    · cases e

mutual
def idsV : V → List Nat → List Nat
  | .ptr i _, r => i :: r
  | .sl i _ _ _ _, r => i :: r
  | .map i, r => i :: r
  | .chan i, r => i :: r
  | .fn _ l, r => idsL l r
  | .iface _ v, r => idsV v r
  | .agg l, r => idsL l r
  | .tup l, r => idsL l r
  | .undef, r | .int _ _, r | .bool _, r | .str _, r | .nilp, r | .nils, r | .nilm, r | .nilc, r | .nilf, r | .nili, r => r
def idsL : List V → List Nat → List Nat
  | [], r => r
  | v :: l, r => idsV v (idsL l r)
end
def idsB : Blk → List Nat → List Nat
  | .row l, r => idsL l r
  | .ro l, r => idsL l r
  | .map es, r => es.foldr (fun p r => idsV p.1 (idsV p.2 r)) r
  | .chan _, r => r
/-- What is reached, from the numbers w on. -/
def reach (H : BL) : Nat → List Nat → BL → BL
  | 0, _, acc => acc
  | n + 1, w, acc => match w with
    | [] => acc
    | i :: w => match lk i acc with
      | some _ => reach H n w acc
      | none => match lk i H with
        | some b => reach H n (idsB b w) ((i, b) :: acc)
        | none => reach H n w acc

theorem reach_sub {H : BL} : ∀ (n : Nat) (w : List Nat) (acc : BL), (∀ id b, lk id acc = some b → lk id H = some b) → ∀ id b, lk id (reach H n w acc) = some b → lk id H = some b
  | 0, w, acc, ha => ha
  | n + 1, w, acc, ha => by
    unfold reach
    cases w with
    | nil => exact ha
    | cons i w =>
      simp only
      split
      · exact reach_sub n w acc ha
      · split
        · rename_i b hb
          refine reach_sub n _ _ fun id c hc => ?_
          rw [lk_cons] at hc
          split at hc
          · rename_i e; subst e; cases hc; exact hb
          · exact ha id c hc
        · exact reach_sub n w acc ha

/-- What the call left, without what nobody reaches from its result or from what was there. -/
def cleanG (H : Heap) (v : V) (H' : Heap) : BL := cond (Nat.blt H'.next (H.next + 16)) (keep H.next H'.bl)
  (reach H'.bl 100000 (idsV v ((keep H.next H'.bl).foldr (fun (p : Nat × Blk) r => idsB p.2 r) [])) (keep H.next H'.bl))
def gcS (M : FnM) : FnM := fun vs H K => M vs H fun v H' => K v ⟨H'.next, cleanG H v H'⟩
theorem FSound.gc {P : Program} {f : FuncId} {M : FnM} (h : FSound P f M) : FSound P f (gcS M) :=
  h.less cleanG fun H v H' id b e => by
    have hk : ∀ id b, lk id (keep H.next H'.bl) = some b → lk id H'.bl = some b := fun id b e => by
      rw [lk_keep] at e
      split at e
      · exact e
      · cases e
    unfold cleanG at e
    cases hc : Nat.blt H'.next (H.next + 16) with
    | true => rw [hc] at e; exact hk id b e
    | false => rw [hc] at e; exact reach_sub _ _ _ hk id b e

/-- The same, of a call that hands on what it made. -/
def cleanR (H : Heap) (v : V) (H' : Heap) : BL := reach H'.bl 100000 (idsV v ((keep H.next H'.bl).foldr (fun (p : Nat × Blk) r => idsB p.2 r) [])) (keep H.next H'.bl)
def gcR (M : FnM) : FnM := fun vs H K => M vs H fun v H' => K v ⟨H'.next, cleanR H v H'⟩
theorem FSound.gr {P : Program} {f : FuncId} {M : FnM} (h : FSound P f M) : FSound P f (gcR M) :=
  h.less cleanR fun H v H' id b e => reach_sub _ _ _ (fun id b e => by
      rw [lk_keep] at e
      split at e
      · exact e
      · cases e) id b e

def isTrue : Ans → Bool
  | some (.bool b, _) => b
  | _ => false
theorem of_isTrue {a : Ans} (h : isTrue a = true) : ∃ H, a = some (.bool true, H) := by
  unfold isTrue at h
  split at h
  · rename_i b H; subst h; exact ⟨H, rfl⟩
  · cases h

theorem FSound.br {P : Program} {f : FuncId} {b : Bool} {x y : FnM} (hx : FSound P f x) (hy : FSound P f y) : FSound P f (cond b x y) := by
  cases b with
  | true => exact hx
  | false => exact hy
def noM : FnM := fun _ _ _ => none
theorem FSound.lf {P : Program} {f k : FuncId} {M : FnM} (h : FSound P k M) : FSound P f (cond (Nat.beq f k) M noM) := by
  cases e : Nat.beq f k with
  | true => have := beq_eq e; subst this; exact h
  | false => exact FSound.none _ _

end Go.Proofs.Ytminfdcdmgpnjaa.K
