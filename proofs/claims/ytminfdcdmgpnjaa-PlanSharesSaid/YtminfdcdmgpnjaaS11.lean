/- What the document's Meet answers. -/
import Derived.Test.YtminfdcdmgpnjaaS10
set_option linter.unusedVariables false
set_option linter.unusedSimpArgs false
namespace Go.Proofs.Ytminfdcdmgpnjaa.K
open Go

theorem sameW (w : Win) : sameL w.c w.c = true := by simp [sameL, V.same, Win.c]
theorem same_row {α : Type} {es : Nat} {dec : List V → Option α} {H : Heap} {v : V} {xs : List α} (h : rdL es dec H v = some xs) : V.same v v = true := by
  unfold rdL at h
  split at h
  · rfl
  · simp [V.same]
  · cases h

/-- Two blocks laid in room that was kept. -/
theorem newAt2 {H : Heap} (hw : Wf H) {n a b : Nat} {x y : Blk} (hab : a < b) (hb : b < n) {H2 : Heap} (e : Heap.newAt (Heap.newAt (Heap.skip H n) (H.next + a) x) (H.next + b) y = H2) :
    Les H.bl H2.bl ∧ Wf H2 ∧ lk (H.next + a) H2.bl = some x ∧ lk (H.next + b) H2.bl = some y := by
  subst e
  refine ⟨fun id z hz => ?_, fun id z hz => ?_, ?_, ?_⟩
  · have := hw _ _ hz
    simp only [Heap.newAt, Heap.skip, lk_cons]
    rw [if_neg (by omega), if_neg (by omega)]; exact hz
  · simp only [Heap.newAt, Heap.skip, lk_cons] at hz ⊢
    split at hz
    · omega
    · split at hz
      · omega
      · have := hw _ _ hz; omega
  · simp only [Heap.newAt, Heap.skip, lk_cons]
    rw [if_neg (by omega)]; simp
  · simp only [Heap.newAt, Heap.skip, lk_cons]
    simp

def S69 : List V → Heap → Option V
  | [.agg a, .int .i64 i, .int .i64 j], H => (matOf H a).bind fun m => cond (small m) (some (.bool (meetM m i j))) none
  | _, _ => none

theorem wrap_pred {n : Nat} (h : n < NN) : IntKind.i64.wrap ((n : Int) - 1) = (n : Int) - 1 := by
  unfold NN at h
  exact wrap64 (by omega) (by omega)

theorem there_in {m : Mat} {i : Int} (h : m.wins.length < NN) : within i 0 (IntKind.i64.wrap ((m.wins.length : Int) - 1)) = (thereM m i).2 := by
  rw [wrap_pred h]
  unfold thereM within
  by_cases h0 : 0 ≤ i
  · rw [if_pos h0]
    by_cases h1 : i.toNat < m.wins.length
    · rw [nth_lt h1]
      simp [h0]; omega
    · rw [nth_eq, List.getElem?_eq_none (Nat.le_of_not_lt h1)]
      simp; omega
  · rw [if_neg h0]; simp [h0]
theorem there_at {m : Mat} {i : Int} (h : (thereM m i).2 = true) : ∃ k : Nat, i = (k : Int) ∧ nth m.wins k = some (thereM m i).1 := by
  unfold thereM at h ⊢
  by_cases h0 : 0 ≤ i
  · rw [if_pos h0] at h ⊢
    refine ⟨i.toNat, by omega, ?_⟩
    cases e : nth m.wins i.toNat with
    | none => rw [e] at h; cases h
    | some w => rfl
  · rw [if_neg h0] at h; cases h

section
variable {o : Orc}

theorem loop69 (h49 : o 49 = pureO Scomes) {X0 : Heap → Ans} {κ : Kv} {i3 i7 i9 : Nat} {m : Mat} {x y : Win} {H : Heap} (hm : ldI H .i64 i3 2 = some m.cycles) (hx : lk i7 H.bl = some (.row x.c)) (hy : lk i9 H.bl = some (.row y.c)) :
    ∀ (n k : Nat), (nCyc m).toNat - k < n → k < NN → M69_7 o NN X0 κ n i3 i7 i9 k H = cond (findN (fun c => comesR x.cy x.re c && comesR y.cy y.re c) ((nCyc m).toNat - k) k).isSome (κ (.bool true) H) (X0 H) := by
  have hc := nCyc_le m
  have hc2 : ∀ k : Nat, (k < (nCyc m).toNat) ↔ ((k : Int) < m.cycles ∧ (k : Int) < 8) := by intro k; unfold nCyc; omega
  have hN : NN = 1099511627776 := rfl
  intro n
  induction n with
  | zero => intro k hk; omega
  | succ n ih =>
    intro k hk hk2
    rw [M69_7_s]
    simp only [M69_6, hm, Option.bind_some]
    by_cases hlt : k < (nCyc m).toNat
    · have a3 : ldI H .i64 i7 3 = some x.cy := by simp [ldI, Heap.ldc, hx, Win.c, nth]
      have a4 : ldI H .i64 i7 4 = some x.re := by simp [ldI, Heap.ldc, hx, Win.c, nth]
      have b3 : ldI H .i64 i9 3 = some y.cy := by simp [ldI, Heap.ldc, hy, Win.c, nth]
      have b4 : ldI H .i64 i9 4 = some y.re := by simp [ldI, Heap.ldc, hy, Win.c, nth]
      have hl := (hc2 k).1 hlt
      simp only [show decide ((k : Int) < m.cycles) = true by simpa using hl.1, show decide ((k : Int) < 8) = true by simpa using hl.2, cond_true, a3, a4, b3, b4, Option.bind_some, h49, pureO, Scomes, asB]
      rw [show (nCyc m).toNat - k = ((nCyc m).toNat - (k + 1)) + 1 by omega, findN]
      cases comesR x.cy x.re k <;> cases comesR y.cy y.re k <;> simp only [cond_true, cond_false, Bool.and_true, Bool.and_false, Bool.and_self, Option.isSome_some] <;> rw [wrap_nat (by omega), ih (k + 1) (by omega) (by omega)]
    · rw [show (nCyc m).toNat - k = 0 by omega]
      have hl : ¬ ((k : Int) < m.cycles ∧ (k : Int) < 8) := fun h => hlt ((hc2 k).2 h)
      by_cases h1 : (k : Int) < m.cycles
      · simp only [show decide ((k : Int) < m.cycles) = true by simpa using h1, show decide ((k : Int) < 8) = false by simp; omega, cond_true, cond_false]; rfl
      · simp only [show decide ((k : Int) < m.cycles) = false by simpa using h1, cond_false]; rfl

theorem E69 (ho : ∀ f, FSound Try.prog f (o f)) (h44 : o 44 = pureO Swithin) (h49 : o 49 = pureO Scomes) : FSound Try.prog 69 (pureO S69) := (M69_sound ho NN).pure _ (by
  intro vs H v hw hs
  unfold S69 at hs
  split at hs
  · rename_i a i j
    simp only [Option.bind_eq_some_iff] at hs
    obtain ⟨m, hm, hs⟩ := hs
    obtain ⟨hsm, hs⟩ := ofCondO hs
    simp only [small, Bool.and_eq_true, decide_eq_true_eq] at hsm
    obtain ⟨⟨hl1, hl3⟩, hl6⟩ := hsm
    obtain ⟨s1, s2, s3, rfl, hat⟩ := matOf_inv hm
    cases hs
    refine ⟨trivial, ?_⟩
    simp only [M69, M69_0, hat.ones, cond_true]
    refine newB_ind hw.wf fun i1 H2 hl hw2 hk1 hn => ?_
    refine Ends.mono hl ?_
    have hat2 := hat.les hl
    have v10 : ldV H2 i1 10 = some s3 := by simp [ldV, Heap.ldc, hk1, Mat.c, nth, rdL_one hat.wins]
    simp only [M69_1, v10, Option.bind_some, rdL_len hat2.wins, c44 h44, asB, there_in hl6]
    unfold meetM
    refine Ends.cond (fun e1 => ?_) (fun e1 => ?_)
    · rw [show (thereM m i).2 = false by simpa using e1]; exact Ends.ret
    have e1' : (thereM m i).2 = true := by simpa using e1
    rw [e1']
    refine Ends.cond (fun e2 => ?_) (fun e2 => ?_)
    · rw [show (thereM m j).2 = false by simpa using e2]; exact Ends.ret
    have e2' : (thereM m j).2 = true := by simpa using e2
    rw [e2']
    obtain ⟨p, rfl, hp⟩ := there_at e1'
    obtain ⟨q, rfl, hq⟩ := there_at e2'
    generalize hx : (thereM m p).1 = x at *
    generalize hy : (thereM m q).1 = y at *
    simp only [Bool.true_and]
    have v10' : ldV (H2.skip 14) i1 10 = some s3 := v10
    obtain ⟨id1, off1, f1, g1⟩ := win_at (H := H2.skip 14) (rdL_les (Les.refl H2.bl) hat2.wins) hp
    obtain ⟨id2, off2, f2, g2⟩ := win_at (H := H2.skip 14) (rdL_les (Les.refl H2.bl) hat2.wins) hq
    obtain ⟨id3, off3, f3, g3⟩ := win_at hat2.wins hq
    simp only [M69_3, v10', Option.bind_some, f1, f2, ldWin g1, ldWin g2]
    simp only [show (Nat.beq (x.c).length 6 && Nat.blt 0 6) = true from rfl, show (Nat.beq (y.c).length 6 && Nat.blt 0 6) = true from rfl, cond_true]
    generalize eH : Heap.newAt (Heap.newAt (Heap.skip H2 14) (H2.next + 10) _) (H2.next + 11) _ = H3
    obtain ⟨hle3, hw3, hka, hkb⟩ := newAt2 hw2 (by omega) (by omega) eH
    refine stN_ind hw3 hka rfl fun H21 hk21 hj21 hw21 hn21 => ?_
    have hnone : lk (H2.next + 10) H2.bl = none := by
      cases e : lk (H2.next + 10) H2.bl with
      | none => rfl
      | some z => have := hw2 _ _ e; omega
    have hnone2 : lk (H2.next + 11) H2.bl = none := by
      cases e : lk (H2.next + 11) H2.bl with
      | none => rfl
      | some z => have := hw2 _ _ e; omega
    have hle21 : Les H2.bl H21.bl := les_st hle3 hnone hj21
    have g2' : ∀ j, j < 6 → H21.ldc id2 (off2 + j) = nth y.c j := by
      intro j hj
      have := g2 j hj
      rw [← this]
      unfold Heap.ldc
      cases e : lk id2 H2.bl with
      | none =>
        exfalso
        unfold Heap.ldc at this
        rw [show (H2.skip 14).bl = H2.bl from rfl, e] at this
        have h6 : ∃ z, nth y.c j = some z := by
          rw [nth_eq]; exact ⟨_, List.getElem?_eq_getElem (by simpa [Win.c] using hj)⟩
        obtain ⟨z, hz⟩ := h6
        rw [hz] at this
        cases this
      | some z => rw [hle21 _ _ e, show (H2.skip 14).bl = H2.bl from rfl, e]
    have v10'' : ldV H21 i1 10 = some s3 := by simp [ldV, Heap.ldc, hle21 _ _ hk1, Mat.c, nth, rdL_one hat.wins]
    simp only [ldWin g2', sameW, cond_true, v10'', Option.bind_some, same_row hat2.wins]
    refine stN_ind hw21 ((hj21 _ (by omega)).trans hkb) rfl fun H24 hk24 hj24 hw24 hn24 => ?_
    have hle24 : Les H2.bl H24.bl := les_st hle21 hnone2 hj24
    have ha : lk (H2.next + 10) H24.bl = some (.row x.c) := by rw [hj24 _ (by omega), hk21]; rfl
    have hb : lk (H2.next + 11) H24.bl = some (.row y.c) := by rw [hk24]; rfl
    have hm2 : ldI H24 .i64 i1 2 = some m.cycles := by simp [ldI, Heap.ldc, hle24 _ _ hk1, Mat.c, nth]
    refine Ends.mono hle24 ?_
    have a1 : ldI H24 .i64 (H2.next + 10) 1 = some x.st := by simp [ldI, Heap.ldc, ha, Win.c, nth]
    have a2 : ldI H24 .i64 (H2.next + 10) 2 = some x.en := by simp [ldI, Heap.ldc, ha, Win.c, nth]
    have b1 : ldI H24 .i64 (H2.next + 11) 1 = some y.st := by simp [ldI, Heap.ldc, hb, Win.c, nth]
    have b2 : ldI H24 .i64 (H2.next + 11) 2 = some y.en := by simp [ldI, Heap.ldc, hb, Win.c, nth]
    simp only [M69_4, a1, a2, b1, b2, Option.bind_some, meetW]
    refine Ends.cond (fun e3 => ?_) (fun e3 => ?_)
    · rw [e3]; exact Ends.ret
    rw [e3]
    refine Ends.cond (fun e4 => ?_) (fun e4 => ?_)
    · rw [e4]; exact Ends.ret
    rw [e4]
    simp only [M69_5, Bool.not_false, Bool.true_and]
    have hc := nCyc_le m
    rw [show (0 : Int) = ((0 : Nat) : Int) from rfl, loop69 h49 hm2 ha hb NN 0 (by unfold NN; omega) (by unfold NN; omega), Nat.sub_zero]
    cases (findN (fun c => comesR x.cy x.re c && comesR y.cy y.re c) (nCyc m).toNat 0).isSome <;> exact Ends.ret
  · cases hs)

end
end Go.Proofs.Ytminfdcdmgpnjaa.K
