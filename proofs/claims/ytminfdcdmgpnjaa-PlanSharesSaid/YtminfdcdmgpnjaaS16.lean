/- Sorting a row of triggers in its place. -/
import Derived.Test.YtminfdcdmgpnjaaS15
set_option linter.unusedVariables false
set_option linter.unusedSimpArgs false
namespace Go.Proofs.Ytminfdcdmgpnjaa.K
open Go

/-! ### Lists -/
def insR : List Trig → Trig → List Trig → List Trig
  | [], t, r => t :: r
  | y :: a, t, r => cond (decide (t.at_ < y.at_)) (insR a t (y :: r)) ((y :: a).reverse ++ t :: r)
def SortedT (l : List Trig) : Prop := l.Pairwise fun a b => a.at_ ≤ b.at_

theorem posT_app_gt {a : Int} {y : Trig} (h : a < y.at_) : ∀ l : List Trig, posT a (l ++ [y]) = posT a l
  | [] => by simp only [List.nil_append, posT]; rw [show decide (y.at_ ≤ a) = false by simpa using h]; rfl
  | x :: l => by
    simp only [List.cons_append, posT]
    rw [posT_app_gt h l]
theorem posT_all {a : Int} : ∀ {l : List Trig}, (∀ x ∈ l, x.at_ ≤ a) → posT a l = l.length
  | [], _ => rfl
  | x :: l, h => by
    simp only [posT, List.length_cons]
    rw [show decide (x.at_ ≤ a) = true by simpa using h x (by simp), posT_all fun z hz => h z (by simp [hz])]; rfl
theorem laidM_gt {l : List Trig} {t y : Trig} (h : t.at_ < y.at_) : laidM (l ++ [y]) t = laidM l t ++ [y] := by
  have hp := posT_le t.at_ l
  simp only [laidM, posT_app_gt h]
  rw [List.take_append_of_le_length hp, List.drop_append_of_le_length hp]
  simp
theorem laidM_all {l : List Trig} {t : Trig} (h : ∀ x ∈ l, x.at_ ≤ t.at_) : laidM l t = l ++ [t] := by
  simp only [laidM, posT_all h, List.take_length, List.drop_length]
theorem insR_laid {t : Trig} : ∀ (a r : List Trig), SortedT a.reverse → insR a t r = laidM a.reverse t ++ r
  | [], r, _ => by simp [insR, laidM, posT]
  | y :: a, r, h => by
    simp only [insR]
    have h' : SortedT (a.reverse ++ [y]) := by simpa [SortedT] using h
    by_cases e : t.at_ < y.at_
    · rw [show decide (t.at_ < y.at_) = true by simpa using e]
      simp only [cond_true, List.reverse_cons]
      rw [laidM_gt e, insR_laid a (y :: r) (List.pairwise_append.1 h').1]
      simp
    · rw [show decide (t.at_ < y.at_) = false by simpa using e]
      simp only [cond_false, List.reverse_cons]
      rw [laidM_all]
      · simp
      · intro x hx
        rcases List.mem_append.1 hx with hx | hx
        · have := (List.pairwise_append.1 h').2.2 x hx y (by simp)
          omega
        · simp at hx; subst hx; omega
theorem posT_take {a : Int} : ∀ (l : List Trig), ∀ x ∈ l.take (posT a l), x.at_ ≤ a
  | [], x, h => by simp [posT] at h
  | y :: l, x, h => by
    simp only [posT] at h
    by_cases e : y.at_ ≤ a
    · rw [show decide (y.at_ ≤ a) = true by simpa using e] at h
      simp only [cond_true, List.take_succ_cons] at h
      rcases List.mem_cons.1 h with rfl | h
      · exact e
      · exact posT_take l x h
    · rw [show decide (y.at_ ≤ a) = false by simpa using e] at h
      simp at h
theorem posT_drop {a : Int} : ∀ (l : List Trig), SortedT l → ∀ x ∈ l.drop (posT a l), a < x.at_
  | [], _, x, h => by simp [posT] at h
  | y :: l, hs, x, h => by
    simp only [posT] at h
    have hs' := List.pairwise_cons.1 hs
    by_cases e : y.at_ ≤ a
    · rw [show decide (y.at_ ≤ a) = true by simpa using e] at h
      simp only [cond_true, List.drop_succ_cons] at h
      exact posT_drop l hs'.2 x h
    · rw [show decide (y.at_ ≤ a) = false by simpa using e] at h
      simp only [cond_false, List.drop_zero] at h
      rcases List.mem_cons.1 h with rfl | h
      · omega
      · have := hs'.1 x h; omega
theorem laidM_sorted {l : List Trig} {t : Trig} (h : SortedT l) : SortedT (laidM l t) := by
  have h' : SortedT (l.take (posT t.at_ l) ++ l.drop (posT t.at_ l)) := by rw [List.take_append_drop]; exact h
  have hp := List.pairwise_append.1 h'
  refine List.pairwise_append.2 ⟨hp.1, List.pairwise_cons.2 ⟨fun x hx => ?_, hp.2.1⟩, fun x hx y hy => ?_⟩
  · have := posT_drop l h x hx; omega
  · rcases List.mem_cons.1 hy with rfl | hy
    · exact posT_take l x hx
    · exact hp.2.2 x hx y hy
def sortT (l : List Trig) : List Trig := l.foldl laidM []
theorem foldl_sorted : ∀ (l p : List Trig), SortedT p → SortedT (l.foldl laidM p)
  | [], p, h => h
  | t :: l, p, h => foldl_sorted l _ (laidM_sorted h)
theorem foldl_len : ∀ (l p : List Trig), (l.foldl laidM p).length = p.length + l.length
  | [], p => by simp
  | t :: l, p => by
    simp only [List.foldl_cons, List.length_cons]
    rw [foldl_len l, laidM_len]; omega

/-! ### Cells -/
theorem nth_cells : ∀ {L : List Trig} {j : Nat} {t : Trig}, nth L j = some t → ∀ i, i < 6 → nth (cellsT L) (j * 6 + i) = nth t.c i
  | [], j, t, h, i, _ => by simp [nth] at h
  | x :: L, 0, t, h, i, hi => by
    simp [nth] at h; subst h
    simp only [cellsT, List.flatMap_cons, Nat.zero_mul, Nat.zero_add]
    rw [nth_eq, nth_eq, List.getElem?_append_left (by rw [Trig.clen]; exact hi)]
  | x :: L, j + 1, t, h, i, hi => by
    simp only [nth] at h
    have := nth_cells h i hi
    simp only [cellsT, List.flatMap_cons] at this ⊢
    rw [nth_eq] at this ⊢
    rw [List.getElem?_append_right (by rw [Trig.clen]; omega), Trig.clen, ← this, show (j + 1) * 6 + i - 6 = j * 6 + i by omega]
theorem over_nil (l : List V) : over l [] = l := by cases l <;> rfl
theorem set_cells : ∀ {L : List Trig} {j : Nat} {t : Trig}, j < L.length → setAt (cellsT L) (j * 6) t.c = cellsT (L.set j t)
  | [], j, t, h => by simp at h
  | x :: L, 0, t, h => by
    simp only [cellsT, List.flatMap_cons, Nat.zero_mul, List.set_cons_zero]
    show over (x.c ++ _) t.c = _
    simp only [Trig.c, List.cons_append, List.nil_append, over, over_nil]
  | x :: L, j + 1, t, h => by
    have := set_cells (L := L) (j := j) (t := t) (by simpa using h)
    simp only [cellsT, List.flatMap_cons, List.set_cons_succ] at this ⊢
    rw [← this, show (j + 1) * 6 = j * 6 + 1 + 1 + 1 + 1 + 1 + 1 by omega]
    simp only [Trig.c, List.cons_append, List.nil_append, setAt]

/-- Nothing but one block was changed. -/
structure Up (i : Nat) (H H' : Heap) : Prop where
  next : H.next ≤ H'.next
  wf : Wf H'
  oth : ∀ j, j ≠ i → lk j H'.bl = lk j H.bl
theorem Up.refl {i : Nat} {H : Heap} (hw : Wf H) : Up i H H := ⟨Nat.le_refl _, hw, fun _ _ => rfl⟩
theorem Up.trans {i : Nat} {a b c : Heap} (h : Up i a b) (h' : Up i b c) : Up i a c := ⟨Nat.le_trans h.next h'.next, h'.wf, fun j hj => (h'.oth j hj).trans (h.oth j hj)⟩
theorem Up.skip {i : Nat} {a b : Heap} (h : Up i a b) (n : Nat) : Up i a (b.skip n) := ⟨by have := h.next; simp only [Heap.skip]; omega, h.wf.skip n, h.oth⟩

theorem st_trig {H : Heap} (hw : Wf H) {id : Nat} {L : List Trig} (hk : lk id H.bl = some (.row (cellsT L))) {j : Nat} (hj : j < L.length) (t : Trig) :
    ∃ H2, stN H id (0 + j * 6) t.c = some H2 ∧ lk id H2.bl = some (.row (cellsT (L.set j t))) ∧ Up id H H2 := by
  have h1 : (t.c.all V.one && Nat.ble (0 + j * 6 + t.c.length) (cellsT L).length) = true := by
    rw [Trig.ones, Trig.clen, cellsT_len, Bool.true_and, Nat.ble_eq]; omega
  have := stN_ind (K := fun H => some (V.nils, H)) (Q := fun a => ∃ H2, a = some (V.nils, H2) ∧ lk id H2.bl = some (.row (cellsT (L.set j t))) ∧ Up id H H2) hw hk h1 (by
    intro H2 h2 h3 h4 h5
    refine ⟨H2, rfl, ?_, by omega, h4, h3⟩
    rw [h2, Nat.zero_add, set_cells hj])
  obtain ⟨H2, e, r⟩ := this
  refine ⟨H2, ?_, r⟩
  rw [Option.bind_eq_some_iff] at e
  obtain ⟨H3, e1, e2⟩ := e
  cases e2
  exact e1
theorem idx_own {id n : Nat} {g : Bool} {j : Nat} (hj : j < n) (K : Nat → Nat → Ans) : idxS 6 (.sl id 0 n 6 g) (j : Int) K = K id (0 + j * 6) := by
  simp only [idxS, Nat.beq_refl, show Nat.blt 0 6 = true from rfl, Bool.and_self, cond_true]
  rw [show (decide (0 ≤ (j : Int)) && decide ((j : Int) < (n : Int))) = true by simp; exact hj]
  simp
theorem ld_own {H : Heap} {id : Nat} {L : List Trig} (hk : lk id H.bl = some (.row (cellsT L))) {j : Nat} {t : Trig} (h : nth L j = some t) (K : List V → Ans) :
    ldFlat H id [.int .i64, .int .i64, .int .i64, .int .i64, .int .i64, .int .i64] (0 + j * 6) K = K t.c :=
  ldTrig (w := t) (fun i hi => by
    simp only [Heap.ldc, hk]
    rw [Nat.zero_add]; exact nth_cells h i hi) K

/-! ### Comparing -/
def cmpI (a b : Int) : Int := cond (decide (a < b)) (-1) (cond (decide (a > b)) 1 0)
def S56 : List V → Heap → Option V
  | [.int .i64 _], _ => some (.bool false)
  | _, _ => none
def S38 : List V → Heap → Option V
  | [.int .i64 a, .int .i64 b], _ => some (.int .i64 (cmpI a b))
  | _, _ => none
def S37 : List V → Heap → Option V
  | [.agg a, .agg b], _ => (trigOf a).bind fun a => (trigOf b).bind fun b => some (.int .i64 (cmpI a.at_ b.at_))
  | _, _ => none
theorem cmpI_neg (a b : Int) : decide (cmpI a b < 0) = decide (a < b) := by
  unfold cmpI
  by_cases h : a < b
  · simp [h]
  · by_cases h' : a > b
    · simp [h, h']
    · simp [h, h']

section
variable {o : Orc}
theorem E56 (ho : ∀ f, FSound Try.prog f (o f)) : FSound Try.prog 56 (pureO S56) := (M56_sound ho NN).pure _ (by
  intro vs H v hw h
  unfold S56 at h
  split at h
  · cases h
    refine ⟨trivial, ?_⟩
    simp only [M56, M56_0, bne_self_eq_false]; exact Ends.ret
  · cases h)
theorem E38 (ho : ∀ f, FSound Try.prog f (o f)) (h56 : o 56 = pureO S56) : FSound Try.prog 38 (pureO S38) := (M38_sound ho NN).pure _ (by
  intro vs H v hw h
  unfold S38 at h
  split at h
  · rename_i a b
    cases h
    refine ⟨trivial, ?_⟩
    simp only [M38, M38_0, h56, pureO, S56, Option.bind_some, asB, cond_false, cmpI]
    cases decide (a < b) <;> cases decide (a > b) <;> exact Ends.ret
  · cases h)
theorem E37 (ho : ∀ f, FSound Try.prog f (o f)) (h38 : o 38 = pureO S38) : FSound Try.prog 37 (pureO S37) := (M37_sound ho NN).pure _ (by
  intro vs H v hw h
  unfold S37 at h
  split at h
  · simp only [Option.bind_eq_some_iff] at h
    obtain ⟨t, ht, u, hu, h⟩ := h
    rw [trigOf_eq ht, trigOf_eq hu]
    cases h
    refine ⟨trivial, ?_⟩
    simp only [M37, M37_0, Trig.ones, cond_true]
    refine newB_ind hw.wf fun i1 H2 hl2 hw2 hk1 hn1 => ?_
    refine newB_ind hw2 fun i3 H4 hl4 hw4 hk3 hn3 => ?_
    have l1 : ldI H4 .i64 i1 1 = some t.at_ := by simp [ldI, Heap.ldc, hl4 _ _ hk1, Trig.c, nth]
    have l3 : ldI H4 .i64 i3 1 = some u.at_ := by simp [ldI, Heap.ldc, hk3, Trig.c, nth]
    simp only [l1, l3, Option.bind_some, h38, pureO, S38, asI, decide_true, cond_true]
    exact Ends.mono (hl2.trans hl4) Ends.ret
  · cases h)

theorem nth_mid {a : List Trig} {x : Trig} {l : List Trig} : nth (a ++ x :: l) a.length = some x := by
  rw [nth_eq]; simp

theorem loop77i (h37 : o 37 = pureO S37) {id n : Nat} {g : Bool} {x2 x8 : Int} {t : Trig} :
    ∀ (a : List Trig) (nf : Nat) (r : List Trig) (H : Heap), a.length < nf → lk id H.bl = some (.row (cellsT (a.reverse ++ t :: r))) → n = (a.reverse ++ t :: r).length → n < NN → Wf H →
    ∃ H', Up id H H' ∧ lk id H'.bl = some (.row (cellsT (insR a t r))) ∧ ∀ (X2 : V → Int → Int → V → Int → Heap → Ans) (κ : Kv), M77_6 o NN X2 κ nf (.sl id 0 n 6 g) 0 x2 (.fn 37 []) x8 (a.length : Nat) H = X2 (.sl id 0 n 6 g) 0 x2 (.fn 37 []) x8 H' := by
  intro a
  induction a with
  | nil =>
    intro nf r H hf hk hn hN hw
    obtain ⟨nf, rfl⟩ : ∃ m, nf = m + 1 := ⟨nf - 1, by simp at hf; omega⟩
    refine ⟨H.skip 17, (Up.refl hw).skip 17, hk, fun X2 κ => ?_⟩
    rw [M77_6_s]
    simp only [M77_4, List.length_nil, show decide (((0 : Nat) : Int) > 0) = false from rfl, cond_false]
  | cons y a ih =>
    intro nf r H hf hk hn hN hw
    obtain ⟨nf, rfl⟩ : ∃ m, nf = m + 1 := ⟨nf - 1, by simp at hf; omega⟩
    have hL : (y :: a).reverse ++ t :: r = a.reverse ++ y :: t :: r := by simp
    rw [hL] at hk hn
    have hlen : n = a.length + (2 + r.length) := by rw [hn]; simp; omega
    have n1 : nth (a.reverse ++ y :: t :: r) a.length = some y := by have := nth_mid (a := a.reverse) (x := y) (l := t :: r); simpa using this
    have n2 : nth (a.reverse ++ y :: t :: r) (a.length + 1) = some t := by
      have := nth_mid (a := a.reverse ++ [y]) (x := t) (l := r); simpa using this
    have hkS : lk id (H.skip 17).bl = some (.row (cellsT (a.reverse ++ y :: t :: r))) := hk
    have wp : IntKind.i64.wrap (((a.length + 1 : Nat) : Int) - 1) = ((a.length : Nat) : Int) := by
      unfold NN at hN
      rw [wrap64 (by omega) (by omega)]; omega
    simp only [insR]
    cases e : decide (t.at_ < y.at_) with
    | false =>
      simp only [cond_false, hL]
      refine ⟨H.skip 17, (Up.refl hw).skip 17, hk, fun X2 κ => ?_⟩
      rw [M77_6_s]
      simp only [M77_4, List.length_cons, show decide (((a.length + 1 : Nat) : Int) > 0) = true by simp, cond_true, wp]
      rw [idx_own (by omega), ld_own hkS n2, idx_own (by omega), ld_own hkS n1]
      simp only [callV, List.append_nil, h37, pureO, S37, trigOf_c, Option.bind_some, asI, decide_true, cond_true, cmpI_neg, e, cond_false]
    | true =>
      simp only [cond_true]
      have hk2 : lk id ((H.skip 17).skip 18).bl = some (.row (cellsT (a.reverse ++ y :: t :: r))) := hk
      have hw2 : Wf ((H.skip 17).skip 18) := (hw.skip 17).skip 18
      obtain ⟨H3, e3, k3, u3⟩ := st_trig hw2 hk2 (j := a.length + 1) (by simp) y
      obtain ⟨H4, e4, k4, u4⟩ := st_trig u3.wf k3 (j := a.length) (by simp) t
      have hset : ((a.reverse ++ y :: t :: r).set (a.length + 1) y).set a.length t = a.reverse ++ t :: y :: r := by
        rw [show a.length = a.reverse.length by simp]
        rw [List.set_append_right _ _ (by omega), List.set_append_right _ _ (by omega)]
        simp
      rw [hset] at k4
      obtain ⟨H5, u5, k5, e5⟩ := ih nf (y :: r) H4 (by simp at hf; omega) k4 (by rw [hlen]; simp; omega) hN u4.wf
      refine ⟨H5, (((((Up.refl hw).skip 17).skip 18).trans u3).trans u4).trans u5, k5, fun X2 κ => ?_⟩
      rw [M77_6_s]
      simp only [M77_4, List.length_cons, show decide (((a.length + 1 : Nat) : Int) > 0) = true by simp, cond_true, wp]
      rw [idx_own (by omega), ld_own hkS n2, idx_own (by omega), ld_own hkS n1]
      simp only [callV, List.append_nil, h37, pureO, S37, trigOf_c, Option.bind_some, asI, decide_true, cond_true, cmpI_neg, e]
      rw [idx_own (by omega), ld_own hk2 n1, idx_own (by omega), ld_own hk2 n2, idx_own (by omega)]
      simp only [show (Nat.beq (y.c).length 6 && Nat.blt 0 6) = true from rfl, show (Nat.beq (t.c).length 6 && Nat.blt 0 6) = true from rfl, cond_true]
      rw [e3]
      simp only [Option.bind_some]
      rw [idx_own (by omega)]
      rw [e4]
      simp only [Option.bind_some]
      exact e5 X2 κ

theorem loop77o (h37 : o 37 = pureO S37) {id n : Nat} {g : Bool} :
    ∀ (R : List Trig) (nf : Nat) (P : List Trig) (H : Heap), R.length < nf → lk id H.bl = some (.row (cellsT (P ++ R))) → n = (P ++ R).length → n < NN → SortedT P → Wf H →
    ∃ H', Up id H H' ∧ lk id H'.bl = some (.row (cellsT (R.foldl laidM P))) ∧ ∀ κ : Kv, M77_11 o NN κ nf (.sl id 0 n 6 g) 0 (n : Int) (.fn 37 []) (P.length : Nat) H = κ (.tup []) H' := by
  intro R
  induction R with
  | nil =>
    intro nf P H hf hk hn hN hs hw
    obtain ⟨nf, rfl⟩ : ∃ m, nf = m + 1 := ⟨nf - 1, by simp at hf; omega⟩
    simp only [List.append_nil] at hk hn
    refine ⟨H, Up.refl hw, by simpa using hk, fun κ => ?_⟩
    rw [M77_11_s]
    simp only [M77_1]
    rw [show decide (((P.length : Nat) : Int) < (n : Int)) = false by simp; omega]; rfl
  | cons t R ih =>
    intro nf P H hf hk hn hN hs hw
    obtain ⟨nf, rfl⟩ : ∃ m, nf = m + 1 := ⟨nf - 1, by simp at hf; omega⟩
    have hlen : n = P.length + (R.length + 1) := by rw [hn]; simp
    obtain ⟨H2, u2, k2, e2⟩ := loop77i (o := o) (x2 := (n : Int)) (x8 := ((P.length : Nat) : Int)) (g := g) (n := n) (t := t) h37 P.reverse NN R H (by simp; omega) (by simpa using hk) (by simpa using hn) hN hw
    rw [insR_laid P.reverse R (by simpa using hs), List.reverse_reverse] at k2
    obtain ⟨H3, u3, k3, e3⟩ := ih nf (laidM P t) H2 (by simp at hf; omega) k2 (by rw [List.length_append, laidM_len, hlen]; omega) hN (laidM_sorted hs) u2.wf
    refine ⟨H3, u2.trans u3, k3, fun κ => ?_⟩
    rw [M77_11_s]
    simp only [M77_1, M77_2]
    rw [show decide (((P.length : Nat) : Int) < (n : Int)) = true by simp; omega]
    simp only [cond_true]
    have := e2 (fun x0 x1 x2 x3 x8 H => M77_8 o NN (M77_11 o NN κ nf) κ x0 x1 x2 x3 x8 H) κ
    rw [List.length_reverse] at this
    rw [this]
    simp only [M77_8]
    rw [wrap_nat (by omega), ← laidM_len P t]
    exact e3 κ

theorem sort77 (h37 : o 37 = pureO S37) {id n : Nat} {g : Bool} {L : List Trig} {H : Heap} (hk : lk id H.bl = some (.row (cellsT L))) (hn : n = L.length) (hN : n < NN) (hw : Wf H) :
    ∃ H', Up id H H' ∧ lk id H'.bl = some (.row (cellsT (sortT L))) ∧ ∀ κ : Kv, M77 o NN [.sl id 0 n 6 g, .int .i64 0, .int .i64 (n : Int), .fn 37 []] H κ = κ (.tup []) H' := by
  cases L with
  | nil =>
    refine ⟨H, Up.refl hw, hk, fun κ => ?_⟩
    simp only [M77, M77_0]
    have : M77_11 o NN κ NN = M77_11 o NN κ (1099511627775 + 1) := rfl
    rw [this, M77_11_s]
    simp only [M77_1]
    subst hn
    rw [show decide (IntKind.i64.wrap (0 + 1) < (([] : List Trig).length : Int)) = false from by decide]; rfl
  | cons t L =>
    obtain ⟨H', u, k, e⟩ := loop77o (o := o) (g := g) (n := n) h37 L NN [t] H (by simp at hn; omega) hk hn hN (List.pairwise_singleton _ _) hw
    refine ⟨H', u, ?_, fun κ => ?_⟩
    · simpa [sortT, laidM, posT] using k
    · simp only [M77, M77_0]
      exact e κ

theorem flow55 (m : Nat) {s f : V} {n : Nat} (hn : n < 20) {H : Heap} {κ : Kv} : M55 o (m + 1) [s, .int .i64 (n : Int), f] H κ = o 77 [s, .int .i64 0, .int .i64 (n : Int), f] H fun v H4 => asT0 v (κ (.tup []) H4) := by
  have h6 : ∀ (H : Heap), M55_15 o (m + 1) κ (m + 1) s (n : Int) f 20 H = κ (.tup []) H := by
    intro H
    rw [M55_15_s]
    simp only [M55_6]
    rw [show decide ((20 : Int) < (n : Int)) = false by simp; omega]; rfl
  simp only [M55, M55_0, M55_1]
  rw [M55_3_s]
  simp only [M55_2]
  rw [show decide ((20 : Int) ≤ (n : Int)) = false by simp; omega]
  simp only [cond_false, M55_5, h6]

theorem sort36 {o1 o2 : Orc} (h55 : o 55 = M55 o1 NN) (h77 : o1 77 = M77 o2 NN) (h37 : o2 37 = pureO S37) {id n : Nat} {g : Bool} {L : List Trig} {H : Heap} (hk : lk id H.bl = some (.row (cellsT L))) (hn : n = L.length) (hN : n < 20) (hw : Wf H) :
    ∃ H', Up id H H' ∧ lk id H'.bl = some (.row (cellsT (sortT L))) ∧ ∀ κ : Kv, M36 o NN [.sl id 0 n 6 g, .fn 37 []] H κ = κ (.tup []) H' := by
  obtain ⟨H', u, k, e⟩ := sort77 (o := o2) (g := g) h37 hk hn (by unfold NN; omega) hw
  have h55' : o 55 = M55 o1 (1099511627775 + 1) := h55
  refine ⟨H', u, k, fun κ => ?_⟩
  have h0 : M36 o NN [.sl id 0 n 6 g, .fn 37 []] H κ = o 55 [.sl id 0 n 6 g, .int .i64 (n : Int), .fn 37 []] H fun v H3 => asT0 v (κ (.tup []) H3) := rfl
  rw [h0, h55', flow55 _ hN, h77, e]
  rfl

end
end Go.Proofs.Ytminfdcdmgpnjaa.K
