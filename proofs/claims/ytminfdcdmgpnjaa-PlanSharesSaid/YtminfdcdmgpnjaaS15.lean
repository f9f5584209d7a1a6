/- Rows that grow: what append makes; the document's laid. -/
import Derived.Test.YtminfdcdmgpnjaaS14
set_option linter.unusedVariables false
set_option linter.unusedSimpArgs false
namespace Go.Proofs.Ytminfdcdmgpnjaa.K
open Go

/-- Begun at H0, all that was there is there. -/
structure In (H0 H : Heap) : Prop where
  next : H0.next ≤ H.next
  wf : Wf H
  les : Les H0.bl H.bl
theorem In.refl {H : Heap} (hw : Wf H) : In H H := ⟨Nat.le_refl _, hw, Les.refl _⟩
theorem In.trans {a b c : Heap} (h : In a b) (h' : In b c) : In a c := ⟨Nat.le_trans h.next h'.next, h'.wf, h.les.trans h'.les⟩
theorem In.skip {a b : Heap} (h : In a b) (n : Nat) : In a (b.skip n) := ⟨by have := h.next; simp only [Heap.skip]; omega, h.wf.skip n, h.les⟩
theorem In.newAt {a b : Heap} (h : In a b) (ha : Wf a) {i : Nat} (x : Blk) (h1 : a.next ≤ i) (h2 : i < b.next) : In a (b.newAt i x) := by
  refine ⟨h.next, fun j c hj => ?_, fun j c hj => ?_⟩
  · simp only [Heap.newAt, lk_cons] at hj ⊢
    split at hj
    · omega
    · exact h.wf _ _ hj
  · have := ha _ _ hj
    simp only [Heap.newAt, lk_cons]
    rw [if_neg (by omega)]; exact h.les _ _ hj
theorem In.new {a b : Heap} (h : In a b) (x : Blk) : In a (b.new x) := ⟨by have := h.next; simp only [Heap.new]; omega, h.wf.new x, h.les.trans (h.wf.les x)⟩

/-- A row of triggers that was made behind H0, or none. -/
def Own (H0 H : Heap) (v : V) (l : List Trig) : Prop := (v = .nils ∧ l = []) ∨ ∃ id, H0.next ≤ id ∧ v = .sl id 0 l.length 6 true ∧ lk id H.bl = some (.row (cellsT l))
theorem Own.nil {H0 H : Heap} : Own H0 H .nils [] := .inl ⟨rfl, rfl⟩
theorem Own.base {a b H : Heap} {v : V} {l : List Trig} (h : Own b H v l) (hn : a.next ≤ b.next) : Own a H v l := by
  rcases h with h | ⟨id, h1, h2, h3⟩
  · exact .inl h
  · exact .inr ⟨id, by omega, h2, h3⟩
theorem Own.les {a H H' : Heap} {v : V} {l : List Trig} (h : Own a H v l) (hl : Les H.bl H'.bl) : Own a H' v l := by
  rcases h with h | ⟨id, h1, h2, h3⟩
  · exact .inl h
  · exact .inr ⟨id, h1, h2, hl _ _ h3⟩
theorem Own.rd {a H : Heap} {v : V} {l : List Trig} (h : Own a H v l) : rdL 6 trigOf H v = some l := by
  rcases h with ⟨rfl, rfl⟩ | ⟨id, h1, rfl, h3⟩
  · rfl
  · exact rd_new h3

theorem rdRow_src : ∀ {n : Nat} {l : List V} {xs : List Trig}, rdRow 6 trigOf n l = some xs → n * 6 ≤ l.length ∧ l.take (n * 6) = cellsT xs
  | 0, l, xs, h => by simp [rdRow] at h; subst h; simp [cellsT]
  | n + 1, l, xs, h => by
    simp only [rdRow, Option.bind_eq_some_iff, Option.map_eq_some_iff] at h
    obtain ⟨a, ha, ys, hy, rfl⟩ := h
    obtain ⟨h1, h2⟩ := rdRow_src hy
    have ht := trigOf_eq ha
    have hlen : 6 ≤ l.length := by
      have := congrArg List.length ht
      rw [Trig.clen, List.length_take] at this; omega
    rw [List.length_drop] at h1
    refine ⟨by omega, ?_⟩
    have e : l = l.take 6 ++ l.drop 6 := (List.take_append_drop 6 l).symm
    rw [show (n + 1) * 6 = 6 + n * 6 by omega, List.take_add, ht, h2]
    rfl
/-- Begun within its row. -/
def inB (H : Heap) : V → Bool
  | .nils => true
  | .sl id off _ _ _ => match rowOf H id with | some l => Nat.ble off l.length | none => false
  | _ => false
theorem inB_les {H H' : Heap} (h : Les H.bl H'.bl) {v : V} (e : inB H v = true) : inB H' v = true := by
  unfold inB at e ⊢
  split at e
  · rfl
  · rename_i id off n es g
    cases hr : rowOf H id with
    | none => rw [hr] at e; cases e
    | some l => rw [rowOf_les h hr]; rw [hr] at e; exact e
  · cases e
theorem Own.inB {a H : Heap} {v : V} {l : List Trig} (h : Own a H v l) : inB H v = true := by
  rcases h with ⟨rfl, rfl⟩ | ⟨id, h1, rfl, h3⟩
  · rfl
  · simp [K.inB, rowOf, h3]
theorem src_rd {H : Heap} {v : V} {xs : List Trig} (h : rdL 6 trigOf H v = some xs) (hb : inB H v = true) : srcCells H v 6 (lenOfV v) = some (cellsT xs) ∧ lenOfV v = xs.length := by
  unfold rdL at h
  split at h
  · cases h; exact ⟨rfl, rfl⟩
  · rename_i id off n es g
    obtain ⟨hc, h⟩ := ofCondO h
    rw [Option.bind_eq_some_iff] at h
    obtain ⟨l, hl, h⟩ := h
    have hn := rdRow_len h
    have e := beq_eq hc
    have hr : rdRow 6 trigOf n (List.drop off l) = some xs := h
    obtain ⟨h1, h2⟩ := rdRow_src hr
    refine ⟨?_, by simp only [lenOfV, hn]⟩
    simp only [inB, hl, Nat.ble_eq] at hb
    simp only [srcCells, lenOfV, e, Nat.beq_refl, cond_true, ldN]
    rw [List.length_drop] at h1
    have hcut : cutN l off (n * 6) = some (cellsT xs) := by
      unfold cutN
      rw [h2, cellsT_ones, show Nat.ble (off + n * 6) l.length = true by rw [Nat.ble_eq]; omega]; rfl
    unfold rowOf at hl
    split at hl
    · rename_i l' hl'; cases hl; rw [hl']; exact hcut
    · rename_i l' hl'; cases hl; rw [hl']; exact hcut
    · cases hl
  · cases h

theorem cellsT_app (a b : List Trig) : cellsT (a ++ b) = cellsT a ++ cellsT b := by simp [cellsT]

/-- What append makes. -/
theorem app_own {H0 H : Heap} (hw0 : Wf H0) (hi : In H0 H) {v x : V} {l xs : List Trig} (ho : Own H0 H v l) (hx : rdL 6 trigOf H x = some xs) (hb : inB H x = true) (hlen : l.length + xs.length ≤ lim) :
    ∃ v' H', (∀ K : V → Heap → Ans, appV H v x 6 K = K v' H') ∧ Own H0 H' v' (l ++ xs) ∧ In H0 H' ∧ H.next ≤ H'.next ∧ (∀ id b, lk id H.bl = some b → (∀ n es g, v ≠ .sl id 0 n es g) → lk id H'.bl = some b) := by
  obtain ⟨hs, hn⟩ := src_rd hx hb
  rcases ho with ⟨rfl, rfl⟩ | ⟨id, h1, rfl, h3⟩
  · cases xs with
    | nil =>
      refine ⟨.nils, H, fun K => ?_, Own.nil, hi, Nat.le_refl _, fun _ _ h _ => h⟩
      simp only [appV, exec, hs, Option.bind_some]
      rfl
    | cons t xs =>
      refine ⟨.sl H.next 0 (t :: xs).length 6 true, H.new (.row (cellsT (t :: xs))), fun K => ?_, ?_, hi.new _, by simp [Heap.new], fun id b h _ => hi.wf.les _ _ _ h⟩
      · have : lenOfV x ≤ lim := by rw [hn]; simpa using hlen
        simp only [appV, exec, hs, Option.bind_some]
        rw [show cellsT (t :: xs) = .int .i64 t.kind :: (cellsT (t :: xs)).tail from rfl]
        simp only [hn] at this ⊢
        rw [show Nat.ble (t :: xs).length lim = true by rw [Nat.ble_eq]; exact this]; rfl
      · exact .inr ⟨H.next, hi.next, by simp, by simp [Heap.new, lk_cons]⟩
  · refine ⟨.sl H.next 0 (l ++ xs).length 6 true, ⟨H.next + 1, (H.next, .row (cellsT (l ++ xs))) :: del id H.bl⟩, fun K => ?_, .inr ⟨H.next, hi.next, rfl, by simp [lk_cons]⟩, ?_, by simp, ?_⟩
    · rw [hn] at hs
      simp only [appV, exec, hn, hs, Option.bind_some, Nat.beq_refl, Bool.true_and]
      rw [show Nat.ble (l.length + xs.length) lim = true by rw [Nat.ble_eq]; exact hlen]
      simp only [cond_true, takeRow, h3, cellsT_len, Nat.ble_eq, Nat.le_refl]
      rw [show Nat.ble (l.length * 6) (l.length * 6) = true by rw [Nat.ble_eq]; exact Nat.le_refl _]
      simp only [cond_true, Option.bind_some]
      rw [List.take_of_length_le (by rw [cellsT_len]; omega), cellsT_app, List.length_append]
    · have hw := hi.wf
      refine ⟨by have := hi.next; simp only; omega, fun j c hj => ?_, fun j c hj => ?_⟩
      · simp only [lk_cons, lk_del] at hj ⊢
        split at hj
        · omega
        · split at hj
          · cases hj
          · have := hw _ _ hj; omega
      · have h2 := hi.les _ _ hj
        have h4 := hw _ _ h2
        have h5 : j < H0.next ∨ H0.next ≤ j := by omega
        simp only [lk_cons, lk_del]
        rw [if_neg (by omega)]
        by_cases e : j = id
        · have := hw0 _ _ hj
          omega
        · rw [if_neg e]; exact h2
    · intro j b hj hne
      have := hi.wf _ _ hj
      simp only [lk_cons, lk_del]
      rw [if_neg (by omega)]
      rw [if_neg (fun e => hne l.length 6 true (by rw [e]))]
      exact hj

theorem slS_drop {α : Type} {es : Nat} {dec : List V → Option α} {H : Heap} {v : V} {xs : List α} (h : rdL es dec H v = some xs) (hes : 0 < es) {i : Nat} (hi : i ≤ xs.length) :
    ∃ v', (∀ K : V → Ans, slS es v (some (.int .i64 (i : Int))) none K = K v') ∧ rdL es dec H v' = some (xs.drop i) ∧ (v' = .nils ∨ ∃ id off n g l, v = .sl id off n es g ∧ v' = .sl id (off + i * es) (n - i) es g ∧ rowOf H id = some l ∧ rdRow es dec n (l.drop off) = some xs) := by
  unfold rdL at h
  split at h
  · cases h
    simp at hi; subst hi
    refine ⟨.nils, fun K => ?_, by simp [rdL], .inl rfl⟩
    simp [slS, lt_blt hes, bounds]
  · rename_i id off n es' g
    obtain ⟨hc, h⟩ := ofCondO h
    rw [Option.bind_eq_some_iff] at h
    obtain ⟨l, hl, h⟩ := h
    have e := beq_eq hc
    subst e
    have hn := rdRow_len h
    refine ⟨.sl id (off + i * es') (n - i) es' g, fun K => ?_, ?_, .inr ⟨id, off, n, g, l, rfl, rfl, hl, h⟩⟩
    · simp only [slS, Nat.beq_refl, lt_blt hes, Bool.and_self, cond_true, bounds]
      rw [show (decide (0 ≤ (i : Int)) && decide ((i : Int) ≤ (n : Int))) = true by simp; omega]
      simp
    · simp only [rdL, Nat.beq_refl, cond_true, hl, Option.bind_some]
      have key : ∀ (n : Nat) (l : List V) (xs : List α) (i : Nat), rdRow es' dec n l = some xs → i ≤ n → rdRow es' dec (n - i) (l.drop (i * es')) = some (xs.drop i) := by
        intro n
        induction n with
        | zero => intro l xs i h hi; have : i = 0 := by omega
                  subst this; simpa using h
        | succ n ih =>
          intro l xs i h hi
          cases i with
          | zero => simpa using h
          | succ i =>
            simp only [rdRow, Option.bind_eq_some_iff, Option.map_eq_some_iff] at h
            obtain ⟨a, ha, ys, hy, rfl⟩ := h
            have := ih _ _ i hy (by omega)
            rw [List.drop_drop] at this
            rw [show n + 1 - (i + 1) = n - i by omega, show (i + 1) * es' = es' + i * es' by rw [Nat.succ_mul]; omega]
            exact this
      have := key n _ _ i h (by omega)
      rwa [List.drop_drop] at this
  · cases h
theorem slS_take_in {H : Heap} {v : V} {xs : List Trig} (h : rdL 6 trigOf H v = some xs) (hb : inB H v = true) {i : Nat} (hi : i ≤ xs.length) :
    ∃ v', (∀ K : V → Ans, slS 6 v none (some (.int .i64 (i : Int))) K = K v') ∧ rdL 6 trigOf H v' = some (xs.take i) ∧ inB H v' = true := by
  obtain ⟨v', h1, h2⟩ := slS_take h (by omega) hi
  refine ⟨v', h1, h2, ?_⟩
  unfold rdL at h
  split at h
  · cases h
    have := h1 (fun v => some (v, H))
    simp [slS, bounds] at this
    have hi0 : i = 0 := by simpa using hi
    subst hi0
    have e : V.nils = v' := by simpa [show Nat.blt 0 6 = true from rfl] using this
    rw [← e]; rfl
  · rename_i id off n es' g
    obtain ⟨hc, h'⟩ := ofCondO h
    have e := beq_eq hc
    subst e
    rw [Option.bind_eq_some_iff] at h'
    obtain ⟨l, hl, h'⟩ := h'
    have hn := rdRow_len h'
    have := h1 (fun v => some (v, H))
    simp only [slS, Nat.beq_refl, show Nat.blt 0 6 = true from rfl, Bool.and_self, cond_true, bounds] at this
    rw [show (decide (0 ≤ (i : Int)) && decide ((i : Int) ≤ (n : Int))) = true by simp; omega] at this
    simp only [cond_true, Option.some.injEq, Prod.mk.injEq, and_true] at this
    rw [← this]
    simpa [inB, hl] using hb
  · cases h
theorem slS_drop_in {H : Heap} {v : V} {xs : List Trig} (h : rdL 6 trigOf H v = some xs) (hb : inB H v = true) {i : Nat} (hi : i ≤ xs.length) :
    ∃ v', (∀ K : V → Ans, slS 6 v (some (.int .i64 (i : Int))) none K = K v') ∧ rdL 6 trigOf H v' = some (xs.drop i) ∧ inB H v' = true := by
  obtain ⟨v', h1, h2, h3⟩ := slS_drop h (by omega) hi
  refine ⟨v', h1, h2, ?_⟩
  rcases h3 with rfl | ⟨id, off, n, g, l, rfl, rfl, hl, hr⟩
  · rfl
  · have hlen := (rdRow_src hr).1
    have hn := rdRow_len hr
    simp only [inB, hl, Nat.ble_eq] at hb ⊢
    rw [List.length_drop] at hlen
    omega

/-! ### The document's laid -/
def posT (a : Int) : List Trig → Nat
  | [] => 0
  | x :: l => cond (decide (x.at_ ≤ a)) (posT a l + 1) 0
def laidM (l : List Trig) (t : Trig) : List Trig := l.take (posT t.at_ l) ++ t :: l.drop (posT t.at_ l)
theorem posT_le (a : Int) : ∀ l : List Trig, posT a l ≤ l.length
  | [] => Nat.le_refl _
  | x :: l => by
    simp only [posT, List.length_cons]
    cases decide (x.at_ ≤ a) with
    | true => have := posT_le a l; simp only [cond_true]; omega
    | false => simp
theorem laidM_len (l : List Trig) (t : Trig) : (laidM l t).length = l.length + 1 := by
  have := posT_le t.at_ l
  simp only [laidM, List.length_append, List.length_take, List.length_cons, List.length_drop]; omega

def S40 : List V → Heap → Option (Option (List Trig))
  | [v, .agg t], H => (trigOf t).bind fun t => (rdL 6 trigOf H v).bind fun l => cond (inB H v && decide (l.length < 1000)) (some (some (laidM l t))) none
  | _, _ => none

section
variable {o : Orc}

theorem loop40 {X0 : V → Nat → Int → Heap → Ans} {κ : Kv} {v : V} {i3 : Nat} {t : Trig} {l : List Trig} (hl : l.length < NN) {H0 : Heap} :
    ∀ (n k : Nat) (H : Heap), In H0 H → rdL 6 trigOf H v = some l → lk i3 H.bl = some (.row t.c) → l.length - k < n → k ≤ l.length →
    ∃ H', In H0 H' ∧ Les H.bl H'.bl ∧ M40_4 o NN X0 κ n v i3 k H = X0 v i3 ((k + posT t.at_ (l.drop k) : Nat) : Int) H' := by
  intro n
  induction n with
  | zero => intro k H _ _ _ hk; omega
  | succ n ih =>
    intro k H hin hr hk3 hk hkl
    rw [M40_4_s]
    have hr' : rdL 6 trigOf (H.skip 14) v = some l := rdL_les (Les.refl H.bl) hr
    have hk3' : lk i3 (H.skip 14).bl = some (.row t.c) := hk3
    simp only [M40_3, rdL_len hr]
    by_cases hlt : k < l.length
    · obtain ⟨id, off, h1, h2⟩ := trig_at hr' (nth_lt hlt)
      have l1 : ldI (H.skip 14) .i64 id (off + 1) = some l[k].at_ := by simp only [ldI, h2 1 (by omega)]; rfl
      have l2 : ldI (H.skip 14) .i64 i3 1 = some t.at_ := by simp [ldI, Heap.ldc, hk3', Trig.c, nth]
      simp only [show decide ((k : Int) < (l.length : Int)) = true by simpa using hlt, cond_true, h1, l1, l2, Option.bind_some]
      rw [drop_cons hlt, posT]
      cases e : decide (l[k].at_ ≤ t.at_) with
      | true =>
        simp only [cond_true]
        rw [wrap_nat (by omega)]
        obtain ⟨H', g1, g2, g3⟩ := ih (k + 1) (H.skip 14) (hin.skip 14) hr' hk3' (by omega) (by omega)
        refine ⟨H', g1, g2, ?_⟩
        rw [g3, show k + 1 + posT t.at_ (l.drop (k + 1)) = k + (posT t.at_ (l.drop (k + 1)) + 1) by omega]
      | false =>
        simp only [cond_false]
        exact ⟨H.skip 14, hin.skip 14, Les.refl H.bl, by simp⟩
    · simp only [show decide ((k : Int) < (l.length : Int)) = false by simpa using hlt, cond_false]
      rw [List.drop_eq_nil_of_le (by omega)]
      exact ⟨H.skip 14, hin.skip 14, Les.refl H.bl, by simp [posT]⟩

theorem sameT (w : Trig) : sameL w.c w.c = true := by simp [sameL, V.same, Trig.c]

theorem E40 (ho : ∀ f, FSound Try.prog f (o f)) : FSound Try.prog 40 (newO S40) := newO_sound (M40_sound ho NN) _ (by
  intro vs H0 r hw hs
  unfold S40 at hs
  split at hs
  · rename_i v tc
    simp only [Option.bind_eq_some_iff] at hs
    obtain ⟨t, ht, l, hr, hs⟩ := hs
    obtain ⟨hc, hs⟩ := ofCondO hs
    simp only [Bool.and_eq_true, decide_eq_true_eq] at hc
    obtain ⟨hb, hlen⟩ := hc
    rw [trigOf_eq ht]
    cases hs
    simp only
    simp only [M40, M40_0, Trig.ones, cond_true, M40_1]
    have hin : In H0 (H0.new (.row t.c)) := (In.refl hw.wf).new _
    have hk3 : lk H0.next (H0.new (.row t.c)).bl = some (.row t.c) := by simp [Heap.new, lk_cons]
    show EndsN H0 (laidM l t) (M40_4 o NN _ pureK NN v H0.next 0 (H0.new (.row t.c)))
    generalize H0.new (.row t.c) = H2 at hin hk3
    have hlN : l.length < NN := by unfold NN; omega
    obtain ⟨H3, g1, g2, g3⟩ := loop40 (o := o) (κ := pureK) (X0 := fun x0 x3 x5 H => M40_7 o NN pureK x0 x3 x5 H) hlN NN 0 H2 hin (rdL_les hin.les hr) hk3 (by omega) (by omega)
    rw [show (0 : Int) = ((0 : Nat) : Int) from rfl, g3]
    simp only [Nat.zero_add, List.drop_zero]
    have hk3' := g2 _ _ hk3
    have hp := posT_le t.at_ l
    generalize hpe : posT t.at_ l = p at hp
    -- the base of what is made
    have hin3 : In H0 (H3.skip 8) := g1.skip 8
    have hw3 : Wf (H3.skip 8) := hin3.wf
    have hr3 := rdL_les g1.les hr
    have hb3 := inB_les g1.les hb
    obtain ⟨v8, a1, a2, a3⟩ := slS_take_in hr3 hb3 (i := p) hp
    have ldT : ∀ (H : Heap), lk H0.next H.bl = some (.row t.c) → ∀ K : List V → Ans, ldFlat H H0.next [.int .i64, .int .i64, .int .i64, .int .i64, .int .i64, .int .i64] 0 K = K t.c := by
      intro H h K
      exact ldTrig (w := t) (fun j _ => by simp [Heap.ldc, h]) K
    obtain ⟨v10, H11, b1, b2, b3, b4, b5⟩ := app_own hw3 (In.refl hw3) (v := .nils) (x := v8) (l := []) (xs := l.take p) Own.nil (rdL_les (Les.refl H3.bl) a2) (inB_les (Les.refl H3.bl) a3) (by simp [lim]; omega)
    simp only [M40_7, a1, ldT _ (show lk H0.next (H3.skip 8).bl = some (.row t.c) from hk3'), b1, ldT _ (b3.les _ _ (show lk H0.next (H3.skip 8).bl = some (.row t.c) from hk3')), sameT, cond_true]
    have hfill : fillV (fun i => some (i * 6, 6)) [(.int .i64 0), (.int .i64 0), (.int .i64 0), (.int .i64 0), (.int .i64 0), (.int .i64 0)] [(0, (.agg t.c))] = some t.c := rfl
    simp only [hfill, Option.bind_some]
    -- the trigger as a row of one
    have hn11 : H3.next + 8 ≤ H11.next := b4
    have hin11 : In H0 H11 := hin3.trans b3
    have hin12 : In H0 (H11.newAt (H3.next + 5) (.row t.c)) := hin11.newAt hw.wf _ (by have := g1.next; omega) (by omega)
    have hk12 : lk (H3.next + 5) (H11.newAt (H3.next + 5) (.row t.c)).bl = some (.row (cellsT [t])) := by
      simp [Heap.newAt, lk_cons, cellsT]
    have own12 : Own H0 (H11.newAt (H3.next + 5) (.row t.c)) v10 (l.take p) := by
      rcases b2 with ⟨e1, e2⟩ | ⟨id, e1, e2, e3⟩
      · simp only [List.nil_append] at e2
        exact .inl ⟨e1, e2⟩
      · simp only [List.nil_append] at e2 e3
        simp only [Heap.skip] at e1
        refine .inr ⟨id, by have := g1.next; omega, e2, ?_⟩
        simp only [Heap.newAt, lk_cons]
        rw [if_neg (by omega)]; exact e3
    obtain ⟨v14, H15, c1, c2, c3, c4, c5⟩ := app_own hw.wf hin12 (v := v10) (x := .sl (H3.next + 5) 0 1 6 true) (l := l.take p) (xs := [t]) own12 (rd_new (l := [t]) hk12) (by simp [inB, rowOf, hk12]) (by simp [lim]; omega)
    rw [c1]
    have hr15 := rdL_les c3.les hr
    have hb15 := inB_les c3.les hb
    obtain ⟨v16, d1, d2, d3⟩ := slS_drop_in hr15 hb15 (i := p) hp
    rw [d1]
    obtain ⟨v17, H18, f1, f2, f3, f4, f5⟩ := app_own hw.wf c3 (v := v14) (x := v16) (l := l.take p ++ [t]) (xs := l.drop p) c2 d2 d3 (by simp [lim]; omega)
    rw [f1]
    have hM : laidM l t = l.take p ++ [t] ++ l.drop p := by simp [laidM, hpe]
    rw [hM]
    rcases f2 with ⟨e1, e2⟩ | ⟨id, e1, e2, e3⟩
    · simp at e2
    · exact ⟨H18, id, f3.les, by rw [e2], e3, e1⟩
  · cases hs)
end
end Go.Proofs.Ytminfdcdmgpnjaa.K
