/- PlanShares: the law. -/
import Derived.Test.YtminfdcdmgpnjaaS25
import Derived.Test.YtminfdcdmgpnjaaMp
set_option linter.unusedVariables false
set_option linter.unusedSimpArgs false
namespace Go.Proofs.Ytminfdcdmgpnjaa.K
open Go

def cells6 (f : Nat → Nat) : List V := [.int .i64 (f 0 : Nat), .int .i64 (f 1 : Nat), .int .i64 (f 2 : Nat), .int .i64 (f 3 : Nat), .int .i64 (f 4 : Nat), .int .i64 (f 5 : Nat)]
theorem set6 (f : Nat → Nat) (v : Nat) : ∀ j, j < 6 → setAt (cells6 f) j [.int .i64 (v : Nat)] = cells6 (fun i => if i = j then v else f i)
  | 0, _ => by simp [cells6, setAt, over]
  | 1, _ => by simp [cells6, setAt, over]
  | 2, _ => by simp [cells6, setAt, over]
  | 3, _ => by simp [cells6, setAt, over]
  | 4, _ => by simp [cells6, setAt, over]
  | 5, _ => by simp [cells6, setAt, over]
  | n + 6, h => by omega
theorem nth6 (f : Nat → Nat) : ∀ j, j < 6 → nth (cells6 f) j = some (.int .i64 (f j : Nat))
  | 0, _ => rfl
  | 1, _ => rfl
  | 2, _ => rfl
  | 3, _ => rfl
  | 4, _ => rfl
  | 5, _ => rfl
  | n + 6, h => by omega
theorem ld6 {H : Heap} {i : Nat} {f : Nat → Nat} (h : lk i H.bl = some (.row (cells6 f))) {j : Nat} (hj : j < 6) : ldI H .i64 i j = some (f j : Int) := by
  simp [ldI, Heap.ldc, h, nth6 f j hj]
theorem st6 {H : Heap} (hw : Wf H) {i : Nat} {f : Nat → Nat} (h : lk i H.bl = some (.row (cells6 f))) {j : Nat} (hj : j < 6) (v : Nat) :
    ∃ H2, stN H i j [.int .i64 (v : Nat)] = some H2 ∧ lk i H2.bl = some (.row (cells6 (fun i => if i = j then v else f i))) ∧ Up i H H2 := by
  have h1 : (([.int .i64 (v : Nat)] : List V).all V.one && Nat.ble (j + ([.int .i64 (v : Nat)] : List V).length) (cells6 f).length) = true := by
    simp [cells6, V.one]; omega
  have := stN_ind (K := fun H => some (V.nils, H)) (Q := fun a => ∃ H2, a = some (V.nils, H2) ∧ lk i H2.bl = some (.row (cells6 (fun i => if i = j then v else f i))) ∧ Up i H H2) hw h h1 (by
    intro H2 h2 h3 h4 h5
    refine ⟨H2, rfl, ?_, by omega, h4, h3⟩
    rw [h2, set6 f v j hj])
  obtain ⟨H2, e, r⟩ := this
  refine ⟨H2, ?_, r⟩
  rw [Option.bind_eq_some_iff] at e
  obtain ⟨H3, e1, e2⟩ := e
  cases e2
  exact e1
theorem ldc_own {H : Heap} {id : Nat} {L : List Trig} (hk : lk id H.bl = some (.row (cellsT L))) {j : Nat} {t : Trig} (h : nth L j = some t) {i : Nat} (hi : i < 6) : H.ldc id (0 + j * 6 + i) = nth t.c i := by
  simp only [Heap.ldc, hk]
  rw [Nat.zero_add]; exact nth_cells h i hi

section
variable {o : Orc}

theorem loop4a {X0 : Nat → Int → Int → Heap → Ans} {κ : Kv} {i1 : Nat} {m : Mat} {s1 s2 s3 : V} {H : Heap} (hat : MatAt H m s1 s2 s3) (hk1 : lk i1 H.bl = some (.row (m.c s1 s2 s3))) (hl : m.wins.length < NN) :
    ∀ (n k a b : Nat), m.wins.length - k < n → k ≤ m.wins.length → a ≤ k → b ≤ k → M4_8 o NN X0 κ n i1 (a : Nat) (b : Nat) (k : Nat) H =
      X0 i1 ((a + (m.wins.drop k).countP (fun w => w.kind == 1) : Nat) : Int) ((b + (m.wins.drop k).countP (fun w => w.kind == 2) : Nat) : Int) H := by
  have v10 : ldV H i1 10 = some s3 := by simp [ldV, Heap.ldc, hk1, Mat.c, nth, rdL_one hat.wins]
  intro n
  induction n with
  | zero => intro k a b hk; omega
  | succ n ih =>
    intro k a b hk hkl ha hb
    rw [M4_8_s]
    simp only [M4_7, v10, Option.bind_some, rdL_len hat.wins]
    by_cases hlt : k < m.wins.length
    · obtain ⟨id, off, h1, h2⟩ := win_at hat.wins (nth_lt hlt)
      have l0 : ldI H .i64 id (off + 0) = some m.wins[k].kind := by simp only [ldI, h2 0 (by omega)]; rfl
      simp only [show decide ((k : Int) < (m.wins.length : Int)) = true by simpa using hlt, cond_true, h1, l0, Option.bind_some]
      rw [drop_cons hlt, List.countP_cons, List.countP_cons]
      generalize m.wins[k].kind = q
      rw [wrap_nat (by omega), wrap_nat (by omega), wrap_nat (by omega)]
      cases e1 : (q == 1) with
      | true =>
        have : q = 1 := by simpa using e1
        subst this
        simp only [cond_true, show ((1 : Int) == 2) = false from rfl, cond_false, if_true, Bool.false_eq_true, if_false]
        rw [ih (k + 1) (a + 1) b (by omega) (by omega) (by omega) (by omega)]
        congr 2 <;> omega
      | false =>
        cases e2 : (q == 2) with
        | true =>
          simp only [cond_true, cond_false, if_true, Bool.false_eq_true, if_false]
          rw [ih (k + 1) a (b + 1) (by omega) (by omega) (by omega) (by omega)]
          congr 2 <;> omega
        | false =>
          simp only [cond_false, Bool.false_eq_true, if_false]
          rw [ih (k + 1) a b (by omega) (by omega) (by omega) (by omega)]
          congr 2 <;> omega
    · simp only [show decide ((k : Int) < (m.wins.length : Int)) = false by simpa using hlt, cond_false]
      rw [List.drop_eq_nil_of_le (by omega)]
      simp

theorem loop4i {x1 x8 : Nat} {x5 x6 x9 : Int} {id : Nat} {l : List Trig} (hs : SortedT l) (hg : ∀ t ∈ l, goodT t = true) (hne : id ≠ x8) {B : Nat} (hB : B + l.length < NN) :
    ∀ (n k : Nat) (f : Nat → Nat) (H : Heap), l.length - k < n → k ≤ l.length → lk id H.bl = some (.row (cellsT l)) → lk x8 H.bl = some (.row (cells6 f)) → Wf H → (∀ i, f i ≤ B + k) →
    ∃ H', Up x8 H H' ∧ lk x8 H'.bl = some (.row (cells6 (fun i => f i + cntK (i : Int) (l.drop k)))) ∧ ∀ (X4 : Nat → Int → Int → Nat → Int → Heap → Ans) (κ : Kv), M4_26 o NN X4 κ n x1 x5 x6 x8 x9 (.sl id 0 l.length 6 true) (k : Nat) H = X4 x1 x5 x6 x8 x9 H' := by
  intro n
  induction n with
  | zero => intro k f H hk; omega
  | succ n ih =>
    intro k f H hk hkl hkid hk8 hw hf
    by_cases hlt : k < l.length
    · have hmem : l[k] ∈ l := List.getElem_mem hlt
      have hgt := hg _ hmem
      have hn := nth_lt hlt
      have hsrt : 0 < k → ∃ u, nth l (k - 1) = some u ∧ u.at_ ≤ l[k].at_ := fun h0 => by
        refine ⟨_, nth_lt (i := k - 1) (by omega), ?_⟩
        exact (List.pairwise_iff_getElem.1 hs) (k - 1) k (by omega) hlt (by omega)
      generalize hte : l[k] = t at *
      simp only [goodT, Bool.and_eq_true, decide_eq_true_eq] at hgt
      obtain ⟨⟨g1, g5⟩, gt⟩ := hgt
      have hj : t.kind.toNat < 6 := by omega
      have hkS : lk id (H.skip 55).bl = some (.row (cellsT l)) := hkid
      have hk8S : lk x8 (H.skip 55).bl = some (.row (cells6 f)) := hk8
      obtain ⟨H2, e2, k2, u2⟩ := st6 (hw.skip 55) hk8S hj (f t.kind.toNat + 1)
      obtain ⟨H3, u3, k3, e3⟩ := ih (k + 1) (fun i => if i = t.kind.toNat then f t.kind.toNat + 1 else f i) H2 (by omega) (by omega) (by rw [u2.oth _ hne]; exact hkid) k2 u2.wf (fun i => by
        have := hf i; have := hf t.kind.toNat
        split <;> omega)
      refine ⟨H3, (((Up.refl hw).skip 55).trans u2).trans u3, ?_, fun X4 κ => ?_⟩
      · rw [k3]
        congr 3
        funext i
        rw [drop_cons hlt, hte, show t :: l.drop (k + 1) = [t] ++ l.drop (k + 1) from rfl, cntK_app, cnt_one]
        by_cases hi : i = t.kind.toNat
        · subst hi
          rw [if_pos rfl, if_pos (by omega)]; omega
        · rw [if_neg hi, if_neg (by omega)]; omega
      · have k0 : ldI (H.skip 55) .i64 id (0 + k * 6 + 0) = some t.kind := by simp only [ldI, ldc_own hkS hn (i := 0) (by omega)]; rfl
        have k1 : ldI (H.skip 55) .i64 id (0 + k * 6 + 1) = some t.at_ := by simp only [ldI, ldc_own hkS hn (i := 1) (by omega)]; rfl
        have k5 : ldI (H.skip 55) .i64 id (0 + k * 6 + 5) = some t.till := by simp only [ldI, ldc_own hkS hn (i := 5) (by omega)]; rfl
        have hd : decide ((k : Int) < (l.length : Int)) = true := by simpa using hlt
        have m8 : ldI (H.skip 55) .i64 x8 (0 + Int.toNat t.kind * 1) = some ((f t.kind.toNat : Nat) : Int) := by
          rw [Nat.zero_add, Nat.mul_one]; exact ld6 hk8S hj
        have go : M4_18 o NN (fun x1 x5 x6 x8 x9 x10 x11 H => M4_20 o NN (fun x1 x5 x6 x8 x9 x10 x11 H => M4_22 o NN (M4_26 o NN X4 κ n) κ x1 x5 x6 x8 x9 x10 x11 H) κ x1 x5 x6 x8 x9 x10 x11 H) κ x1 x5 x6 x8 x9 (.sl id 0 l.length 6 true) k false (H.skip 55) = X4 x1 x5 x6 x8 x9 H3 := by
          simp only [M4_18, cond_false, M4_20]
          rw [idx_own hlt]
          have hc : (decide (0 ≤ t.kind) && decide (t.kind < (6 : Nat)) && Nat.blt 0 1) = true := by
            simp only [Bool.and_eq_true, decide_eq_true_eq]; exact ⟨⟨by omega, by omega⟩, rfl⟩
          simp only [k0, Option.bind_some, hc, cond_true, m8]
          have hfk := hf t.kind.toNat
          rw [wrap_nat (by omega), show 0 + t.kind.toNat * 1 = t.kind.toNat by omega, e2]
          simp only [Option.bind_some, M4_22]
          rw [wrap_nat (by omega)]
          exact e3 X4 κ
        rw [M4_26_s]
        simp only [M4_15, lenS, hd, cond_true, M4_17]
        rw [idx_own hlt]
        simp only [k0, Option.bind_some, show decide (t.kind < 1) = false by simp; omega, cond_false]
        rw [idx_own hlt]
        simp only [k0, Option.bind_some, show decide (t.kind > 5) = false by simp; omega, cond_false]
        have tail : ∀ (J : Bool → Ans), J false = X4 x1 x5 x6 x8 x9 H3 → (idxS 6 (.sl id 0 l.length 6 true) (k : Int) fun p58 o59 =>
            (ldI (H.skip 55) .i64 p58 (o59 + 5)).bind fun n60 =>
            idxS 6 (.sl id 0 l.length 6 true) (k : Int) fun p61 o62 =>
            (ldI (H.skip 55) .i64 p61 (o62 + 0)).bind fun n63 =>
            cond (n63 == 1) (J (!((n60 != 0) == true))) (
            idxS 6 (.sl id 0 l.length 6 true) (k : Int) fun p64 o65 =>
            (ldI (H.skip 55) .i64 p64 (o65 + 0)).bind fun n66 =>
            J (!((n60 != 0) == (n66 == 2))))) = X4 x1 x5 x6 x8 x9 H3 := by
          intro J hJ
          rw [idx_own hlt]
          simp only [k5, Option.bind_some]
          rw [idx_own hlt]
          simp only [k0, Option.bind_some]
          rw [idx_own hlt]
          simp only [k0, Option.bind_some]
          rw [beq_iff_eq] at gt
          cases e1 : (t.kind == 1) with
          | true => rw [e1] at gt; simp only [cond_true, gt]; exact hJ
          | false => rw [e1] at gt; simp only [cond_false, gt, Bool.false_or, beq_self_eq_true, Bool.not_true]; exact hJ
        by_cases h0 : 0 < k
        · obtain ⟨u, hu, hle⟩ := hsrt h0
          have ku : ldI (H.skip 55) .i64 id (0 + (k - 1) * 6 + 1) = some u.at_ := by simp only [ldI, ldc_own hkS hu (i := 1) (by omega)]; rfl
          have wp : IntKind.i64.wrap ((k : Int) - 1) = ((k - 1 : Nat) : Int) := by
            have hNN : NN = 1099511627776 := rfl
            rw [wrap64 (by omega) (by omega)]; omega
          simp only [show decide ((k : Int) > 0) = true by simp; omega, cond_true, wp]
          rw [idx_own (show k - 1 < l.length by omega)]
          simp only [ku, Option.bind_some]
          rw [idx_own hlt]
          simp only [k1, Option.bind_some, show decide (u.at_ > t.at_) = false by simp; omega, cond_false]
          exact tail (fun b => M4_18 o NN (fun x1 x5 x6 x8 x9 x10 x11 H => M4_20 o NN (fun x1 x5 x6 x8 x9 x10 x11 H => M4_22 o NN (M4_26 o NN X4 κ n) κ x1 x5 x6 x8 x9 x10 x11 H) κ x1 x5 x6 x8 x9 x10 x11 H) κ x1 x5 x6 x8 x9 (.sl id 0 l.length 6 true) k b (H.skip 55)) go
        · simp only [show decide ((k : Int) > 0) = false by simp; omega, cond_false]
          exact tail (fun b => M4_18 o NN (fun x1 x5 x6 x8 x9 x10 x11 H => M4_20 o NN (fun x1 x5 x6 x8 x9 x10 x11 H => M4_22 o NN (M4_26 o NN X4 κ n) κ x1 x5 x6 x8 x9 x10 x11 H) κ x1 x5 x6 x8 x9 x10 x11 H) κ x1 x5 x6 x8 x9 (.sl id 0 l.length 6 true) k b (H.skip 55)) go
    · refine ⟨H, Up.refl hw, ?_, fun X4 κ => ?_⟩
      · rw [List.drop_eq_nil_of_le (by omega)]
        simpa [cntK] using hk8
      · rw [M4_26_s]
        simp only [M4_15, lenS, show decide ((k : Int) < (l.length : Int)) = false by simpa using hlt, cond_false]

theorem row_len19 {m : Mat} (h : isM m = true) (who : Int) : (sortT (rowM m who)).length ≤ 19 := by
  rw [sortT_len]
  have := trigsW_len m who m.wins
  have h2 : (tailM m who).length ≤ 3 := by
    unfold tailM
    cases decide (rankM m who ≥ 0) <;> simp
  have h3 := wins_le h
  simp only [rowM, List.length_append]; omega
theorem cnt_le (k : Int) (l : List Trig) : cntK k l ≤ l.length := List.countP_le_length
theorem tot_le {m : Mat} (h : isM m = true) (k : Int) (n : Nat) : tot m k n ≤ 19 * n :=
  sumN_le fun i _ => Nat.le_trans (cnt_le _ _) (row_len19 h _)

theorem loop4o (h12 : o 12 = newO Splan) {H0 : Heap} (hw0 : Wf H0) {m : Mat} {s1 s2 s3 : V} (hat0 : MatAt H0 m s1 s2 s3) (hc : (chkM m).2 = 0) (hsm : small m = true) (hr : ranged m = true) {x1 x8 : Nat} {x5 x6 : Int} {n : Nat} (hn : (n : Int) = m.nodes) (h8 : H0.next ≤ x8) :
    ∀ (nf who : Nat) (H : Heap), n - who < nf → who ≤ n → In H0 H → lk x1 H.bl = some (.row (m.c s1 s2 s3)) → lk x8 H.bl = some (.row (cells6 (fun i => tot m (i : Int) who))) →
    ∃ H', In H0 H' ∧ lk x1 H'.bl = some (.row (m.c s1 s2 s3)) ∧ lk x8 H'.bl = some (.row (cells6 (fun i => tot m (i : Int) n))) ∧ ∀ (X2 : Nat → Int → Int → Nat → Heap → Ans) (κ : Kv), M4_32 o NN X2 κ nf x1 x5 x6 x8 (who : Nat) H = X2 x1 x5 x6 x8 H' := by
  have hM := (chk_parts hc).1
  have hp := isM_parts2 hM
  intro nf
  induction nf with
  | zero => intro who H hk; omega
  | succ nf ih =>
    intro who H hk hle hin hk1 hk8
    have hat := hat0.les hin.les
    have r1 : ldI H .i64 x1 1 = some m.nodes := by simp [ldI, Heap.ldc, hk1, Mat.c, nth]
    by_cases hlt : who < n
    · have hsp : Splan [.agg (m.c s1 s2 s3), .int .i64 (who : Int)] H = some (some (sortT (rowM m (who : Int)))) := by
        simp only [Splan, hat.of, Option.bind_some, hsm, hr, Bool.and_self, cond_true, planM]
        rw [show ((chkM m).2 != 0) = false by simp [hc]]; rfl
      have hl19 := row_len19 hM (who : Int)
      have h8n : x8 < H.next := hin.wf _ _ hk8
      have hne : x1 ≠ x8 := by
        rintro rfl
        rw [hk1] at hk8
        have h5 := congrArg (fun b => match b with | some (Blk.row r) => r.length | _ => 0) hk8
        simp [Mat.c, cells6] at h5
      have hkl : lk H.next (H.new (.row (cellsT (sortT (rowM m (who : Int)))))).bl = some (.row (cellsT (sortT (rowM m (who : Int))))) := by simp [Heap.new, lk_cons]
      have hNN : NN = 1099511627776 := rfl
      obtain ⟨H3, u3, k3, e3⟩ := loop4i (o := o) (x1 := x1) (x8 := x8) (x5 := x5) (x6 := x6) (x9 := (who : Int)) (sort_sorted _) (row_good hc (who : Int)) (show H.next ≠ x8 by omega) (B := 19 * who) (by omega) NN 0 (fun i => tot m (i : Int) who) (H.new (.row (cellsT (sortT (rowM m (who : Int)))))) (by omega) (by omega) hkl (hin.wf.les _ _ _ hk8) (hin.wf.new _) (fun i => by simpa using tot_le hM (i : Int) who)
      have hin1 : In H0 (H.new (.row (cellsT (sortT (rowM m (who : Int)))))) := hin.new _
      have hin3 : In H0 H3 := ⟨Nat.le_trans hin1.next u3.next, u3.wf, fun j b hj => by
        have := hw0 _ _ hj
        rw [u3.oth j (by omega)]; exact hin1.les _ _ hj⟩
      obtain ⟨H4, g1, g2, g3, g4⟩ := ih (who + 1) H3 (by omega) (by omega) hin3 (by rw [u3.oth _ hne]; exact hin.wf.les _ _ _ hk1) (by rw [k3]; simp only [List.drop_zero]; rfl)
      refine ⟨H4, g1, g2, g3, fun X2 κ => ?_⟩
      rw [M4_32_s]
      simp only [M4_12, r1, Option.bind_some, show decide ((who : Int) < m.nodes) = true by simp; omega, cond_true, M4_13, ldMat hat hk1, h12, newO, hsp, newB, M4_14]
      have := e3 (fun x1 x5 x6 x8 x9 H => M4_29 o NN (M4_32 o NN X2 κ nf) κ x1 x5 x6 x8 x9 H) κ
      rw [show ((0 : Nat) : Int) = (0 : Int) from rfl] at this
      rw [this]
      simp only [M4_29]
      rw [wrap_nat (by omega)]
      exact g4 X2 κ
    · have e : who = n := by omega
      subst e
      refine ⟨H, hin, hk1, hk8, fun X2 κ => ?_⟩
      rw [M4_32_s]
      simp only [M4_12, r1, Option.bind_some, show decide ((who : Int) < m.nodes) = false by simp; omega, cond_false]

theorem planShares_run (h9 : o 9 = pureO fun vs _ => match vs with | [] => some (.bool true) | _ => none) (h10 : o 10 = pureO S10) (h18 : o 18 = pureO S42) (h19 : o 19 = pureO S19) (h12 : o 12 = newO Splan)
    {H0 : Heap} (hw0 : Wf H0) {m : Mat} {s1 s2 s3 : V} (hat0 : MatAt H0 m s1 s2 s3) (hr : ranged m = true) : Yes (M4 o NN [.agg (m.c s1 s2 s3)] H0 pureK) := by
  have h0 : M4 o NN [.agg (m.c s1 s2 s3)] H0 pureK = M4_0 o NN (fun x1 H => M4_1 o NN (fun x1 H => M4_2 o NN (fun x1 H => M4_40 o NN pureK x1 H) pureK x1 H) pureK x1 H) pureK (m.c s1 s2 s3) H0 := rfl
  rw [h0]
  simp only [M4_0, hat0.ones, cond_true, newB]
  have hin : In H0 (H0.new (.row (m.c s1 s2 s3))) := (In.refl hw0).new _
  have hk : lk H0.next (H0.new (.row (m.c s1 s2 s3))).bl = some (.row (m.c s1 s2 s3)) := by simp [Heap.new, lk_cons]
  generalize H0.new (.row (m.c s1 s2 s3)) = H2 at hin hk
  have hat2 := hat0.les hin.les
  have s10 : S10 [.agg (m.c s1 s2 s3)] H2 = some (.bool (fewM m)) := by simp only [S10, hat2.of, Option.bind_some]
  simp only [M4_1, M4_2, h9, h10, pureO, Option.bind_some, asB, Bool.not_true, cond_false, ldMat hat2 hk, s10]
  cases hf : fewM m with
  | false => exact ⟨H2, rfl⟩
  | true =>
    have hsm := few_small hf
    have s19 : S19 [.agg (m.c s1 s2 s3)] H2 = some (tupV (chkM m)) := by simp only [S19, hat2.of, Option.bind_some, hsm, hr, Bool.and_self, cond_true]
    simp only [Bool.not_true, cond_false, h18, pureO, S42_of hat2 hsm, Option.bind_some, asB]
    cases hM : isM m with
    | false => exact ⟨H2, rfl⟩
    | true =>
      simp only [Bool.not_true, cond_false, M4_40, M4_3, ldMat hat2 hk, h19, pureO, s19, Option.bind_some, tupV, asT2, asI, decide_true, cond_true, M4_4]
      have splan : Splan [.agg (m.c s1 s2 s3), .int .i64 0] H2 = some (planM m 0) := by simp only [Splan, hat2.of, Option.bind_some, hsm, hr, Bool.and_self, cond_true]
      cases e : ((chkM m).2 != 0) with
      | true =>
        have hp : planM m 0 = none := by unfold planM; rw [e]; rfl
        simp only [cond_true, h12, newO, splan, hp, Option.bind_some, lenS]
        exact ⟨H2, rfl⟩
      | false =>
        have hc : (chkM m).2 = 0 := by simpa using e
        have hp := isM_parts2 hM
        have hwl := wins_le hM
        have hNN : NN = 1099511627776 := rfl
        obtain ⟨n, hn⟩ : ∃ n : Nat, (n : Int) = m.nodes := ⟨m.nodes.toNat, by omega⟩
        simp only [cond_false, M4_5, M4_6]
        rw [show (0 : Int) = ((0 : Nat) : Int) from rfl, loop4a hat2 hk (by omega) NN 0 0 0 (by omega) (by omega) (by omega) (by omega)]
        simp only [List.drop_zero, Nat.zero_add, M4_10, newB, M4_11]
        have hin3 : In H0 (H2.new (.row (cells6 (fun i => tot m (i : Int) 0)))) := hin.new _
        have hk3 : lk H0.next (H2.new (.row (cells6 (fun i => tot m (i : Int) 0)))).bl = some (.row (m.c s1 s2 s3)) := hin.wf.les _ _ _ hk
        have hk8 : lk H2.next (H2.new (.row (cells6 (fun i => tot m (i : Int) 0)))).bl = some (.row (cells6 (fun i => tot m (i : Int) 0))) := by simp [Heap.new, lk_cons]
        obtain ⟨H4, g1, g2, g3, g4⟩ := loop4o (o := o) (x1 := H0.next) (x8 := H2.next) (x5 := ((m.wins.countP (fun w => w.kind == 1) : Nat) : Int)) (x6 := ((m.wins.countP (fun w => w.kind == 2) : Nat) : Int)) h12 hw0 hat0 hc hsm hr hn hin.next NN 0 (H2.new (.row (cells6 (fun i => tot m (i : Int) 0)))) (by omega) (by omega) hin3 hk3 hk8
        have g4' := g4 (fun x1 x5 x6 x8 H => M4_35 o NN (fun x2 H => M4_36 o NN pureK x2 H) pureK x1 x5 x6 x8 H) pureK
        have hrow : (.row [.int .i64 0, .int .i64 0, .int .i64 0, .int .i64 0, .int .i64 0, .int .i64 0] : Blk) = .row (cells6 (fun i => tot m (i : Int) 0)) := rfl
        simp only [show ((0 : Nat) : Int) = (0 : Int) from rfl] at g4' ⊢
        rw [hrow, g4']
        have c1 := List.countP_le_length (p := fun w : Win => w.kind == 1) (l := m.wins)
        have c2 := List.countP_le_length (p := fun w : Win => w.kind == 2) (l := m.wins)
        have q1 := tot_1 hc n hn
        have q2 := tot_2 hc n hn
        have q3 := tot_3 hc n hn
        have q4 := tot_4 hc n hn
        have q5 := tot_5 hc n hn
        generalize m.wins.countP (fun w => w.kind == 1) = a at *
        generalize m.wins.countP (fun w => w.kind == 2) = b at *
        have hn8 : n ≤ 8 := by omega
        have hn1 : 1 ≤ n := by omega
        have b1 : a * (n - 1) ≤ 16 * 8 := Nat.mul_le_mul (by omega) (by omega)
        have b2 : b * n ≤ 16 * 8 := Nat.mul_le_mul (by omega) (by omega)
        have r1 : ldI H4 .i64 H0.next 1 = some m.nodes := by simp [ldI, Heap.ldc, g2, Mat.c, nth]
        have v8 : ldV H4 H0.next 8 = some s1 := by simp [ldV, Heap.ldc, g2, Mat.c, nth, rdL_one hat0.mas]
        have t1 : ldI H4 .i64 H2.next (0 + Int.toNat 1 * 1) = some ((a : Nat) : Int) := by rw [show 0 + Int.toNat 1 * 1 = 1 from rfl, ld6 g3 (by omega)]; exact congrArg some (congrArg _ q1)
        have t2 : ldI H4 .i64 H2.next (0 + Int.toNat 2 * 1) = some ((b * n : Nat) : Int) := by rw [show 0 + Int.toNat 2 * 1 = 2 from rfl, ld6 g3 (by omega)]; exact congrArg some (congrArg _ q2)
        have t3 : ldI H4 .i64 H2.next (0 + Int.toNat 3 * 1) = some ((a * (n - 1) : Nat) : Int) := by rw [show 0 + Int.toNat 3 * 1 = 3 from rfl, ld6 g3 (by omega)]; exact congrArg some (congrArg _ q3)
        have t4 : ldI H4 .i64 H2.next (0 + Int.toNat 4 * 1) = some ((2 * m.mas.length : Nat) : Int) := by rw [show 0 + Int.toNat 4 * 1 = 4 from rfl, ld6 g3 (by omega)]; exact congrArg some (congrArg _ q4)
        have t5 : ldI H4 .i64 H2.next (0 + Int.toNat 5 * 1) = some ((n : Nat) : Int) := by rw [show 0 + Int.toNat 5 * 1 = 5 from rfl, ld6 g3 (by omega)]; exact congrArg some (congrArg _ q5)
        have w3 : IntKind.i64.wrap ((a : Int) * IntKind.i64.wrap (m.nodes - 1)) = ((a * (n - 1) : Nat) : Int) := by
          rw [wrap64 (n := m.nodes - 1) (by omega) (by omega)]
          have e1 : (a : Int) * (m.nodes - 1) = ((a * (n - 1) : Nat) : Int) := by rw [Int.natCast_mul]; congr 1; omega
          rw [e1, wrap64 (by omega) (by omega)]
        have w2 : IntKind.i64.wrap ((b : Int) * m.nodes) = ((b * n : Nat) : Int) := by
          have e1 : (b : Int) * m.nodes = ((b * n : Nat) : Int) := by rw [Int.natCast_mul, hn]
          rw [e1, wrap64 (by omega) (by omega)]
        have w4 : IntKind.i64.wrap (2 * (m.mas.length : Int)) = ((2 * m.mas.length : Nat) : Int) := by
          rw [wrap64 (by omega) (by omega)]; omega
        simp only [M4_35, M4_36, t1, t2, t3, t4, t5, r1, v8, Option.bind_some, rdL_len (hat0.les g1.les).mas, w2, w3, w4, beq_self_eq_true, cond_true, hn]
        exact ⟨H4, rfl⟩

end
end Go.Proofs.Ytminfdcdmgpnjaa.K
