/- What the document's Is answers. -/
import Derived.Test.YtminfdcdmgpnjaaS9
set_option linter.unusedVariables false
set_option linter.unusedSimpArgs false
namespace Go.Proofs.Ytminfdcdmgpnjaa.K
open Go

theorem win_chain {m : Mat} {w : Win} {f : Bool → Ans} :
    cond (!within w.kind 1 3) (f true) (cond (!within w.st 0 m.length) (f true) (cond (!within w.en 0 m.length) (f true) (cond (decide (w.st ≥ w.en)) (f true) (cond (!(pow4 w.re && decide (w.re ≤ m.cycles))) (f true) (cond (!within w.cy 0 (IntKind.i64.wrap (w.re - 1))) (f true) (cond (!within w.msg 0 99) (f true) (cond (w.msg != 0) (f (w.kind != 1)) (f false)))))))) = f (!winOk m w) := by
  have h1 : decide (w.st ≥ w.en) = !decide (w.st < w.en) := by by_cases h : w.st < w.en <;> simp [h] <;> omega
  have h2 : (w.msg != 0) = !(w.msg == 0) := rfl
  have h3 : (w.kind != 1) = !(w.kind == 1) := rfl
  rw [h1, h2, h3]
  unfold winOk
  generalize within w.kind 1 3 = a1
  generalize within w.st 0 m.length = a2
  generalize within w.en 0 m.length = a3
  generalize decide (w.st < w.en) = a4
  generalize pow4 w.re = a5
  generalize decide (w.re ≤ m.cycles) = a6
  generalize within w.cy 0 (IntKind.i64.wrap (w.re - 1)) = a7
  generalize within w.msg 0 99 = a8
  generalize (w.msg == 0) = a9
  generalize (w.kind == 1) = a0
  cases a1
  · rfl
  cases a2
  · rfl
  cases a3
  · rfl
  cases a4
  · rfl
  cases a5
  · rfl
  cases a6
  · rfl
  cases a7
  · rfl
  cases a8
  · rfl
  cases a9 <;> cases a0 <;> rfl

/-- The first half of the head, and the second. -/
def head1 (m : Mat) : Bool := within m.level 1 2 && within m.nodes 1 8 && (pow4 m.cycles && decide (m.cycles ≤ 8)) && within m.length 1 4000 && within m.enable 1 16 && within m.unit 1 64 && within m.init 0 8000
def head2 (m : Mat) : Bool := decide (m.ref < 2048) && (Int.tmod m.ref 8 == 0) && (within m.mas.length 1 4 && decide (m.msgs.length ≤ 12) && decide (m.wins.length ≤ 16))
theorem head_chain {m : Mat} {f : Bool → Ans} :
    cond (!within m.level 1 2) (f true) (cond (!within m.nodes 1 8) (f true) (cond (!(pow4 m.cycles && decide (m.cycles ≤ 8))) (f true) (cond (!within m.length 1 4000) (f true) (cond (!within m.enable 1 16) (f true) (cond (!within m.unit 1 64) (f true) (f (!within m.init 0 8000))))))) = f (!head1 m) := by
  unfold head1
  generalize within m.level 1 2 = a1
  generalize within m.nodes 1 8 = a2
  generalize (pow4 m.cycles && decide (m.cycles ≤ 8)) = a3
  generalize within m.length 1 4000 = a4
  generalize within m.enable 1 16 = a5
  generalize within m.unit 1 64 = a6
  generalize within m.init 0 8000 = a7
  cases a1
  · rfl
  cases a2
  · rfl
  cases a3
  · rfl
  cases a4
  · rfl
  cases a5
  · rfl
  cases a6 <;> cases a7 <;> rfl
theorem tail_chain {m : Mat} {f : Bool → Ans} :
    cond (decide (m.ref ≥ 2048)) (f true) (cond ((Int.tmod m.ref 8) != 0) (f true) (cond (!within m.mas.length 1 4) (f true) (cond (decide ((m.msgs.length : Int) > 12)) (f true) (f (decide ((m.wins.length : Int) > 16)))))) = f (!head2 m) := by
  have h1 : decide (m.ref ≥ 2048) = !decide (m.ref < 2048) := by by_cases h : m.ref < 2048 <;> simp [h] <;> omega
  have h2 : (Int.tmod m.ref 8 != 0) = !(Int.tmod m.ref 8 == 0) := rfl
  have h3 : decide ((m.msgs.length : Int) > 12) = !decide (m.msgs.length ≤ 12) := by by_cases h : m.msgs.length ≤ 12 <;> simp [h] <;> omega
  have h4 : decide ((m.wins.length : Int) > 16) = !decide (m.wins.length ≤ 16) := by by_cases h : m.wins.length ≤ 16 <;> simp [h] <;> omega
  rw [h1, h2, h3, h4]
  unfold head2
  generalize decide (m.ref < 2048) = a1
  generalize (Int.tmod m.ref 8 == 0) = a2
  generalize within m.mas.length 1 4 = a3
  generalize decide (m.msgs.length ≤ 12) = a4
  generalize decide (m.wins.length ≤ 16) = a5
  cases a1
  · rfl
  cases a2
  · rfl
  cases a3
  · rfl
  cases a4 <;> cases a5 <;> rfl
theorem pow4_le {n : Int} (h : pow4 n = true) : n ≤ 8 := by
  simp [pow4] at h; omega
theorem isM_parts (m : Mat) : isM m = (head1 m && head2 m && (m.mas.all (fun n => within n 0 99) && m.msgs.all msgOk && m.wins.all (winOk m))) := by
  have hp : (pow4 m.cycles && decide (m.cycles ≤ 8)) = pow4 m.cycles := by
    cases h : pow4 m.cycles with
    | false => rfl
    | true => have := pow4_le h; simp [this]
  unfold isM headOk head1 head2
  rw [hp]
  simp only [Bool.and_assoc]

section
variable {o : Orc}

theorem loop18a (h44 : o 44 = pureO Swithin) {X0 : Nat → Heap → Ans} {κ : Kv} {i1 : Nat} {v : V} {H : Heap} {xs : List Int} (h : rdL 1 intOf H v = some xs) (hl : xs.length < NN) (hv : ldV H i1 8 = some v) :
    ∀ (n k : Nat), xs.length - k < n → M18_7 o NN X0 κ n i1 k H = cond ((xs.drop k).all (fun n => within n 0 99)) (X0 i1 H) (κ (.bool false) H) := by
  intro n
  induction n with
  | zero => intro k hk; omega
  | succ n ih =>
    intro k hk
    rw [M18_7_s]
    simp only [M18_6, hv, Option.bind_some, rdL_len h]
    by_cases hlt : k < xs.length
    · obtain ⟨id, off, h1, h2⟩ := int_at h (nth_lt hlt)
      rw [drop_cons hlt]
      simp only [show decide ((k : Int) < (xs.length : Int)) = true by simpa using hlt, cond_true, h1, h2, Option.bind_some, c44 h44, asB, List.all_cons]
      cases e : within xs[k] 0 99 with
      | false => rfl
      | true =>
        simp only [Bool.not_true, cond_false, Bool.true_and]
        rw [wrap_nat (by omega), ih (k + 1) (by omega)]
    · rw [List.drop_eq_nil_of_le (by omega)]
      simp only [show decide ((k : Int) < (xs.length : Int)) = false by simpa using hlt, cond_false, List.all_nil, cond_true]

theorem loop18b (h44 : o 44 = pureO Swithin) {X2 : Nat → Heap → Ans} {κ : Kv} {i1 : Nat} {v : V} {H : Heap} {xs : List Msg} (h : rdL 3 msgOf H v = some xs) (hl : xs.length < NN) (hv : ldV H i1 9 = some v) :
    ∀ (n k : Nat), xs.length - k < n → M18_11 o NN X2 κ n i1 k H = cond ((xs.drop k).all msgOk) (X2 i1 H) (κ (.bool false) H) := by
  intro n
  induction n with
  | zero => intro k hk; omega
  | succ n ih =>
    intro k hk
    rw [M18_11_s]
    simp only [M18_10, hv, Option.bind_some, rdL_len h]
    by_cases hlt : k < xs.length
    · obtain ⟨id, off, h1, h2⟩ := msg_at h (nth_lt hlt)
      have l0 : ldI H .u32 id (off + 0) = some xs[k].id := by simp only [ldI, h2 0 (by omega)]; rfl
      have l1 : ldI H .i64 id (off + 1) = some xs[k].ow := by simp only [ldI, h2 1 (by omega)]; rfl
      rw [drop_cons hlt]
      simp only [show decide ((k : Int) < (xs.length : Int)) = true by simpa using hlt, cond_true, h1, l0, l1, Option.bind_some, c44 h44, asB, List.all_cons, msgOk]
      by_cases e0 : xs[k].id < 2048
      · simp only [show decide (xs[k].id ≥ 2048) = false by simpa using e0, show decide (xs[k].id < 2048) = true by simpa using e0, cond_false, Bool.true_and]
        cases e : within xs[k].ow 0 99 with
        | false => rfl
        | true =>
          simp only [Bool.not_true, cond_false, Bool.true_and]
          rw [wrap_nat (by omega), ih (k + 1) (by omega)]
      · simp only [show decide (xs[k].id ≥ 2048) = true by simp; omega, show decide (xs[k].id < 2048) = false by simp; omega, cond_true, Bool.false_and]; rfl
    · rw [List.drop_eq_nil_of_le (by omega)]
      simp only [show decide ((k : Int) < (xs.length : Int)) = false by simpa using hlt, cond_false, List.all_nil, cond_true]

theorem loop18c (h44 : o 44 = pureO Swithin) (h45 : o 45 = pureO Spower) {X4 : Heap → Ans} {κ : Kv} {i1 : Nat} {s1 s2 s3 : V} {m : Mat} (hl : m.wins.length < NN) :
    ∀ (n k : Nat) (H : Heap), MatAt H m s1 s2 s3 → lk i1 H.bl = some (.row (m.c s1 s2 s3)) → Wf H → m.wins.length - k < n →
    To H (fun H' => cond ((m.wins.drop k).all (winOk m)) (X4 H') (κ (.bool false) H')) (M18_22 o NN X4 κ n i1 k H) := by
  intro n
  induction n with
  | zero => intro k H _ _ _ hk; omega
  | succ n ih =>
    intro k H hat hk1 hw hk
    rw [M18_22_s]
    have v10 : ldV H i1 10 = some s3 := by simp [ldV, Heap.ldc, hk1, Mat.c, nth, rdL_one hat.wins]
    simp only [M18_14, M18_15, v10, Option.bind_some, rdL_len hat.wins]
    by_cases hlt : k < m.wins.length
    · obtain ⟨id, off, h1, h2⟩ := win_at hat.wins (nth_lt hlt)
      simp only [show decide ((k : Int) < (m.wins.length : Int)) = true by simpa using hlt, cond_true, h1, ldWin h2]
      refine newB_ind (Q := To H _) hw fun i6 H71 hle hw71 hk6 hn6 => ?_
      simp only [show (Nat.beq (m.wins[k].c).length 6 && Nat.blt 0 6) = true from rfl, cond_true]
      refine stN_ind (Q := To H _) hw71 hk6 rfl fun H72 hk72 hj hw72 hnx => ?_
      have hle2 : Les H.bl H72.bl := les_st hle hn6 hj
      have hat2 := hat.les hle2
      have hk1' := hle2 _ _ hk1
      have hk6' : lk i6 H72.bl = some (.row m.wins[k].c) := by rw [hk72]; rfl
      refine To.mono hle2 ?_
      rw [drop_cons hlt, List.all_cons]
      have next : winOk m m.wins[k] = true → To H72 (fun H' => cond ((winOk m m.wins[k]) && (m.wins.drop (k + 1)).all (winOk m)) (X4 H') (κ (.bool false) H')) (M18_17 o NN (fun x1 x5 H => M18_19 o NN (M18_22 o NN X4 κ n) κ x1 x5 H) κ i1 k false H72) := by
        intro e
        simp only [M18_17, cond_false, M18_19]
        rw [wrap_nat (by omega), e, Bool.true_and]
        exact ih (k + 1) H72 hat2 hk1' hw72 (by omega)
      have stop : winOk m m.wins[k] = false → To H72 (fun H' => cond ((winOk m m.wins[k]) && (m.wins.drop (k + 1)).all (winOk m)) (X4 H') (κ (.bool false) H')) (M18_17 o NN (fun x1 x5 H => M18_19 o NN (M18_22 o NN X4 κ n) κ x1 x5 H) κ i1 k true H72) := by
        intro e
        simp only [M18_17, cond_true]
        rw [e, Bool.false_and]
        exact To.here hw72
      have key : ∀ (b : Bool), winOk m m.wins[k] = !b → To H72 (fun H' => cond ((winOk m m.wins[k]) && (m.wins.drop (k + 1)).all (winOk m)) (X4 H') (κ (.bool false) H')) (M18_17 o NN (fun x1 x5 H => M18_19 o NN (M18_22 o NN X4 κ n) κ x1 x5 H) κ i1 k b H72) := by
        intro b e
        cases b with
        | true => exact stop e
        | false => exact next e
      simp only [M18_16, ldI, Heap.ldc, hk1', hk6', Win.c, Mat.c, nth, Option.bind_some, c44 h44, c45 h45, asB, decide_true, cond_true]
      rw [win_chain (f := fun b => M18_17 o NN (fun x1 x5 H => M18_19 o NN (M18_22 o NN X4 κ n) κ x1 x5 H) κ i1 k b H72)]
      exact key _ (by simp)
    · rw [List.drop_eq_nil_of_le (by omega)]
      simp only [show decide ((k : Int) < (m.wins.length : Int)) = false by simpa using hlt, cond_false, List.all_nil, cond_true]
      exact To.here hw

theorem E18 (ho : ∀ f, FSound Try.prog f (o f)) (h44 : o 44 = pureO Swithin) (h45 : o 45 = pureO Spower) : FSound Try.prog 18 (pureO S42) := (M18_sound ho NN).pure _ (by
  intro vs H v hw hs
  unfold S42 at hs
  split at hs
  · rename_i a
    simp only [Option.bind_eq_some_iff] at hs
    obtain ⟨m, hm, hs⟩ := hs
    obtain ⟨hl, hs⟩ := ofCondO hs
    simp only [Bool.and_eq_true, decide_eq_true_eq] at hl
    obtain ⟨⟨hl1, hl3⟩, hl6⟩ := hl
    obtain ⟨s1, s2, s3, rfl, hat⟩ := matOf_inv hm
    cases hs
    refine ⟨trivial, ?_⟩
    simp only [M18, M18_0, hat.ones, cond_true]
    refine newB_ind hw.wf fun i1 H2 hle hw2 hk1 hn => ?_
    have hat2 := hat.les hle
    refine Ends.mono hle ?_
    have v8 : ldV H2 i1 8 = some s1 := by simp [ldV, Heap.ldc, hk1, Mat.c, nth, rdL_one hat.mas]
    have v9 : ldV H2 i1 9 = some s2 := by simp [ldV, Heap.ldc, hk1, Mat.c, nth, rdL_one hat.msgs]
    have v10 : ldV H2 i1 10 = some s3 := by simp [ldV, Heap.ldc, hk1, Mat.c, nth, rdL_one hat.wins]
    have r0 : ldI H2 .i64 i1 0 = some m.level := by simp [ldI, Heap.ldc, hk1, Mat.c, nth]
    have r1 : ldI H2 .i64 i1 1 = some m.nodes := by simp [ldI, Heap.ldc, hk1, Mat.c, nth]
    have r2 : ldI H2 .i64 i1 2 = some m.cycles := by simp [ldI, Heap.ldc, hk1, Mat.c, nth]
    have r3 : ldI H2 .i64 i1 3 = some m.length := by simp [ldI, Heap.ldc, hk1, Mat.c, nth]
    have r4 : ldI H2 .i64 i1 4 = some m.enable := by simp [ldI, Heap.ldc, hk1, Mat.c, nth]
    have r5 : ldI H2 .i64 i1 5 = some m.unit := by simp [ldI, Heap.ldc, hk1, Mat.c, nth]
    have r6 : ldI H2 .i64 i1 6 = some m.init := by simp [ldI, Heap.ldc, hk1, Mat.c, nth]
    have r7 : ldI H2 .u32 i1 7 = some m.ref := by simp [ldI, Heap.ldc, hk1, Mat.c, nth]
    have tail : ∀ b : Bool, b = head2 m → head1 m = true →
        Ends H2 (.bool (isM m)) (M18_4 o NN (fun x1 H => M18_5 o NN (fun x1 x3 H => M18_7 o NN (fun x1 H => M18_9 o NN (fun x1 x4 H => M18_11 o NN (fun x1 H => M18_13 o NN (fun x1 x5 H => M18_22 o NN (fun H => M18_24 o NN pureK  H) pureK NN x1 x5 H) pureK x1 H) pureK NN x1 x4 H) pureK x1 H) pureK NN x1 x3 H) pureK x1 H) pureK i1 (!b) H2) := by
      intro b hb hh
      have hM : isM m = (b && (m.mas.all (fun n => within n 0 99) && m.msgs.all msgOk && m.wins.all (winOk m))) := by
        rw [hb, isM_parts, hh, Bool.true_and]
      cases b with
      | false => simp only [M18_4, Bool.not_false, cond_true]; rw [hM]; exact Ends.ret
      | true =>
        simp only [M18_4, Bool.not_true, cond_false, M18_5]
        rw [show (0 : Int) = ((0 : Nat) : Int) from rfl, loop18a h44 hat2.mas hl1 v8 NN 0 (by omega)]
        rw [hM, List.drop_zero, Bool.true_and]
        cases m.mas.all (fun n => within n 0 99) with
        | false => exact Ends.ret
        | true =>
          simp only [cond_true, M18_9, Bool.true_and]
          rw [show (0 : Int) = ((0 : Nat) : Int) from rfl, loop18b h44 hat2.msgs hl3 v9 NN 0 (by omega), List.drop_zero]
          cases m.msgs.all msgOk with
          | false => exact Ends.ret
          | true =>
            simp only [cond_true, M18_13, Bool.true_and]
            obtain ⟨H', e1, e2, e3⟩ := loop18c (κ := pureK) (X4 := fun H => M18_24 o NN pureK H) h44 h45 hl6 NN 0 H2 hat2 hk1 hw2 (by omega)
            rw [show (0 : Int) = ((0 : Nat) : Int) from rfl, e3, List.drop_zero]
            refine Ends.mono e1 ?_
            cases m.wins.all (winOk m) <;> exact Ends.ret
    simp only [M18_1, r0, r1, r2, r3, r4, r5, r6, Option.bind_some, c44 h44, c45 h45, asB]
    rw [head_chain (f := fun b => M18_2 o NN (fun x1 H => M18_27 o NN pureK x1 H) pureK i1 b H2)]
    cases e : head1 m with
    | false => exact Ends.ret' (by rw [isM_parts, e]; rfl)
    | true =>
      simp only [M18_2, Bool.not_true, cond_false, M18_27, M18_3, r7, v8, v9, v10, Option.bind_some, rdL_len hat2.mas, rdL_len hat2.msgs, rdL_len hat2.wins, c44 h44, asB]
      rw [tail_chain (f := fun b => M18_4 o NN (fun x1 H => M18_5 o NN (fun x1 x3 H => M18_7 o NN (fun x1 H => M18_9 o NN (fun x1 x4 H => M18_11 o NN (fun x1 H => M18_13 o NN (fun x1 x5 H => M18_22 o NN (fun H => M18_24 o NN pureK  H) pureK NN x1 x5 H) pureK x1 H) pureK NN x1 x4 H) pureK x1 H) pureK NN x1 x3 H) pureK x1 H) pureK i1 b H2)]
      exact tail _ rfl e
  · cases hs)

end
end Go.Proofs.Ytminfdcdmgpnjaa.K
