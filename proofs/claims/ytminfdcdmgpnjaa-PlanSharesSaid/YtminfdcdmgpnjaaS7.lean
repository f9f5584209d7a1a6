/- What the program's functions over matrices answer: meet, windows, the check. -/
import Derived.Test.YtminfdcdmgpnjaaS6
set_option linter.unusedVariables false
set_option linter.unusedSimpArgs false
namespace Go.Proofs.Ytminfdcdmgpnjaa.K
open Go

theorem comesR_wrap : True := trivial

/-- What is wrong with a window. -/
def codeW (m : Mat) (i : Nat) (w : Win) : Int :=
  cond (w.kind == 1 && (decide (w.msg ≥ m.msgs.length) || (match nth m.msgs w.msg.toNat with | some x => x.ev | none => false))) 145
    (cond (decide (w.st < stepM m) || ((w.kind != 3) && decide (IntKind.i64.wrap (w.en - w.st) < stepM m))) 144
      (cond (findN (fun k => meetM m i k) i 0).isSome 143 0))
def goW (m : Mat) : List Win → Nat → Int × Int
  | [], _ => (0, 0)
  | w :: l, i => cond (codeW m i w != 0) ((i : Int), codeW m i w) (goW m l (i + 1))
def winsM (m : Mat) : Int × Int := goW m m.wins 0

def orElse (a b : Int × Int) : Int × Int := cond (a.2 != 0) a b
def chkM (m : Mat) : Int × Int :=
  cond (!isM m) (0, 120) (cond (decide (m.length < stepM m)) (0, 140) (orElse (whoM m) (orElse (twiceM m) (orElse (winsM m) (0, 0)))))
def S32 : List V → Heap → Option V
  | [.agg a], H => (matOf H a).bind fun m => cond (small m) (some (tupV (chkM m))) none
  | _, _ => none

section
variable {o : Orc}

theorem loop76 (h50 : o 50 = pureO Scomes) {X0 : Heap → Ans} {κ : Kv} {i7 i9 : Nat} {x y : Win} {H : Heap} {N : Nat} (hN : N < NN) (hx : lk i7 H.bl = some (.row x.c)) (hy : lk i9 H.bl = some (.row y.c)) :
    ∀ (n k : Nat), N - k < n → M76_6 o NN X0 κ n i7 i9 N k H = cond (findN (fun c => comesR x.cy x.re c && comesR y.cy y.re c) (N - k) k).isSome (κ (.bool true) H) (X0 H) := by
  intro n
  induction n with
  | zero => intro k hk; omega
  | succ n ih =>
    intro k hk
    rw [M76_6_s]
    simp only [M76_5]
    by_cases hlt : k < N
    · have a3 : ldI H .i64 i7 3 = some x.cy := by simp [ldI, Heap.ldc, hx, Win.c, nth]
      have a4 : ldI H .i64 i7 4 = some x.re := by simp [ldI, Heap.ldc, hx, Win.c, nth]
      have b3 : ldI H .i64 i9 3 = some y.cy := by simp [ldI, Heap.ldc, hy, Win.c, nth]
      have b4 : ldI H .i64 i9 4 = some y.re := by simp [ldI, Heap.ldc, hy, Win.c, nth]
      simp only [show decide ((k : Int) < (N : Int)) = true by simpa using hlt, cond_true, a3, a4, b3, b4, Option.bind_some, h50, pureO, Scomes, asB]
      rw [show N - k = (N - (k + 1)) + 1 by omega, findN]
      cases comesR x.cy x.re k <;> cases comesR y.cy y.re k <;> simp only [cond_true, cond_false, Bool.and_true, Bool.and_false, Bool.and_self, Option.isSome_some] <;> rw [wrap_nat (by omega), ih (k + 1) (by omega)]
    · simp only [show decide ((k : Int) < (N : Int)) = false by simpa using hlt, cond_false]
      rw [show N - k = 0 by omega]; rfl

theorem nCyc_le (m : Mat) : 0 ≤ nCyc m ∧ nCyc m ≤ 8 := by unfold nCyc; omega

theorem E76 (ho : ∀ f, FSound Try.prog f (o f)) (h50 : o 50 = pureO Scomes) (h81 : o 81 = pureO S81) : FSound Try.prog 76 (pureO S76) := (M76_sound ho NN).pure _ (by
  intro vs H v hw hs
  unfold S76 at hs
  split at hs
  · rename_i a i j
    simp only [Option.bind_eq_some_iff] at hs
    obtain ⟨m, hm, hs⟩ := hs
    obtain ⟨s1, s2, s3, rfl, hat⟩ := matOf_inv hm
    cases hs
    refine ⟨trivial, ?_⟩
    simp only [M76, M76_0, hat.ones, cond_true]
    refine newB_ind hw.wf fun i1 H2 hl hw2 hk1 hn => ?_
    have hat2 := hat.les hl
    simp only [M76_1, ldMat hat2 hk1, h81, pureO, S81, hat2.of, Option.bind_some, asT2, asB, asA]
    refine newB_ind hw2 fun i9 H10 hl10 hw10 hk9 hn9 => ?_
    simp only [show (Nat.beq ((thereM m i).1.c).length 6 && Nat.blt 0 6) = true from rfl, cond_true]
    refine stN_ind hw10 hk9 rfl fun H11 hk11 hj11 hw11 _ => ?_
    have hl11 : Les H2.bl H11.bl := les_st hl10 hn9 hj11
    have hat11 := hat2.les hl11
    simp only [M76_2, ldMat hat11 (hl11 _ _ hk1), h81, pureO, hat11.of, S81, Option.bind_some, asT2, asB, asA]
    refine newB_ind hw11 fun i18 H19 hl19 hw19 hk18 hn18 => ?_
    simp only [show (Nat.beq ((thereM m j).1.c).length 6 && Nat.blt 0 6) = true from rfl, cond_true]
    refine stN_ind hw19 hk18 rfl fun H20 hk20 hj20 hw20 _ => ?_
    have hl20 : Les H11.bl H20.bl := les_st hl19 hn18 hj20
    have kx : lk i9 H20.bl = some (.row (thereM m i).1.c) := hl20 _ _ (by rw [hk11]; rfl)
    have ky : lk i18 H20.bl = some (.row (thereM m j).1.c) := by rw [hk20]; rfl
    have k1 := hl20 _ _ (hl11 _ _ hk1)
    have hle : Les H.bl H20.bl := hl.trans (hl11.trans hl20)
    refine Ends.mono hle ?_
    generalize hx : thereM m i = tx at kx
    generalize hy : thereM m j = ty at ky
    obtain ⟨x, bx⟩ := tx
    obtain ⟨y, by'⟩ := ty
    simp only at kx ky
    have a1 : ldI H20 .i64 i9 1 = some x.st := by simp [ldI, Heap.ldc, kx, Win.c, nth]
    have a2 : ldI H20 .i64 i9 2 = some x.en := by simp [ldI, Heap.ldc, kx, Win.c, nth]
    have b1 : ldI H20 .i64 i18 1 = some y.st := by simp [ldI, Heap.ldc, ky, Win.c, nth]
    have b2 : ldI H20 .i64 i18 2 = some y.en := by simp [ldI, Heap.ldc, ky, Win.c, nth]
    have c2 : ldI H20 .i64 i1 2 = some m.cycles := by simp [ldI, Heap.ldc, k1, Mat.c, nth]
    simp only [M76_3, M76_4, M76_9, a1, a2, b1, b2, c2, Option.bind_some]
    have hm' : meetM m i j = (bx && by' && meetW m x y) := by simp only [meetM, hx, hy]
    rw [hm']
    cases bx with
    | false => exact Ends.ret
    | true =>
      cases by' with
      | false => exact Ends.ret
      | true =>
        simp only [Bool.not_true, cond_false, Bool.true_and, meetW]
        refine Ends.cond (fun e => Ends.ret' (by simp [e])) (fun e => Ends.cond (fun e' => Ends.ret' (by simp [e'])) (fun e' => ?_))
        have hc := nCyc_le m
        rw [show (if 8 < (if 0 > m.cycles then 0 else m.cycles) then 8 else (if 0 > m.cycles then 0 else m.cycles)) = (((nCyc m).toNat : Nat) : Int) by rw [show (((nCyc m).toNat : Nat) : Int) = nCyc m by omega]; rfl,
          show (0 : Int) = ((0 : Nat) : Int) from rfl, loop76 h50 (by unfold NN; omega) kx ky NN 0 (by unfold NN; omega)]
        simp only [e, e', Bool.not_false, Bool.true_and, Nat.sub_zero]
        cases (findN (fun c => comesR x.cy x.re c && comesR y.cy y.re c) (nCyc m).toNat 0).isSome <;> exact Ends.ret
  · cases hs)

theorem loop53i (h76 : o 76 = pureO S76) {X3 : Nat → Int → V → Int → Int → Heap → Ans} {κ : Kv} {i1 : Nat} {x4 x13 x14 : Int} {x12 : V} {s1 s2 s3 : V} {m : Mat} {H : Heap} {i : Nat} (hi : i < NN) (hat : MatAt H m s1 s2 s3) (hk1 : lk i1 H.bl = some (.row (m.c s1 s2 s3))) :
    ∀ (n k : Nat), i - k < n → M53_14 o NN X3 κ n i1 x4 i x12 x13 x14 i k H = cond (findN (fun k => meetM m i k) (i - k) k).isSome (κ (.tup [.int .i64 i, .int .i64 143]) H) (X3 i1 x4 x12 x13 x14 H) := by
  intro n
  induction n with
  | zero => intro k hk; omega
  | succ n ih =>
    intro k hk
    rw [M53_14_s]
    simp only [M53_12]
    by_cases hlt : k < i
    · simp only [show decide ((k : Int) < (i : Int)) = true by simpa using hlt, cond_true, ldMat hat hk1, h76, pureO, S76, hat.of, Option.bind_some, asB]
      rw [show i - k = (i - (k + 1)) + 1 by omega, findN]
      cases meetM m i k <;> simp only [Bool.not_true, Bool.not_false, cond_true, cond_false, Option.isSome_some]
      rw [wrap_nat (by omega), ih (k + 1) (by omega)]
    · simp only [show decide ((k : Int) < (i : Int)) = false by simpa using hlt, cond_false]
      rw [show i - k = 0 by omega]; rfl

theorem win_ok {m : Mat} (h : isM m = true) {w : Win} (hw : w ∈ m.wins) : winOk m w = true := by
  simp only [isM, Bool.and_eq_true, List.all_eq_true] at h
  exact h.2 w hw

def badMsg (m : Mat) (w : Win) : Bool := w.kind == 1 && (decide (w.msg ≥ m.msgs.length) || (match nth m.msgs w.msg.toNat with | some x => x.ev | none => false))
def badRoom (m : Mat) (w : Win) : Bool := decide (w.st < stepM m) || ((w.kind != 3) && decide (IntKind.i64.wrap (w.en - w.st) < stepM m))

theorem pre53 {J : Nat → Int → Int → V → Int → Int → Heap → Ans} {κ : Kv} {i1 : Nat} {s1 s2 s3 : V} {m : Mat} {x13 : Int} {k : Nat} {H : Heap} {w : Win} (hk : nth m.wins k = some w) (hwo : winOk m w = true) (hat : MatAt H m s1 s2 s3) (hk1 : lk i1 H.bl = some (.row (m.c s1 s2 s3))) (hw : Wf H)
    {Q : Ans → Prop} (hQ : ∀ H14, Les H.bl H14.bl → Wf H14 → Q (cond (badMsg m w) (κ (.tup [.int .i64 k, .int .i64 145]) H14) (cond (badRoom m w) (κ (.tup [.int .i64 k, .int .i64 144]) H14) (J i1 (stepM m) k s3 x13 k H14)))) :
    Q (M53_6 o NN (fun x1 x4 x5 x6 x12 x13 x14 H => M53_7 o NN (fun x1 x4 x5 x6 x7 x12 x13 x14 H => M53_8 o NN (fun x1 x4 x5 x6 x12 x13 x14 x22 H => M53_9 o NN J κ x1 x4 x5 x6 x12 x13 x14 x22 H) κ x1 x4 x5 x6 x7 x12 x13 x14 H) κ x1 x4 x5 x6 x12 x13 x14 H) κ i1 (stepM m) s3 x13 k H) := by
  obtain ⟨id, off, h1, h2⟩ := win_at hat.wins hk
  simp only [M53_6, h1, ldWin h2]
  refine newB_ind hw fun i6 H13 hl13 hw13 hk13 hn13 => ?_
  simp only [show (Nat.beq (w.c).length 6 && Nat.blt 0 6) = true from rfl, cond_true]
  refine stN_ind hw13 hk13 rfl fun H14 hk14 hj hw14 _ => ?_
  have hle : Les H.bl H14.bl := les_st hl13 hn13 hj
  have hat' := hat.les hle
  have k1 := hle _ _ hk1
  have k6 : lk i6 H14.bl = some (.row w.c) := by rw [hk14]; rfl
  have l0 : ldI H14 .i64 i6 0 = some w.kind := by simp [ldI, Heap.ldc, k6, Win.c, nth]
  have l1 : ldI H14 .i64 i6 1 = some w.st := by simp [ldI, Heap.ldc, k6, Win.c, nth]
  have l2 : ldI H14 .i64 i6 2 = some w.en := by simp [ldI, Heap.ldc, k6, Win.c, nth]
  have l5 : ldI H14 .i64 i6 5 = some w.msg := by simp [ldI, Heap.ldc, k6, Win.c, nth]
  have l9 : ldV H14 i1 9 = some s2 := by simp [ldV, Heap.ldc, k1, Mat.c, nth, rdL_one hat.msgs]
  have hmsg : 0 ≤ w.msg := by
    simp only [winOk, within, Bool.and_eq_true, decide_eq_true_eq] at hwo; omega
  have h9 : ∀ b, M53_9 o NN J κ i1 (stepM m) k i6 s3 x13 k b H14 = cond b (κ (.tup [.int .i64 k, .int .i64 145]) H14) (cond (badRoom m w) (κ (.tup [.int .i64 k, .int .i64 144]) H14) (J i1 (stepM m) k s3 x13 k H14)) := by
    intro b
    simp only [M53_9, l0, l1, l2, Option.bind_some, badRoom]
    cases b <;> cases decide (w.st < stepM m) <;> cases (w.kind != 3) <;> cases decide (IntKind.i64.wrap (w.en - w.st) < stepM m) <;> rfl
  have hfin := hQ H14 hle hw14
  simp only [M53_7, l0, Option.bind_some, M53_8, h9]
  unfold badMsg at hfin
  cases e : w.kind == 1 with
  | false =>
    rw [e] at hfin
    simpa only [cond_false, Bool.false_and] using hfin
  | true =>
    rw [e] at hfin
    simp only [cond_true, l5, l9, Option.bind_some, rdL_len hat'.msgs]
    simp only [Bool.true_and] at hfin
    by_cases hge : w.msg ≥ m.msgs.length
    · rw [show decide (w.msg ≥ (m.msgs.length : Int)) = true by simpa using hge] at hfin ⊢
      simpa only [cond_true, Bool.true_or] using hfin
    · rw [show decide (w.msg ≥ (m.msgs.length : Int)) = false by simpa using hge] at hfin ⊢
      simp only [cond_false, Bool.false_or] at hfin ⊢
      have hlt' : w.msg.toNat < m.msgs.length := by omega
      obtain ⟨id2, off2, e1, e2⟩ := msg_at hat'.msgs (nth_lt hlt')
      rw [show ((w.msg.toNat : Nat) : Int) = w.msg by omega] at e1
      rw [e1]
      rw [nth_lt hlt'] at hfin
      have lb : ldB H14 id2 (off2 + 2) = some m.msgs[w.msg.toNat].ev := by simp [ldB, e2 2 (by omega), Msg.c, nth]
      simpa only [lb, Option.bind_some] using hfin

theorem loop53 (h76 : o 76 = pureO S76) {X0 : Heap → Ans} {κ : Kv} {i1 : Nat} {s1 s2 s3 : V} {m : Mat} (hl : m.wins.length < NN) (hM : isM m = true) :
    ∀ (n k : Nat) (H : Heap), MatAt H m s1 s2 s3 → lk i1 H.bl = some (.row (m.c s1 s2 s3)) → Wf H → m.wins.length - k < n → To H (fun H' => cond ((goW m (m.wins.drop k) k).2 != 0) (κ (tupV (goW m (m.wins.drop k) k)) H') (X0 H'))
      (M53_27 o NN X0 κ n i1 (stepM m) s3 m.wins.length k H) := by
  intro n
  induction n with
  | zero => intro k H _ _ _ hk; omega
  | succ n ih =>
    intro k H hat hk1 hw hk
    rw [M53_27_s]
    simp only [M53_25, M53_4, M53_5]
    by_cases hlt : k < m.wins.length
    · simp only [show decide ((k : Int) < (m.wins.length : Int)) = true by simpa using hlt, cond_true]
      rw [drop_cons hlt, goW]
      have hcode : codeW m k m.wins[k] = cond (badMsg m m.wins[k]) 145 (cond (badRoom m m.wins[k]) 144 (cond (findN (fun j => meetM m k j) k 0).isSome 143 0)) := rfl
      rw [hcode]
      refine pre53 (Q := To H _) (nth_lt hlt) (win_ok hM (List.getElem_mem hlt)) hat hk1 hw fun H14 hle hw14 => ?_
      refine To.mono hle ?_
      have hat' := hat.les hle
      have k1 := hle _ _ hk1
      cases badMsg m m.wins[k] with
      | true => exact To.here hw14
      | false =>
        cases badRoom m m.wins[k] with
        | true => exact To.here hw14
        | false =>
          simp only [cond_false, M53_11]
          have h0 := loop53i (κ := κ) (X3 := fun x1 x4 x12 x13 x14 H => M53_16 o NN (fun x1 x4 x12 x13 x14 H => M53_21 o NN (M53_27 o NN X0 κ n) κ x1 x4 x12 x13 x14 H) κ x1 x4 x12 x13 x14 H) (x4 := stepM m) (x12 := s3) (x13 := m.wins.length) (x14 := k) h76 (i := k) (by omega) hat' k1 NN 0 (by omega)
          rw [show ((0 : Nat) : Int) = (0 : Int) from rfl] at h0
          rw [h0, Nat.sub_zero]
          cases (findN (fun j => meetM m k j) k 0).isSome with
          | true => exact To.here hw14
          | false =>
            simp only [cond_false, M53_16, M53_21]
            rw [wrap_nat (by omega)]
            exact ih (k + 1) H14 hat' k1 hw14 (by omega)
    · simp only [show decide ((k : Int) < (m.wins.length : Int)) = false by simpa using hlt, cond_false]
      rw [List.drop_eq_nil_of_le (by omega)]
      exact To.here hw

theorem E53 (ho : ∀ f, FSound Try.prog f (o f)) (h43 : o 43 = pureO S43) (h76 : o 76 = pureO S76) : FSound Try.prog 53 (pureO (Smat winsM)) := (M53_sound ho NN).pure _ (by
  intro vs H v hw hs
  unfold Smat at hs
  split at hs
  · rename_i a
    simp only [Option.bind_eq_some_iff] at hs
    obtain ⟨m, hm, hs⟩ := hs
    obtain ⟨hsm, hs⟩ := ofCondO hs
    simp only [Bool.and_eq_true] at hsm
    obtain ⟨hsm, hM⟩ := hsm
    have hsm' := hsm
    simp only [small, Bool.and_eq_true, decide_eq_true_eq] at hsm
    obtain ⟨⟨hl1, hl3⟩, hl6⟩ := hsm
    obtain ⟨s1, s2, s3, rfl, hat⟩ := matOf_inv hm
    cases hs
    refine ⟨⟨trivial, trivial, trivial⟩, ?_⟩
    simp only [M53, M53_0, hat.ones, cond_true]
    refine newB_ind hw.wf fun i1 H2 hl hw2 hk1 hn => ?_
    have hat2 := hat.les hl
    have v10 : ldV H2 i1 10 = some s3 := by simp [ldV, Heap.ldc, hk1, Mat.c, nth, rdL_one hat.wins]
    simp only [M53_1, M53_2, M53_3, M53_29, ldMat hat2 hk1, h43, pureO, S43, hat2.of, Option.bind_some, hsm', cond_true, asI, decide_true, v10, rdL_len hat2.wins]
    obtain ⟨H', e1, e2, e3⟩ := loop53 (X0 := fun H => pureK (.tup [.int .i64 0, .int .i64 0]) H) (κ := pureK) h76 hl6 hM NN 0 H2 hat2 hk1 hw2 (by omega)
    rw [show (0 : Int) = ((0 : Nat) : Int) from rfl] at e3 ⊢
    refine Ends.mono (hl.trans e1) ?_
    rw [e3, List.drop_zero, show goW m m.wins 0 = winsM m from rfl]
    refine Ends.cond (fun _ => Ends.ret) (fun e => Ends.ret' ?_)
    have : ∀ (l : List Win) (k : Nat), (goW m l k).2 = 0 → goW m l k = (0, 0) := by
      intro l
      induction l with
      | nil => intro k _; rfl
      | cons w l ih =>
        intro k h
        simp only [goW] at h ⊢
        cases e : codeW m k w != 0 with
        | true => rw [e] at h; simp only [cond_true] at h; simp [h] at e
        | false => rw [e] at h; exact ih _ h
    have h0 : winsM m = (0, 0) := this m.wins 0 (by have e' := e; simp at e'; exact e')
    rw [h0]; rfl
  · cases hs)

theorem E32 (ho : ∀ f, FSound Try.prog f (o f)) (h42 : o 42 = pureO S42) (h43 : o 43 = pureO S43) (h51 : o 51 = pureO (Smat whoM)) (h52 : o 52 = pureO (Smat twiceM)) (h53 : o 53 = pureO (Smat winsM)) :
    FSound Try.prog 32 (pureO S32) := (M32_sound ho NN).pure _ (by
  intro vs H v hw hs
  unfold S32 at hs
  split at hs
  · rename_i a
    simp only [Option.bind_eq_some_iff] at hs
    obtain ⟨m, hm, hs⟩ := hs
    obtain ⟨hsm, hs⟩ := ofCondO hs
    obtain ⟨s1, s2, s3, rfl, hat⟩ := matOf_inv hm
    cases hs
    refine ⟨⟨trivial, trivial, trivial⟩, ?_⟩
    simp only [M32, M32_0, hat.ones, cond_true]
    refine newB_ind hw.wf fun i1 H2 hl hw2 hk1 hn => ?_
    have hat2 := hat.les hl
    have s42 : S42 [.agg (m.c s1 s2 s3)] H2 = some (.bool (isM m)) := by
      simp only [S42, hat2.of, Option.bind_some]
      rw [show (decide (m.mas.length < NN) && decide (m.msgs.length < NN) && decide (m.wins.length < NN)) = true from hsm]; rfl
    simp only [M32_2, ldMat hat2 hk1, h42, pureO, s42, Option.bind_some, asB]
    unfold chkM
    refine Ends.mono hl ?_
    cases hM : isM m with
    | false => exact Ends.ret
    | true =>
      simp only [Bool.not_true, cond_false]
      have hat3 : MatAt (H2.skip 6) m s1 s2 s3 := hat2.les (H' := H2.skip 6) (Les.refl H2.bl)
      have hk3 : lk i1 (H2.skip 6).bl = some (.row (m.c s1 s2 s3)) := hk1
      have l3 : ldI (H2.skip 6) .i64 i1 3 = some m.length := by simp [ldI, Heap.ldc, hk3, Mat.c, nth]
      simp only [l3, Option.bind_some, ldMat hat3 hk3, h43, pureO, S43, hat3.of, hsm, cond_true, asI, decide_true]
      refine Ends.mono (H' := H2.skip 6) (Les.refl H2.bl) ?_
      cases e : decide (m.length < stepM m) with
      | true => exact Ends.ret
      | false =>
        simp only [cond_false, M32_3]
        refine newB_ind (hw2.skip 6) fun i13 H14 hl14 hw14 hk13 hn13 => ?_
        refine Ends.mono hl14 ?_
        have hat14 := hat3.les hl14
        have hk14 := hl14 _ _ hk3
        have sw : (small m && isM m) = true := by rw [hsm, hM]; rfl
        have f0 : ldV H14 i13 (0 + (0 : Int).toNat * 1) = some (.fn 51 []) := by simp [ldV, Heap.ldc, hk13, nth, V.one]
        have f1 : ldV H14 i13 (0 + (1 : Int).toNat * 1) = some (.fn 52 []) := by simp [ldV, Heap.ldc, hk13, nth, V.one]
        have f2 : ldV H14 i13 (0 + (2 : Int).toNat * 1) = some (.fn 53 []) := by simp [ldV, Heap.ldc, hk13, nth, V.one]
        have step : ∀ (n : Nat) (k : Int) (g : FuncId) (fm : Mat → Int × Int), 0 ≤ k → k < 3 → ldV H14 i13 (0 + k.toNat * 1) = some (.fn g []) → o g = pureO (Smat fm) →
            M32_5 o NN (fun H => M32_8 o NN pureK H) pureK (n + 1) i1 (.sl i13 0 3 1 true) ((3 : Nat) : Int) k H14 = cond ((fm m).2 != 0) (pureK (tupV (fm m)) H14)
              (M32_5 o NN (fun H => M32_8 o NN pureK H) pureK n i1 (.sl i13 0 3 1 true) ((3 : Nat) : Int) (IntKind.i64.wrap (k + 1)) H14) := by
          intro n k g fm h0 h3 hf hg
          rw [M32_5_s]
          simp only [M32_4]
          have h3' : decide (k < ((3 : Nat) : Int)) = true := by simpa using h3
          have h0' : decide (0 ≤ k) = true := by simpa using h0
          simp only [h3', h0', cond_true, idxS, Nat.beq_refl, Bool.and_self, show Nat.blt 0 1 = true from rfl, hf, Option.bind_some, ldMat hat14 hk14, callV, List.append_nil, hg, pureO, Smat, hat14.of, sw, tupV, asT2, asI, decide_true]
        have w1 : IntKind.i64.wrap ((0 : Int) + 1) = 1 := by decide
        have w2 : IntKind.i64.wrap ((1 : Int) + 1) = 2 := by decide
        have w3 : IntKind.i64.wrap ((2 : Int) + 1) = 3 := by decide
        rw [show NN = 1099511627772 + 1 + 1 + 1 + 1 from rfl]
        rw [show (1099511627772 + 1 + 1 + 1 + 1 : Nat) = NN from rfl]
        have hN : M32_5 o NN (fun H => M32_8 o NN pureK H) pureK NN = M32_5 o NN (fun H => M32_8 o NN pureK H) pureK (1099511627772 + 1 + 1 + 1 + 1) := rfl
        rw [hN, step _ 0 51 whoM (by omega) (by omega) f0 h51, w1, step _ 1 52 twiceM (by omega) (by omega) f1 h52, w2, step _ 2 53 winsM (by omega) (by omega) f2 h53, w3]
        rw [M32_5_s]
        simp only [M32_4, show decide ((3 : Int) < ((3 : Nat) : Int)) = false from rfl, cond_false, M32_8, orElse]
        refine Ends.cond (fun e => Ends.ret' (by rw [e]; rfl)) (fun e => Ends.cond (fun e' => Ends.ret' (by rw [e, e']; rfl)) (fun e' => Ends.cond (fun e'' => Ends.ret' (by rw [e, e', e'']; rfl)) (fun e'' => Ends.ret' (by rw [e, e', e'']; rfl))))
  · cases hs)

end
end Go.Proofs.Ytminfdcdmgpnjaa.K
