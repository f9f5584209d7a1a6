/- What the document's window and Check answer. -/
import Derived.Test.YtminfdcdmgpnjaaS12
set_option linter.unusedVariables false
set_option linter.unusedSimpArgs false
namespace Go.Proofs.Ytminfdcdmgpnjaa.K
open Go

section
variable {o : Orc}

theorem small_of {m : Mat} (h : small m = true) : m.mas.length < NN ∧ m.msgs.length < NN ∧ m.wins.length < NN := by
  simp only [small, Bool.and_eq_true, decide_eq_true_eq] at h
  exact ⟨h.1.1, h.1.2, h.2⟩

theorem E47 (ho : ∀ f, FSound Try.prog f (o f)) (h39 : o 39 = pureO S43) (h69 : o 69 = pureO S69) : FSound Try.prog 47 (pureO S47) := (M47_sound ho NN).pure _ (by
  intro vs H v hw hs
  unfold S47 at hs
  split at hs
  · rename_i a i
    simp only [Option.bind_eq_some_iff] at hs
    obtain ⟨m, hm, hs⟩ := hs
    obtain ⟨hsm, hs⟩ := ofCondO hs
    simp only [Bool.and_eq_true, decide_eq_true_eq] at hsm
    obtain ⟨⟨hsm, hM⟩, hi0⟩ := hsm
    obtain ⟨hl1, hl3, hl6⟩ := small_of hsm
    obtain ⟨s1, s2, s3, rfl, hat⟩ := matOf_inv hm
    rw [Option.bind_eq_some_iff] at hs
    obtain ⟨w, hw0, hs⟩ := hs
    cases hs
    obtain ⟨k, rfl⟩ : ∃ k : Nat, i = (k : Int) := ⟨i.toNat, by omega⟩
    rw [Int.toNat_natCast] at hw0 ⊢
    have hkl : k < m.wins.length := by rw [nth_eq] at hw0; exact (List.getElem?_eq_some_iff.1 hw0).1
    have hmem : w ∈ m.wins := by rw [nth_eq] at hw0; exact List.mem_of_getElem? hw0
    have hwo := win_ok hM hmem
    have hmsg : 0 ≤ w.msg := by
      simp only [winOk, within, Bool.and_eq_true, decide_eq_true_eq] at hwo; omega
    refine ⟨trivial, ?_⟩
    simp only [M47, M47_0, hat.ones, cond_true]
    refine newB_ind hw.wf fun i1 H2 hl hw2 hk1 hn => ?_
    have hat2 := hat.les hl
    have v10 : ldV H2 i1 10 = some s3 := by simp [ldV, Heap.ldc, hk1, Mat.c, nth, rdL_one hat.wins]
    obtain ⟨id, off, h1, h2⟩ := win_at hat2.wins hw0
    simp only [M47_1, v10, Option.bind_some, h1, ldWin h2]
    refine newB_ind hw2 fun i7 H8 hl8 hw8 hk7 hn7 => ?_
    simp only [show (Nat.beq (w.c).length 6 && Nat.blt 0 6) = true from rfl, cond_true]
    refine stN_ind hw8 hk7 rfl fun H9 hk9 hj9 hw9 _ => ?_
    have hle9 : Les H2.bl H9.bl := les_st hl8 hn7 hj9
    refine Ends.mono (hl.trans hle9) ?_
    have hat9 := hat2.les hle9
    have k1 := hle9 _ _ hk1
    have k7 : lk i7 H9.bl = some (.row w.c) := by rw [hk9]; rfl
    have l0 : ldI H9 .i64 i7 0 = some w.kind := by simp [ldI, Heap.ldc, k7, Win.c, nth]
    have l5 : ldI H9 .i64 i7 5 = some w.msg := by simp [ldI, Heap.ldc, k7, Win.c, nth]
    have l9 : ldV H9 i1 9 = some s2 := by simp [ldV, Heap.ldc, k1, Mat.c, nth, rdL_one hat.msgs]
    have hcode : codeW m k w = cond (badMsg m w) 145 (cond (badRoom m w) 144 (cond (findN (fun j => meetM m k j) k 0).isSome 143 0)) := rfl
    rw [hcode]
    -- the rest, behind the message
    have rest : badMsg m w = false → Ends H9 (.int .i64 (cond (badRoom m w) 144 (cond (findN (fun j => meetM m k j) k 0).isSome 143 0)))
        (M47_4 o NN (fun x1 x2 H => M47_5 o NN (fun x1 x2 x6 H => M47_7 o NN (fun H => M47_9 o NN pureK  H) pureK NN x1 x2 x6 H) pureK x1 x2 H) pureK k i1 i7 H9) := by
      intro _
      have hat3 : MatAt (H9.skip 20) m s1 s2 s3 := hat9.les (H' := H9.skip 20) (Les.refl H9.bl)
      have k1' : lk i1 (H9.skip 20).bl = some (.row (m.c s1 s2 s3)) := k1
      have k7' : lk i7 (H9.skip 20).bl = some (.row w.c) := k7
      have a0 : ldI (H9.skip 20) .i64 i7 0 = some w.kind := by simp [ldI, Heap.ldc, k7', Win.c, nth]
      have a1 : ldI (H9.skip 20) .i64 i7 1 = some w.st := by simp [ldI, Heap.ldc, k7', Win.c, nth]
      have a2 : ldI (H9.skip 20) .i64 i7 2 = some w.en := by simp [ldI, Heap.ldc, k7', Win.c, nth]
      simp only [M47_4, a0, a1, a2, Option.bind_some, ldMat hat3 k1', h39, pureO, S43, hat3.of, hsm, cond_true, asI, decide_true]
      refine Ends.mono (H' := H9.skip 20) (Les.refl H9.bl) ?_
      have fin : badRoom m w = false → Ends (H9.skip 20) (.int .i64 (cond (badRoom m w) 144 (cond (findN (fun j => meetM m k j) k 0).isSome 143 0))) (M47_5 o NN (fun x1 x2 x6 H => M47_7 o NN (fun H => M47_9 o NN pureK  H) pureK NN x1 x2 x6 H) pureK k i1 (H9.skip 20)) := by
        intro e
        rw [e]
        simp only [M47_5, cond_false]
        rw [show (0 : Int) = ((0 : Nat) : Int) from rfl, loop47 h69 hsm (i := k) (by omega) hat3 k1' NN 0 (by omega), Nat.sub_zero]
        cases (findN (fun j => meetM m k j) k 0).isSome <;> exact Ends.ret
      have stop : badRoom m w = true → Ends (H9.skip 20) (.int .i64 (cond (badRoom m w) 144 (cond (findN (fun j => meetM m k j) k 0).isSome 143 0))) (pureK (.int .i64 144) (H9.skip 20)) := by
        intro e; rw [e]; exact Ends.ret
      cases e1 : decide (w.st < stepM m) with
      | true => exact stop (by simp [badRoom, e1])
      | false =>
        simp only [cond_false]
        cases e2 : (w.kind != 3) with
        | false => exact fin (by simp [badRoom, e1, e2])
        | true =>
          simp only [cond_true]
          cases e3 : decide (IntKind.i64.wrap (w.en - w.st) < stepM m) with
          | true => exact stop (by simp [badRoom, e1, e2, e3])
          | false => exact fin (by simp [badRoom, e1, e2, e3])
    have stop : badMsg m w = true → Ends H9 (.int .i64 (cond (badMsg m w) 145 (cond (badRoom m w) 144 (cond (findN (fun j => meetM m k j) k 0).isSome 143 0)))) (pureK (.int .i64 145) H9) := by
      intro e; rw [e]; exact Ends.ret
    have go : badMsg m w = false → Ends H9 (.int .i64 (cond (badMsg m w) 145 (cond (badRoom m w) 144 (cond (findN (fun j => meetM m k j) k 0).isSome 143 0)))) (M47_4 o NN (fun x1 x2 H => M47_5 o NN (fun x1 x2 x6 H => M47_7 o NN (fun H => M47_9 o NN pureK  H) pureK NN x1 x2 x6 H) pureK x1 x2 H) pureK k i1 i7 H9) := by
      intro e; rw [e]; exact rest e
    simp only [M47_2, l0, Option.bind_some]
    cases e : w.kind == 1 with
    | false => exact go (by simp [badMsg, e])
    | true =>
      simp only [cond_true, l5, l9, Option.bind_some, rdL_len hat9.msgs]
      by_cases hge : w.msg ≥ m.msgs.length
      · rw [show decide (w.msg ≥ (m.msgs.length : Int)) = true by simpa using hge]
        exact stop (by simp only [badMsg, e, show decide (w.msg ≥ (m.msgs.length : Int)) = true by simpa using hge]; rfl)
      · rw [show decide (w.msg ≥ (m.msgs.length : Int)) = false by simpa using hge]
        have hlt' : w.msg.toNat < m.msgs.length := by omega
        obtain ⟨id2, off2, e1, e2⟩ := msg_at hat9.msgs (nth_lt hlt')
        rw [show ((w.msg.toNat : Nat) : Int) = w.msg by omega] at e1
        have lb : ldB H9 id2 (off2 + 2) = some m.msgs[w.msg.toNat].ev := by simp [ldB, e2 2 (by omega), Msg.c, nth]
        simp only [cond_false, e1, lb, Option.bind_some]
        have hb : badMsg m w = m.msgs[w.msg.toNat].ev := by
          simp only [badMsg, e, show decide (w.msg ≥ (m.msgs.length : Int)) = false by simpa using hge, nth_lt hlt']; rfl
        cases e3 : m.msgs[w.msg.toNat].ev with
        | true => exact stop (by rw [hb, e3])
        | false => exact go (by rw [hb, e3])
  · cases hs)

theorem loop19a {X0 : Nat → Heap → Ans} {κ : Kv} {i1 : Nat} {s1 s2 s3 : V} {m : Mat} (hl : m.mas.length < NN) :
    ∀ (n k : Nat) (H : Heap), MatAt H m s1 s2 s3 → lk i1 H.bl = some (.row (m.c s1 s2 s3)) → Wf H → m.mas.length - k < n → To H (fun H' => match findG (fun x => decide (x ≥ m.nodes)) (m.mas.drop k) k with
      | some j => κ (.tup [.int .i64 j, .int .i64 141]) H'
      | none => X0 i1 H') (M19_6 o NN X0 κ n i1 k H) := by
  intro n
  induction n with
  | zero => intro k H _ _ _ hk; omega
  | succ n ih =>
    intro k H hat hk1 hw hk
    rw [M19_6_s]
    have v8 : ldV H i1 8 = some s1 := by simp [ldV, Heap.ldc, hk1, Mat.c, nth, rdL_one hat.mas]
    simp only [M19_5, v8, Option.bind_some, rdL_len hat.mas]
    by_cases hlt : k < m.mas.length
    · have hat' : MatAt (H.skip 8) m s1 s2 s3 := hat.les (H' := H.skip 8) (Les.refl H.bl)
      have hk1' : lk i1 (H.skip 8).bl = some (.row (m.c s1 s2 s3)) := hk1
      have v8' : ldV (H.skip 8) i1 8 = some s1 := v8
      have r1 : ldI (H.skip 8) .i64 i1 1 = some m.nodes := by simp [ldI, Heap.ldc, hk1', Mat.c, nth]
      obtain ⟨id, off, h1, h2⟩ := int_at hat'.mas (nth_lt hlt)
      rw [drop_cons hlt]
      simp only [show decide ((k : Int) < (m.mas.length : Int)) = true by simpa using hlt, cond_true, v8', r1, h1, h2, Option.bind_some, findG]
      refine To.mono (H' := H.skip 8) (Les.refl H.bl) ?_
      cases e : decide (m.mas[k] ≥ m.nodes) with
      | true => exact To.here (hw.skip 8)
      | false =>
        simp only [cond_false]
        rw [wrap_nat (by omega)]
        exact ih (k + 1) (H.skip 8) hat' hk1' (hw.skip 8) (by omega)
    · simp only [show decide ((k : Int) < (m.mas.length : Int)) = false by simpa using hlt, cond_false]
      rw [List.drop_eq_nil_of_le (by omega)]
      exact To.here hw

theorem loop19b {X2 : Nat → Heap → Ans} {κ : Kv} {i1 : Nat} {s1 s2 s3 : V} {m : Mat} (hl : m.msgs.length < NN) :
    ∀ (n k : Nat) (H : Heap), MatAt H m s1 s2 s3 → lk i1 H.bl = some (.row (m.c s1 s2 s3)) → Wf H → m.msgs.length - k < n → To H (fun H' => match findG (fun x : Msg => decide (x.ow ≥ m.nodes)) (m.msgs.drop k) k with
      | some j => κ (.tup [.int .i64 j, .int .i64 141]) H'
      | none => X2 i1 H') (M19_11 o NN X2 κ n i1 k H) := by
  intro n
  induction n with
  | zero => intro k H _ _ _ hk; omega
  | succ n ih =>
    intro k H hat hk1 hw hk
    rw [M19_11_s]
    have v9 : ldV H i1 9 = some s2 := by simp [ldV, Heap.ldc, hk1, Mat.c, nth, rdL_one hat.msgs]
    simp only [M19_10, v9, Option.bind_some, rdL_len hat.msgs]
    by_cases hlt : k < m.msgs.length
    · have hat' : MatAt (H.skip 9) m s1 s2 s3 := hat.les (H' := H.skip 9) (Les.refl H.bl)
      have hk1' : lk i1 (H.skip 9).bl = some (.row (m.c s1 s2 s3)) := hk1
      have v9' : ldV (H.skip 9) i1 9 = some s2 := v9
      have r1 : ldI (H.skip 9) .i64 i1 1 = some m.nodes := by simp [ldI, Heap.ldc, hk1', Mat.c, nth]
      obtain ⟨id, off, h1, h2⟩ := msg_at hat'.msgs (nth_lt hlt)
      have l1 : ldI (H.skip 9) .i64 id (off + 1) = some m.msgs[k].ow := by simp only [ldI, h2 1 (by omega)]; rfl
      rw [drop_cons hlt]
      simp only [show decide ((k : Int) < (m.msgs.length : Int)) = true by simpa using hlt, cond_true, v9', r1, h1, l1, Option.bind_some, findG]
      refine To.mono (H' := H.skip 9) (Les.refl H.bl) ?_
      cases e : decide (m.msgs[k].ow ≥ m.nodes) with
      | true => exact To.here (hw.skip 9)
      | false =>
        simp only [cond_false]
        rw [wrap_nat (by omega)]
        exact ih (k + 1) (H.skip 9) hat' hk1' (hw.skip 9) (by omega)
    · simp only [show decide ((k : Int) < (m.msgs.length : Int)) = false by simpa using hlt, cond_false]
      rw [List.drop_eq_nil_of_le (by omega)]
      exact To.here hw

theorem loop19c (h47 : o 47 = pureO S47) {X4 : Heap → Ans} {κ : Kv} {i1 : Nat} {s1 s2 s3 : V} {m : Mat} (hsm : small m = true) (hM : isM m = true) {H : Heap} (hat : MatAt H m s1 s2 s3) (hk1 : lk i1 H.bl = some (.row (m.c s1 s2 s3))) :
    ∀ (n k : Nat), m.wins.length - k < n → M19_17 o NN X4 κ n i1 k H = cond ((goW m (m.wins.drop k) k).2 != 0) (κ (tupV (goW m (m.wins.drop k) k)) H) (X4 H) := by
  intro n
  have hl := (small_of hsm).2.2
  have v10 : ldV H i1 10 = some s3 := by simp [ldV, Heap.ldc, hk1, Mat.c, nth, rdL_one hat.wins]
  induction n with
  | zero => intro k hk; omega
  | succ n ih =>
    intro k hk
    rw [M19_17_s]
    simp only [M19_16, v10, Option.bind_some, rdL_len hat.wins]
    by_cases hlt : k < m.wins.length
    · have h0 : decide (0 ≤ (k : Int)) = true := by simp
      simp only [show decide ((k : Int) < (m.wins.length : Int)) = true by simpa using hlt, cond_true, ldMat hat hk1, h47, pureO, S47, hat.of, hsm, hM, h0, Bool.and_self, Int.toNat_natCast, nth_lt hlt, Option.bind_some, asI, decide_true]
      rw [drop_cons hlt, goW]
      cases e : (codeW m k m.wins[k] != 0) with
      | true => simp only [cond_true, e]; rfl
      | false =>
        simp only [cond_false]
        rw [wrap_nat (by omega), ih (k + 1) (by omega)]
    · simp only [show decide ((k : Int) < (m.wins.length : Int)) = false by simpa using hlt, cond_false]
      rw [List.drop_eq_nil_of_le (by omega)]
      rfl

theorem go_zero {m : Mat} : ∀ (l : List Win) (k : Nat), (goW m l k).2 = 0 → goW m l k = (0, 0) := by
  intro l
  induction l with
  | nil => intro k _; rfl
  | cons w l ih =>
    intro k h
    simp only [goW] at h ⊢
    cases e : codeW m k w != 0 with
    | true => rw [e] at h; simp only [cond_true] at h; simp [h] at e
    | false => rw [e] at h; exact ih _ h

theorem E19 (ho : ∀ f, FSound Try.prog f (o f)) (h18 : o 18 = pureO S42) (h39 : o 39 = pureO S43) (h46 : o 46 = pureO S46) (h47 : o 47 = pureO S47) : FSound Try.prog 19 (pureO S19) := (M19_sound ho NN).pure _ (by
  intro vs H v hw hs
  unfold S19 at hs
  split at hs
  · rename_i a
    simp only [Option.bind_eq_some_iff] at hs
    obtain ⟨m, hm, hs⟩ := hs
    obtain ⟨hsm, hs⟩ := ofCondO hs
    simp only [Bool.and_eq_true] at hsm
    obtain ⟨hsm, hr⟩ := hsm
    obtain ⟨hl1, hl3, hl6⟩ := small_of hsm
    obtain ⟨s1, s2, s3, rfl, hat⟩ := matOf_inv hm
    cases hs
    refine ⟨⟨trivial, trivial, trivial⟩, ?_⟩
    simp only [M19, M19_0, hat.ones, cond_true]
    refine newB_ind hw.wf fun i1 H2 hl hw2 hk1 hn => ?_
    have hat2 := hat.les hl
    have s42 : S42 [.agg (m.c s1 s2 s3)] H2 = some (.bool (isM m)) := by
      simp only [S42, hat2.of, Option.bind_some]
      rw [show (decide (m.mas.length < NN) && decide (m.msgs.length < NN) && decide (m.wins.length < NN)) = true from hsm]; rfl
    simp only [M19_1, ldMat hat2 hk1, h18, pureO, s42, Option.bind_some, asB]
    unfold chkM
    refine Ends.mono hl ?_
    cases hM : isM m with
    | false => exact Ends.ret
    | true =>
      simp only [Bool.not_true, cond_false]
      have hat3 : MatAt (H2.skip 5) m s1 s2 s3 := hat2.les (H' := H2.skip 5) (Les.refl H2.bl)
      have hk3 : lk i1 (H2.skip 5).bl = some (.row (m.c s1 s2 s3)) := hk1
      have l3 : ldI (H2.skip 5) .i64 i1 3 = some m.length := by simp [ldI, Heap.ldc, hk3, Mat.c, nth]
      simp only [M19_2, l3, Option.bind_some, ldMat hat3 hk3, h39, pureO, S43, hat3.of, hsm, cond_true, asI, decide_true]
      refine Ends.mono (H' := H2.skip 5) (Les.refl H2.bl) ?_
      cases e : decide (m.length < stepM m) with
      | true => exact Ends.ret
      | false =>
        simp only [cond_false, M19_22, M19_3]
        obtain ⟨H4, e1, e2, e3⟩ := loop19a (o := o) (κ := pureK) (X0 := fun x1 H => M19_8 o NN (fun x1 x5 H => M19_11 o NN (fun x1 H => M19_13 o NN (fun x1 x6 x7 H => M19_14 o NN (fun x1 H => M19_15 o NN (fun x1 x8 H => M19_17 o NN (fun H => M19_19 o NN pureK  H) pureK NN x1 x8 H) pureK x1 H) pureK x1 x6 x7 H) pureK x1 H) pureK NN x1 x5 H) pureK x1 H) hl1 NN 0 (H2.skip 5) hat3 hk3 (hw2.skip 5) (by omega)
        rw [show (0 : Int) = ((0 : Nat) : Int) from rfl, e3, List.drop_zero]
        refine Ends.mono e1 ?_
        unfold whoM
        rw [← idxI_ge, ← idxI_ge]
        unfold idxI
        cases findG (fun x => decide (x ≥ m.nodes)) m.mas 0 with
        | some j => simp only [show decide (((j : Nat) : Int) ≥ 0) = true by simp, cond_true]; exact Ends.ret
        | none =>
          simp only [show decide ((-1 : Int) ≥ 0) = false from rfl, cond_false, M19_8]
          have hat4 := hat3.les e1
          have hk4 := e1 _ _ hk3
          obtain ⟨H5, f1, f2, f3⟩ := loop19b (o := o) (κ := pureK) (X2 := fun x1 H => M19_13 o NN (fun x1 x6 x7 H => M19_14 o NN (fun x1 H => M19_15 o NN (fun x1 x8 H => M19_17 o NN (fun H => M19_19 o NN pureK  H) pureK NN x1 x8 H) pureK x1 H) pureK x1 x6 x7 H) pureK x1 H) hl3 NN 0 H4 hat4 hk4 e2 (by omega)
          rw [show (0 : Int) = ((0 : Nat) : Int) from rfl, f3, List.drop_zero]
          refine Ends.mono f1 ?_
          cases findG (fun x : Msg => decide (x.ow ≥ m.nodes)) m.msgs 0 with
          | some j => simp only [show decide (((j : Nat) : Int) ≥ ((0 : Nat) : Int)) = true by simp, cond_true]; exact Ends.ret
          | none =>
            simp only [show decide ((-1 : Int) ≥ ((0 : Nat) : Int)) = false from rfl, cond_false]
            have hat5 := hat4.les f1
            have hk5 := f1 _ _ hk4
            simp only [M19_13, ldMat hat5 hk5, h46, pureO, S46, hat5.of, hsm, hM, hr, Bool.and_self, cond_true, Option.bind_some, tupV, asT2, asI, decide_true, M19_14]
            simp only [orElse]
            cases e6 : ((twiceM m).2 != 0) with
            | true => exact Ends.ret' (by simp [e6])
            | false =>
              simp only [cond_false, M19_15]
              rw [show (0 : Int) = ((0 : Nat) : Int) from rfl, loop19c h47 hsm hM hat5 hk5 NN 0 (by omega), List.drop_zero, show goW m m.wins 0 = winsM m from rfl]
              refine Ends.cond (fun e7 => Ends.ret' (by simp [e6, e7, tupV])) (fun e7 => Ends.ret' ?_)
              simp [e6, e7]
  · cases hs)

end
end Go.Proofs.Ytminfdcdmgpnjaa.K
