/- What the document's Plan answers. -/
import Derived.Test.YtminfdcdmgpnjaaS19
set_option linter.unusedVariables false
set_option linter.unusedSimpArgs false
namespace Go.Proofs.Ytminfdcdmgpnjaa.K
open Go

section
variable {o : Orc}

theorem c40 (h40 : o 40 = newO S40) {H0 H : Heap} (hin : In H0 H) {v : V} {l : List Trig} (ho : Own H0 H v l) (hl : l.length < 1000) (t : Trig) :
    ∃ v' H', (∀ K : V → Heap → Ans, o 40 [v, .agg t.c] H K = K v' H') ∧ Own H0 H' v' (laidM l t) ∧ In H0 H' ∧ Les H.bl H'.bl := by
  refine ⟨.sl H.next 0 (laidM l t).length 6 true, H.new (.row (cellsT (laidM l t))), fun K => ?_, .inr ⟨H.next, hin.next, rfl, by simp [Heap.new, lk_cons]⟩, hin.new _, hin.wf.les _⟩
  rw [h40]
  have : S40 [v, .agg t.c] H = some (some (laidM l t)) := by
    simp only [S40, trigOf_c, Option.bind_some, ho.rd, ho.inB, hl, decide_true, Bool.and_self, cond_true]
  simp only [newO, this, Option.bind_some, newB]

/-- It goes on with a row of these triggers. -/
structure Goes13 (H0 : Heap) (x2 : Nat) (cs : List V) (L : List Trig) (X : V → Heap → Ans) (a : Ans) : Prop where
  ex : ∃ H' v', In H0 H' ∧ lk x2 H'.bl = some (.row cs) ∧ Own H0 H' v' L ∧ a = X v' H'

theorem loop13 (h39 : o 39 = pureO S43) (h40 : o 40 = newO S40) {H0 : Heap} (hw0 : Wf H0) {x2 : Nat} {who : Int} {m : Mat} {s1 s2 s3 : V} (hat0 : MatAt H0 m s1 s2 s3) (hsm : small m = true) (hM : isM m = true) (hms : ∀ w ∈ m.wins, msgIn m w = true ∨ w.kind = 3)
    {X0 : Int → Nat → V → Heap → Ans} {κ : Kv} :
    ∀ (nf k : Nat) (H : Heap) (v : V) (l : List Trig), m.wins.length - k < nf → In H0 H → lk x2 H.bl = some (.row (m.c s1 s2 s3)) → Own H0 H v l → l.length ≤ k →
    Goes13 H0 x2 (m.c s1 s2 s3) ((trigsW m who (m.wins.drop k)).foldl laidM l) (X0 who x2) (M13_7 o NN X0 κ nf who x2 v (k : Nat) H) := by
  have hwl := wins_le hM
  intro nf
  induction nf with
  | zero => intro k H v l hk; omega
  | succ nf ih =>
    intro k H v l hk hin hk2 ho hl
    rw [M13_7_s]
    have hat := hat0.les hin.les
    have v10 : ldV H x2 10 = some s3 := by simp [ldV, Heap.ldc, hk2, Mat.c, nth, rdL_one hat0.wins]
    simp only [M13_6, v10, Option.bind_some, rdL_len hat.wins]
    by_cases hlt : k < m.wins.length
    · obtain ⟨id, off, h1, h2⟩ := win_at hat.wins (nth_lt hlt)
      have hmem : m.wins[k] ∈ m.wins := List.getElem_mem hlt
      simp only [show decide ((k : Int) < (m.wins.length : Int)) = true by simpa using hlt, cond_true, h1, ldWin h2]
      generalize hwe : m.wins[k] = w at hmem
      simp only [show (Nat.beq (w.c).length 6 && Nat.blt 0 6) = true from rfl, cond_true]
      rw [drop_cons hlt, hwe]
      refine newSt_ind (Q := Goes13 H0 x2 (m.c s1 s2 s3) ((trigsW m who (w :: m.wins.drop (k + 1))).foldl laidM l) (X0 who x2)) hin.wf rfl fun i16 H18 hi16 hle18 hw18 hn18 hk16 => ?_
      have k16 : lk i16 H18.bl = some (.row w.c) := hk16
      have hin18 : In H0 H18 := ⟨Nat.le_trans hin.next hn18, hw18, hin.les.trans hle18⟩
      have ho18 := ho.les hle18
      have hk218 := hle18 _ _ hk2
      have a0 : ldI H18 .i64 i16 3 = some w.cy := by simp [ldI, Heap.ldc, k16, Win.c, nth]
      have a1 : ldI H18 .i64 i16 4 = some w.re := by simp [ldI, Heap.ldc, k16, Win.c, nth]
      have a2 : ldI H18 .i64 i16 5 = some w.msg := by simp [ldI, Heap.ldc, k16, Win.c, nth]
      simp only [a0, a1, a2, Option.bind_some]
      refine newSt_ind (Q := Goes13 H0 x2 (m.c s1 s2 s3) ((trigsW m who (w :: m.wins.drop (k + 1))).foldl laidM l) (X0 who x2)) hw18 rfl fun i22 H24 hi22 hle24 hw24 hn24 hk22 => ?_
      have k22 : lk i22 H24.bl = some (.row [.int .i64 0, .int .i64 0, .int .i64 w.cy, .int .i64 w.re, .int .i64 w.msg, .int .i64 0]) := hk22
      have n22 : lk i22 H18.bl = none := lk_none_le hw18 hi22
      have hk3 : w.kind = 3 → trigsW m who (w :: m.wins.drop (k + 1)) = trigsW m who (m.wins.drop (k + 1)) := fun h => by simp [trigsW, h]
      have hkn : (w.kind == 3) = false → trigsW m who (w :: m.wins.drop (k + 1)) = trigM m who w :: trigsW m who (m.wins.drop (k + 1)) := fun h => by simp [trigsW, h]
      -- the trigger is laid, and on
      have fin : ∀ (H' : Heap) (a b c d e f : Int), (w.kind == 3) = false → (trigM m who w).c = [.int .i64 a, .int .i64 b, .int .i64 c, .int .i64 d, .int .i64 e, .int .i64 f] → H18.next ≤ H'.next → Wf H' → Les H18.bl H'.bl → lk i22 H'.bl = some (.row [.int .i64 a, .int .i64 b, .int .i64 c, .int .i64 d, .int .i64 e, .int .i64 f]) →
          Goes13 H0 x2 (m.c s1 s2 s3) ((trigsW m who (w :: m.wins.drop (k + 1))).foldl laidM l) (X0 who x2)
            (ldFlat H' i22 [.int .i64, .int .i64, .int .i64, .int .i64, .int .i64, .int .i64] 0 fun l42 => o 40 [v, .agg l42] H' fun v43 H44 => M13_7 o NN X0 κ nf who x2 v43 (IntKind.i64.wrap ((k : Int) + 1)) H44) := by
        intro H' a b c d e f h3 ht hn' hw' hl' hk'
        have hin' : In H0 H' := ⟨Nat.le_trans hin18.next hn', hw', hin18.les.trans hl'⟩
        obtain ⟨v', H44, b1, b2, b3, b4⟩ := c40 (o := o) h40 hin' (ho18.les hl') (by omega) (trigM m who w)
        rw [ldSix hk', ← ht, b1, wrap_nat (by unfold NN; omega)]
        obtain ⟨Hx, vx, g1, g2, g3, g4⟩ := Goes13.ex (ih (k + 1) H44 v' (laidM l (trigM m who w)) (by omega) b3 (b4 _ _ (hl' _ _ hk218)) b2 (by rw [laidM_len]; omega))
        refine .mk ⟨Hx, vx, g1, g2, ?_, g4⟩
        rw [hkn h3]; exact g3
      have c0 : ldI H24 .i64 i16 0 = some w.kind := by simp [ldI, Heap.ldc, hle24 _ _ k16, Win.c, nth]
      simp only [c0, Option.bind_some]
      -- what lies in the window, over any later heap
      have ld : ∀ (H' : Heap), Les H18.bl H'.bl → ldI H' .i64 i16 1 = some w.st ∧ ldI H' .i64 i16 2 = some w.en ∧ ldI H' .i64 x2 4 = some m.enable := by
        intro H' hl'
        refine ⟨?_, ?_, ?_⟩
        · simp [ldI, Heap.ldc, hl' _ _ k16, Win.c, nth]
        · simp [ldI, Heap.ldc, hl' _ _ k16, Win.c, nth]
        · simp [ldI, Heap.ldc, hl' _ _ hk218, Mat.c, nth]
      cases e1 : w.kind == 1 with
      | true =>
        have hk1 : w.kind = 1 := by simpa using e1
        have h2f : (w.kind == 2) = false := by simp [hk1]
        have h3f : (w.kind == 3) = false := by simp [hk1]
        have hmi : msgIn m w = true := by
          rcases hms w hmem with h | h
          · exact h
          · rw [hk1] at h; cases h
        unfold msgIn at hmi
        rw [h2f] at hmi
        simp only [Bool.false_or, Bool.and_eq_true, decide_eq_true_eq] at hmi
        have hltm : w.msg.toNat < m.msgs.length := by omega
        have hat24 : MatAt H24 m s1 s2 s3 := hat0.les (hin18.les.trans hle24)
        have l9 : ldV H24 x2 9 = some s2 := by simp [ldV, Heap.ldc, hle24 _ _ hk218, Mat.c, nth, rdL_one hat0.msgs]
        have l5 : ldI H24 .i64 i16 5 = some w.msg := by simp [ldI, Heap.ldc, hle24 _ _ k16, Win.c, nth]
        obtain ⟨id2, off2, f1, f2⟩ := msg_at hat24.msgs (nth_lt hltm)
        rw [show ((w.msg.toNat : Nat) : Int) = w.msg by omega] at f1
        have lo : ldI H24 .i64 id2 (off2 + 1) = some m.msgs[w.msg.toNat].ow := by simp only [ldI, f2 1 (by omega)]; rfl
        simp only [cond_true, l9, l5, Option.bind_some, f1, lo]
        have htm : trigM m who w = cond (m.msgs[w.msg.toNat].ow == who) ⟨1, w.st, w.cy, w.re, w.msg, IntKind.i64.wrap (w.st + m.enable)⟩ ⟨3, IntKind.i64.wrap (w.en - 1), w.cy, w.re, w.msg, 0⟩ := by
          unfold trigM; rw [h2f]; simp only [cond_false, nth_lt hltm]
        cases e3 : m.msgs[w.msg.toNat].ow == who with
        | true =>
          rw [e3] at htm
          obtain ⟨d1, d2, d4⟩ := ld (H24.skip 13) hle24
          simp only [cond_true, d1, d4, Option.bind_some]
          refine stN_ind (H := H24.skip 13) (hw24.skip 13) k22 rfl fun H34 hk34 hj34 hw34 hn34 => ?_
          have le34 : Les H18.bl H34.bl := les_st (b := (H24.skip 13).bl) hle24 n22 hj34
          obtain ⟨d1, d2, d4⟩ := ld H34 le34
          simp only [d1, d4, Option.bind_some, decide_true, cond_true]
          refine stN_ind hw34 hk34 rfl fun H38 hk38 hj38 hw38 hn38 => ?_
          have le38 : Les H18.bl H38.bl := les_st le34 n22 hj38
          obtain ⟨d1, d2, d4⟩ := ld H38 le38
          simp only [d1, d4, Option.bind_some, decide_true, cond_true]
          refine stN_ind hw38 hk38 rfl fun H41 hk41 hj41 hw41 hn41 => ?_
          have le41 : Les H18.bl H41.bl := les_st le38 n22 hj41
          exact fin H41 _ _ _ _ _ _ h3f (by rw [htm]; rfl) (by simp only [Heap.skip] at hn34; omega) hw41 le41 (by rw [hk41]; rfl)
        | false =>
          rw [e3] at htm
          obtain ⟨d1, d2, d4⟩ := ld (H24.skip 7) hle24
          simp only [cond_false, e1, cond_true, d2, Option.bind_some]
          refine stN_ind (H := H24.skip 7) (hw24.skip 7) k22 rfl fun H34 hk34 hj34 hw34 hn34 => ?_
          have le34 : Les H18.bl H34.bl := les_st (b := (H24.skip 7).bl) hle24 n22 hj34
          obtain ⟨d1, d2, d4⟩ := ld H34 le34
          simp only [d2, Option.bind_some, decide_true, cond_true]
          refine stN_ind hw34 hk34 rfl fun H38 hk38 hj38 hw38 hn38 => ?_
          have le38 : Les H18.bl H38.bl := les_st le34 n22 hj38
          exact fin H38 _ _ _ _ _ _ h3f (by rw [htm]; rfl) (by simp only [Heap.skip] at hn34; omega) hw38 le38 (by rw [hk38]; rfl)
      | false =>
        simp only [cond_false]
        cases e2 : w.kind == 2 with
        | true =>
          have hk2' : w.kind = 2 := by simpa using e2
          have h3f : (w.kind == 3) = false := by simp [hk2']
          have htm : trigM m who w = ⟨2, w.st, w.cy, w.re, w.msg, IntKind.i64.wrap (w.en - stepM m)⟩ := by unfold trigM; rw [e2]; rfl
          obtain ⟨d1, d2, d4⟩ := ld (H24.skip 13) hle24
          have hatS : MatAt (H24.skip 13) m s1 s2 s3 := hat0.les (H' := H24.skip 13) (hin18.les.trans hle24)
          have hkS : lk x2 (H24.skip 13).bl = some (.row (m.c s1 s2 s3)) := hle24 _ _ hk218
          simp only [cond_true, d1, d2, Option.bind_some, ldMat hatS hkS, h39, pureO, S43, hatS.of, hsm, asI, decide_true]
          refine stN_ind (H := H24.skip 13) (hw24.skip 13) k22 rfl fun H34 hk34 hj34 hw34 hn34 => ?_
          have le34 : Les H18.bl H34.bl := les_st (b := (H24.skip 13).bl) hle24 n22 hj34
          obtain ⟨d1, d2, d4⟩ := ld H34 le34
          simp only [d1, d2, Option.bind_some, decide_true, cond_true]
          refine stN_ind hw34 hk34 rfl fun H38 hk38 hj38 hw38 hn38 => ?_
          have le38 : Les H18.bl H38.bl := les_st le34 n22 hj38
          obtain ⟨d1, d2, d4⟩ := ld H38 le38
          simp only [d1, d2, Option.bind_some, decide_true, cond_true]
          refine stN_ind hw38 hk38 rfl fun H41 hk41 hj41 hw41 hn41 => ?_
          have le41 : Les H18.bl H41.bl := les_st le38 n22 hj41
          exact fin H41 _ _ _ _ _ _ h3f (by rw [htm]; rfl) (by simp only [Heap.skip] at hn34; omega) hw41 le41 (by rw [hk41]; rfl)
        | false =>
          simp only [cond_false]
          have hk3' : w.kind = 3 := by
            have hwo := win_ok hM hmem
            simp only [winOk, within, Bool.and_eq_true, decide_eq_true_eq] at hwo
            simp at e1 e2
            omega
          rw [wrap_nat (by unfold NN; omega)]
          obtain ⟨Hx, vx, g1, g2, g3, g4⟩ := Goes13.ex (ih (k + 1) H24 v l (by omega) ⟨Nat.le_trans hin18.next hn24, hw24, hin18.les.trans hle24⟩ (hle24 _ _ hk218) (ho18.les hle24) (by omega))
          refine .mk ⟨Hx, vx, g1, g2, ?_, g4⟩
          rw [hk3 hk3']; exact g3
    · simp only [show decide ((k : Int) < (m.wins.length : Int)) = false by simpa using hlt, cond_false]
      rw [List.drop_eq_nil_of_le (by omega)]
      exact .mk ⟨H, v, hin, hk2, by simpa [trigsW] using ho, rfl⟩

theorem tail13 (h41 : o 41 = pureO Srank) (h15 : o 15 = pureO Sbeat) (h17 : o 17 = pureO Swatch) (h40 : o 40 = newO S40)
    {H0 H : Heap} (hw0 : Wf H0) {x2 : Nat} {m : Mat} {who : Int} {s1 s2 s3 : V} (hat0 : MatAt H0 m s1 s2 s3) (hsm : small m = true) {v : V} {l : List Trig} (hin : In H0 H) (hk2 : lk x2 H.bl = some (.row (m.c s1 s2 s3))) (ho : Own H0 H v l) (hl : l.length ≤ 16) :
    EndsN H0 ((tailM m who).foldl laidM l) (M13_9 o NN pureK who x2 v H) := by
  have hr : ∀ {H : Heap}, In H0 H → Srank [.agg (m.c s1 s2 s3), .int .i64 who] H = some (.int .i64 (rankM m who)) := fun h => by
    simp only [Srank, (hat0.les h.les).of, Option.bind_some, hsm, cond_true]; rfl
  have hb : ∀ {H : Heap} (r : Int), In H0 H → Sbeat [.agg (m.c s1 s2 s3), .int .i64 r] H = some (.int .i64 (beatM m r)) := fun r h => by
    simp only [Sbeat, (hat0.les h.les).of, Option.bind_some, hsm, cond_true]
  have hwt : ∀ {H : Heap}, In H0 H → Swatch [.agg (m.c s1 s2 s3)] H = some (.int .i64 (watchM m)) := fun h => by
    simp only [Swatch, (hat0.les h.les).of, Option.bind_some, hsm, cond_true]
  have l3 : ldI H .i64 x2 3 = some m.length := by simp [ldI, Heap.ldc, hk2, Mat.c, nth]
  have fin : ∀ {H' : Heap} {v' : V} {l' : List Trig}, In H0 H' → Own H0 H' v' l' → l' ≠ [] → EndsN H0 l' (pureK v' H') := by
    intro H' v' l' hi' ho' hne
    rcases ho' with ⟨_, e⟩ | ⟨id, e1, e2, e3⟩
    · exact absurd e hne
    · exact ⟨H', id, hi'.les, by rw [e2], e3, e1⟩
  have hne : ∀ (l : List Trig) (t : Trig), laidM l t ≠ [] := fun l t e => by
    have := laidM_len l t; rw [e] at this; simp at this
  simp only [M13_9, ldMat (hat0.les hin.les) hk2, h41, pureO, hr hin, Option.bind_some, asI, decide_true, cond_true]
  unfold tailM
  cases e : decide (rankM m who ≥ 0) with
  | true =>
    simp only [cond_true, l3, Option.bind_some]
    obtain ⟨v1, H1, a1, a2, a3, a4⟩ := c40 (o := o) h40 hin ho (by omega) ⟨4, m.length, 0, 1, 0, 0⟩
    simp only [Trig.c] at a1
    rw [a1]
    simp only [ldMat (hat0.les a3.les) (a4 _ _ hk2), h15, pureO, hb (rankM m who) a3, Option.bind_some, asI, decide_true, cond_true]
    obtain ⟨v2, H2, b1, b2, b3, b4⟩ := c40 (o := o) h40 a3 a2 (by rw [laidM_len]; omega) ⟨4, beatM m (rankM m who), 0, 1, 1, 0⟩
    simp only [Trig.c] at b1
    rw [b1]
    simp only [ldMat (hat0.les b3.les) (b4 _ _ (a4 _ _ hk2)), h17, pureO, hwt b3, Option.bind_some, asI, decide_true, cond_true]
    obtain ⟨v3, H3, c1, c2, c3, c4⟩ := c40 (o := o) h40 b3 b2 (by rw [laidM_len, laidM_len]; omega) ⟨5, watchM m, 0, 1, 0, 0⟩
    simp only [Trig.c] at c1
    rw [c1]
    exact fin c3 c2 (hne _ _)
  | false =>
    simp only [cond_false, ldMat (hat0.les hin.les) hk2, h17, pureO, hwt hin, Option.bind_some, asI, decide_true, cond_true]
    obtain ⟨v3, H3, c1, c2, c3, c4⟩ := c40 (o := o) h40 hin ho (by omega) ⟨5, watchM m, 0, 1, 0, 0⟩
    simp only [Trig.c] at c1
    rw [c1]
    exact fin c3 c2 (hne _ _)

theorem E13 (ho : ∀ f, FSound Try.prog f (o f)) (h19 : o 19 = pureO S19) (h39 : o 39 = pureO S43) (h41 : o 41 = pureO Srank) (h15 : o 15 = pureO Sbeat) (h17 : o 17 = pureO Swatch) (h40 : o 40 = newO S40) :
    FSound Try.prog 13 (newO Splan) := newO_sound (M13_sound ho NN) _ (by
  intro vs H0 r hw hs
  unfold Splan at hs
  split at hs
  · rename_i a who
    simp only [Option.bind_eq_some_iff] at hs
    obtain ⟨m, hm, hs⟩ := hs
    obtain ⟨hc, hs⟩ := ofCondO hs
    have hc' := hc
    simp only [Bool.and_eq_true] at hc
    obtain ⟨hsm, hrg⟩ := hc
    obtain ⟨s1, s2, s3, rfl, hat⟩ := matOf_inv hm
    cases hs
    have h0 : M13 o NN [.agg (m.c s1 s2 s3), .int .i64 who] H0 pureK = cond (List.all (m.c s1 s2 s3) V.one) (M13_1 o NN (fun x1 x2 x6 H => M13_2 o NN (fun x1 x2 H => M13_3 o NN (fun x1 x2 x7 H => M13_4 o NN (fun x1 x2 x7 x8 H => M13_7 o NN (fun x1 x2 x7 H => M13_9 o NN pureK x1 x2 x7 H) pureK NN x1 x2 x7 x8 H) pureK x1 x2 x7 H) pureK x1 x2 H) pureK x1 x2 x6 H) pureK who H0.next (H0.new (.row (m.c s1 s2 s3)))) none := rfl
    rw [h0, hat.ones, cond_true]
    have hin : In H0 (H0.new (.row (m.c s1 s2 s3))) := (In.refl hw.wf).new _
    have hk : lk H0.next (H0.new (.row (m.c s1 s2 s3))).bl = some (.row (m.c s1 s2 s3)) := by simp [Heap.new, lk_cons]
    generalize H0.new (.row (m.c s1 s2 s3)) = H2 at hin hk
    have hat2 := hat.les hin.les
    have s19 : S19 [.agg (m.c s1 s2 s3)] H2 = some (tupV (chkM m)) := by simp only [S19, hat2.of, Option.bind_some, hc', cond_true]
    simp only [M13_1, ldMat hat2 hk, h19, pureO, s19, Option.bind_some, tupV, asT2, asI, decide_true, cond_true, M13_2]
    unfold planM
    cases e : ((chkM m).2 != 0) with
    | true => exact ⟨H2, hin.les, rfl⟩
    | false =>
      simp only [cond_false]
      have hz : (chkM m).2 = 0 := by simpa using e
      obtain ⟨hM, hms⟩ := chk_ok hz
      have hwl := wins_le hM
      simp only [M13_3, M13_4]
      obtain ⟨⟨H', v', g1, g2, g3, g4⟩⟩ := loop13 (o := o) (κ := pureK) (X0 := fun x1 x2 x7 H => M13_9 o NN pureK x1 x2 x7 H) (who := who) h39 h40 hw.wf hat hsm hM hms NN 0 H2 .nils [] (by unfold NN; omega) hin hk Own.nil (by simp)
      rw [show (0 : Int) = ((0 : Nat) : Int) from rfl, g4]
      simp only [List.drop_zero] at g3
      have hlen := trigsW_len m who m.wins
      have := tail13 (o := o) (who := who) h41 h15 h17 h40 hw.wf hat hsm g1 g2 g3 (by rw [foldl_len]; simp; omega)
      rw [sortT, rowM, List.foldl_append]
      exact this
  · cases hs)

end
end Go.Proofs.Ytminfdcdmgpnjaa.K
