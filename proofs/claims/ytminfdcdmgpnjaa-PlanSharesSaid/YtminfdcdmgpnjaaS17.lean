/- The program's window. -/
import Derived.Test.YtminfdcdmgpnjaaS16
set_option linter.unusedVariables false
set_option linter.unusedSimpArgs false
namespace Go.Proofs.Ytminfdcdmgpnjaa.K
open Go

def trigM (m : Mat) (who : Int) (w : Win) : Trig :=
  cond (w.kind == 2) ⟨2, w.st, w.cy, w.re, w.msg, IntKind.i64.wrap (w.en - stepM m)⟩
    (match nth m.msgs w.msg.toNat with
     | some x => cond (x.ow == who) ⟨1, w.st, w.cy, w.re, w.msg, IntKind.i64.wrap (w.st + m.enable)⟩ ⟨3, IntKind.i64.wrap (w.en - 1), w.cy, w.re, w.msg, 0⟩
     | none => ⟨0, 0, 0, 0, 0, 0⟩)
/-- Its message is there, if it is looked at. -/
def msgIn (m : Mat) (w : Win) : Bool := w.kind == 2 || (decide (0 ≤ w.msg) && decide (w.msg < m.msgs.length))
def S33 : List V → Heap → Option V
  | [.agg a, .int .i64 who, .agg l], H => (matOf H a).bind fun m => (winOf l).bind fun w => cond (small m && msgIn m w) (some (.agg (trigM m who w).c)) none
  | _, _ => none

theorem lk_none_le {H : Heap} (hw : Wf H) {i : Nat} (h : H.next ≤ i) : lk i H.bl = none := by
  cases e : lk i H.bl with
  | none => rfl
  | some b => have := hw _ _ e; omega

/-- What lies at 0.. of a row of six. -/
theorem ldSix {H : Heap} {i : Nat} {a b c d e f : Int} (hk : lk i H.bl = some (.row [.int .i64 a, .int .i64 b, .int .i64 c, .int .i64 d, .int .i64 e, .int .i64 f])) (K : List V → Ans) :
    ldFlat H i [.int .i64, .int .i64, .int .i64, .int .i64, .int .i64, .int .i64] 0 K = K [.int .i64 a, .int .i64 b, .int .i64 c, .int .i64 d, .int .i64 e, .int .i64 f] := by
  simp [ldFlat, ldI, Heap.ldc, hk, nth]

section
variable {o : Orc}

theorem E33 (ho : ∀ f, FSound Try.prog f (o f)) (h43 : o 43 = pureO S43) : FSound Try.prog 33 (pureO S33) := (M33_sound ho NN).pure _ (by
  intro vs H v hw hs
  unfold S33 at hs
  split at hs
  · rename_i a who l
    simp only [Option.bind_eq_some_iff] at hs
    obtain ⟨m, hm, w, hwn, hs⟩ := hs
    obtain ⟨hc, hs⟩ := ofCondO hs
    simp only [Bool.and_eq_true] at hc
    obtain ⟨hsm, hmi⟩ := hc
    obtain ⟨s1, s2, s3, rfl, hat⟩ := matOf_inv hm
    rw [winOf_eq hwn]
    cases hs
    refine ⟨⟨trivial, trivial, trivial, trivial, trivial, trivial, trivial⟩, ?_⟩
    have h0 : ∀ H, M33 o NN [.agg (m.c s1 s2 s3), .int .i64 who, .agg w.c] H pureK = M33_1 o NN pureK (m.c s1 s2 s3) who w.c H := fun H => rfl
    rw [h0]
    simp only [M33_1, hat.ones, Win.ones, cond_true]
    refine newB_ind hw.wf fun i1 H2 hl2 hw2 hk1 hn1 => ?_
    refine newB_ind hw2 fun i3 H4 hl4 hw4 hk3 hn3 => ?_
    refine newB_ind hw4 fun i5 H6 hl6 hw6 hk5 hn5 => ?_
    have k1 := hl6 _ _ (hl4 _ _ hk1)
    have k3 := hl6 _ _ hk3
    have hle6 : Les H.bl H6.bl := hl2.trans (hl4.trans hl6)
    have n5 : lk i5 H.bl = none := by
      cases e : lk i5 H.bl with
      | none => rfl
      | some b => rw [hl4 _ _ (hl2 _ _ e)] at hn5; cases hn5
    have hatS : MatAt (H6.skip 16) m s1 s2 s3 := (hat.les hle6).les (H' := H6.skip 16) (Les.refl H6.bl)
    have kS1 : lk i1 (H6.skip 16).bl = some (.row (m.c s1 s2 s3)) := k1
    have kS3 : lk i3 (H6.skip 16).bl = some (.row w.c) := k3
    have kS5 : lk i5 (H6.skip 16).bl = some (.row [.int .i64 0, .int .i64 0, .int .i64 0, .int .i64 0, .int .i64 0, .int .i64 0]) := hk5
    have q1 : ldI (H6.skip 16) .i64 i3 1 = some w.st := by simp [ldI, Heap.ldc, kS3, Win.c, nth]
    have q2 : ldI (H6.skip 16) .i64 i3 2 = some w.en := by simp [ldI, Heap.ldc, kS3, Win.c, nth]
    have q3 : ldI (H6.skip 16) .i64 i3 3 = some w.cy := by simp [ldI, Heap.ldc, kS3, Win.c, nth]
    have q4 : ldI (H6.skip 16) .i64 i3 4 = some w.re := by simp [ldI, Heap.ldc, kS3, Win.c, nth]
    have q5 : ldI (H6.skip 16) .i64 i3 5 = some w.msg := by simp [ldI, Heap.ldc, kS3, Win.c, nth]
    simp only [q1, q2, q3, q4, q5, Option.bind_some, ldMat hatS kS1, h43, pureO, S43, hatS.of, hsm, cond_true, asI, decide_true]
    -- the trigger's room
    have hwS : Wf (H6.skip 16) := hw6.skip 16
    have hin : In H6 (H6.skip 16) := (In.refl hw6).skip 16
    have hinA : In H6 ((H6.skip 16).newAt (H6.next + 14) (.row [.int .i64 0, .int .i64 0, .int .i64 0, .int .i64 0, .int .i64 0, .int .i64 0])) := hin.newAt hw6 _ (by omega) (by simp only [Heap.skip]; omega)
    have kA : lk (H6.next + 14) ((H6.skip 16).newAt (H6.next + 14) (.row [.int .i64 0, .int .i64 0, .int .i64 0, .int .i64 0, .int .i64 0, .int .i64 0])).bl = some (.row [.int .i64 0, .int .i64 0, .int .i64 0, .int .i64 0, .int .i64 0, .int .i64 0]) := by
      simp [Heap.newAt, lk_cons]
    generalize (H6.skip 16).newAt (H6.next + 14) (.row [.int .i64 0, .int .i64 0, .int .i64 0, .int .i64 0, .int .i64 0, .int .i64 0]) = HA at hinA kA
    have n14 : lk (H6.next + 14) H6.bl = none := lk_none_le hw6 (by omega)
    refine stN_ind hinA.wf kA rfl fun H21 hk21 hj21 hw21 hn21 => ?_
    have hle21 : Les H6.bl H21.bl := les_st hinA.les n14 hj21
    have k21 : lk (H6.next + 14) H21.bl = some (.row [.int .i64 2, .int .i64 w.st, .int .i64 w.cy, .int .i64 w.re, .int .i64 w.msg, .int .i64 (IntKind.i64.wrap (w.en - stepM m))]) := by rw [hk21]; rfl
    have r3 := hle21 _ _ k3
    have r1 := hle21 _ _ k1
    have r5 := hle21 _ _ hk5
    have l0 : ldI H21 .i64 i3 0 = some w.kind := by simp [ldI, Heap.ldc, r3, Win.c, nth]
    simp only [l0, Option.bind_some]
    -- the end: the trigger is put into the result's room and read
    have fin : ∀ (H' : Heap) (a b c d e f : Int), Wf H' → Les H6.bl H'.bl → lk (H6.next + 14) H'.bl = some (.row [.int .i64 a, .int .i64 b, .int .i64 c, .int .i64 d, .int .i64 e, .int .i64 f]) →
        Ends H (.agg [.int .i64 a, .int .i64 b, .int .i64 c, .int .i64 d, .int .i64 e, .int .i64 f]) (ldFlat H' (H6.next + 14) [.int .i64, .int .i64, .int .i64, .int .i64, .int .i64, .int .i64] 0 fun l23 =>
          cond (Nat.beq (List.length l23) 6 && Nat.blt 0 6) ((stN H' i5 0 l23).bind fun H24 => ldFlat H24 i5 [.int .i64, .int .i64, .int .i64, .int .i64, .int .i64, .int .i64] 0 fun l25 => pureK (.agg l25) H24) none) := by
      intro H' a b c d e f hw' hl' hk'
      rw [ldSix hk']
      simp only [show (Nat.beq (List.length [V.int .i64 a, .int .i64 b, .int .i64 c, .int .i64 d, .int .i64 e, .int .i64 f]) 6 && Nat.blt 0 6) = true from rfl, cond_true]
      refine stN_ind hw' (hl' _ _ hk5) rfl fun H24 hk24 hj24 hw24 _ => ?_
      rw [ldSix (a := a) (b := b) (c := c) (d := d) (e := e) (f := f) (by rw [hk24]; rfl)]
      exact Ends.mono (les_st (hle6.trans hl') n5 hj24) Ends.ret
    unfold trigM
    unfold msgIn at hmi
    cases e2 : w.kind == 2 with
    | true =>
      simp only [cond_true, Trig.c]
      exact fin H21 _ _ _ _ _ _ hw21 hle21 k21
    | false =>
      rw [e2] at hmi
      simp only [Bool.false_or, Bool.and_eq_true, decide_eq_true_eq] at hmi
      have hlt : w.msg.toNat < m.msgs.length := by omega
      have hat21 : MatAt H21 m s1 s2 s3 := (hat.les hle6).les hle21
      have l9 : ldV H21 i1 9 = some s2 := by simp [ldV, Heap.ldc, r1, Mat.c, nth, rdL_one hat.msgs]
      have l5 : ldI H21 .i64 i3 5 = some w.msg := by simp [ldI, Heap.ldc, r3, Win.c, nth]
      obtain ⟨id2, off2, f1, f2⟩ := msg_at hat21.msgs (nth_lt hlt)
      rw [show ((w.msg.toNat : Nat) : Int) = w.msg by omega] at f1
      have lo : ldI H21 .i64 id2 (off2 + 1) = some m.msgs[w.msg.toNat].ow := by simp only [ldI, f2 1 (by omega)]; rfl
      simp only [cond_false, l9, l5, Option.bind_some, f1, lo, nth_lt hlt]
      have hwS9 : Wf (H21.skip 9) := hw21.skip 9
      have k9 : lk (H6.next + 14) (H21.skip 9).bl = some (.row [.int .i64 2, .int .i64 w.st, .int .i64 w.cy, .int .i64 w.re, .int .i64 w.msg, .int .i64 (IntKind.i64.wrap (w.en - stepM m))]) := k21
      have p1 : ldI (H21.skip 9) .i64 i3 1 = some w.st := by simp only [ldI, Heap.ldc, show (H21.skip 9).bl = H21.bl from rfl, r3, Win.c, nth]; simp
      have p2 : ldI (H21.skip 9) .i64 i3 2 = some w.en := by simp only [ldI, Heap.ldc, show (H21.skip 9).bl = H21.bl from rfl, r3, Win.c, nth]; simp
      have p4 : ldI (H21.skip 9) .i64 i1 4 = some m.enable := by simp only [ldI, Heap.ldc, show (H21.skip 9).bl = H21.bl from rfl, r1, Mat.c, nth]; simp
      cases e3 : m.msgs[w.msg.toNat].ow == who with
      | true =>
        simp only [cond_true, p1, p4, Option.bind_some, Trig.c]
        refine stN_ind hwS9 k9 rfl fun H33 hk33 hj33 hw33 _ => ?_
        have hle33 : Les H6.bl H33.bl := les_st (b := (H21.skip 9).bl) hle21 n14 hj33
        have t1 : ldI H33 .i64 i1 4 = some m.enable := by simp [ldI, Heap.ldc, hle33 _ _ k1, Mat.c, nth]
        have t2 : ldI H33 .i64 i3 1 = some w.st := by simp [ldI, Heap.ldc, hle33 _ _ k3, Win.c, nth]
        simp only [t1, t2, Option.bind_some, decide_true, cond_true]
        refine stN_ind hw33 hk33 rfl fun H36 hk36 hj36 hw36 _ => ?_
        have hle36 : Les H6.bl H36.bl := les_st hle33 n14 hj36
        exact fin H36 _ _ _ _ _ _ hw36 hle36 (by rw [hk36]; rfl)
      | false =>
        simp only [cond_false, p2, Option.bind_some, Trig.c]
        refine stN_ind hwS9 k9 rfl fun H33 hk33 hj33 hw33 _ => ?_
        have hle33 : Les H6.bl H33.bl := les_st (b := (H21.skip 9).bl) hle21 n14 hj33
        have t2 : ldI H33 .i64 i3 2 = some w.en := by simp [ldI, Heap.ldc, hle33 _ _ k3, Win.c, nth]
        simp only [t2, Option.bind_some, decide_true, cond_true]
        refine stN_ind hw33 hk33 rfl fun H36 hk36 hj36 hw36 _ => ?_
        have hle36 : Les H6.bl H36.bl := les_st hle33 n14 hj36
        refine stN_ind hw36 hk36 rfl fun H44 hk44 hj44 hw44 _ => ?_
        have hle44 : Les H6.bl H44.bl := les_st hle36 n14 hj44
        exact fin H44 _ _ _ _ _ _ hw44 hle44 (by rw [hk44]; rfl)
  · cases hs)

end
end Go.Proofs.Ytminfdcdmgpnjaa.K
