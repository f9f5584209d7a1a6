/- What the program's Plan answers: the whole. -/
import Derived.Test.YtminfdcdmgpnjaaS18
set_option linter.unusedVariables false
set_option linter.unusedSimpArgs false
namespace Go.Proofs.Ytminfdcdmgpnjaa.K
open Go

theorem trigsW_len (m : Mat) (who : Int) (ws : List Win) : (trigsW m who ws).length ≤ ws.length := by
  simp only [trigsW, List.length_map]; exact List.length_filter_le _ _
theorem sortT_len (l : List Trig) : (sortT l).length = l.length := by simp [sortT, foldl_len]

section
variable {o : Orc}

theorem fin12 {o1 o2 o3 : Orc} (h36 : o 36 = M36 o1 NN) (h55 : o1 55 = M55 o2 NN) (h77 : o2 77 = M77 o3 NN) (h37 : o3 37 = pureO S37) {H0 H : Heap} (hw0 : Wf H0) {x2 x7 : Nat} {cs : List V} {l : List Trig} (h : Pl H0 x2 x7 cs H l) (h0 : l ≠ []) (hl : l.length < 20) :
    EndsN H0 (sortT l) ((ldV H x7 0).bind fun v51 => o 36 [v51, .fn 37 []] H fun v52 H53 => asT0 v52 ((ldV H53 x7 0).bind fun v54 => pureK v54 H53)) := by
  obtain ⟨v, hv, ho, hv1⟩ := h.v
  have l7 : ldV H x7 0 = some v := by simp [ldV, Heap.ldc, hv, nth, hv1]
  rcases ho with ⟨_, e⟩ | ⟨id, hi, rfl, hk⟩
  · exact absurd e h0
  obtain ⟨H', u, k, e⟩ := sort36 (o := o1) (g := true) h55 h77 h37 hk rfl hl h.inn.wf
  have hne : x7 ≠ id := by
    rintro rfl
    rw [hv] at hk
    have h5 := congrArg (fun b => match b with | some (Blk.row r) => r.length | _ => 0) hk
    simp only [cellsT_len] at h5
    simp at h5
    omega
  have l7' : ldV H' x7 0 = some (.sl id 0 l.length 6 true) := by simp [ldV, Heap.ldc, u.oth _ hne, hv, nth, hv1]
  simp only [l7, Option.bind_some, h36, e, asT0, l7']
  refine ⟨H', id, fun j b hj => ?_, by rw [sortT_len], k, hi⟩
  have := hw0 _ _ hj
  rw [u.oth j (by omega)]; exact h.inn.les _ _ hj

theorem tail12 {o1 o2 o3 o4 : Orc} (h34 : o 34 = M34 o4 NN) (h35 : o 35 = pureO Srank) (h14 : o 14 = pureO Sbeat) (h16 : o 16 = pureO Swatch) (h36 : o 36 = M36 o1 NN) (h55 : o1 55 = M55 o2 NN) (h77 : o2 77 = M77 o3 NN) (h37 : o3 37 = pureO S37)
    {H0 H : Heap} (hw0 : Wf H0) {x2 x7 : Nat} {m : Mat} {who : Int} {s1 s2 s3 : V} (hat0 : MatAt H0 m s1 s2 s3) (hsm : small m = true) {l : List Trig} (h : Pl H0 x2 x7 (m.c s1 s2 s3) H l) (hl : l.length ≤ 16) :
    EndsN H0 (sortT (l ++ tailM m who)) (M12_10 o NN pureK who x2 x7 H) := by
  have at' : ∀ {H : Heap} {l : List Trig}, Pl H0 x2 x7 (m.c s1 s2 s3) H l → MatAt H m s1 s2 s3 := fun h => hat0.les h.inn.les
  have l3 : ∀ {H : Heap} {l : List Trig}, Pl H0 x2 x7 (m.c s1 s2 s3) H l → ldI H .i64 x2 3 = some m.length := fun h => by simp [ldI, Heap.ldc, h.k2, Mat.c, nth]
  have hr : ∀ {H : Heap} {l : List Trig}, Pl H0 x2 x7 (m.c s1 s2 s3) H l → Srank [.agg (m.c s1 s2 s3), .int .i64 who] H = some (.int .i64 (rankM m who)) := fun h => by
    simp only [Srank, (at' h).of, Option.bind_some, hsm, cond_true]; rfl
  have hb : ∀ {H : Heap} {l : List Trig} (r : Int), Pl H0 x2 x7 (m.c s1 s2 s3) H l → Sbeat [.agg (m.c s1 s2 s3), .int .i64 r] H = some (.int .i64 (beatM m r)) := fun r h => by
    simp only [Sbeat, (at' h).of, Option.bind_some, hsm, cond_true]
  have hwt : ∀ {H : Heap} {l : List Trig}, Pl H0 x2 x7 (m.c s1 s2 s3) H l → Swatch [.agg (m.c s1 s2 s3)] H = some (.int .i64 (watchM m)) := fun h => by
    simp only [Swatch, (at' h).of, Option.bind_some, hsm, cond_true]
  simp only [M12_10, ldMat (at' h) h.k2, h35, pureO, hr h, Option.bind_some, asI, decide_true, cond_true]
  unfold tailM
  cases e : decide (rankM m who ≥ 0) with
  | true =>
    simp only [cond_true, l3 h, Option.bind_some, h34]
    obtain ⟨H1, p1, e1⟩ := each34 (o := o4) hw0 h (by simp [lim]; omega) 4 m.length 0
    rw [e1]
    simp only [asT0, ldMat (at' p1) p1.k2, h14, pureO, hb (rankM m who) p1, Option.bind_some, asI, decide_true, cond_true]
    obtain ⟨H2, p2, e2⟩ := each34 (o := o4) hw0 p1 (by simp [lim]; omega) 4 (beatM m (rankM m who)) 1
    rw [e2]
    simp only [asT0, ldMat (at' p2) p2.k2, h16, pureO, hwt p2, Option.bind_some, asI, decide_true, cond_true]
    obtain ⟨H3, p3, e3⟩ := each34 (o := o4) hw0 p2 (by simp [lim]; omega) 5 (watchM m) 0
    rw [e3]
    simp only [asT0]
    have := fin12 (o := o) h36 h55 h77 h37 hw0 p3 (by simp) (by simp; omega)
    simpa only [asT0, List.append_assoc, List.cons_append, List.nil_append] using this
  | false =>
    simp only [cond_false, ldMat (at' h) h.k2, h16, pureO, hwt h, Option.bind_some, asI, decide_true, cond_true, h34]
    obtain ⟨H3, p3, e3⟩ := each34 (o := o4) hw0 h (by simp [lim]; omega) 5 (watchM m) 0
    rw [e3]
    simp only [asT0]
    have := fin12 (o := o) h36 h55 h77 h37 hw0 p3 (by simp) (by simp; omega)
    simpa only [asT0, List.append_assoc, List.cons_append, List.nil_append] using this

theorem E12 (ho : ∀ f, FSound Try.prog f (o f)) {o1 o2 o3 o4 : Orc} (h32 : o 32 = pureO S32) (h33 : o 33 = pureO S33) (h34 : o 34 = M34 o4 NN) (h35 : o 35 = pureO Srank) (h14 : o 14 = pureO Sbeat) (h16 : o 16 = pureO Swatch) (h36 : o 36 = M36 o1 NN) (h55 : o1 55 = M55 o2 NN) (h77 : o2 77 = M77 o3 NN) (h37 : o3 37 = pureO S37) :
    FSound Try.prog 12 (newO Splan) := newO_sound (M12_sound ho NN) _ (by
  intro vs H0 r hw hs
  unfold Splan at hs
  split at hs
  · rename_i a who
    simp only [Option.bind_eq_some_iff] at hs
    obtain ⟨m, hm, hs⟩ := hs
    obtain ⟨hc, hs⟩ := ofCondO hs
    simp only [Bool.and_eq_true] at hc
    obtain ⟨hsm, hrg⟩ := hc
    obtain ⟨s1, s2, s3, rfl, hat⟩ := matOf_inv hm
    cases hs
    have h0 : M12 o NN [.agg (m.c s1 s2 s3), .int .i64 who] H0 pureK = cond (List.all (m.c s1 s2 s3) V.one) (M12_1 o NN (fun x1 x2 H => M12_2 o NN (fun x1 x2 x7 H => M12_3 o NN (fun x1 x2 x7 H => M12_4 o NN (fun x1 x2 x7 x20 x21 x22 H => M12_8 o NN (fun x1 x2 x7 H => M12_10 o NN pureK x1 x2 x7 H) pureK NN x1 x2 x7 x20 x21 x22 H) pureK x1 x2 x7 H) pureK x1 x2 x7 H) pureK x1 x2 H) pureK who H0.next (H0.new (.row (m.c s1 s2 s3)))) none := rfl
    rw [h0, hat.ones, cond_true]
    have hin : In H0 (H0.new (.row (m.c s1 s2 s3))) := (In.refl hw.wf).new _
    have hk : lk H0.next (H0.new (.row (m.c s1 s2 s3))).bl = some (.row (m.c s1 s2 s3)) := by simp [Heap.new, lk_cons]
    generalize H0.new (.row (m.c s1 s2 s3)) = H2 at hin hk
    have hat2 := hat.les hin.les
    have s32 : S32 [.agg (m.c s1 s2 s3)] H2 = some (tupV (chkM m)) := by simp only [S32, hat2.of, Option.bind_some, hsm, cond_true]
    simp only [M12_1, ldMat hat2 hk, h32, pureO, s32, Option.bind_some, tupV, asT2, asI, decide_true, cond_true]
    unfold planM
    cases e : ((chkM m).2 != 0) with
    | true => exact ⟨H2, hin.les, rfl⟩
    | false =>
      simp only [cond_false]
      have hz : (chkM m).2 = 0 := by simpa using e
      obtain ⟨hM, hms⟩ := chk_ok hz
      have hwl := wins_le hM
      simp only [M12_2, M12_3, M12_4, newB]
      have hP : Pl H0 H0.next H2.next (m.c s1 s2 s3) (H2.new (.row [.nils])) [] := by
        refine ⟨hin.new _, hin.wf.les _ _ _ hk, ⟨.nils, by simp [Heap.new, lk_cons], Own.nil, rfl⟩, hin.next, rfl⟩
      have l10 : ldV (H2.new (.row [.nils])) H0.next 10 = some s3 := by simp [ldV, Heap.ldc, hP.k2, Mat.c, nth, rdL_one hat.wins]
      have hatP := hat.les hP.inn.les
      simp only [l10, Option.bind_some, rdL_len hatP.wins]
      obtain ⟨H', g1, g2⟩ := loop12 (o := o) (κ := pureK) (X0 := fun x1 x2 x7 H => M12_10 o NN pureK x1 x2 x7 H) (who := who) h33 hw.wf hat hsm hM hms NN 0 (H2.new (.row [.nils])) [] (by unfold NN; omega) hP (by simp)
      rw [show (0 : Int) = ((0 : Nat) : Int) from rfl, g2]
      simp only [List.drop_zero, List.nil_append] at g1
      have hlen := trigsW_len m who m.wins
      exact tail12 (o := o) h34 h35 h14 h16 h36 h55 h77 h37 hw.wf hat hsm g1 (by omega)
  · cases hs)

end
end Go.Proofs.Ytminfdcdmgpnjaa.K
