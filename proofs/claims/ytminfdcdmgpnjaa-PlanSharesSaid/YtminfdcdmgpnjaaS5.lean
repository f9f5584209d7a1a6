/- What the program's functions over matrices answer: the check. -/
import Derived.Test.YtminfdcdmgpnjaaS4
set_option linter.unusedVariables false
set_option linter.unusedSimpArgs false
namespace Go.Proofs.Ytminfdcdmgpnjaa.K
open Go

theorem wrap64 {n : Int} (h : -9223372036854775808 ≤ n) (h' : n ≤ 9223372036854775807) : IntKind.i64.wrap n = n := by
  unfold IntKind.wrap; simp [IntKind.signed, IntKind.bits]; omega

theorem clamp_le (b : Int) : 0 ≤ clamp b ∧ clamp b ≤ 1000 := by unfold clamp; omega

theorem units_le (m : Mat) (b : Int) : 1 ≤ unitsM m b ∧ unitsM m b ≤ 4002 := by
  have h := clamp_le b
  unfold unitsM
  simp only
  have hu : 1 ≤ (if 1 > m.unit then 1 else m.unit) := by split <;> omega
  generalize (if 1 > m.unit then 1 else m.unit) = u at hu
  have h1 : 0 ≤ Int.tdiv (clamp b * 4) u := Int.tdiv_nonneg (by omega) (by omega)
  have h2 : Int.tdiv (clamp b * 4) u ≤ clamp b * 4 := by
    rw [Int.tdiv_eq_ediv_of_nonneg (by omega)]
    exact Int.ediv_le_self _ (by omega)
  split <;> omega

section
variable {o : Orc}

theorem E67 (ho : ∀ f, FSound Try.prog f (o f)) : FSound Try.prog 67 (pureO S67) := (M67_sound ho NN).pure _ (by
  intro vs H v hw hs
  unfold S67 at hs
  split at hs
  · rename_i a b
    simp only [Option.bind_eq_some_iff] at hs
    obtain ⟨m, hm, hs⟩ := hs
    obtain ⟨s1, s2, s3, rfl, hat⟩ := matOf_inv hm
    cases hs
    refine ⟨trivial, ?_⟩
    simp only [M67, M67_0, hat.ones, cond_true]
    refine newB_ind hw.wf fun i1 H2 hl hw2 hk1 hn => ?_
    have l5 : ldI H2 .i64 i1 5 = some m.unit := by simp [ldI, Heap.ldc, hk1, Mat.c, nth]
    simp only [l5, Option.bind_some]
    rw [show (if 1000 < (if 0 > b then 0 else b) then 1000 else (if 0 > b then 0 else b)) = clamp b from rfl]
    have hcl := clamp_le b
    have hu : 1 ≤ (if 1 > m.unit then 1 else m.unit) := by split <;> omega
    have hun := units_le m b
    unfold unitsM at hun ⊢
    simp only at hun ⊢
    generalize (if 1 > m.unit then 1 else m.unit) = u at hu hun
    have hdn : 0 ≤ Int.tdiv (clamp b * 4) u := Int.tdiv_nonneg (by omega) (by omega)
    have hd2 : Int.tdiv (clamp b * 4) u ≤ clamp b * 4 := by
      rw [Int.tdiv_eq_ediv_of_nonneg (by omega)]
      exact Int.ediv_le_self _ (by omega)
    rw [wrap64 (n := clamp b * 4) (by omega) (by omega)]
    rw [show decide (u = 0) = false by simp; omega]
    simp only [cond_false]
    rw [wrap64 (n := Int.tdiv (clamp b * 4) u) (by omega) (by omega), wrap64 (n := Int.tdiv (clamp b * 4) u + 1) (by omega) (by omega), wrap64 (n := Int.tdiv (clamp b * 4) u + 1 + 1) (by omega) (by omega)]
    refine Ends.mono hl (Ends.cond (fun h => Ends.ret' ?_) (fun h => Ends.ret' ?_))
    · have : ¬ Int.tmod (clamp b * 4) u = 0 := by simpa using h
      rw [if_neg this]
    · have : Int.tmod (clamp b * 4) u = 0 := by simpa using h
      rw [if_pos this]; simp
  · cases hs)

theorem enable_le {m : Mat} (h : isM m = true) : 1 ≤ m.enable ∧ m.enable ≤ 16 := by
  simp only [isM, headOk, within, Bool.and_eq_true, decide_eq_true_eq] at h
  omega

theorem E43 (ho : ∀ f, FSound Try.prog f (o f)) (h42 : o 42 = pureO S42) (h67 : o 67 = pureO S67) : FSound Try.prog 43 (pureO S43) := (M43_sound ho NN).pure _ (by
  intro vs H v hw hs
  unfold S43 at hs
  split at hs
  · rename_i a
    simp only [Option.bind_eq_some_iff] at hs
    obtain ⟨m, hm, hs⟩ := hs
    obtain ⟨hsm, hs⟩ := ofCondO hs
    obtain ⟨s1, s2, s3, rfl, hat⟩ := matOf_inv hm
    cases hs
    refine ⟨trivial, ?_⟩
    have h0 : ∀ H, M43 o NN [.agg (m.c s1 s2 s3)] H pureK = M43_1 o NN pureK (m.c s1 s2 s3) H := fun H => rfl
    simp only [h0, M43_1, hat.ones, cond_true]
    refine newB_ind hw.wf fun i1 H2 hl hw2 hk1 hn => ?_
    have hat2 := hat.les hl
    rw [ldMat hat2 hk1]
    have s42 : S42 [.agg (m.c s1 s2 s3)] H2 = some (.bool (isM m)) := by
      simp only [S42, hat2.of, Option.bind_some]
      rw [show (decide (m.mas.length < NN) && decide (m.msgs.length < NN) && decide (m.wins.length < NN)) = true from hsm]; rfl
    simp only [h42, pureO, s42, Option.bind_some, asB]
    refine Ends.mono hl (Ends.cond (fun h => Ends.ret' ?_) (fun h => ?_))
    · simp at h; simp [stepM, h]
    · have h' : isM m = true := by simpa using h
      have hat3 : MatAt (H2.skip 6) m s1 s2 s3 := hat2.les (H' := H2.skip 6) (Les.refl H2.bl)
      have hk3 : lk i1 (H2.skip 6).bl = some (.row (m.c s1 s2 s3)) := hk1
      have l4 : ldI (H2.skip 6) .i64 i1 4 = some m.enable := by simp [ldI, Heap.ldc, hk3, Mat.c, nth]
      simp only [ldMat hat3 hk3, l4, Option.bind_some, h67, pureO, S67, hat3.of, asI, decide_true, cond_true]
      have hun := units_le m 140
      have he := enable_le h'
      rw [wrap64 (by omega) (by omega)]
      exact Ends.mono (H' := H2.skip 6) (Les.refl H2.bl) (Ends.ret' (by unfold stepM; rw [h']; rfl))
  · cases hs)

/-! ### Who, twice -/
def S71 : List V → Heap → Option V
  | [.int .i64 x, .ptr i 0], H => (rowAt H i).bind fun r => (matOf H r).bind fun m => some (.bool (decide (x ≥ m.nodes)))
  | _, _ => none
def S73 : List V → Heap → Option V
  | [.agg l, .ptr i 0], H => (msgOf l).bind fun x => (rowAt H i).bind fun r => (matOf H r).bind fun m => some (.bool (decide (x.ow ≥ m.nodes)))
  | _, _ => none
def S75 : List V → Heap → Option V
  | [.agg l, .ptr i 0], H => (msgOf l).bind fun y => (rowAt H i).bind fun r => (msgOf r).bind fun x => some (.bool (y.id == x.id))
  | _, _ => none

theorem E71 (ho : ∀ f, FSound Try.prog f (o f)) : FSound Try.prog 71 (pureO S71) := (M71_sound ho NN).pure _ (by
  intro vs H v hw hs
  unfold S71 at hs
  split at hs
  · rename_i x i
    simp only [Option.bind_eq_some_iff] at hs
    obtain ⟨r, hr, m, hm, hs⟩ := hs
    obtain ⟨s1, s2, s3, rfl, hat⟩ := matOf_inv hm
    cases hs
    refine ⟨trivial, ?_⟩
    have hk := rowAt_eq hr
    simp only [M71, M71_0, asP, ldI, Heap.ldc, hk, Mat.c, nth, Option.bind_some, Nat.zero_add, decide_true, cond_true]
    exact Ends.ret
  · cases hs)
theorem E73 (ho : ∀ f, FSound Try.prog f (o f)) : FSound Try.prog 73 (pureO S73) := (M73_sound ho NN).pure _ (by
  intro vs H v hw hs
  unfold S73 at hs
  split at hs
  · rename_i x i
    simp only [Option.bind_eq_some_iff] at hs
    obtain ⟨y, hy, r, hr, m, hm, hs⟩ := hs
    obtain ⟨s1, s2, s3, rfl, hat⟩ := matOf_inv hm
    rw [msgOf_eq hy]
    cases hs
    refine ⟨trivial, ?_⟩
    simp only [M73, M73_0, Msg.ones, cond_true]
    refine newB_ind hw.wf fun j H2 hl hw2 hj hn => ?_
    have hk := hl _ _ (rowAt_eq hr)
    simp only [asP, ldI, Heap.ldc, hk, hj, Mat.c, Msg.c, nth, Option.bind_some, Nat.zero_add, decide_true, cond_true]
    exact Ends.mono hl Ends.ret
  · cases hs)
theorem E75 (ho : ∀ f, FSound Try.prog f (o f)) : FSound Try.prog 75 (pureO S75) := (M75_sound ho NN).pure _ (by
  intro vs H v hw hs
  unfold S75 at hs
  split at hs
  · rename_i x i
    simp only [Option.bind_eq_some_iff] at hs
    obtain ⟨y, hy, r, hr, m, hm, hs⟩ := hs
    rw [msgOf_eq hy]
    cases hs
    refine ⟨trivial, ?_⟩
    simp only [M75, M75_0, Msg.ones, cond_true]
    refine newB_ind hw.wf fun j H2 hl hw2 hj hn => ?_
    have hk := hl _ _ (rowAt_eq hr)
    rw [msgOf_eq hm] at hk
    simp only [asP, ldI, Heap.ldc, hk, hj, Msg.c, nth, Option.bind_some, decide_true, cond_true]
    exact Ends.mono hl Ends.ret
  · cases hs)

/-- The closures, all of them. -/
def K1 : Clo := fun g => if g = 60 then some S60 else if g = 71 then some S71 else none
def K3 : Clo := fun g => if g = 61 then some S61 else if g = 73 then some S73 else if g = 75 then some S75 else none
def K6 : Clo := fun g => if g = 62 then some S62 else none

def whoM (m : Mat) : Int × Int :=
  cond (m.mas.any fun x => decide (x ≥ m.nodes)) (idxI (fun x => decide (x ≥ m.nodes)) m.mas, 141)
    (cond (m.msgs.any fun x => decide (x.ow ≥ m.nodes)) (idxI (fun x : Msg => decide (x.ow ≥ m.nodes)) m.msgs, 141) (0, 0))
def tupV (p : Int × Int) : V := .tup [.int .i64 p.1, .int .i64 p.2]
def Smat (f : Mat → Int × Int) : List V → Heap → Option V
  | [.agg a], H => (matOf H a).bind fun m => cond (small m && isM m) (some (tupV (f m))) none
  | _, _ => none

theorem at1_idx {α : Type} (q : α → Bool) (l : List α) : at1 (findG q l 0) = idxI q l := rfl

theorem E51 (ho : ∀ f, FSound Try.prog f (o f)) (h70 : o 70 = pureO (Sidx1 K1)) (h72 : o 72 = pureO (Sidx3 K3)) : FSound Try.prog 51 (pureO (Smat whoM)) := (M51_sound ho NN).pure _ (by
  intro vs H v hw hs
  unfold Smat at hs
  split at hs
  · rename_i a
    simp only [Option.bind_eq_some_iff] at hs
    obtain ⟨m, hm, hs⟩ := hs
    obtain ⟨hsm, hs⟩ := ofCondO hs
    simp only [small, Bool.and_eq_true, decide_eq_true_eq] at hsm
    obtain ⟨⟨⟨hl1, hl3⟩, hl6⟩, hM⟩ := hsm
    obtain ⟨s1, s2, s3, rfl, hat⟩ := matOf_inv hm
    cases hs
    refine ⟨⟨trivial, trivial, trivial⟩, ?_⟩
    simp only [M51, M51_0, hat.ones, cond_true]
    refine newB_ind hw.wf fun i1 H2 hl hw2 hk1 hn => ?_
    have hat2 := hat.les hl
    have hr : rowAt H2 i1 = some (m.c s1 s2 s3) := by simp [rowAt, hk1]
    have v8 : ldV H2 i1 8 = some s1 := by simp [ldV, Heap.ldc, hk1, Mat.c, nth, rdL_one hat.mas]
    have v9 : ldV H2 i1 9 = some s2 := by simp [ldV, Heap.ldc, hk1, Mat.c, nth, rdL_one hat.msgs]
    have f1 := firstG_eq (p := fun x => S71 ([.int .i64 x] ++ [.ptr i1 0]) H2) (q := fun x => decide (x ≥ m.nodes)) (l := m.mas) (k := 0) (fun x _ => by simp [S71, hr, hat2.of])
    have f3 := firstG_eq (p := fun x : Msg => S73 ([.agg x.c] ++ [.ptr i1 0]) H2) (q := fun x => decide (x.ow ≥ m.nodes)) (l := m.msgs) (k := 0) (fun x _ => by simp [S73, hr, hat2.of, show msgOf x.c = some x from rfl])
    have c1 : Sidx1 K1 [s1, .fn 71 [.ptr i1 0]] H2 = some (.int .i64 (idxI (fun x => decide (x ≥ m.nodes)) m.mas)) := by
      simp only [Sidx1, hat2.mas, Option.bind_some, show K1 71 = some S71 from rfl, f1, hl1, decide_true, cond_true, at1_idx]
    have c3 : Sidx3 K3 [s2, .fn 73 [.ptr i1 0]] H2 = some (.int .i64 (idxI (fun x : Msg => decide (x.ow ≥ m.nodes)) m.msgs)) := by
      simp only [Sidx3, hat2.msgs, Option.bind_some, show K3 73 = some S73 from rfl, f3, hl3, decide_true, cond_true, at1_idx]
    simp only [v8, v9, Option.bind_some, h70, h72, pureO, c1, c3, asI, decide_true, cond_true, idxI_ge]
    unfold whoM
    refine Ends.mono hl (Ends.cond (fun e1 => Ends.ret' ?_) (fun e1 => Ends.cond (fun e2 => Ends.ret' ?_) (fun e2 => Ends.ret' ?_)))
    · rw [e1]; rfl
    · rw [e1, e2]; rfl
    · rw [e1, e2]; rfl
  · cases hs)

end
end Go.Proofs.Ytminfdcdmgpnjaa.K
