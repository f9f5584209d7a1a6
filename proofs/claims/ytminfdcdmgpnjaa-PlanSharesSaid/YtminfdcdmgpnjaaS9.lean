/- What the document's functions over matrices answer: whether one may be; a step; places. -/
import Derived.Test.YtminfdcdmgpnjaaS8
import Derived.Test.YtminfdcdmgpnjaaMb
set_option linter.unusedVariables false
set_option linter.unusedSimpArgs false
namespace Go.Proofs.Ytminfdcdmgpnjaa.K
open Go

def Spower : List V → Heap → Option V
  | [.int .i64 a, .int .i64 b], _ => some (.bool (pow4 a && decide (a ≤ b)))
  | _, _ => none
def Srank : List V → Heap → Option V
  | [.agg a, .int .i64 x], H => (matOf H a).bind fun m => cond (small m) (some (.int .i64 (idxI (fun y => y == x) m.mas))) none
  | _, _ => none
/-- Only frames of which the first word is the identifier alone. -/
def Sfind : List V → Heap → Option V
  | [.agg a, .agg [.bool false, .int .u32 x, .bool false, .str []]], H => (matOf H a).bind fun m => cond (small m) (some (.int .i64 (idxI (fun y : Msg => y.id == x) m.msgs))) none
  | _, _ => none

section
variable {o : Orc}

theorem c44 (h : o 44 = pureO Swithin) (a b c : Int) (H : Heap) (K : Kv) : o 44 [.int .i64 a, .int .i64 b, .int .i64 c] H K = K (.bool (within a b c)) H := by rw [h]; rfl
theorem c45 (h : o 45 = pureO Spower) (a b : Int) (H : Heap) (K : Kv) : o 45 [.int .i64 a, .int .i64 b] H K = K (.bool (pow4 a && decide (a ≤ b))) H := by rw [h]; rfl

theorem E44 (ho : ∀ f, FSound Try.prog f (o f)) : FSound Try.prog 44 (pureO Swithin) := (M44_sound ho NN).pure _ (by
  intro vs H v hw h
  unfold Swithin at h
  split at h
  · rename_i a b c
    cases h
    refine ⟨trivial, ?_⟩
    simp only [M44, M44_0, within]
    by_cases h1 : b ≤ a
    · simp only [show decide (a ≥ b) = true by simpa using h1, cond_true, show decide (b ≤ a) = true by simpa using h1, Bool.true_and]; exact Ends.ret
    · simp only [show decide (a ≥ b) = false by simpa using h1, cond_false, show decide (b ≤ a) = false by simpa using h1, Bool.false_and]; exact Ends.ret
  · cases h)

theorem E45 (ho : ∀ f, FSound Try.prog f (o f)) : FSound Try.prog 45 (pureO Spower) := (M45_sound ho NN).pure _ (by
  intro vs H v hw h
  unfold Spower at h
  split at h
  · rename_i a b
    cases h
    refine ⟨trivial, ?_⟩
    simp only [M45, M45_0, pow4]
    cases h1 : (a == 1) <;> cases h2 : (a == 2) <;> cases h4 : (a == 4) <;> cases h8 : (a == 8) <;> exact Ends.ret
  · cases h)

theorem E49 (ho : ∀ f, FSound Try.prog f (o f)) : FSound Try.prog 49 (pureO Scomes) := (M49_sound ho NN).pure _ (by
  intro vs H v hw hs
  unfold Scomes at hs
  split at hs
  · rename_i a b c
    cases hs
    refine ⟨trivial, ?_⟩
    simp only [M49, M49_0, comesR]
    refine Ends.cond (fun e1 => Ends.cond (fun e2 => Ends.cond (fun e3 => ?_) (fun e3 => ?_)) (fun e2 => ?_)) (fun e1 => ?_)
    · have : decide (b = 0) = false := by simp at e1 ⊢; omega
      rw [e1, e2, e3, this]; exact Ends.ret
    · rw [e1, e2, e3]; exact Ends.ret
    · rw [e1, e2]; exact Ends.ret
    · rw [e1]; exact Ends.ret
  · cases hs)

theorem E57 (ho : ∀ f, FSound Try.prog f (o f)) : FSound Try.prog 57 (pureO S67) := (M57_sound ho NN).pure _ (by
  intro vs H v hw hs
  unfold S67 at hs
  split at hs
  · rename_i a b
    simp only [Option.bind_eq_some_iff] at hs
    obtain ⟨m, hm, hs⟩ := hs
    obtain ⟨s1, s2, s3, rfl, hat⟩ := matOf_inv hm
    cases hs
    refine ⟨trivial, ?_⟩
    simp only [M57, M57_0, hat.ones, cond_true]
    refine newB_ind hw.wf fun i1 H2 hl hw2 hk1 hn => ?_
    have l5 : ldI H2 .i64 i1 5 = some m.unit := by simp [ldI, Heap.ldc, hk1, Mat.c, nth]
    simp only [l5, Option.bind_some]
    rw [show (if (if 1000 < b then 1000 else b) > 0 then (if 1000 < b then 1000 else b) else 0) = clamp b by unfold clamp; omega]
    rw [show (if m.unit > 1 then m.unit else 1) = (if 1 > m.unit then 1 else m.unit) by omega]
    have hcl := clamp_le b
    have hu : 1 ≤ (if 1 > m.unit then 1 else m.unit) := by split <;> omega
    have hun := units_le m b
    unfold unitsM at hun ⊢
    simp only at hun ⊢
    generalize (if 1 > m.unit then 1 else m.unit) = u at hu hun
    have hdn : 0 ≤ Int.tdiv (clamp b * 4) u := Int.tdiv_nonneg (by omega) (by omega)
    have hd2 : Int.tdiv (clamp b * 4) u ≤ clamp b * 4 := by
      rw [Int.tdiv_eq_ediv_of_nonneg (by omega)]
      exact Int.ediv_le_self _ (by omega)
    rw [show 4 * clamp b = clamp b * 4 by omega, wrap64 (n := clamp b * 4) (by omega) (by omega)]
    rw [show decide (u = 0) = false by simp; omega]
    simp only [cond_false]
    rw [wrap64 (n := Int.tdiv (clamp b * 4) u) (by omega) (by omega), wrap64 (n := Int.tdiv (clamp b * 4) u + 1) (by omega) (by omega), wrap64 (n := Int.tdiv (clamp b * 4) u + 1 + 1) (by omega) (by omega)]
    refine Ends.mono hl (Ends.cond (fun h => Ends.ret' ?_) (fun h => Ends.ret' ?_))
    · have : ¬ Int.tmod (clamp b * 4) u = 0 := by simpa using h
      rw [if_neg this]
    · have : Int.tmod (clamp b * 4) u = 0 := by simpa using h
      rw [if_pos this]; simp
  · cases hs)

theorem E39 (ho : ∀ f, FSound Try.prog f (o f)) (h18 : o 18 = pureO S42) (h57 : o 57 = pureO S67) : FSound Try.prog 39 (pureO S43) := (M39_sound ho NN).pure _ (by
  intro vs H v hw hs
  unfold S43 at hs
  split at hs
  · rename_i a
    simp only [Option.bind_eq_some_iff] at hs
    obtain ⟨m, hm, hs⟩ := hs
    obtain ⟨hsm, hs⟩ := ofCondO hs
    obtain ⟨s1, s2, s3, rfl, hat⟩ := matOf_inv hm
    cases hs
    refine ⟨trivial, ?_⟩
    have h0 : ∀ H, M39 o NN [.agg (m.c s1 s2 s3)] H pureK = M39_1 o NN pureK (m.c s1 s2 s3) H := fun H => rfl
    simp only [h0, M39_1, hat.ones, cond_true]
    refine newB_ind hw.wf fun i1 H2 hl hw2 hk1 hn => ?_
    have hat2 := hat.les hl
    rw [ldMat hat2 hk1]
    have s42 : S42 [.agg (m.c s1 s2 s3)] H2 = some (.bool (isM m)) := by
      simp only [S42, hat2.of, Option.bind_some]
      rw [show (decide (m.mas.length < NN) && decide (m.msgs.length < NN) && decide (m.wins.length < NN)) = true from hsm]; rfl
    simp only [h18, pureO, s42, Option.bind_some, asB]
    refine Ends.mono hl (Ends.cond (fun h => Ends.ret' ?_) (fun h => ?_))
    · simp at h; simp [stepM, h]
    · have h' : isM m = true := by simpa using h
      have hat3 : MatAt (H2.skip 6) m s1 s2 s3 := hat2.les (H' := H2.skip 6) (Les.refl H2.bl)
      have hk3 : lk i1 (H2.skip 6).bl = some (.row (m.c s1 s2 s3)) := hk1
      have l4 : ldI (H2.skip 6) .i64 i1 4 = some m.enable := by simp [ldI, Heap.ldc, hk3, Mat.c, nth]
      simp only [ldMat hat3 hk3, l4, Option.bind_some, h57, pureO, S67, hat3.of, asI, decide_true, cond_true]
      have hun := units_le m 140
      have he := enable_le h'
      rw [wrap64 (by omega) (by omega)]
      exact Ends.mono (H' := H2.skip 6) (Les.refl H2.bl) (Ends.ret' (by unfold stepM; rw [h']; rfl))
  · cases hs)

theorem loop41 {X0 : Heap → Ans} {κ : Kv} {v : V} {i1 : Nat} {x : Int} {H : Heap} {xs : List Int} (h : rdL 1 intOf H v = some xs) (hl : xs.length < NN) (hv : ldV H i1 8 = some v) :
    ∀ (n k : Nat), xs.length - k < n → M41_3 o NN X0 κ n x i1 k H = match findG (fun y => y == x) (xs.drop k) k with
      | some j => κ (.int .i64 j) H
      | none => X0 H := by
  intro n
  induction n with
  | zero => intro k hk; omega
  | succ n ih =>
    intro k hk
    rw [M41_3_s]
    simp only [M41_2, hv, Option.bind_some, rdL_len h]
    by_cases hlt : k < xs.length
    · obtain ⟨id, off, h1, h2⟩ := int_at h (nth_lt hlt)
      rw [drop_cons hlt]
      simp only [show decide ((k : Int) < (xs.length : Int)) = true by simpa using hlt, cond_true, h1, h2, Option.bind_some, findG]
      cases e : (xs[k] == x) with
      | true => rfl
      | false =>
        simp only [cond_false]
        rw [wrap_nat (by omega), ih (k + 1) (by omega)]
    · rw [List.drop_eq_nil_of_le (by omega)]
      simp only [show decide ((k : Int) < (xs.length : Int)) = false by simpa using hlt, cond_false, findG]

theorem E41 (ho : ∀ f, FSound Try.prog f (o f)) : FSound Try.prog 41 (pureO Srank) := (M41_sound ho NN).pure _ (by
  intro vs H v hw h
  unfold Srank at h
  split at h
  · rename_i a x
    rw [Option.bind_eq_some_iff] at h
    obtain ⟨m, hm, h⟩ := h
    obtain ⟨hl, h⟩ := ofCondO h
    simp only [small, Bool.and_eq_true, decide_eq_true_eq] at hl
    obtain ⟨s1, s2, s3, rfl, hat⟩ := matOf_inv hm
    cases h
    refine ⟨trivial, ?_⟩
    simp only [M41, M41_0, M41_1, hat.ones, cond_true]
    refine newB_ind hw.wf fun i1 H2 hle hw2 hk1 hn => ?_
    have v8 : ldV H2 i1 8 = some s1 := by simp [ldV, Heap.ldc, hk1, Mat.c, nth, rdL_one hat.mas]
    rw [show (0 : Int) = ((0 : Nat) : Int) from rfl, loop41 (hat.les hle).mas hl.1.1 v8 NN 0 (by omega)]
    simp only [List.drop_zero, idxI, M41_5]
    refine Ends.mono hle ?_
    cases findG (fun y => y == x) m.mas 0 <;> exact Ends.ret
  · cases h)

theorem loop68 {X0 : Heap → Ans} {κ : Kv} {v : V} {i1 i3 : Nat} {x : Int} {xs : List Msg} (hl : xs.length < NN) :
    ∀ (n k : Nat) (H : Heap), rdL 3 msgOf H v = some xs → ldV H i1 9 = some v → ldB H i3 0 = some false → ldB H i3 2 = some false → ldI H .u32 i3 1 = some x → Wf H → xs.length - k < n →
    To H (fun H' => match findG (fun y : Msg => y.id == x) (xs.drop k) k with
      | some j => κ (.int .i64 j) H'
      | none => X0 H') (M68_4 o NN X0 κ n i1 i3 k H) := by
  intro n
  induction n with
  | zero => intro k H _ _ _ _ _ _ hk; omega
  | succ n ih =>
    intro k H h hv hb hb2 hx hw hk
    rw [M68_4_s]
    simp only [M68_3, hv, Option.bind_some, rdL_len h]
    by_cases hlt : k < xs.length
    · have h' : rdL 3 msgOf (H.skip 19) v = some xs := rdL_les (Les.refl H.bl) h
      have hv' : ldV (H.skip 19) i1 9 = some v := hv
      have hb' : ldB (H.skip 19) i3 0 = some false := hb
      have hb2' : ldB (H.skip 19) i3 2 = some false := hb2
      have hx' : ldI (H.skip 19) .u32 i3 1 = some x := hx
      obtain ⟨id, off, h1, h2⟩ := msg_at h' (nth_lt hlt)
      have l1 : ldI (H.skip 19) .u32 id (off + 0) = some xs[k].id := by simp only [ldI, h2 0 (by omega)]; rfl
      rw [drop_cons hlt]
      simp only [show decide ((k : Int) < (xs.length : Int)) = true by simpa using hlt, cond_true, hb', hb2', hv', h1, l1, hx', Option.bind_some, Bool.not_false, findG]
      refine To.mono (H' := H.skip 19) (Les.refl H.bl) ?_
      cases e : (xs[k].id == x) with
      | true => exact To.here (hw.skip 19)
      | false =>
        simp only [cond_false]
        rw [wrap_nat (by omega)]
        exact ih (k + 1) (H.skip 19) h' hv' hb' hb2' hx' (hw.skip 19) (by omega)
    · rw [List.drop_eq_nil_of_le (by omega)]
      simp only [show decide ((k : Int) < (xs.length : Int)) = false by simpa using hlt, cond_false, findG]
      exact To.here hw

theorem E68 (ho : ∀ f, FSound Try.prog f (o f)) : FSound Try.prog 68 (pureO Sfind) := (M68_sound ho NN).pure _ (by
  intro vs H v hw h
  unfold Sfind at h
  split at h
  · rename_i a x
    rw [Option.bind_eq_some_iff] at h
    obtain ⟨m, hm, h⟩ := h
    obtain ⟨hl, h⟩ := ofCondO h
    simp only [small, Bool.and_eq_true, decide_eq_true_eq] at hl
    obtain ⟨s1, s2, s3, rfl, hat⟩ := matOf_inv hm
    cases h
    refine ⟨trivial, ?_⟩
    simp only [M68, M68_0, M68_1, hat.ones, cond_true]
    refine newB_ind hw.wf fun i1 H2 hle hw2 hk1 hn => ?_
    simp only [show ([V.bool false, .int .u32 x, .bool false, .str []] : List V).all V.one = true from rfl, cond_true]
    refine newB_ind hw2 fun i3 H4 hle4 hw4 hk3 hn3 => ?_
    have hk1' := hle4 _ _ hk1
    have v9 : ldV H4 i1 9 = some s2 := by simp [ldV, Heap.ldc, hk1', Mat.c, nth, rdL_one hat.msgs]
    obtain ⟨H', e1, e2, e3⟩ := loop68 (o := o) (κ := pureK) (X0 := fun H => M68_6 o NN pureK H) (x := x) (i1 := i1) (i3 := i3) hl.1.2 NN 0 H4 (hat.les (hle.trans hle4)).msgs v9 (by simp [ldB, Heap.ldc, hk3, nth]) (by simp [ldB, Heap.ldc, hk3, nth]) (by simp [ldI, Heap.ldc, hk3, nth]) hw4 (by omega)
    refine Ends.mono ((hle.trans hle4).trans e1) ?_
    rw [show (0 : Int) = ((0 : Nat) : Int) from rfl, e3]
    simp only [List.drop_zero, idxI, M68_6]
    cases findG (fun y : Msg => y.id == x) m.msgs 0 <;> exact Ends.ret
  · cases h)

end
end Go.Proofs.Ytminfdcdmgpnjaa.K
