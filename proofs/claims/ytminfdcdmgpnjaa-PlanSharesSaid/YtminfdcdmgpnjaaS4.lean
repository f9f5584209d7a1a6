/- What the program's functions over matrices answer: whether one may be; a step. -/
import Derived.Test.YtminfdcdmgpnjaaS3
set_option linter.unusedVariables false
set_option linter.unusedSimpArgs false
namespace Go.Proofs.Ytminfdcdmgpnjaa.K
open Go

theorem Ends.cond {H : Heap} {v : V} {c : Bool} {x y : Ans} (h1 : c = true → Ends H v x) (h2 : c = false → Ends H v y) : Ends H v (cond c x y) := by
  cases c with
  | true => exact h1 rfl
  | false => exact h2 rfl

def S60 : List V → Heap → Option V
  | [.int .i64 x], _ => some (.bool (!within x 0 99))
  | _, _ => none
def S61 : List V → Heap → Option V
  | [.agg l, .ptr i 0], H => (msgOf l).bind fun x => match lk i H.bl with
    | some (.row [.fn 60 []]) => some (.bool (!msgOk x))
    | _ => none
  | _, _ => none
def S63 : List V → Heap → Option V
  | [.agg a, .agg l], H => (matOf H a).bind fun m => (winOf l).bind fun w => some (.bool (winOk m w))
  | _, _ => none
def rowAt (H : Heap) (i : Nat) : Option (List V) :=
  match lk i H.bl with
  | some (.row r) => some r
  | _ => none
def S62 : List V → Heap → Option V
  | [.agg l, .ptr i 0], H => (winOf l).bind fun w => (rowAt H i).bind fun r => (matOf H r).bind fun m => some (.bool (!winOk m w))
  | _, _ => none
def S58 : List V → Heap → Option V
  | [.agg a], H => (matOf H a).bind fun m => some (.bool (headOk m))
  | _, _ => none
def S42 : List V → Heap → Option V
  | [.agg a], H => (matOf H a).bind fun m => cond (decide (m.mas.length < NN) && decide (m.msgs.length < NN) && decide (m.wins.length < NN)) (some (.bool (isM m))) none
  | _, _ => none

def clamp (b : Int) : Int := if 1000 < (if 0 > b then 0 else b) then 1000 else (if 0 > b then 0 else b)
def unitsM (m : Mat) (bits : Int) : Int :=
  let u := if 1 > m.unit then 1 else m.unit
  let n := clamp bits * 4
  Int.tdiv n u + (if Int.tmod n u = 0 then 0 else 1) + 1
def stepM (m : Mat) : Int := cond (isM m) (unitsM m 140 + m.enable) 0
def S67 : List V → Heap → Option V
  | [.agg a, .int .i64 b], H => (matOf H a).bind fun m => some (.int .i64 (unitsM m b))
  | _, _ => none
def small (m : Mat) : Bool := decide (m.mas.length < NN) && decide (m.msgs.length < NN) && decide (m.wins.length < NN)
def S43 : List V → Heap → Option V
  | [.agg a], H => (matOf H a).bind fun m => cond (small m) (some (.int .i64 (stepM m))) none
  | _, _ => none

theorem rowAt_eq {H : Heap} {i : Nat} {r : List V} (h : rowAt H i = some r) : lk i H.bl = some (.row r) := by
  unfold rowAt at h
  split at h
  · rename_i r' e; cases h; exact e
  · cases h

section
variable {o : Orc}

theorem E60 (ho : ∀ f, FSound Try.prog f (o f)) (h59 : o 59 = pureO Swithin) : FSound Try.prog 60 (pureO S60) := (M60_sound ho NN).pure _ (by
  intro vs H v hw hs
  unfold S60 at hs
  split at hs
  · rename_i x
    cases hs
    refine ⟨trivial, ?_⟩
    simp only [M60, M60_0, c59 h59, asB]; exact Ends.ret
  · cases hs)

theorem E61 (ho : ∀ f, FSound Try.prog f (o f)) (h60 : o 60 = pureO S60) : FSound Try.prog 61 (pureO S61) := (M61_sound ho NN).pure _ (by
  intro vs H v hw hs
  unfold S61 at hs
  split at hs
  · rename_i l i
    rw [Option.bind_eq_some_iff] at hs
    obtain ⟨x, hx, hs⟩ := hs
    rw [msgOf_eq hx]
    split at hs
    · rename_i hk
      cases hs
      refine ⟨trivial, ?_⟩
      simp only [M61, M61_0, Msg.ones, cond_true]
      refine newB_ind hw.wf fun j H2 hl hw2 hj hn => ?_
      have hk2 := hl _ _ hk
      simp only [ldI, ldV, Heap.ldc, hj, hk2, Msg.c, nth, Option.bind_some, asP, callV, h60, pureO, S60, List.append_nil, asB, V.one, decide_true, cond_true]
      refine Ends.mono hl (Ends.cond (fun h => Ends.ret' ?_) (fun h => Ends.ret' ?_))
      · simp [msgOk]; simp at h; omega
      · simp [msgOk]; simp at h; omega
    · cases hs
  · cases hs)

theorem E63 (ho : ∀ f, FSound Try.prog f (o f)) (h59 : o 59 = pureO Swithin) (h79 : o 79 = pureO Spow) : FSound Try.prog 63 (pureO S63) := (M63_sound ho NN).pure _ (by
  intro vs H v hw hs
  unfold S63 at hs
  split at hs
  · rename_i a l
    simp only [Option.bind_eq_some_iff] at hs
    obtain ⟨m, hm, w, hw', hs⟩ := hs
    obtain ⟨s1, s2, s3, rfl, hat⟩ := matOf_inv hm
    rw [winOf_eq hw']
    cases hs
    refine ⟨trivial, ?_⟩
    simp only [M63, M63_0, hat.ones, Win.ones, cond_true]
    refine newB_ind hw.wf fun i1 H2 hl hw2 hk1 hn => ?_
    refine newB_ind hw2 fun i3 H4 hl4 hw4 hk3 hn3 => ?_
    have hk1' := hl4 _ _ hk1
    have p79 : ∀ (x : Int) (K : Kv), o 79 [.int .i64 x] H4 K = K (.bool (pow4 x)) H4 := fun x K => by rw [h79]; rfl
    simp only [ldI, Heap.ldc, hk1', hk3, Win.c, Mat.c, nth, Option.bind_some, c59 h59, p79, asB, decide_true, cond_true]
    refine Ends.mono (hl.trans hl4) ?_
    repeat' (refine Ends.cond (fun _ => ?_) (fun _ => ?_))
    all_goals (refine Ends.ret' ?_; simp_all [winOk])
    all_goals omega
  · cases hs)

theorem E62 (ho : ∀ f, FSound Try.prog f (o f)) (h63 : o 63 = pureO S63) : FSound Try.prog 62 (pureO S62) := (M62_sound ho NN).pure _ (by
  intro vs H v hw hs
  unfold S62 at hs
  split at hs
  · rename_i l i
    simp only [Option.bind_eq_some_iff] at hs
    obtain ⟨w, hx, r, hr, m, hm, hs⟩ := hs
    obtain ⟨s1, s2, s3, rfl, hat⟩ := matOf_inv hm
    rw [winOf_eq hx]
    cases hs
    refine ⟨trivial, ?_⟩
    simp only [M62, M62_0, Win.ones, cond_true]
    refine newB_ind hw.wf fun j H2 hl hw2 hj hn => ?_
    have hw6 : ∀ K : List V → Ans, ldFlat H2 j [.int .i64, .int .i64, .int .i64, .int .i64, .int .i64, .int .i64] 0 K = K w.c := fun K => by
      simp [ldFlat, ldI, Heap.ldc, hj, Win.c, nth]
    simp only [asP, ldMat (hat.les hl) (hl _ _ (rowAt_eq hr)), hw6, h63, pureO, S63, (hat.les hl).of, Option.bind_some]
    have : winOf w.c = some w := rfl
    simp only [this, Option.bind_some, asB]
    exact Ends.mono hl Ends.ret
  · cases hs)

theorem E58 (ho : ∀ f, FSound Try.prog f (o f)) (h59 : o 59 = pureO Swithin) (h79 : o 79 = pureO Spow) : FSound Try.prog 58 (pureO S58) := (M58_sound ho NN).pure _ (by
  intro vs H v hw hs
  unfold S58 at hs
  split at hs
  · rename_i a
    simp only [Option.bind_eq_some_iff] at hs
    obtain ⟨m, hm, hs⟩ := hs
    obtain ⟨s1, s2, s3, rfl, hat⟩ := matOf_inv hm
    cases hs
    refine ⟨trivial, ?_⟩
    simp only [M58, M58_0, hat.ones, cond_true]
    refine newB_ind hw.wf fun i1 H2 hl hw2 hk1 hn => ?_
    have p79 : ∀ (x : Int) (K : Kv), o 79 [.int .i64 x] H2 K = K (.bool (pow4 x)) H2 := fun x K => by rw [h79]; rfl
    simp only [M58_1, M58_2, ldI, Heap.ldc, hk1, Mat.c, nth, Option.bind_some, c59 h59, p79, asB, decide_true, cond_true]
    refine Ends.mono hl ?_
    repeat' (refine Ends.cond (fun _ => ?_) (fun _ => ?_))
    all_goals (refine Ends.ret' ?_; simp_all [headOk])
    all_goals (intros; omega)
  · cases hs)

/-- The closures of Is. -/
def C1 : Clo := fun g => if g = 60 then some S60 else none
def C3 : Clo := fun g => if g = 61 then some S61 else none
def C6 : Clo := fun g => if g = 62 then some S62 else none

theorem has_any {α : Type} {p : α → Option V} {q : α → Bool} {l : List α} (h : ∀ x ∈ l, p x = some (.bool (q x))) : (firstG p l 0).bind (fun r => some (decide (at1 r ≥ 0))) = some (l.any q) := by
  rw [firstG_eq h, Option.bind_some, ← idxI_ge]
  rfl

theorem E42 (ho : ∀ f, FSound Try.prog f (o f)) (h58 : o 58 = pureO S58) (h59 : o 59 = pureO Swithin)
    {D1 D3 D6 : Clo} (h64 : o 64 = pureO (hasOf (Sidx1 D1))) (h65 : o 65 = pureO (hasOf (Sidx3 D3))) (h66 : o 66 = pureO (hasOf (Sidx6 D6))) (d1 : D1 60 = some S60) (d3 : D3 61 = some S61) (d6 : D6 62 = some S62) :
    FSound Try.prog 42 (pureO S42) := (M42_sound ho NN).pure _ (by
  intro vs H v hw hs
  unfold S42 at hs
  split at hs
  · rename_i a
    simp only [Option.bind_eq_some_iff] at hs
    obtain ⟨m, hm, hs⟩ := hs
    obtain ⟨hl, hs⟩ := ofCondO hs
    simp only [Bool.and_eq_true, decide_eq_true_eq] at hl
    obtain ⟨⟨hl1, hl3⟩, hl6⟩ := hl
    obtain ⟨s1, s2, s3, rfl, hat⟩ := matOf_inv hm
    cases hs
    refine ⟨trivial, ?_⟩
    simp only [M42, M42_0, hat.ones, cond_true]
    refine newB_ind hw.wf fun i1 H2 hle hw2 hk1 hn => ?_
    have hat2 := hat.les hle
    rw [ldMat hat2 hk1]
    refine Ends.mono hle ?_
    have v8 : ∀ H', Les H2.bl H'.bl → ldV H' i1 8 = some s1 := fun H' h' => by simp [ldV, Heap.ldc, h' _ _ hk1, Mat.c, nth, rdL_one hat.mas]
    have v9 : ∀ H', Les H2.bl H'.bl → ldV H' i1 9 = some s2 := fun H' h' => by simp [ldV, Heap.ldc, h' _ _ hk1, Mat.c, nth, rdL_one hat.msgs]
    have v10 : ∀ H', Les H2.bl H'.bl → ldV H' i1 10 = some s3 := fun H' h' => by simp [ldV, Heap.ldc, h' _ _ hk1, Mat.c, nth, rdL_one hat.wins]
    have r := Les.refl H2.bl
    simp only [h58, pureO, S58, hat2.of, Option.bind_some, asB, v8 _ r, v9 _ r, v10 _ r, rdL_len hat2.mas, rdL_len hat2.msgs, rdL_len hat2.wins, c59 h59]
    refine Ends.cond (fun e1 => Ends.ret' (by simp_all [isM])) (fun e1 => ?_)
    refine Ends.cond (fun e2 => Ends.ret' (by simp_all [isM])) (fun e2 => ?_)
    refine Ends.cond (fun e3 => Ends.ret' (by simp_all [isM]; intros; omega)) (fun e3 => ?_)
    refine Ends.cond (fun e4 => Ends.ret' (by simp_all [isM]; intros; omega)) (fun e4 => ?_)
    refine newB_ind hw2 fun i16 H17 hle17 hw17 hk16 hn16 => ?_
    refine stN_ind hw17 hk16 rfl fun H18 hk18 hj hw18 hnx => ?_
    have hle18 : Les H2.bl H18.bl := les_st hle17 hn16 hj
    refine Ends.mono hle18 ?_
    have hat18 := hat2.les hle18
    have f20 : ldV H18 i16 0 = some (.fn 60 []) := by simp [ldV, Heap.ldc, hk18, setAt, over, nth, V.one]
    have c1 : hasOf (Sidx1 D1) [s1, .fn 60 []] H18 = some (.bool (m.mas.any fun n => !within n 0 99)) := by
      have := has_any (p := fun x => S60 ([.int .i64 x] ++ []) H18) (q := fun n => !within n 0 99) (l := m.mas) (fun x _ => rfl)
      simp only [hasOf, Sidx1, hat18.mas, d1, Option.bind_some]
      cases e : firstG (fun x => S60 ([.int .i64 x] ++ []) H18) m.mas 0 with
      | none => rw [e] at this; cases this
      | some r => rw [e] at this; simp only [Option.bind_some, Option.some.injEq] at this; simp [hl1, this]
    have c3 : hasOf (Sidx3 D3) [s2, .fn 61 [.ptr i16 0]] H18 = some (.bool (m.msgs.any fun x => !msgOk x)) := by
      have hk18' : lk i16 H18.bl = some (.row [.fn 60 []]) := by rw [hk18]; rfl
      have := has_any (p := fun x : Msg => S61 ([.agg x.c] ++ [.ptr i16 0]) H18) (q := fun x => !msgOk x) (l := m.msgs) (fun x _ => by simp [S61, hk18', show msgOf x.c = some x from rfl])
      simp only [hasOf, Sidx3, hat18.msgs, d3, Option.bind_some]
      cases e : firstG (fun x : Msg => S61 ([.agg x.c] ++ [.ptr i16 0]) H18) m.msgs 0 with
      | none => rw [e] at this; cases this
      | some r => rw [e] at this; simp only [Option.bind_some, Option.some.injEq] at this; simp [hl3, this]
    have c6 : hasOf (Sidx6 D6) [s3, .fn 62 [.ptr i1 0]] H18 = some (.bool (m.wins.any fun w => !winOk m w)) := by
      have hr : rowAt H18 i1 = some (m.c s1 s2 s3) := by simp [rowAt, hle18 _ _ hk1]
      have := has_any (p := fun x : Win => S62 ([.agg x.c] ++ [.ptr i1 0]) H18) (q := fun w => !winOk m w) (l := m.wins) (fun x _ => by simp [S62, hr, hat18.of, show winOf x.c = some x from rfl])
      simp only [hasOf, Sidx6, hat18.wins, d6, Option.bind_some]
      cases e : firstG (fun x : Win => S62 ([.agg x.c] ++ [.ptr i1 0]) H18) m.wins 0 with
      | none => rw [e] at this; cases this
      | some r => rw [e] at this; simp only [Option.bind_some, Option.some.injEq] at this; simp [hl6, this]
    simp only [v8 _ hle18, v9 _ hle18, v10 _ hle18, f20, h64, h65, h66, pureO, c1, c3, c6, Option.bind_some, asB]
    have any_all : ∀ {α : Type} (l : List α) (q : α → Bool), l.any (fun x => !q x) = !l.all q := fun l q => by rw [List.not_all_eq_any_not]
    simp only [any_all]
    have hM : isM m = (m.mas.all (fun n => within n 0 99) && m.msgs.all msgOk && m.wins.all (winOk m)) := by
      simp only [Bool.not_eq_false'] at e1 e2
      simp only [decide_eq_false_iff_not] at e3 e4
      simp only [isM, e1, e2, Bool.true_and]
      rw [show decide (m.msgs.length ≤ 12) = true by simp; omega, show decide (m.wins.length ≤ 16) = true by simp; omega]
      simp
    simp only [Bool.not_not]
    rw [hM]
    cases m.mas.all (fun n => within n 0 99) <;> cases m.msgs.all msgOk <;> exact Ends.ret' (by simp)
  · cases hs)

end
end Go.Proofs.Ytminfdcdmgpnjaa.K
