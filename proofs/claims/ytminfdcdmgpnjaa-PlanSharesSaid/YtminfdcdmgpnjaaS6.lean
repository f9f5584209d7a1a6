/- What the program's functions over matrices answer: twice, meet, windows, the check. -/
import Derived.Test.YtminfdcdmgpnjaaS5
set_option linter.unusedVariables false
set_option linter.unusedSimpArgs false
namespace Go.Proofs.Ytminfdcdmgpnjaa.K
open Go

/-- It goes on as f, over blocks that hold all that was there. -/
def To (H : Heap) (f : Heap → Ans) (a : Ans) : Prop := ∃ H', Les H.bl H'.bl ∧ Wf H' ∧ a = f H'
theorem To.mono {H H' : Heap} {f : Heap → Ans} {a : Ans} (hl : Les H.bl H'.bl) (h : To H' f a) : To H f a := by
  obtain ⟨H1, h1, h2, e⟩ := h
  exact ⟨H1, hl.trans h1, h2, e⟩
theorem To.here {H : Heap} {f : Heap → Ans} (hw : Wf H) : To H f (f H) := ⟨H, Les.refl _, hw, rfl⟩

/-- The first number from k on, of n, at which it holds. -/
def findN (q : Nat → Bool) : Nat → Nat → Option Nat
  | 0, _ => none
  | n + 1, k => cond (q k) (some k) (findN q n (k + 1))

theorem slS_take {α : Type} {es : Nat} {dec : List V → Option α} {H : Heap} {v : V} {xs : List α} (h : rdL es dec H v = some xs) (hes : 0 < es) {i : Nat} (hi : i ≤ xs.length) :
    ∃ v', (∀ K : V → Ans, slS es v none (some (.int .i64 (i : Int))) K = K v') ∧ rdL es dec H v' = some (xs.take i) := by
  unfold rdL at h
  split at h
  · cases h
    simp at hi; subst hi
    refine ⟨.nils, fun K => ?_, by simp [rdL]⟩
    simp [slS, lt_blt hes, bounds]
  · rename_i id off n es' g
    obtain ⟨hc, h⟩ := ofCondO h
    rw [Option.bind_eq_some_iff] at h
    obtain ⟨l, hl, h⟩ := h
    have e := beq_eq hc
    subst e
    have hn := rdRow_len h
    refine ⟨.sl id (off + 0 * es') (i - 0) es' g, fun K => ?_, ?_⟩
    · simp only [slS, Nat.beq_refl, lt_blt hes, Bool.and_self, cond_true, bounds]
      rw [show (decide (0 ≤ (i : Int)) && decide ((i : Int) ≤ (n : Int))) = true by simp; omega]
      simp
    · simp only [rdL, Nat.beq_refl, cond_true, hl, Option.bind_some, Nat.zero_mul, Nat.add_zero, Nat.sub_zero]
      have key : ∀ (n : Nat) (l : List V) (xs : List α) (i : Nat), rdRow es' dec n l = some xs → i ≤ n → rdRow es' dec i l = some (xs.take i) := by
        intro n
        induction n with
        | zero => intro l xs i h hi; simp at hi; subst hi; simp [rdRow]
        | succ n ih =>
          intro l xs i h hi
          simp only [rdRow, Option.bind_eq_some_iff, Option.map_eq_some_iff] at h
          obtain ⟨a, ha, ys, hy, rfl⟩ := h
          cases i with
          | zero => simp [rdRow]
          | succ i => simp only [rdRow, ha, Option.bind_some, ih _ _ i hy (by omega), Option.map_some, List.take_succ_cons]
      exact key n _ _ i h (by omega)
  · cases h

def dupI (l : List Int) (i : Nat) : Bool := match nth l i with | some w => (l.take i).any (fun y => w == y) | none => false
def dupX (m : Mat) (i : Nat) : Bool := match nth m.msgs i with
  | some x => (decide (x.id ≥ m.ref) && decide (IntKind.u32.wrap (x.id - m.ref) < 8)) || (m.msgs.take i).any (fun y => y.id == x.id)
  | none => false
def twiceM (m : Mat) : Int × Int :=
  match findN (dupI m.mas) m.mas.length 0 with
  | some i => ((i : Int), 142)
  | none => match findN (dupX m) m.msgs.length 0 with
    | some i => ((i : Int), 142)
    | none => (0, 0)

def comesR (a b c : Int) : Bool := cond (decide (b > 0)) (cond (decide (a ≥ 0)) (cond (decide (c ≥ a)) (Int.tmod (IntKind.i64.wrap (c - a)) b == 0) false) false) false
def Scomes : List V → Heap → Option V
  | [.int .i64 a, .int .i64 b, .int .i64 c], _ => some (.bool (comesR a b c))
  | _, _ => none

def zWin : Win := ⟨0, 0, 0, 0, 0, 0⟩
def thereM (m : Mat) (i : Int) : Win × Bool := match (if 0 ≤ i then nth m.wins i.toNat else none) with | some w => (w, true) | none => (zWin, false)
def S81 : List V → Heap → Option V
  | [.agg a, .int .i64 i], H => (matOf H a).bind fun m => some (.tup [.agg (thereM m i).1.c, .bool (thereM m i).2])
  | _, _ => none

def nCyc (m : Mat) : Int := if 8 < (if 0 > m.cycles then 0 else m.cycles) then 8 else (if 0 > m.cycles then 0 else m.cycles)
def meetW (m : Mat) (x y : Win) : Bool := !(decide (x.st ≥ y.en)) && !(decide (y.st ≥ x.en)) && (findN (fun c => comesR x.cy x.re c && comesR y.cy y.re c) (nCyc m).toNat 0).isSome
def meetM (m : Mat) (a b : Int) : Bool := (thereM m a).2 && (thereM m b).2 && meetW m (thereM m a).1 (thereM m b).1
def S76 : List V → Heap → Option V
  | [.agg a, .int .i64 i, .int .i64 j], H => (matOf H a).bind fun m => some (.bool (meetM m i j))
  | _, _ => none

section
variable {o : Orc}

theorem E50 (ho : ∀ f, FSound Try.prog f (o f)) : FSound Try.prog 50 (pureO Scomes) := (M50_sound ho NN).pure _ (by
  intro vs H v hw hs
  unfold Scomes at hs
  split at hs
  · rename_i a b c
    cases hs
    refine ⟨trivial, ?_⟩
    simp only [M50, M50_0, comesR]
    refine Ends.cond (fun e1 => Ends.cond (fun e2 => Ends.cond (fun e3 => ?_) (fun e3 => ?_)) (fun e2 => ?_)) (fun e1 => ?_)
    · have : decide (b = 0) = false := by simp at e1 ⊢; omega
      rw [e1, e2, e3, this]; exact Ends.ret
    · rw [e1, e2, e3]; exact Ends.ret
    · rw [e1, e2]; exact Ends.ret
    · rw [e1]; exact Ends.ret
  · cases hs)

theorem loop52a (h74 : o 74 = pureO Scontains) {X0 : Nat → Heap → Ans} {κ : Kv} {i1 : Nat} {v : V} {H : Heap} {xs : List Int} (h : rdL 1 intOf H v = some xs) (hl : xs.length < NN) (hv : ldV H i1 8 = some v) :
    ∀ (n k : Nat), xs.length - k < n → M52_3 o NN X0 κ n i1 v xs.length k H = match findN (dupI xs) (xs.length - k) k with
      | some j => κ (.tup [.int .i64 j, .int .i64 142]) H
      | none => X0 i1 H := by
  intro n
  induction n with
  | zero => intro k hk; omega
  | succ n ih =>
    intro k hk
    rw [M52_3_s]
    simp only [M52_2]
    by_cases hlt : k < xs.length
    · obtain ⟨id, off, h1, h2⟩ := int_at h (nth_lt hlt)
      obtain ⟨v', h3, h4⟩ := slS_take h (by omega) (i := k) (by omega)
      have hlk : decide ((xs.take k).length < NN) = true := by simp; omega
      simp only [show decide ((k : Int) < (xs.length : Int)) = true by simpa using hlt, cond_true, h1, h2, Option.bind_some, hv, h3, h74, pureO, Scontains, h4, hlk, asB]
      have hd : dupI xs k = (xs.take k).any (fun y => xs[k] == y) := by simp [dupI, nth_lt hlt]
      rw [show xs.length - k = (xs.length - (k + 1)) + 1 by omega, findN, hd]
      cases e : (xs.take k).any (fun y => xs[k] == y) with
      | true => simp only [cond_true]
      | false =>
        simp only [cond_false]
        rw [wrap_nat (by omega), ih (k + 1) (by omega)]
    · simp only [show decide ((k : Int) < (xs.length : Int)) = false by simpa using hlt, cond_false]
      rw [show xs.length - k = 0 by omega]; rfl

theorem loop52b (h65 : o 65 = pureO (hasOf (Sidx3 K3))) {X2 : Heap → Ans} {κ : Kv} {i1 : Nat} {s1 s2 s3 : V} {m : Mat} (hl : m.msgs.length < NN) :
    ∀ (n k : Nat) (H : Heap), MatAt H m s1 s2 s3 → lk i1 H.bl = some (.row (m.c s1 s2 s3)) → Wf H → m.msgs.length - k < n → To H (fun H' => match findN (dupX m) (m.msgs.length - k) k with
      | some j => κ (.tup [.int .i64 j, .int .i64 142]) H'
      | none => X2 H') (M52_8 o NN X2 κ n i1 s2 m.msgs.length k H) := by
  intro n
  induction n with
  | zero => intro k H _ _ _ hk; omega
  | succ n ih =>
    intro k H hat hk1 hw hk
    rw [M52_8_s]
    simp only [M52_7]
    by_cases hlt : k < m.msgs.length
    · obtain ⟨id, off, h1, h2⟩ := msg_at hat.msgs (nth_lt hlt)
      simp only [show decide ((k : Int) < (m.msgs.length : Int)) = true by simpa using hlt, cond_true, h1, ldMsg h2]
      refine newB_ind (Q := To H _) hw fun i18 H19 hle19 hw19 hk19 hn19 => ?_
      simp only [show (Nat.beq (m.msgs[k].c).length 3 && Nat.blt 0 3) = true from rfl, cond_true]
      refine stN_ind (Q := To H _) hw19 hk19 rfl fun H20 hk20 hj hw20 hnx => ?_
      have hle : Les H.bl H20.bl := les_st hle19 hn19 hj
      have hat20 := hat.les hle
      have hk1' := hle _ _ hk1
      have hk20' : lk i18 H20.bl = some (.row m.msgs[k].c) := by rw [hk20]; rfl
      have l1 : ldI H20 .u32 i18 0 = some m.msgs[k].id := by simp [ldI, Heap.ldc, hk20', Msg.c, nth]
      have l2 : ldI H20 .u32 i1 7 = some m.ref := by simp [ldI, Heap.ldc, hk1', Mat.c, nth]
      have l3 : ldV H20 i1 9 = some s2 := by simp [ldV, Heap.ldc, hk1', Mat.c, nth, rdL_one hat.msgs]
      obtain ⟨v', h3, h4⟩ := slS_take hat20.msgs (by omega) (i := k) (by omega)
      have hlk : decide ((m.msgs.take k).length < NN) = true := by simp; omega
      have hr : rowAt H20 i18 = some m.msgs[k].c := by simp [rowAt, hk20']
      have c3 : hasOf (Sidx3 K3) [v', .fn 75 [.ptr i18 0]] H20 = some (.bool ((m.msgs.take k).any fun y => y.id == m.msgs[k].id)) := by
        have := has_any (p := fun x : Msg => S75 ([.agg x.c] ++ [.ptr i18 0]) H20) (q := fun y => y.id == m.msgs[k].id) (l := m.msgs.take k) (fun x _ => by
          simp [S75, hr, show msgOf x.c = some x from rfl, show msgOf m.msgs[k].c = some m.msgs[k] from rfl])
        simp only [hasOf, Sidx3, h4, show K3 75 = some S75 from rfl, Option.bind_some]
        cases e : firstG (fun x : Msg => S75 ([.agg x.c] ++ [.ptr i18 0]) H20) (m.msgs.take k) 0 with
        | none => rw [e] at this; cases this
        | some r => rw [e] at this; simp only [Option.bind_some, Option.some.injEq] at this; rw [Option.bind_some, hlk]; simp only [cond_true, Option.bind_some]; rw [this]
      simp only [l1, l2, l3, Option.bind_some, h3, h65, pureO, c3, asB]
      have hd : dupX m k = ((decide (m.msgs[k].id ≥ m.ref) && decide (IntKind.u32.wrap (m.msgs[k].id - m.ref) < 8)) || (m.msgs.take k).any (fun y => y.id == m.msgs[k].id)) := by simp [dupX, nth_lt hlt]
      rw [show m.msgs.length - k = (m.msgs.length - (k + 1)) + 1 by omega, findN, hd]
      have next : To H (fun H' => match findN (dupX m) (m.msgs.length - (k + 1)) (k + 1) with
          | some j => κ (.tup [.int .i64 j, .int .i64 142]) H'
          | none => X2 H') (M52_8 o NN X2 κ n i1 s2 m.msgs.length (IntKind.i64.wrap ((k : Int) + 1)) H20) := by
        rw [wrap_nat (by omega)]
        exact To.mono hle (ih (k + 1) H20 hat20 hk1' hw20 (by omega))
      cases e1 : decide (m.msgs[k].id ≥ m.ref) <;> cases e2 : decide (IntKind.u32.wrap (m.msgs[k].id - m.ref) < 8) <;> cases e3 : (m.msgs.take k).any (fun y => y.id == m.msgs[k].id) <;> simp only [cond_true, cond_false, Bool.and_true, Bool.and_false, Bool.or_true, Bool.or_false, Bool.and_self, Bool.or_self] <;>
        first | exact next | exact ⟨H20, hle, hw20, rfl⟩
    · simp only [show decide ((k : Int) < (m.msgs.length : Int)) = false by simpa using hlt, cond_false]
      rw [show m.msgs.length - k = 0 by omega]
      exact ⟨H, Les.refl _, hw, rfl⟩

theorem E52 (ho : ∀ f, FSound Try.prog f (o f)) (h74 : o 74 = pureO Scontains) (h65 : o 65 = pureO (hasOf (Sidx3 K3))) : FSound Try.prog 52 (pureO (Smat twiceM)) := (M52_sound ho NN).pure _ (by
  intro vs H v hw hs
  unfold Smat at hs
  split at hs
  · rename_i a
    simp only [Option.bind_eq_some_iff] at hs
    obtain ⟨m, hm, hs⟩ := hs
    obtain ⟨hsm, hs⟩ := ofCondO hs
    simp only [small, Bool.and_eq_true, decide_eq_true_eq] at hsm
    obtain ⟨⟨⟨hl1, hl3⟩, hl6⟩, hM⟩ := hsm
    obtain ⟨s1, s2, s3, rfl, hat⟩ := matOf_inv hm
    cases hs
    refine ⟨⟨trivial, trivial, trivial⟩, ?_⟩
    simp only [M52, M52_0, hat.ones, cond_true]
    refine newB_ind hw.wf fun i1 H2 hl hw2 hk1 hn => ?_
    have hat2 := hat.les hl
    have v8 : ldV H2 i1 8 = some s1 := by simp [ldV, Heap.ldc, hk1, Mat.c, nth, rdL_one hat.mas]
    have v9 : ldV H2 i1 9 = some s2 := by simp [ldV, Heap.ldc, hk1, Mat.c, nth, rdL_one hat.msgs]
    simp only [M52_1, M52_6, M52_11, v8, v9, Option.bind_some, rdL_len hat2.mas, rdL_len hat2.msgs]
    rw [show (0 : Int) = ((0 : Nat) : Int) from rfl, loop52a h74 hat2.mas hl1 v8 NN 0 (by omega)]
    unfold twiceM
    rw [Nat.sub_zero]
    cases findN (dupI m.mas) m.mas.length 0 with
    | some i => exact Ends.mono hl Ends.ret
    | none =>
      simp only
      obtain ⟨H', e1, e2, e3⟩ := loop52b (κ := pureK) (X2 := fun H => pureK (.tup [.int .i64 0, .int .i64 0]) H) h65 hl3 NN 0 H2 hat2 hk1 hw2 (by omega)
      simp only [v9, Option.bind_some, rdL_len hat2.msgs]
      refine Ends.mono (hl.trans e1) ?_
      rw [show (0 : Int) = ((0 : Nat) : Int) from rfl] at e3 ⊢
      rw [e3, Nat.sub_zero]
      cases findN (dupX m) m.msgs.length 0 <;> exact Ends.ret
  · cases hs)

theorem E81 (ho : ∀ f, FSound Try.prog f (o f)) : FSound Try.prog 81 (pureO S81) := (M81_sound ho NN).pure _ (by
  intro vs H v hw hs
  unfold S81 at hs
  split at hs
  · rename_i a i
    simp only [Option.bind_eq_some_iff] at hs
    obtain ⟨m, hm, hs⟩ := hs
    obtain ⟨s1, s2, s3, rfl, hat⟩ := matOf_inv hm
    cases hs
    refine ⟨⟨⟨trivial, trivial, trivial, trivial, trivial, trivial, trivial⟩, trivial, trivial⟩, ?_⟩
    simp only [M81, M81_0, hat.ones, cond_true]
    refine newB_ind hw.wf fun i1 H2 hl hw2 hk1 hn => ?_
    refine newB_ind hw2 fun i3 H4 hl4 hw4 hk3 hn3 => ?_
    have hk1' := hl4 _ _ hk1
    have hat4 := hat.les (hl.trans hl4)
    have v10 : ldV H4 i1 10 = some s3 := by simp [ldV, Heap.ldc, hk1', Mat.c, nth, rdL_one hat.wins]
    have hn' : lk i3 H.bl = none := by
      cases e : lk i3 H.bl with
      | none => rfl
      | some b => rw [hl _ _ e] at hn3; cases hn3
    have fin : ∀ (w : Win) (b : Bool), w.c.length = 6 → Ends H (.tup [.agg w.c, .bool b]) ((stN H4 i3 0 w.c).bind fun H5 => ldFlat H5 i3 [.int .i64, .int .i64, .int .i64, .int .i64, .int .i64, .int .i64] 0 fun l6 => pureK (.tup [.agg l6, .bool b]) H5) := by
      intro w b _
      refine stN_ind hw4 hk3 rfl fun H5 hk5 hj hw5 _ => ?_
      have hk5' : lk i3 H5.bl = some (.row w.c) := by rw [hk5]; rfl
      have : ∀ K : List V → Ans, ldFlat H5 i3 [.int .i64, .int .i64, .int .i64, .int .i64, .int .i64, .int .i64] 0 K = K w.c := fun K => by simp [ldFlat, ldI, Heap.ldc, hk5', Win.c, nth]
      rw [this]
      exact Ends.mono (les_st (hl.trans hl4) hn' hj) Ends.ret
    by_cases h0 : i < 0
    · simp only [show decide (i < 0) = true by simpa using h0, cond_true]
      have : thereM m i = (zWin, false) := by simp [thereM, show ¬ (0 ≤ i) by omega]
      rw [this]
      exact fin zWin false rfl
    · simp only [show decide (i < 0) = false by simpa using h0, cond_false, v10, Option.bind_some, rdL_len hat4.wins]
      obtain ⟨k, rfl⟩ : ∃ k : Nat, i = (k : Int) := ⟨i.toNat, by omega⟩
      by_cases h1 : k < m.wins.length
      · simp only [show decide ((k : Int) ≥ (m.wins.length : Int)) = false by simpa using h1, cond_false]
        obtain ⟨id, off, h2, h3⟩ := win_at hat4.wins (nth_lt h1)
        rw [h2, ldWin h3]
        simp only [show (Nat.beq (m.wins[k].c).length 6 && Nat.blt 0 6) = true from rfl, cond_true]
        have : thereM m k = (m.wins[k], true) := by simp [thereM, nth_lt h1]
        rw [this]
        exact fin _ true rfl
      · simp only [show decide ((k : Int) ≥ (m.wins.length : Int)) = true by simp; omega, cond_true]
        have : thereM m k = (zWin, false) := by simp [thereM, nth_eq, List.getElem?_eq_none (Nat.le_of_not_lt h1)]
        rw [this]
        exact fin zWin false rfl
  · cases hs)

end
end Go.Proofs.Ytminfdcdmgpnjaa.K
