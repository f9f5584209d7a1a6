/- Triggers; a function that answers with a new row; the small functions of plans. -/
import Derived.Test.YtminfdcdmgpnjaaS13
set_option linter.unusedVariables false
set_option linter.unusedSimpArgs false
namespace Go.Proofs.Ytminfdcdmgpnjaa.K
open Go

structure Trig where
  kind : Int
  at_ : Int
  cy : Int
  re : Int
  msg : Int
  till : Int
  deriving DecidableEq
def Trig.c (t : Trig) : List V := [.int .i64 t.kind, .int .i64 t.at_, .int .i64 t.cy, .int .i64 t.re, .int .i64 t.msg, .int .i64 t.till]
def trigOf : List V → Option Trig
  | [.int .i64 a, .int .i64 b, .int .i64 c, .int .i64 d, .int .i64 e, .int .i64 f] => some ⟨a, b, c, d, e, f⟩
  | _ => none
theorem trigOf_eq {c : List V} {n : Trig} (h : trigOf c = some n) : c = n.c := by
  unfold trigOf at h
  split at h
  · cases h; rfl
  · cases h
theorem trigOf_c (t : Trig) : trigOf t.c = some t := rfl
theorem Trig.ones (x : Trig) : x.c.all V.one = true := rfl
theorem Trig.clen (x : Trig) : x.c.length = 6 := rfl
/-- The cells of a row of triggers. -/
def cellsT (l : List Trig) : List V := l.flatMap Trig.c

theorem trig_at {H : Heap} {v : V} {ws : List Trig} (h : rdL 6 trigOf H v = some ws) {i : Nat} {w : Trig} (hx : nth ws i = some w) :
    ∃ id off, (∀ K : Nat → Nat → Ans, idxS 6 v (i : Int) K = K id off) ∧ ∀ j, j < 6 → H.ldc id (off + j) = nth w.c j := by
  obtain ⟨id, off, c, h1, h2, h3⟩ := rdL_at h (by omega) hx
  rw [trigOf_eq h2] at h3
  exact ⟨id, off, h1, h3⟩
theorem ldTrig {H : Heap} {w : Trig} {id off : Nat} (h : ∀ j, j < 6 → H.ldc id (off + j) = nth w.c j) (K : List V → Ans) :
    ldFlat H id [.int .i64, .int .i64, .int .i64, .int .i64, .int .i64, .int .i64] off K = K w.c := by
  have h0 := h 0 (by omega); have h1 := h 1 (by omega); have h2 := h 2 (by omega); have h3 := h 3 (by omega); have h4 := h 4 (by omega); have h5 := h 5 (by omega)
  simp only [Nat.add_zero] at h0
  simp [ldFlat, ldI, h0, h1, h2, h3, h4, h5, Trig.c, nth, Nat.add_assoc]

theorem cellsT_len (l : List Trig) : (cellsT l).length = l.length * 6 := by
  induction l with
  | nil => rfl
  | cons t l ih => simp only [cellsT, List.flatMap_cons, List.length_append, Trig.clen] at *; simp only [List.length_cons]; omega
theorem cellsT_ones (l : List Trig) : (cellsT l).all V.one = true := by
  induction l with
  | nil => rfl
  | cons t l ih => simp only [cellsT, List.flatMap_cons, List.all_append, Trig.ones, Bool.true_and] at *; exact ih
theorem rdRow_cells (l : List Trig) : rdRow 6 trigOf l.length (cellsT l) = some l := by
  induction l with
  | nil => rfl
  | cons t l ih =>
    simp only [List.length_cons, rdRow, cellsT, List.flatMap_cons]
    rw [show (t.c ++ List.flatMap Trig.c l).take 6 = t.c by rw [List.take_append_of_le_length (by simp [Trig.clen])]; rfl]
    rw [show (t.c ++ List.flatMap Trig.c l).drop 6 = List.flatMap Trig.c l by rfl]
    rw [trigOf_c]
    simp only [cellsT] at ih
    rw [ih]; rfl
/-- A row of triggers, made new. -/
theorem rd_new {H : Heap} {i : Nat} {l : List Trig} {g : Bool} (h : lk i H.bl = some (.row (cellsT l))) : rdL 6 trigOf H (.sl i 0 l.length 6 g) = some l := by
  simp only [rdL, Nat.beq_refl, cond_true, rowOf, h, Option.bind_some, List.drop_zero]
  exact rdRow_cells l

/-! ### A function that answers with a new row -/
def newO (S : List V → Heap → Option (Option (List Trig))) : FnM := fun vs H K => (S vs H).bind fun r => match r with
  | none => K .nils H
  | some l => newB H (.row (cellsT l)) fun i H2 => K (.sl i 0 l.length 6 true) H2

mutual
theorem ren_under {σ : Nat → Nat} {n : Nat} (h : ∀ id, id < n → σ id = id) : ∀ v : V, v.under n → v.ren σ = v
  | .ptr i o, hv => by simp only [V.under] at hv; simp [V.ren, h i hv]
  | .sl i _ _ _ _, hv => by simp only [V.under] at hv; simp [V.ren, h i hv]
  | .map i, hv => by simp only [V.under] at hv; simp [V.ren, h i hv]
  | .chan i, hv => by simp only [V.under] at hv; simp [V.ren, h i hv]
  | .undef, _ | .int _ _, _ | .bool _, _ | .str _, _ | .nilp, _ | .nils, _ | .nilm, _ | .nilc, _ | .nilf, _ | .nili, _ => by simp [V.ren]
  | .fn f caps, hv => by simp only [V.under] at hv; simp [V.ren, renL_under h caps hv]
  | .iface t v, hv => by simp only [V.under] at hv; simp [V.ren, ren_under h v hv]
  | .agg cs, hv => by simp only [V.under] at hv; simp [V.ren, renL_under h cs hv]
  | .tup vs, hv => by simp only [V.under] at hv; simp [V.ren, renL_under h vs hv]
theorem renL_under {σ : Nat → Nat} {n : Nat} (h : ∀ id, id < n → σ id = id) : ∀ vs : List V, underL n vs → renL σ vs = vs
  | [], _ => rfl
  | v :: vs, hv => by simp only [underL] at hv; simp [renL, ren_under h v hv.1, renL_under h vs hv.2]
end
theorem blk_ren_under {σ : Nat → Nat} {n : Nat} (h : ∀ id, id < n → σ id = id) (b : Blk) (hb : b.under n) : b.ren σ = b := by
  cases b with
  | row cs => simp only [Blk.ren, renL_under h cs hb]
  | ro cs => simp only [Blk.ren, renL_under h cs hb]
  | map es =>
    simp only [Blk.ren, Blk.under] at *
    congr 1
    induction es with
    | nil => rfl
    | cons p es ih =>
      obtain ⟨k, v⟩ := p
      have := hb (k, v) (by simp)
      simp only [List.map_cons, ren_under h k this.1, ren_under h v this.2]
      rw [ih fun p hp => hb p (by simp [hp])]
  | chan n => rfl
mutual
theorem under_le {n m : Nat} (h : n ≤ m) : ∀ v : V, v.under n → v.under m
  | .ptr i o, hv => by simp only [V.under] at *; omega
  | .sl i _ _ _ _, hv => by simp only [V.under] at *; omega
  | .map i, hv => by simp only [V.under] at *; omega
  | .chan i, hv => by simp only [V.under] at *; omega
  | .undef, _ | .int _ _, _ | .bool _, _ | .str _, _ | .nilp, _ | .nils, _ | .nilm, _ | .nilc, _ | .nilf, _ | .nili, _ => by simp [V.under]
  | .fn f caps, hv => by simp only [V.under] at *; exact underL_le h caps hv
  | .iface t v, hv => by simp only [V.under] at *; exact under_le h v hv
  | .agg cs, hv => by simp only [V.under] at *; exact underL_le h cs hv
  | .tup vs, hv => by simp only [V.under] at *; exact underL_le h vs hv
theorem underL_le {n m : Nat} (h : n ≤ m) : ∀ vs : List V, underL n vs → underL m vs
  | [], _ => trivial
  | v :: vs, hv => ⟨under_le h v hv.1, underL_le h vs hv.2⟩
end
theorem blk_under_le {n m : Nat} (h : n ≤ m) (b : Blk) (hb : b.under n) : b.under m := by
  cases b with
  | row cs => exact underL_le h cs hb
  | ro cs => exact underL_le h cs hb
  | map es => intro p hp; exact ⟨under_le h _ (hb p hp).1, under_le h _ (hb p hp).2⟩
  | chan n => trivial
theorem cellsT_under (n : Nat) (l : List Trig) : underL n (cellsT l) := by
  have app : ∀ (a b : List V), underL n a → underL n b → underL n (a ++ b) := by
    intro a b
    induction a with
    | nil => intro _ h; exact h
    | cons x a ih => intro h h'; exact ⟨h.1, ih h.2 h'⟩
  induction l with
  | nil => trivial
  | cons t l ih => exact app _ _ ⟨trivial, trivial, trivial, trivial, trivial, trivial, trivial⟩ ih

/-- It ends with a new row of these triggers. -/
def EndsN (H0 : Heap) (l : List Trig) (a : Ans) : Prop := ∃ H1 i, Les H0.bl H1.bl ∧ a = some (.sl i 0 l.length 6 true, H1) ∧ lk i H1.bl = some (.row (cellsT l)) ∧ H0.next ≤ i
theorem EndsN.mono {H H' : Heap} {l : List Trig} {a : Ans} (hl : Les H.bl H'.bl) (hn : H.next ≤ H'.next) (h : EndsN H' l a) : EndsN H l a := by
  obtain ⟨H1, i, h1, h2, h3, h4⟩ := h
  exact ⟨H1, i, hl.trans h1, h2, h3, Nat.le_trans hn h4⟩

theorem newO_sound {P : Program} {f : FuncId} {M : FnM} (hM : FSound P f M) (S : List V → Heap → Option (Option (List Trig)))
    (hS : ∀ vs H r, WF vs H → S vs H = some r → match r with | none => Ends H .nils (M vs H pureK) | some l => EndsN H l (M vs H pureK)) : FSound P f (newO S) := by
  refine hM.as fun vs H K r h => ?_
  unfold newO at h
  rw [Option.bind_eq_some_iff] at h
  obtain ⟨v, hv, hk⟩ := h
  cases v with
  | none =>
    refine ⟨.nils, H, hk, fun hw => ?_⟩
    obtain ⟨H1, hl, e⟩ := hS vs H _ hw hv
    exact ⟨id, .nils, H1, e, As.pure trivial hl hw.bl⟩
  | some l =>
    refine ⟨_, _, hk, fun hw => ?_⟩
    obtain ⟨H1, i, hl, e, hi, hn⟩ := hS vs H _ hw hv
    have hσ : ∀ id, id < H.next → (fun id => if id = H.next then i else id) id = id := fun id hid => by
      simp only; rw [if_neg (by omega)]
    refine ⟨fun id => if id = H.next then i else id, _, H1, e, ?_⟩
    constructor
    · simp [V.ren]
    · simp [V.under, Heap.new]
    · simp [Heap.new]
    · exact hσ
    · intro id h1 h2
      simp only [Heap.new] at h2
      have : id = H.next := by omega
      subst this
      simpa using hn
    · intro id id' h1 h2 he
      simp only [Heap.new] at h1 h2 he
      split at he <;> split at he <;> omega
    · intro id b hb
      simp only [Heap.new, lk_cons] at hb ⊢
      split at hb
      · rename_i e'; subst e'
        cases hb
        refine ⟨by omega, ?_, cellsT_under _ _⟩
        simp only [if_true, Blk.ren]
        rw [renL_under hσ _ (cellsT_under _ _)]; exact hi
      · have hb' := hw.bl id b hb
        refine ⟨by omega, ?_, blk_under_le (by omega) b hb'.2⟩
        rw [if_neg (by omega), blk_ren_under hσ b hb'.2]
        exact hl _ _ hb
    · intro id b hb hid
      simp only [Heap.new, lk_cons] at hb
      rw [if_neg (by omega)] at hb
      exact ⟨b, hb⟩

/-! ### When a master beats, when nothing came -/
def beatM (m : Mat) (r : Int) : Int := cond (!isM m) 0 (cond (decide (r < 0)) m.length (cond (decide (r > 99)) m.length (IntKind.i64.wrap (m.length + IntKind.i64.wrap (IntKind.i64.wrap (r + 1) * stepM m)))))
def watchM (m : Mat) : Int := cond (!isM m) 0 (IntKind.i64.wrap (m.length + IntKind.i64.wrap (IntKind.i64.wrap ((m.mas.length : Int) + 2) * stepM m)))
def Sbeat : List V → Heap → Option V
  | [.agg a, .int .i64 r], H => (matOf H a).bind fun m => cond (small m) (some (.int .i64 (beatM m r))) none
  | _, _ => none
def Swatch : List V → Heap → Option V
  | [.agg a], H => (matOf H a).bind fun m => cond (small m) (some (.int .i64 (watchM m))) none
  | _, _ => none
theorem S42_of {H : Heap} {m : Mat} {a b c : V} (h : MatAt H m a b c) (hs : small m = true) : S42 [.agg (m.c a b c)] H = some (.bool (isM m)) := by
  simp only [S42, h.of, Option.bind_some]
  rw [show (decide (m.mas.length < NN) && decide (m.msgs.length < NN) && decide (m.wins.length < NN)) = true from hs]; rfl

section
variable {o : Orc}

theorem E14 (ho : ∀ f, FSound Try.prog f (o f)) (h42 : o 42 = pureO S42) (h43 : o 43 = pureO S43) : FSound Try.prog 14 (pureO Sbeat) := (M14_sound ho NN).pure _ (by
  intro vs H v hw hs
  unfold Sbeat at hs
  split at hs
  · rename_i a r
    simp only [Option.bind_eq_some_iff] at hs
    obtain ⟨m, hm, hs⟩ := hs
    obtain ⟨hsm, hs⟩ := ofCondO hs
    obtain ⟨s1, s2, s3, rfl, hat⟩ := matOf_inv hm
    cases hs
    refine ⟨trivial, ?_⟩
    have h0 : ∀ H, M14 o NN [.agg (m.c s1 s2 s3), .int .i64 r] H pureK = M14_1 o NN pureK (m.c s1 s2 s3) r H := fun H => rfl
    simp only [h0, M14_1, hat.ones, cond_true]
    refine newB_ind hw.wf fun i1 H2 hl hw2 hk1 hn => ?_
    have hat2 := hat.les hl
    have l3 : ldI H2 .i64 i1 3 = some m.length := by simp [ldI, Heap.ldc, hk1, Mat.c, nth]
    have hat3 : MatAt (H2.skip 9) m s1 s2 s3 := hat2.les (H' := H2.skip 9) (Les.refl H2.bl)
    have hk3 : lk i1 (H2.skip 9).bl = some (.row (m.c s1 s2 s3)) := hk1
    have l3' : ldI (H2.skip 9) .i64 i1 3 = some m.length := l3
    simp only [ldMat hat2 hk1, h42, h43, pureO, S42_of hat2 hsm, Option.bind_some, asB, l3, l3', ldMat hat3 hk3, S43, hat3.of, hsm, cond_true, asI, decide_true]
    unfold beatM
    refine Ends.mono hl (Ends.cond (fun e => by rw [e]; exact Ends.ret) (fun e => ?_))
    rw [e]
    refine Ends.cond (fun e => by rw [e]; exact Ends.ret) (fun e => ?_)
    rw [e]
    refine Ends.cond (fun e => by rw [e]; exact Ends.ret) (fun e => ?_)
    rw [e]
    exact Ends.mono (H' := H2.skip 9) (Les.refl H2.bl) Ends.ret
  · cases hs)
theorem E15 (ho : ∀ f, FSound Try.prog f (o f)) (h42 : o 18 = pureO S42) (h43 : o 39 = pureO S43) : FSound Try.prog 15 (pureO Sbeat) := (M15_sound ho NN).pure _ (by
  intro vs H v hw hs
  unfold Sbeat at hs
  split at hs
  · rename_i a r
    simp only [Option.bind_eq_some_iff] at hs
    obtain ⟨m, hm, hs⟩ := hs
    obtain ⟨hsm, hs⟩ := ofCondO hs
    obtain ⟨s1, s2, s3, rfl, hat⟩ := matOf_inv hm
    cases hs
    refine ⟨trivial, ?_⟩
    have h0 : ∀ H, M15 o NN [.agg (m.c s1 s2 s3), .int .i64 r] H pureK = M15_1 o NN pureK (m.c s1 s2 s3) r H := fun H => rfl
    simp only [h0, M15_1, hat.ones, cond_true]
    refine newB_ind hw.wf fun i1 H2 hl hw2 hk1 hn => ?_
    have hat2 := hat.les hl
    have l3 : ldI H2 .i64 i1 3 = some m.length := by simp [ldI, Heap.ldc, hk1, Mat.c, nth]
    have hat3 : MatAt (H2.skip 9) m s1 s2 s3 := hat2.les (H' := H2.skip 9) (Les.refl H2.bl)
    have hk3 : lk i1 (H2.skip 9).bl = some (.row (m.c s1 s2 s3)) := hk1
    have l3' : ldI (H2.skip 9) .i64 i1 3 = some m.length := l3
    simp only [ldMat hat2 hk1, h42, h43, pureO, S42_of hat2 hsm, Option.bind_some, asB, l3, l3', ldMat hat3 hk3, S43, hat3.of, hsm, cond_true, asI, decide_true]
    unfold beatM
    refine Ends.mono hl (Ends.cond (fun e => by rw [e]; exact Ends.ret) (fun e => ?_))
    rw [e]
    refine Ends.cond (fun e => by rw [e]; exact Ends.ret) (fun e => ?_)
    rw [e]
    refine Ends.cond (fun e => by rw [e]; exact Ends.ret) (fun e => ?_)
    rw [e]
    exact Ends.mono (H' := H2.skip 9) (Les.refl H2.bl) Ends.ret
  · cases hs)
theorem E16 (ho : ∀ f, FSound Try.prog f (o f)) (h42 : o 42 = pureO S42) (h43 : o 43 = pureO S43) : FSound Try.prog 16 (pureO Swatch) := (M16_sound ho NN).pure _ (by
  intro vs H v hw hs
  unfold Swatch at hs
  split at hs
  · rename_i a
    simp only [Option.bind_eq_some_iff] at hs
    obtain ⟨m, hm, hs⟩ := hs
    obtain ⟨hsm, hs⟩ := ofCondO hs
    obtain ⟨s1, s2, s3, rfl, hat⟩ := matOf_inv hm
    cases hs
    refine ⟨trivial, ?_⟩
    have h0 : ∀ H, M16 o NN [.agg (m.c s1 s2 s3)] H pureK = M16_1 o NN pureK (m.c s1 s2 s3) H := fun H => rfl
    simp only [h0, M16_1, hat.ones, cond_true]
    refine newB_ind hw.wf fun i1 H2 hl hw2 hk1 hn => ?_
    have hat2 := hat.les hl
    have hat3 : MatAt (H2.skip 11) m s1 s2 s3 := hat2.les (H' := H2.skip 11) (Les.refl H2.bl)
    have hk3 : lk i1 (H2.skip 11).bl = some (.row (m.c s1 s2 s3)) := hk1
    have l3 : ldI (H2.skip 11) .i64 i1 3 = some m.length := by simp [ldI, Heap.ldc, hk3, Mat.c, nth]
    have l8 : ldV (H2.skip 11) i1 8 = some s1 := by simp [ldV, Heap.ldc, hk3, Mat.c, nth, rdL_one hat.mas]
    simp only [ldMat hat2 hk1, h42, h43, pureO, S42_of hat2 hsm, Option.bind_some, asB, l3, l8, rdL_len hat3.mas, ldMat hat3 hk3, S43, hat3.of, hsm, cond_true, asI, decide_true, same_row hat3.mas]
    unfold watchM
    refine Ends.mono hl (Ends.cond (fun e => by rw [e]; exact Ends.ret) (fun e => ?_))
    rw [e]
    exact Ends.mono (H' := H2.skip 11) (Les.refl H2.bl) Ends.ret
  · cases hs)
theorem E17 (ho : ∀ f, FSound Try.prog f (o f)) (h42 : o 18 = pureO S42) (h43 : o 39 = pureO S43) : FSound Try.prog 17 (pureO Swatch) := (M17_sound ho NN).pure _ (by
  intro vs H v hw hs
  unfold Swatch at hs
  split at hs
  · rename_i a
    simp only [Option.bind_eq_some_iff] at hs
    obtain ⟨m, hm, hs⟩ := hs
    obtain ⟨hsm, hs⟩ := ofCondO hs
    obtain ⟨s1, s2, s3, rfl, hat⟩ := matOf_inv hm
    cases hs
    refine ⟨trivial, ?_⟩
    have h0 : ∀ H, M17 o NN [.agg (m.c s1 s2 s3)] H pureK = M17_1 o NN pureK (m.c s1 s2 s3) H := fun H => rfl
    simp only [h0, M17_1, hat.ones, cond_true]
    refine newB_ind hw.wf fun i1 H2 hl hw2 hk1 hn => ?_
    have hat2 := hat.les hl
    have hat3 : MatAt (H2.skip 11) m s1 s2 s3 := hat2.les (H' := H2.skip 11) (Les.refl H2.bl)
    have hk3 : lk i1 (H2.skip 11).bl = some (.row (m.c s1 s2 s3)) := hk1
    have l3 : ldI (H2.skip 11) .i64 i1 3 = some m.length := by simp [ldI, Heap.ldc, hk3, Mat.c, nth]
    have l8 : ldV (H2.skip 11) i1 8 = some s1 := by simp [ldV, Heap.ldc, hk3, Mat.c, nth, rdL_one hat.mas]
    simp only [ldMat hat2 hk1, h42, h43, pureO, S42_of hat2 hsm, Option.bind_some, asB, l3, l8, rdL_len hat3.mas, ldMat hat3 hk3, S43, hat3.of, hsm, cond_true, asI, decide_true, same_row hat3.mas]
    unfold watchM
    refine Ends.mono hl (Ends.cond (fun e => by rw [e]; exact Ends.ret) (fun e => ?_))
    rw [e]
    exact Ends.mono (H' := H2.skip 11) (Les.refl H2.bl) Ends.ret
  · cases hs)

theorem E35 (ho : ∀ f, FSound Try.prog f (o f)) (h54 : o 54 = pureO Sindex) : FSound Try.prog 35 (pureO Srank) := (M35_sound ho NN).pure _ (by
  intro vs H v hw h
  unfold Srank at h
  split at h
  · rename_i a x
    rw [Option.bind_eq_some_iff] at h
    obtain ⟨m, hm, h⟩ := h
    obtain ⟨hsm, h⟩ := ofCondO h
    obtain ⟨s1, s2, s3, rfl, hat⟩ := matOf_inv hm
    cases h
    refine ⟨trivial, ?_⟩
    simp only [M35, M35_0, hat.ones, cond_true]
    refine newB_ind hw.wf fun i1 H2 hle hw2 hk1 hn => ?_
    have v8 : ldV H2 i1 8 = some s1 := by simp [ldV, Heap.ldc, hk1, Mat.c, nth, rdL_one hat.mas]
    have hl := small_of hsm
    simp only [v8, Option.bind_some, h54, pureO, Sindex, (hat.les hle).mas, hl.1, decide_true, cond_true, asI]
    refine Ends.mono hle (Ends.ret' ?_)
    rw [show (fun y => y == x) = (fun y => x == y) from funext fun y => Bool.beq_comm]
  · cases h)

end
end Go.Proofs.Ytminfdcdmgpnjaa.K
