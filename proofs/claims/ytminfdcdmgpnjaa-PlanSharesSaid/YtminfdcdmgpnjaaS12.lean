/- What the document's twice, window and Check answer. -/
import Derived.Test.YtminfdcdmgpnjaaS11
set_option linter.unusedVariables false
set_option linter.unusedSimpArgs false
namespace Go.Proofs.Ytminfdcdmgpnjaa.K
open Go

theorem findG_take {α : Type} {q : α → Bool} {x : α} (hq : q x = true) : ∀ (xs : List α) (k s : Nat), nth xs k = some x → ∃ j, findG q xs s = some j ∧ decide (j < s + k) = (xs.take k).any q
  | [], k, s, h => by simp [nth] at h
  | a :: l, 0, s, h => by
    simp [nth] at h; subst h
    exact ⟨s, by simp [findG, hq], by simp⟩
  | a :: l, k + 1, s, h => by
    simp only [nth] at h
    simp only [findG, List.take_succ_cons, List.any_cons]
    cases e : q a with
    | true => exact ⟨s, rfl, by simp⟩
    | false =>
      obtain ⟨j, h1, h2⟩ := findG_take hq l k (s + 1) h
      refine ⟨j, h1, ?_⟩
      rw [Bool.false_or, ← h2, show s + (k + 1) = s + 1 + k by omega]
theorem idx_take {α : Type} {q : α → Bool} {x : α} {xs : List α} {k : Nat} (hq : q x = true) (h : nth xs k = some x) : decide (idxI q xs < (k : Int)) = (xs.take k).any q := by
  obtain ⟨j, h1, h2⟩ := findG_take hq xs k 0 h
  rw [Nat.zero_add] at h2
  rw [← h2]
  unfold idxI
  rw [h1]
  simp

def ranged (m : Mat) : Bool := decide (0 ≤ m.ref) && m.msgs.all (fun x => decide (0 ≤ x.id))

theorem wrap32 {n : Int} (h : 0 ≤ n) (h' : n < 4294967296) : IntKind.u32.wrap n = n := by
  unfold IntKind.wrap; simp [IntKind.signed, IntKind.bits]; omega

theorem dupX_eq {m : Mat} (hM : isM m = true) (hr : ranged m = true) {k : Nat} {x : Msg} (hx : nth m.msgs k = some x) :
    dupX m k = (decide (idxI (fun y : Msg => y.id == x.id) m.msgs < (k : Int)) || ((IntKind.u32.wrap (Int.tdiv x.id 8)) == (IntKind.u32.wrap (Int.tdiv m.ref 8)))) := by
  rw [idx_take (x := x) (by simp) hx]
  have hmem : x ∈ m.msgs := by rw [nth_eq] at hx; exact List.mem_of_getElem? hx
  simp only [ranged, Bool.and_eq_true, decide_eq_true_eq, List.all_eq_true] at hr
  have h0 := hr.2 x hmem
  have hm : msgOk x = true := by
    simp only [isM, Bool.and_eq_true, List.all_eq_true] at hM
    exact hM.1.2 x hmem
  simp only [msgOk, Bool.and_eq_true, decide_eq_true_eq] at hm
  have hh : m.ref < 2048 ∧ Int.tmod m.ref 8 = 0 := by
    simp only [isM, headOk, Bool.and_eq_true, decide_eq_true_eq, beq_iff_eq] at hM
    exact ⟨hM.1.1.1.1.1.1.1.2, hM.1.1.1.1.1.1.2⟩
  have h8 : m.ref % 8 = 0 := by have := hh.2; rwa [Int.tmod_eq_emod_of_nonneg hr.1] at this
  rw [Int.tdiv_eq_ediv_of_nonneg h0, Int.tdiv_eq_ediv_of_nonneg hr.1]
  rw [wrap32 (n := x.id / 8) (by omega) (by omega), wrap32 (n := m.ref / 8) (by omega) (by omega)]
  simp only [dupX, hx]
  have key : (decide (x.id ≥ m.ref) && decide (IntKind.u32.wrap (x.id - m.ref) < 8)) = (x.id / 8 == m.ref / 8) := by
    by_cases hge : x.id ≥ m.ref
    · rw [wrap32 (by omega) (by omega)]
      rw [Bool.eq_iff_iff]
      simp only [Bool.and_eq_true, decide_eq_true_eq, beq_iff_eq]
      omega
    · rw [Bool.eq_iff_iff]
      simp only [Bool.and_eq_true, decide_eq_true_eq, beq_iff_eq]
      constructor
      · intro h; omega
      · intro h; omega
  rw [key, Bool.or_comm]

theorem meet_symm (m : Mat) (a b : Int) : meetM m a b = meetM m b a := by
  unfold meetM meetW
  have : (fun c : Nat => comesR (thereM m a).1.cy (thereM m a).1.re c && comesR (thereM m b).1.cy (thereM m b).1.re c) = (fun c : Nat => comesR (thereM m b).1.cy (thereM m b).1.re c && comesR (thereM m a).1.cy (thereM m a).1.re c) := by
    funext c; rw [Bool.and_comm]
  rw [this]
  generalize (findN _ _ _).isSome = f
  generalize decide ((thereM m a).1.st ≥ (thereM m b).1.en) = g
  generalize decide ((thereM m b).1.st ≥ (thereM m a).1.en) = h
  cases (thereM m a).2 <;> cases (thereM m b).2 <;> cases g <;> cases h <;> rfl

def S46 : List V → Heap → Option V
  | [.agg a], H => (matOf H a).bind fun m => cond (small m && isM m && ranged m) (some (tupV (twiceM m))) none
  | _, _ => none
def S47 : List V → Heap → Option V
  | [.agg a, .int .i64 i], H => (matOf H a).bind fun m => cond (small m && isM m && decide (0 ≤ i)) ((nth m.wins i.toNat).bind fun w => some (.int .i64 (codeW m i.toNat w))) none
  | _, _ => none
def S19 : List V → Heap → Option V
  | [.agg a], H => (matOf H a).bind fun m => cond (small m && ranged m) (some (tupV (chkM m))) none
  | _, _ => none

section
variable {o : Orc}

theorem loop46a (h41 : o 41 = pureO Srank) {X0 : Nat → Heap → Ans} {κ : Kv} {i1 : Nat} {s1 s2 s3 : V} {m : Mat} (hsm : small m = true) (hl : m.mas.length < NN) :
    ∀ (n k : Nat) (H : Heap), MatAt H m s1 s2 s3 → lk i1 H.bl = some (.row (m.c s1 s2 s3)) → Wf H → m.mas.length - k < n → To H (fun H' => match findN (dupI m.mas) (m.mas.length - k) k with
      | some j => κ (.tup [.int .i64 j, .int .i64 142]) H'
      | none => X0 i1 H') (M46_4 o NN X0 κ n i1 k H) := by
  intro n
  induction n with
  | zero => intro k H _ _ _ hk; omega
  | succ n ih =>
    intro k H hat hk1 hw hk
    rw [M46_4_s]
    have v8 : ldV H i1 8 = some s1 := by simp [ldV, Heap.ldc, hk1, Mat.c, nth, rdL_one hat.mas]
    simp only [M46_3, v8, Option.bind_some, rdL_len hat.mas]
    by_cases hlt : k < m.mas.length
    · have hat' : MatAt (H.skip 9) m s1 s2 s3 := hat.les (H' := H.skip 9) (Les.refl H.bl)
      have hk1' : lk i1 (H.skip 9).bl = some (.row (m.c s1 s2 s3)) := hk1
      have v8' : ldV (H.skip 9) i1 8 = some s1 := v8
      obtain ⟨id, off, h1, h2⟩ := int_at hat'.mas (nth_lt hlt)
      simp only [show decide ((k : Int) < (m.mas.length : Int)) = true by simpa using hlt, cond_true, ldMat hat' hk1', v8', h1, h2, Option.bind_some, h41, pureO, Srank, hat'.of, hsm, asI, decide_true]
      refine To.mono (H' := H.skip 9) (Les.refl H.bl) ?_
      have hd : decide (idxI (fun y => y == m.mas[k]) m.mas < (k : Int)) = dupI m.mas k := by
        rw [idx_take (x := m.mas[k]) (by simp) (nth_lt hlt)]
        simp only [dupI, nth_lt hlt]
        congr 1; funext y; exact Bool.beq_comm
      rw [hd, show m.mas.length - k = (m.mas.length - (k + 1)) + 1 by omega, findN]
      cases e : dupI m.mas k with
      | true => exact To.here (hw.skip 9)
      | false =>
        simp only [cond_false]
        rw [wrap_nat (by omega)]
        exact ih (k + 1) (H.skip 9) hat' hk1' (hw.skip 9) (by omega)
    · simp only [show decide ((k : Int) < (m.mas.length : Int)) = false by simpa using hlt, cond_false]
      rw [show m.mas.length - k = 0 by omega]
      exact To.here hw

theorem loop46b (h68 : o 68 = pureO Sfind) {X2 : Heap → Ans} {κ : Kv} {i1 : Nat} {s1 s2 s3 : V} {m : Mat} (hsm : small m = true) (hM : isM m = true) (hr : ranged m = true) (hl : m.msgs.length < NN) {H : Heap}
    (hat : MatAt H m s1 s2 s3) (hk1 : lk i1 H.bl = some (.row (m.c s1 s2 s3))) :
    ∀ (n k : Nat), m.msgs.length - k < n → M46_8 o NN X2 κ n i1 k H = match findN (dupX m) (m.msgs.length - k) k with
      | some j => κ (.tup [.int .i64 j, .int .i64 142]) H
      | none => X2 H := by
  intro n
  have v9 : ldV H i1 9 = some s2 := by simp [ldV, Heap.ldc, hk1, Mat.c, nth, rdL_one hat.msgs]
  have r7 : ldI H .u32 i1 7 = some m.ref := by simp [ldI, Heap.ldc, hk1, Mat.c, nth]
  induction n with
  | zero => intro k hk; omega
  | succ n ih =>
    intro k hk
    rw [M46_8_s]
    simp only [M46_7, v9, Option.bind_some, rdL_len hat.msgs]
    by_cases hlt : k < m.msgs.length
    · obtain ⟨id, off, h1, h2⟩ := msg_at hat.msgs (nth_lt hlt)
      have l1 : ldI H .u32 id (off + 0) = some m.msgs[k].id := by simp only [ldI, h2 0 (by omega)]; rfl
      simp only [show decide ((k : Int) < (m.msgs.length : Int)) = true by simpa using hlt, cond_true, ldMat hat hk1, h1, l1, Option.bind_some, h68, pureO, Sfind, hat.of, hsm, asI, decide_true, r7]
      have hd := dupX_eq hM hr (nth_lt hlt)
      rw [show m.msgs.length - k = (m.msgs.length - (k + 1)) + 1 by omega, findN, hd]
      cases decide (idxI (fun y : Msg => y.id == m.msgs[k].id) m.msgs < (k : Int)) with
      | true => rfl
      | false =>
        cases ((IntKind.u32.wrap (Int.tdiv m.msgs[k].id 8)) == (IntKind.u32.wrap (Int.tdiv m.ref 8))) with
        | true => rfl
        | false =>
          simp only [cond_false, Bool.or_self]
          rw [wrap_nat (by omega), ih (k + 1) (by omega)]
    · simp only [show decide ((k : Int) < (m.msgs.length : Int)) = false by simpa using hlt, cond_false]
      rw [show m.msgs.length - k = 0 by omega]; rfl

theorem E46 (ho : ∀ f, FSound Try.prog f (o f)) (h41 : o 41 = pureO Srank) (h68 : o 68 = pureO Sfind) : FSound Try.prog 46 (pureO S46) := (M46_sound ho NN).pure _ (by
  intro vs H v hw hs
  unfold S46 at hs
  split at hs
  · rename_i a
    simp only [Option.bind_eq_some_iff] at hs
    obtain ⟨m, hm, hs⟩ := hs
    obtain ⟨hsm, hs⟩ := ofCondO hs
    simp only [Bool.and_eq_true] at hsm
    obtain ⟨⟨hsm, hM⟩, hr⟩ := hsm
    have hsm' := hsm
    simp only [small, Bool.and_eq_true, decide_eq_true_eq] at hsm
    obtain ⟨⟨hl1, hl3⟩, hl6⟩ := hsm
    obtain ⟨s1, s2, s3, rfl, hat⟩ := matOf_inv hm
    cases hs
    refine ⟨⟨trivial, trivial, trivial⟩, ?_⟩
    simp only [M46, M46_0, hat.ones, cond_true, M46_1]
    refine newB_ind hw.wf fun i1 H2 hl hw2 hk1 hn => ?_
    have hat2 := hat.les hl
    obtain ⟨H', e1, e2, e3⟩ := loop46a (κ := pureK) (X0 := fun x1 H => M46_6 o NN (fun x1 x5 H => M46_8 o NN (fun H => M46_10 o NN pureK  H) pureK NN x1 x5 H) pureK x1 H) h41 hsm' hl1 NN 0 H2 hat2 hk1 hw2 (by omega)
    rw [show (0 : Int) = ((0 : Nat) : Int) from rfl, e3, Nat.sub_zero]
    refine Ends.mono (hl.trans e1) ?_
    unfold twiceM
    cases findN (dupI m.mas) m.mas.length 0 with
    | some i => exact Ends.ret
    | none =>
      simp only [M46_6]
      rw [show (0 : Int) = ((0 : Nat) : Int) from rfl, loop46b h68 hsm' hM hr hl3 (hat2.les e1) (e1 _ _ hk1) NN 0 (by omega), Nat.sub_zero]
      cases findN (dupX m) m.msgs.length 0 <;> exact Ends.ret
  · cases hs)

theorem loop47 (h69 : o 69 = pureO S69) {X0 : Heap → Ans} {κ : Kv} {i1 : Nat} {s1 s2 s3 : V} {m : Mat} (hsm : small m = true) {H : Heap} {i : Nat} (hi : i < NN) (hat : MatAt H m s1 s2 s3) (hk1 : lk i1 H.bl = some (.row (m.c s1 s2 s3))) :
    ∀ (n k : Nat), i - k < n → M47_7 o NN X0 κ n i i1 k H = cond (findN (fun k => meetM m i k) (i - k) k).isSome (κ (.int .i64 143) H) (X0 H) := by
  intro n
  induction n with
  | zero => intro k hk; omega
  | succ n ih =>
    intro k hk
    rw [M47_7_s]
    simp only [M47_6]
    by_cases hlt : k < i
    · simp only [show decide ((k : Int) < (i : Int)) = true by simpa using hlt, cond_true, ldMat hat hk1, h69, pureO, S69, hat.of, hsm, Option.bind_some, asB]
      rw [show i - k = (i - (k + 1)) + 1 by omega, findN, meet_symm m i k]
      cases meetM m k i <;> simp only [cond_true, cond_false, Option.isSome_some]
      rw [wrap_nat (by omega), ih (k + 1) (by omega)]
    · simp only [show decide ((k : Int) < (i : Int)) = false by simpa using hlt, cond_false]
      rw [show i - k = 0 by omega]; rfl

end
end Go.Proofs.Ytminfdcdmgpnjaa.K
