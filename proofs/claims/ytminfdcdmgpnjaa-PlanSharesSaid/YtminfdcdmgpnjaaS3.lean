/- What the program's functions over matrices answer: places in rows, by a function that is handed in. -/
import Derived.Test.YtminfdcdmgpnjaaS2
set_option linter.unusedVariables false
set_option linter.unusedSimpArgs false
namespace Go.Proofs.Ytminfdcdmgpnjaa.K
open Go

def firstG {α : Type} (p : α → Option V) : List α → Nat → Option (Option Nat)
  | [], _ => some none
  | a :: l, k => match p a with
    | some (.bool true) => some (some k)
    | some (.bool false) => firstG p l (k + 1)
    | _ => none

theorem firstG_eq {α : Type} {p : α → Option V} {q : α → Bool} : ∀ {l : List α} {k : Nat}, (∀ x ∈ l, p x = some (.bool (q x))) → firstG p l k = some (findG q l k)
  | [], k, _ => rfl
  | a :: l, k, h => by
    simp only [firstG, findG, h a (by simp)]
    cases q a with
    | true => rfl
    | false => exact firstG_eq fun x hx => h x (by simp [hx])

def at1 (r : Option Nat) : Int := match r with | some k => (k : Int) | none => -1

theorem wrap_nat {k : Nat} (h : k < NN) : IntKind.i64.wrap ((k : Int) + 1) = ((k + 1 : Nat) : Int) := by
  unfold NN at h
  unfold IntKind.wrap; simp [IntKind.signed, IntKind.bits]; omega

/-- Closures of the text that are asked of each element. -/
abbrev Clo := FuncId → Option (List V → Heap → Option V)

def Sidx1 (C : Clo) : List V → Heap → Option V
  | [v, .fn g caps], H => (rdL 1 intOf H v).bind fun xs => (C g).bind fun S => (firstG (fun x => S ([.int .i64 x] ++ caps) H) xs 0).bind fun r => cond (decide (xs.length < NN)) (some (.int .i64 (at1 r))) none
  | _, _ => none
def Sidx3 (C : Clo) : List V → Heap → Option V
  | [v, .fn g caps], H => (rdL 3 msgOf H v).bind fun xs => (C g).bind fun S => (firstG (fun x => S ([.agg x.c] ++ caps) H) xs 0).bind fun r => cond (decide (xs.length < NN)) (some (.int .i64 (at1 r))) none
  | _, _ => none
def Sidx6 (C : Clo) : List V → Heap → Option V
  | [v, .fn g caps], H => (rdL 6 winOf H v).bind fun xs => (C g).bind fun S => (firstG (fun x => S ([.agg x.c] ++ caps) H) xs 0).bind fun r => cond (decide (xs.length < NN)) (some (.int .i64 (at1 r))) none
  | _, _ => none
/-- The same, asked whether there is one. -/
def hasOf (S : List V → Heap → Option V) (vs : List V) (H : Heap) : Option V :=
  (S vs H).bind fun v => match v with
    | .int .i64 n => some (.bool (decide (n ≥ 0)))
    | _ => none

section
variable {o : Orc}

theorem loop70 {C : Clo} (hC : ∀ g S, C g = some S → o g = pureO S) {X0 : Heap → Ans} {κ : Kv} {v : V} {g : FuncId} {caps : List V} {H : Heap} {xs : List Int} {S : List V → Heap → Option V} (h : rdL 1 intOf H v = some xs) (hl : xs.length < NN) (hg : C g = some S) :
    ∀ (n k : Nat) (r : Option Nat), xs.length - k < n → firstG (fun x => S ([.int .i64 x] ++ caps) H) (xs.drop k) k = some r → M70_3 o NN X0 κ n v (.fn g caps) xs.length k H = match r with
      | some j => κ (.int .i64 j) H
      | none => X0 H := by
  intro n
  induction n with
  | zero => intro k r hk; omega
  | succ n ih =>
    intro k r hk hr
    rw [M70_3_s]
    simp only [M70_2]
    by_cases hlt : k < xs.length
    · obtain ⟨id, off, h1, h2⟩ := int_at h (nth_lt hlt)
      rw [drop_cons hlt] at hr
      simp only [show decide ((k : Int) < (xs.length : Int)) = true by simpa using hlt, cond_true, h1, h2, Option.bind_some, callV, hC g S hg, pureO]
      simp only [firstG] at hr
      split at hr
      · rename_i e
        simp only [e, Option.bind_some, asB, cond_true]; cases hr; rfl
      · rename_i e
        simp only [e, Option.bind_some, asB, cond_false]
        rw [wrap_nat (by omega), ih (k + 1) r (by omega) hr]
      · cases hr
    · rw [List.drop_eq_nil_of_le (by omega)] at hr
      simp only [show decide ((k : Int) < (xs.length : Int)) = false by simpa using hlt, cond_false]
      cases hr; rfl

theorem E70 (ho : ∀ f, FSound Try.prog f (o f)) {C : Clo} (hC : ∀ g S, C g = some S → o g = pureO S) : FSound Try.prog 70 (pureO (Sidx1 C)) := (M70_sound ho NN).pure _ (by
  intro vs H v hw h
  unfold Sidx1 at h
  split at h
  · rename_i s g caps
    simp only [Option.bind_eq_some_iff] at h
    obtain ⟨xs, hx, S, hS, r, hr, h⟩ := h
    obtain ⟨hl, h⟩ := ofCondO h
    simp only [decide_eq_true_eq] at hl
    cases h
    refine ⟨trivial, ?_⟩
    simp only [M70, M70_0, M70_1, rdL_len hx]
    rw [show (0 : Int) = ((0 : Nat) : Int) from rfl, loop70 hC hx hl hS NN 0 r (by omega) (by simpa using hr)]
    cases r <;> exact Ends.ret
  · cases h)

theorem loop72 {C : Clo} (hC : ∀ g S, C g = some S → o g = pureO S) {X0 : Heap → Ans} {κ : Kv} {v : V} {g : FuncId} {caps : List V} {H : Heap} {xs : List Msg} {S : List V → Heap → Option V} (h : rdL 3 msgOf H v = some xs) (hl : xs.length < NN) (hg : C g = some S) :
    ∀ (n k : Nat) (r : Option Nat), xs.length - k < n → firstG (fun x => S ([.agg x.c] ++ caps) H) (xs.drop k) k = some r → M72_3 o NN X0 κ n v (.fn g caps) xs.length k H = match r with
      | some j => κ (.int .i64 j) H
      | none => X0 H := by
  intro n
  induction n with
  | zero => intro k r hk; omega
  | succ n ih =>
    intro k r hk hr
    rw [M72_3_s]
    simp only [M72_2]
    by_cases hlt : k < xs.length
    · obtain ⟨id, off, h1, h2⟩ := msg_at h (nth_lt hlt)
      rw [drop_cons hlt] at hr
      simp only [show decide ((k : Int) < (xs.length : Int)) = true by simpa using hlt, cond_true, h1, ldMsg h2, Option.bind_some, callV, hC g S hg, pureO]
      simp only [firstG] at hr
      split at hr
      · rename_i e
        simp only [e, Option.bind_some, asB, cond_true]; cases hr; rfl
      · rename_i e
        simp only [e, Option.bind_some, asB, cond_false]
        rw [wrap_nat (by omega), ih (k + 1) r (by omega) hr]
      · cases hr
    · rw [List.drop_eq_nil_of_le (by omega)] at hr
      simp only [show decide ((k : Int) < (xs.length : Int)) = false by simpa using hlt, cond_false]
      cases hr; rfl

theorem E72 (ho : ∀ f, FSound Try.prog f (o f)) {C : Clo} (hC : ∀ g S, C g = some S → o g = pureO S) : FSound Try.prog 72 (pureO (Sidx3 C)) := (M72_sound ho NN).pure _ (by
  intro vs H v hw h
  unfold Sidx3 at h
  split at h
  · rename_i s g caps
    simp only [Option.bind_eq_some_iff] at h
    obtain ⟨xs, hx, S, hS, r, hr, h⟩ := h
    obtain ⟨hl, h⟩ := ofCondO h
    simp only [decide_eq_true_eq] at hl
    cases h
    refine ⟨trivial, ?_⟩
    simp only [M72, M72_0, M72_1, rdL_len hx]
    rw [show (0 : Int) = ((0 : Nat) : Int) from rfl, loop72 hC hx hl hS NN 0 r (by omega) (by simpa using hr)]
    cases r <;> exact Ends.ret
  · cases h)

theorem loop80 {C : Clo} (hC : ∀ g S, C g = some S → o g = pureO S) {X0 : Heap → Ans} {κ : Kv} {v : V} {g : FuncId} {caps : List V} {H : Heap} {xs : List Win} {S : List V → Heap → Option V} (h : rdL 6 winOf H v = some xs) (hl : xs.length < NN) (hg : C g = some S) :
    ∀ (n k : Nat) (r : Option Nat), xs.length - k < n → firstG (fun x => S ([.agg x.c] ++ caps) H) (xs.drop k) k = some r → M80_3 o NN X0 κ n v (.fn g caps) xs.length k H = match r with
      | some j => κ (.int .i64 j) H
      | none => X0 H := by
  intro n
  induction n with
  | zero => intro k r hk; omega
  | succ n ih =>
    intro k r hk hr
    rw [M80_3_s]
    simp only [M80_2]
    by_cases hlt : k < xs.length
    · obtain ⟨id, off, h1, h2⟩ := win_at h (nth_lt hlt)
      rw [drop_cons hlt] at hr
      simp only [show decide ((k : Int) < (xs.length : Int)) = true by simpa using hlt, cond_true, h1, ldWin h2, Option.bind_some, callV, hC g S hg, pureO]
      simp only [firstG] at hr
      split at hr
      · rename_i e
        simp only [e, Option.bind_some, asB, cond_true]; cases hr; rfl
      · rename_i e
        simp only [e, Option.bind_some, asB, cond_false]
        rw [wrap_nat (by omega), ih (k + 1) r (by omega) hr]
      · cases hr
    · rw [List.drop_eq_nil_of_le (by omega)] at hr
      simp only [show decide ((k : Int) < (xs.length : Int)) = false by simpa using hlt, cond_false]
      cases hr; rfl

theorem E80 (ho : ∀ f, FSound Try.prog f (o f)) {C : Clo} (hC : ∀ g S, C g = some S → o g = pureO S) : FSound Try.prog 80 (pureO (Sidx6 C)) := (M80_sound ho NN).pure _ (by
  intro vs H v hw h
  unfold Sidx6 at h
  split at h
  · rename_i s g caps
    simp only [Option.bind_eq_some_iff] at h
    obtain ⟨xs, hx, S, hS, r, hr, h⟩ := h
    obtain ⟨hl, h⟩ := ofCondO h
    simp only [decide_eq_true_eq] at hl
    cases h
    refine ⟨trivial, ?_⟩
    simp only [M80, M80_0, M80_1, rdL_len hx]
    rw [show (0 : Int) = ((0 : Nat) : Int) from rfl, loop80 hC hx hl hS NN 0 r (by omega) (by simpa using hr)]
    cases r <;> exact Ends.ret
  · cases h)

theorem hasOf_ok {S : List V → Heap → Option V} {vs : List V} {H : Heap} {v : V} (h : hasOf S vs H = some v) : ∃ n, S vs H = some (.int .i64 n) ∧ v = .bool (decide (n ≥ 0)) := by
  unfold hasOf at h
  rw [Option.bind_eq_some_iff] at h
  obtain ⟨u, hu, h⟩ := h
  split at h
  · cases h; exact ⟨_, hu, rfl⟩
  · cases h

theorem E64 (ho : ∀ f, FSound Try.prog f (o f)) {C : Clo} (h : o 70 = pureO (Sidx1 C)) : FSound Try.prog 64 (pureO (hasOf (Sidx1 C))) := (M64_sound ho NN).pure _ (by
  intro vs H v hw hs
  obtain ⟨n, h1, rfl⟩ := hasOf_ok hs
  refine ⟨trivial, ?_⟩
  have h1' := h1
  unfold Sidx1 at h1
  split at h1
  · simp only [M64, M64_0, h, pureO, h1', Option.bind_some, asI, decide_true, cond_true]; exact Ends.ret
  · cases h1)
theorem E65 (ho : ∀ f, FSound Try.prog f (o f)) {C : Clo} (h : o 72 = pureO (Sidx3 C)) : FSound Try.prog 65 (pureO (hasOf (Sidx3 C))) := (M65_sound ho NN).pure _ (by
  intro vs H v hw hs
  obtain ⟨n, h1, rfl⟩ := hasOf_ok hs
  refine ⟨trivial, ?_⟩
  have h1' := h1
  unfold Sidx3 at h1
  split at h1
  · simp only [M65, M65_0, h, pureO, h1', Option.bind_some, asI, decide_true, cond_true]; exact Ends.ret
  · cases h1)
theorem E66 (ho : ∀ f, FSound Try.prog f (o f)) {C : Clo} (h : o 80 = pureO (Sidx6 C)) : FSound Try.prog 66 (pureO (hasOf (Sidx6 C))) := (M66_sound ho NN).pure _ (by
  intro vs H v hw hs
  obtain ⟨n, h1, rfl⟩ := hasOf_ok hs
  refine ⟨trivial, ?_⟩
  have h1' := h1
  unfold Sidx6 at h1
  split at h1
  · simp only [M66, M66_0, h, pureO, h1', Option.bind_some, asI, decide_true, cond_true]; exact Ends.ret
  · cases h1)

theorem E74 (ho : ∀ f, FSound Try.prog f (o f)) (h : o 54 = pureO Sindex) : FSound Try.prog 74 (pureO Scontains) := (M74_sound ho NN).pure _ (by
  intro vs H v hw hs
  unfold Scontains at hs
  split at hs
  · rename_i s x
    rw [Option.bind_eq_some_iff] at hs
    obtain ⟨xs, hx, hs⟩ := hs
    obtain ⟨hl, hs⟩ := ofCondO hs
    cases hs
    refine ⟨trivial, ?_⟩
    simp only [M74, M74_0, h, pureO, Sindex, hx, hl, cond_true, Option.bind_some, asI, decide_true, ← idxI_ge]; exact Ends.ret
  · cases hs)

theorem E79 (ho : ∀ f, FSound Try.prog f (o f)) (h : o 74 = pureO Scontains) : FSound Try.prog 79 (pureO Spow) := (M79_sound ho NN).pure _ (by
  intro vs H v hw hs
  unfold Spow at hs
  split at hs
  · rename_i x
    cases hs
    refine ⟨trivial, ?_⟩
    simp only [M79, M79_0]
    refine newB_ind hw.wf fun i H2 hl hw2 hk hn => ?_
    have hr : rdL 1 intOf H2 (.sl i 0 4 1 true) = some [1, 2, 4, 8] := by simp [rdL, rowOf, hk, rdRow, intOf]
    simp only [h, pureO, Scontains, hr, Option.bind_some]
    simp only [show decide ([(1 : Int), 2, 4, 8].length < NN) = true from rfl, cond_true, Option.bind_some, asB]
    refine Ends.mono hl (Ends.ret' ?_)
    simp [pow4, Bool.or_assoc]
  · cases hs)
end
end Go.Proofs.Ytminfdcdmgpnjaa.K
