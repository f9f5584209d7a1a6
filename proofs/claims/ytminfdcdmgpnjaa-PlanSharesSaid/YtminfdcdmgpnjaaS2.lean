/- What the program's functions over matrices answer: whether one may be. -/
import Derived.Test.YtminfdcdmgpnjaaS1
import Derived.Test.YtminfdcdmgpnjaaMa
set_option linter.unusedVariables false
set_option linter.unusedSimpArgs false
namespace Go.Proofs.Ytminfdcdmgpnjaa.K
open Go

def NN : Nat := 1099511627776
def within (a b c : Int) : Bool := decide (b ≤ a) && decide (a ≤ c)
def pow4 (n : Int) : Bool := n == 1 || n == 2 || n == 4 || n == 8
def headOk (m : Mat) : Bool :=
  within m.level 1 2 && within m.nodes 1 8 && pow4 m.cycles && within m.length 1 4000 && within m.enable 1 16 && within m.unit 1 64 && within m.init 0 8000 && decide (m.ref < 2048) && (Int.tmod m.ref 8 == 0)
def winOk (m : Mat) (w : Win) : Bool :=
  within w.kind 1 3 && within w.st 0 m.length && within w.en 0 m.length && decide (w.st < w.en) && pow4 w.re && decide (w.re ≤ m.cycles) &&
  within w.cy 0 (IntKind.i64.wrap (w.re - 1)) && within w.msg 0 99 && (w.msg == 0 || w.kind == 1)
def msgOk (x : Msg) : Bool := decide (x.id < 2048) && within x.ow 0 99
def isM (m : Mat) : Bool :=
  headOk m && within m.mas.length 1 4 && decide (m.msgs.length ≤ 12) && decide (m.wins.length ≤ 16) && m.mas.all (fun n => within n 0 99) && m.msgs.all msgOk && m.wins.all (winOk m)

def Swithin : List V → Heap → Option V
  | [.int .i64 a, .int .i64 b, .int .i64 c], _ => some (.bool (within a b c))
  | _, _ => none
def Spow : List V → Heap → Option V
  | [.int .i64 a], _ => some (.bool (pow4 a))
  | _, _ => none
def Sindex : List V → Heap → Option V
  | [v, .int .i64 x], H => (rdL 1 intOf H v).bind fun xs => cond (decide (xs.length < NN)) (some (.int .i64 (idxI (fun y => x == y) xs))) none
  | _, _ => none
def Scontains : List V → Heap → Option V
  | [v, .int .i64 x], H => (rdL 1 intOf H v).bind fun xs => cond (decide (xs.length < NN)) (some (.bool (xs.any fun y => x == y))) none
  | _, _ => none

section
variable {o : Orc}

theorem c59 (h : o 59 = pureO Swithin) (a b c : Int) (H : Heap) (K : Kv) : o 59 [.int .i64 a, .int .i64 b, .int .i64 c] H K = K (.bool (within a b c)) H := by rw [h]; rfl

theorem E59 (ho : ∀ f, FSound Try.prog f (o f)) : FSound Try.prog 59 (pureO Swithin) := (M59_sound ho NN).pure _ (by
  intro vs H v hw h
  unfold Swithin at h
  split at h
  · rename_i a b c
    cases h
    refine ⟨trivial, ?_⟩
    simp only [M59, M59_0, within]
    by_cases h1 : b ≤ a
    · simp only [show decide (a ≥ b) = true by simpa using h1, cond_true, show decide (b ≤ a) = true by simpa using h1, Bool.true_and]; exact Ends.ret
    · simp only [show decide (a ≥ b) = false by simpa using h1, cond_false, show decide (b ≤ a) = false by simpa using h1, Bool.false_and]; exact Ends.ret
  · cases h)

/-- A loop that looks for a place. -/
theorem loop54 {X0 : Heap → Ans} {κ : Kv} {v : V} {x : Int} {H : Heap} {xs : List Int} (h : rdL 1 intOf H v = some xs) (hl : xs.length < NN) :
    ∀ (n k : Nat), xs.length - k < n → M54_3 o NN X0 κ n v x xs.length k H = match findG (fun y => x == y) (xs.drop k) k with
      | some j => κ (.int .i64 j) H
      | none => X0 H := by
  intro n
  induction n with
  | zero => intro k hk; omega
  | succ n ih =>
    intro k hk
    rw [M54_3_s]
    simp only [M54_2]
    by_cases hlt : k < xs.length
    · obtain ⟨id, off, h1, h2⟩ := int_at h (nth_lt hlt)
      rw [drop_cons hlt]
      simp only [show decide ((k : Int) < (xs.length : Int)) = true by simpa using hlt, cond_true, h1, h2, Option.bind_some, findG]
      cases e : (x == xs[k]) with
      | true => rfl
      | false =>
        simp only [cond_false]
        have hw : IntKind.i64.wrap ((k : Int) + 1) = ((k + 1 : Nat) : Int) := by
          unfold NN at hl
          rw [show IntKind.i64.wrap ((k : Int) + 1) = (k : Int) + 1 by unfold IntKind.wrap; simp [IntKind.signed, IntKind.bits]; omega]; simp
        rw [hw, ih (k + 1) (by omega)]
    · rw [List.drop_eq_nil_of_le (by omega)]
      simp only [show decide ((k : Int) < (xs.length : Int)) = false by simpa using hlt, cond_false, findG]

theorem E54 (ho : ∀ f, FSound Try.prog f (o f)) : FSound Try.prog 54 (pureO Sindex) := (M54_sound ho NN).pure _ (by
  intro vs H v hw h
  unfold Sindex at h
  split at h
  · rename_i s x
    rw [Option.bind_eq_some_iff] at h
    obtain ⟨xs, hx, h⟩ := h
    obtain ⟨hl, h⟩ := ofCondO h
    simp only [decide_eq_true_eq] at hl
    cases h
    refine ⟨trivial, ?_⟩
    simp only [M54, M54_0, M54_1, rdL_len hx]
    rw [show (0 : Int) = ((0 : Nat) : Int) from rfl, loop54 hx hl NN 0 (by omega)]
    simp only [List.drop_zero, idxI, M54_5]
    cases findG (fun y => x == y) xs 0 <;> exact Ends.ret
  · cases h)

end
end Go.Proofs.Ytminfdcdmgpnjaa.K
