/- How NodeStands and what it asks first go, out of their parts. -/
import Derived.Test.YtfcmdgdjifoecaaGreatMc1
import Derived.Test.YtfcmdgdjifoecaaGreatK23
set_option linter.unusedVariables false
namespace Go.Proofs.YtfcmdgdjifoecaaGreat.K
open Go
theorem lvS_eq (M : FnM) (vs : List V) (H : Heap) (K : V → Heap → Ans) : lvS M vs H K = M vs H fun v H' => K v ⟨H'.next, keep H.next H'.bl⟩ := rfl
theorem flow24 {o : Orc} {N : Nat} {κ : Kv} {p : V} {H0 q0 qz : Heap} {f : Int} {r : Ans}
    (hs : ∀ J, M24_1 o N (fun x1 H => M24_2 o N (fun x1 x2 H => M24_3 o N J κ x1 x2 H) κ x1 H) κ H0 = J p false q0) (hl : ∀ X, M24_8 o N X κ N p (-1) 0 q0 = X p f qz) (he : M24_10 o N κ p f qz = r) :
    M24 o N [] H0 κ = r := by
  simp only [M24, M24_0, hs, M24_4, cond_false, M24_5, M24_6, hl, he]
theorem flow7 {o : Orc} {N : Nat} {κ : Kv} {p : V} {H0 H1 H2 Hz : Heap} {x r f z : Int} {a : Ans} (h24 : ∀ K, o 24 [] H0 K = K (.bool true) H1) (hr : IntKind.i64.wrap (Int.tmod x 2) = r)
    (hs : ∀ J, M7_3 o N J κ r H1 = J r p H2) (hl : ∀ X, M7_7 o N X κ N r p (-1) 0 0 H2 = X r p f z Hz) (he : M7_10 o N κ r p f z Hz = a) : M7 o N [.int .u8 x] H0 κ = a := by
  simp only [M7, M7_0, M7_1, h24, asB, Bool.not_true, cond_false, M7_2, hr, hs, M7_4, M7_5, hl, he]
end Go.Proofs.YtfcmdgdjifoecaaGreat.K
