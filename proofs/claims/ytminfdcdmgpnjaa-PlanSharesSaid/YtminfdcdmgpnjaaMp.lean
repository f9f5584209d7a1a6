/- Printed: runs of functions. -/
import Derived.Test.YtminfdcdmgpnjaaK20
set_option linter.unusedVariables false
set_option maxRecDepth 100000
noncomputable section
namespace Go.Proofs.Ytminfdcdmgpnjaa.K
open Go
/-! 4 ostinato/ostinatolaw15.PlanShares -/
def M4_0 (o : Orc) (N : Nat) (J : Nat → Heap → Ans) (κ : Kv) (x0 : List V) (H : Heap) : Ans :=
  cond (List.all x0 V.one) (
  newB H (.row x0) fun i1 H2 =>
  J i1 H2) none
theorem M4_0_ok {o : Orc} {N : Nat} {κ : Kv} {J : Kt} {J' : Nat → Heap → Ans} (hJ : ∀ x1 H, J (tmk 0 176 [(1, .ptr x1 0)]) H = J' x1 H) (x0 : List V) (H : Heap) :
    run Try.prog o N (cAt Try.f4 [0]) .n (env0 Try.prog Try.f4 κ) (tmk 0 176 [(0, .agg x0)]) H (kj [1] J) = M4_0 o N J' κ x0 H := by
  obtain rfl := fx2 hJ
  kernel_rfl
def M4_1 (o : Orc) (N : Nat) (J : Nat → Heap → Ans) (κ : Kv) (x1 : Nat) (H : Heap) : Ans :=
  o 9 [] H fun v3 H4 =>
  asB v3 fun b5 =>
  cond (!b5) (
  κ (.bool false) H4) (
  J x1 H4)
theorem M4_1_ok {o : Orc} {N : Nat} {κ : Kv} {J : Kt} {J' : Nat → Heap → Ans} (hJ : ∀ x1 H, J (tmk 0 176 [(1, .ptr x1 0)]) H = J' x1 H) (x1 : Nat) (H : Heap) :
    run Try.prog o N (cAt Try.f4 [1, 0]) .n (env0 Try.prog Try.f4 κ) (tmk 0 176 [(1, .ptr x1 0)]) H (kj [1] J) = M4_1 o N J' κ x1 H := by
  obtain rfl := fx2 hJ
  kernel_rfl
def M4_2 (o : Orc) (N : Nat) (J : Nat → Heap → Ans) (κ : Kv) (x1 : Nat) (H : Heap) : Ans :=
  ldFlat H x1 [.int .i64, .int .i64, .int .i64, .int .i64, .int .i64, .int .i64, .int .i64, .int .u32, .oth, .oth, .oth] 0 fun l6 =>
  o 10 [(.agg l6)] H fun v7 H8 =>
  asB v7 fun b9 =>
  cond (!b9) (
  κ (.bool true) H8) (
  ldFlat H8 x1 [.int .i64, .int .i64, .int .i64, .int .i64, .int .i64, .int .i64, .int .i64, .int .u32, .oth, .oth, .oth] 0 fun l10 =>
  o 18 [(.agg l10)] H8 fun v11 H12 =>
  asB v11 fun b13 =>
  cond (!b13) (
  κ (.bool true) H12) (
  J x1 H12))
theorem M4_2_ok {o : Orc} {N : Nat} {κ : Kv} {J : Kt} {J' : Nat → Heap → Ans} (hJ : ∀ x1 H, J (tmk 0 176 [(1, .ptr x1 0)]) H = J' x1 H) (x1 : Nat) (H : Heap) :
    run Try.prog o N (cAt Try.f4 [1, 1, 0]) .n (env0 Try.prog Try.f4 κ) (tmk 0 176 [(1, .ptr x1 0)]) H (kj [1] J) = M4_2 o N J' κ x1 H := by
  obtain rfl := fx2 hJ
  kernel_rfl
def M4_3 (o : Orc) (N : Nat) (J : Nat → Int → Heap → Ans) (κ : Kv) (x1 : Nat) (H : Heap) : Ans :=
  ldFlat H x1 [.int .i64, .int .i64, .int .i64, .int .i64, .int .i64, .int .i64, .int .i64, .int .u32, .oth, .oth, .oth] 0 fun l14 =>
  o 19 [(.agg l14)] H fun v15 H16 =>
  asT2 v15 fun v17 v18 =>
  asI .i64 v17 fun n19 =>
  asI .i64 v18 fun n20 =>
  J x1 n20 H16
theorem M4_3_ok {o : Orc} {N : Nat} {κ : Kv} {J : Kt} {J' : Nat → Int → Heap → Ans} (hJ : ∀ x1 x4 H, J (tmk 0 176 [(1, .ptr x1 0), (4, .int .i64 x4)]) H = J' x1 x4 H) (x1 : Nat) (H : Heap) :
    run Try.prog o N (cAt Try.f4 [1, 1, 1, 0]) .n (env0 Try.prog Try.f4 κ) (tmk 0 176 [(1, .ptr x1 0)]) H (kj [1, 4] J) = M4_3 o N J' κ x1 H := by
  obtain rfl := fx3 hJ
  kernel_rfl
def M4_4 (o : Orc) (N : Nat) (J : Nat → Heap → Ans) (κ : Kv) (x1 : Nat) (x4 : Int) (H : Heap) : Ans :=
  cond (x4 != 0) (
  ldFlat H x1 [.int .i64, .int .i64, .int .i64, .int .i64, .int .i64, .int .i64, .int .i64, .int .u32, .oth, .oth, .oth] 0 fun l21 =>
  o 12 [(.agg l21), (.int .i64 0)] H fun v22 H23 =>
  lenS v22 fun n24 =>
  κ (.bool (n24 == 0)) H23) (
  J x1 H)
theorem M4_4_ok {o : Orc} {N : Nat} {κ : Kv} {J : Kt} {J' : Nat → Heap → Ans} (hJ : ∀ x1 H, J (tmk 0 176 [(1, .ptr x1 0)]) H = J' x1 H) (x1 : Nat) (x4 : Int) (H : Heap) :
    run Try.prog o N (cAt Try.f4 [1, 1, 1, 1, 0]) .n (env0 Try.prog Try.f4 κ) (tmk 0 176 [(1, .ptr x1 0), (4, .int .i64 x4)]) H (kj [1] J) = M4_4 o N J' κ x1 x4 H := by
  obtain rfl := fx2 hJ
  kernel_rfl
def M4_5 (o : Orc) (N : Nat) (J : Nat → Int → Int → Heap → Ans) (κ : Kv) (x1 : Nat) (H : Heap) : Ans :=
  J x1 0 0 H
theorem M4_5_ok {o : Orc} {N : Nat} {κ : Kv} {J : Kt} {J' : Nat → Int → Int → Heap → Ans} (hJ : ∀ x1 x5 x6 H, J (tmk 0 176 [(1, .ptr x1 0), (5, .int .i64 x5), (6, .int .i64 x6)]) H = J' x1 x5 x6 H) (x1 : Nat) (H : Heap) :
    run Try.prog o N (cAt Try.f4 [1, 1, 1, 1, 1, 0]) .n (env0 Try.prog Try.f4 κ) (tmk 0 176 [(1, .ptr x1 0)]) H (kj [1, 5, 6] J) = M4_5 o N J' κ x1 H := by
  obtain rfl := fx4 hJ
  kernel_rfl
def M4_6 (o : Orc) (N : Nat) (J : Nat → Int → Int → Int → Heap → Ans) (κ : Kv) (x1 : Nat) (x5 x6 : Int) (H : Heap) : Ans :=
  J x1 x5 x6 0 H
theorem M4_6_ok {o : Orc} {N : Nat} {κ : Kv} {J : Kt} {J' : Nat → Int → Int → Int → Heap → Ans} (hJ : ∀ x1 x5 x6 x7 H, J (tmk 0 176 [(1, .ptr x1 0), (5, .int .i64 x5), (6, .int .i64 x6), (7, .int .i64 x7)]) H = J' x1 x5 x6 x7 H) (x1 : Nat) (x5 x6 : Int) (H : Heap) :
    run Try.prog o N (cAt Try.f4 [1, 1, 1, 1, 1, 1, 0, 0]) .n (env0 Try.prog Try.f4 κ) (tmk 0 176 [(1, .ptr x1 0), (5, .int .i64 x5), (6, .int .i64 x6)]) H (kj [1, 5, 6, 7] J) = M4_6 o N J' κ x1 x5 x6 H := by
  obtain rfl := fx5 hJ
  kernel_rfl
def M4_7 (o : Orc) (N : Nat) (X0 : Nat → Int → Int → Heap → Ans) (J : Nat → Int → Int → Int → Heap → Ans) (κ : Kv) (x1 : Nat) (x5 x6 x7 : Int) (H : Heap) : Ans :=
  (ldV H x1 10).bind fun v25 =>
  lenS v25 fun n26 =>
  cond (decide (x7 < n26)) (
  (ldV H x1 10).bind fun v27 =>
  idxS 6 v27 x7 fun p28 o29 =>
  (ldI H .i64 p28 (o29 + 0)).bind fun n30 =>
  cond (n30 == 1) (
  (ldV H x1 10).bind fun v31 =>
  idxS 6 v31 x7 fun p32 o33 =>
  (ldI H .i64 p32 (o33 + 0)).bind fun n34 =>
  cond (n34 == 2) (
  J x1 (IntKind.i64.wrap (x5 + 1)) (IntKind.i64.wrap (x6 + 1)) (IntKind.i64.wrap (x7 + 1)) H) (
  J x1 (IntKind.i64.wrap (x5 + 1)) x6 (IntKind.i64.wrap (x7 + 1)) H)) (
  (ldV H x1 10).bind fun v35 =>
  idxS 6 v35 x7 fun p36 o37 =>
  (ldI H .i64 p36 (o37 + 0)).bind fun n38 =>
  cond (n38 == 2) (
  J x1 x5 (IntKind.i64.wrap (x6 + 1)) (IntKind.i64.wrap (x7 + 1)) H) (
  J x1 x5 x6 (IntKind.i64.wrap (x7 + 1)) H))) (
  X0 x1 x5 x6 H)
theorem M4_7_ok {o : Orc} {N : Nat} {κ : Kv} {X0 J : Kt} {X0' : Nat → Int → Int → Heap → Ans} {J' : Nat → Int → Int → Int → Heap → Ans} (h0 : ∀ x1 x5 x6 H, X0 (tmk 0 176 [(1, .ptr x1 0), (5, .int .i64 x5), (6, .int .i64 x6)]) H = X0' x1 x5 x6 H) (hJ : ∀ x1 x5 x6 x7 H, J (tmk 0 176 [(1, .ptr x1 0), (5, .int .i64 x5), (6, .int .i64 x6), (7, .int .i64 x7)]) H = J' x1 x5 x6 x7 H) (x1 : Nat) (x5 x6 x7 : Int) (H : Heap) :
    run Try.prog o N (cAt Try.f4 [1, 1, 1, 1, 1, 1, 0, 1, 4, 4]) .n ((env0 Try.prog Try.f4 κ).block 0 (kj [1, 5, 6] X0)) (tmk 0 176 [(1, .ptr x1 0), (5, .int .i64 x5), (6, .int .i64 x6), (7, .int .i64 x7)]) H (kj [1, 5, 6, 7] J) = M4_7 o N X0' J' κ x1 x5 x6 x7 H := by
  obtain rfl := fx4 h0
  obtain rfl := fx5 hJ
  kernel_rfl
def M4_8 (o : Orc) (N : Nat) (X0 : Nat → Int → Int → Heap → Ans) (κ : Kv) (n : Nat) : Nat → Int → Int → Int → Heap → Ans :=
  Nat.rec (motive := fun _ => Nat → Int → Int → Int → Heap → Ans) (fun _ _ _ _ _ => none) (fun _ ih x1 x5 x6 x7 H => M4_7 o N X0 ih κ x1 x5 x6 x7 H) n
theorem M4_8_s (o : Orc) (N : Nat) (X0 : Nat → Int → Int → Heap → Ans) (κ : Kv) (n : Nat) (x1 : Nat) (x5 x6 x7 : Int) (H : Heap) : M4_8 o N X0 κ (n + 1) x1 x5 x6 x7 H = M4_7 o N X0 (M4_8 o N X0 κ n) κ x1 x5 x6 x7 H := rfl
theorem M4_8_ok {o : Orc} {N : Nat} {κ : Kv} {X0 : Kt} {X0' : Nat → Int → Int → Heap → Ans} (h0 : ∀ x1 x5 x6 H, X0 (tmk 0 176 [(1, .ptr x1 0), (5, .int .i64 x5), (6, .int .i64 x6)]) H = X0' x1 x5 x6 H) (n : Nat) : ∀ (x1 : Nat) (x5 x6 x7 : Int) (H : Heap),
    rounds (fun a H k => run Try.prog o N (cAt Try.f4 [1, 1, 1, 1, 1, 1, 0, 1, 4, 4]) .n ((env0 Try.prog Try.f4 κ).block 0 (kj [1, 5, 6] X0)) a H k) (some (lvOf [1, 5, 6, 7])) n (tmk 0 176 [(1, .ptr x1 0), (5, .int .i64 x5), (6, .int .i64 x6), (7, .int .i64 x7)]) H = M4_8 o N X0' κ n x1 x5 x6 x7 H := by
  induction n with
  | zero => intros; rfl
  | succ n ih =>
    intro x1 x5 x6 x7 H
    refine (run_round.trans ?_).trans (M4_8_s ..).symm
    exact M4_7_ok h0 ih x1 x5 x6 x7 H
def A4_9 : An := .b none (.l (some (lvOf [1, 5, 6, 7])) .n)
def M4_10 (o : Orc) (N : Nat) (J : Nat → Int → Int → Nat → Heap → Ans) (κ : Kv) (x1 : Nat) (x5 x6 : Int) (H : Heap) : Ans :=
  newB H (.row [(.int .i64 0), (.int .i64 0), (.int .i64 0), (.int .i64 0), (.int .i64 0), (.int .i64 0)]) fun i39 H40 =>
  J x1 x5 x6 i39 H40
theorem M4_10_ok {o : Orc} {N : Nat} {κ : Kv} {J : Kt} {J' : Nat → Int → Int → Nat → Heap → Ans} (hJ : ∀ x1 x5 x6 x8 H, J (tmk 0 176 [(1, .ptr x1 0), (5, .int .i64 x5), (6, .int .i64 x6), (8, .ptr x8 0)]) H = J' x1 x5 x6 x8 H) (x1 : Nat) (x5 x6 : Int) (H : Heap) :
    run Try.prog o N (cAt Try.f4 [1, 1, 1, 1, 1, 1, 1, 0]) .n (env0 Try.prog Try.f4 κ) (tmk 0 176 [(1, .ptr x1 0), (5, .int .i64 x5), (6, .int .i64 x6)]) H (kj [1, 5, 6, 8] J) = M4_10 o N J' κ x1 x5 x6 H := by
  obtain rfl := fx5 hJ
  kernel_rfl
def M4_11 (o : Orc) (N : Nat) (J : Nat → Int → Int → Nat → Int → Heap → Ans) (κ : Kv) (x1 : Nat) (x5 x6 : Int) (x8 : Nat) (H : Heap) : Ans :=
  J x1 x5 x6 x8 0 H
theorem M4_11_ok {o : Orc} {N : Nat} {κ : Kv} {J : Kt} {J' : Nat → Int → Int → Nat → Int → Heap → Ans} (hJ : ∀ x1 x5 x6 x8 x9 H, J (tmk 0 176 [(1, .ptr x1 0), (5, .int .i64 x5), (6, .int .i64 x6), (8, .ptr x8 0), (9, .int .i64 x9)]) H = J' x1 x5 x6 x8 x9 H) (x1 : Nat) (x5 x6 : Int) (x8 : Nat) (H : Heap) :
    run Try.prog o N (cAt Try.f4 [1, 1, 1, 1, 1, 1, 1, 1, 0, 0]) .n (env0 Try.prog Try.f4 κ) (tmk 0 176 [(1, .ptr x1 0), (5, .int .i64 x5), (6, .int .i64 x6), (8, .ptr x8 0)]) H (kj [1, 5, 6, 8, 9] J) = M4_11 o N J' κ x1 x5 x6 x8 H := by
  obtain rfl := fx6 hJ
  kernel_rfl
def M4_12 (o : Orc) (N : Nat) (X2 : Nat → Int → Int → Nat → Heap → Ans) (J : Nat → Int → Int → Nat → Int → Heap → Ans) (κ : Kv) (x1 : Nat) (x5 x6 : Int) (x8 : Nat) (x9 : Int) (H : Heap) : Ans :=
  (ldI H .i64 x1 1).bind fun n41 =>
  cond (decide (x9 < n41)) (
  J x1 x5 x6 x8 x9 H) (
  X2 x1 x5 x6 x8 H)
theorem M4_12_ok {o : Orc} {N : Nat} {κ : Kv} {X2 J : Kt} {X2' : Nat → Int → Int → Nat → Heap → Ans} {J' : Nat → Int → Int → Nat → Int → Heap → Ans} (h2 : ∀ x1 x5 x6 x8 H, X2 (tmk 0 176 [(1, .ptr x1 0), (5, .int .i64 x5), (6, .int .i64 x6), (8, .ptr x8 0)]) H = X2' x1 x5 x6 x8 H) (hJ : ∀ x1 x5 x6 x8 x9 H, J (tmk 0 176 [(1, .ptr x1 0), (5, .int .i64 x5), (6, .int .i64 x6), (8, .ptr x8 0), (9, .int .i64 x9)]) H = J' x1 x5 x6 x8 x9 H) (x1 : Nat) (x5 x6 : Int) (x8 : Nat) (x9 : Int) (H : Heap) :
    run Try.prog o N (cAt Try.f4 [1, 1, 1, 1, 1, 1, 1, 1, 0, 1, 4, 4, 0]) .n ((env0 Try.prog Try.f4 κ).block 2 (kj [1, 5, 6, 8] X2)) (tmk 0 176 [(1, .ptr x1 0), (5, .int .i64 x5), (6, .int .i64 x6), (8, .ptr x8 0), (9, .int .i64 x9)]) H (kj [1, 5, 6, 8, 9] J) = M4_12 o N X2' J' κ x1 x5 x6 x8 x9 H := by
  obtain rfl := fx5 h2
  obtain rfl := fx6 hJ
  kernel_rfl
def M4_13 (o : Orc) (N : Nat) (J : Nat → Int → Int → Nat → Int → V → Heap → Ans) (κ : Kv) (x1 : Nat) (x5 x6 : Int) (x8 : Nat) (x9 : Int) (H : Heap) : Ans :=
  ldFlat H x1 [.int .i64, .int .i64, .int .i64, .int .i64, .int .i64, .int .i64, .int .i64, .int .u32, .oth, .oth, .oth] 0 fun l42 =>
  o 12 [(.agg l42), (.int .i64 x9)] H fun v43 H44 =>
  J x1 x5 x6 x8 x9 v43 H44
theorem M4_13_ok {o : Orc} {N : Nat} {κ : Kv} {X2 X3 J : Kt} {J' : Nat → Int → Int → Nat → Int → V → Heap → Ans} (hJ : ∀ x1 x5 x6 x8 x9 x10 H, J (tmk 0 176 [(1, .ptr x1 0), (5, .int .i64 x5), (6, .int .i64 x6), (8, .ptr x8 0), (9, .int .i64 x9), (10, x10)]) H = J' x1 x5 x6 x8 x9 x10 H) (x1 : Nat) (x5 x6 : Int) (x8 : Nat) (x9 : Int) (H : Heap) :
    run Try.prog o N (cAt Try.f4 [1, 1, 1, 1, 1, 1, 1, 1, 0, 1, 4, 4, 1, 0, 4, 0]) .n (((env0 Try.prog Try.f4 κ).block 2 (kj [1, 5, 6, 8] X2)).block 3 (kj [1, 5, 6, 8, 9] X3)) (tmk 0 176 [(1, .ptr x1 0), (5, .int .i64 x5), (6, .int .i64 x6), (8, .ptr x8 0), (9, .int .i64 x9)]) H (kj [1, 5, 6, 8, 9, 10] J) = M4_13 o N J' κ x1 x5 x6 x8 x9 H := by
  obtain rfl := fx7 hJ
  kernel_rfl
def M4_14 (o : Orc) (N : Nat) (J : Nat → Int → Int → Nat → Int → V → Int → Heap → Ans) (κ : Kv) (x1 : Nat) (x5 x6 : Int) (x8 : Nat) (x9 : Int) (x10 : V) (H : Heap) : Ans :=
  J x1 x5 x6 x8 x9 x10 0 H
theorem M4_14_ok {o : Orc} {N : Nat} {κ : Kv} {X2 X3 J : Kt} {J' : Nat → Int → Int → Nat → Int → V → Int → Heap → Ans} (hJ : ∀ x1 x5 x6 x8 x9 x10 x11 H, J (tmk 0 176 [(1, .ptr x1 0), (5, .int .i64 x5), (6, .int .i64 x6), (8, .ptr x8 0), (9, .int .i64 x9), (10, x10), (11, .int .i64 x11)]) H = J' x1 x5 x6 x8 x9 x10 x11 H) (x1 : Nat) (x5 x6 : Int) (x8 : Nat) (x9 : Int) (x10 : V) (H : Heap) :
    run Try.prog o N (cAt Try.f4 [1, 1, 1, 1, 1, 1, 1, 1, 0, 1, 4, 4, 1, 0, 4, 1, 0]) .n (((env0 Try.prog Try.f4 κ).block 2 (kj [1, 5, 6, 8] X2)).block 3 (kj [1, 5, 6, 8, 9] X3)) (tmk 0 176 [(1, .ptr x1 0), (5, .int .i64 x5), (6, .int .i64 x6), (8, .ptr x8 0), (9, .int .i64 x9), (10, x10)]) H (kj [1, 5, 6, 8, 9, 10, 11] J) = M4_14 o N J' κ x1 x5 x6 x8 x9 x10 H := by
  obtain rfl := fx8 hJ
  kernel_rfl
def M4_15 (o : Orc) (N : Nat) (X4 : Nat → Int → Int → Nat → Int → Heap → Ans) (J : Nat → Int → Int → Nat → Int → V → Int → Heap → Ans) (κ : Kv) (x1 : Nat) (x5 x6 : Int) (x8 : Nat) (x9 : Int) (x10 : V) (x11 : Int) (H : Heap) : Ans :=
  lenS x10 fun n45 =>
  cond (decide (x11 < n45)) (
  J x1 x5 x6 x8 x9 x10 x11 H) (
  X4 x1 x5 x6 x8 x9 H)
theorem M4_15_ok {o : Orc} {N : Nat} {κ : Kv} {X2 X3 X4 J : Kt} {X4' : Nat → Int → Int → Nat → Int → Heap → Ans} {J' : Nat → Int → Int → Nat → Int → V → Int → Heap → Ans} (h4 : ∀ x1 x5 x6 x8 x9 H, X4 (tmk 0 176 [(1, .ptr x1 0), (5, .int .i64 x5), (6, .int .i64 x6), (8, .ptr x8 0), (9, .int .i64 x9)]) H = X4' x1 x5 x6 x8 x9 H) (hJ : ∀ x1 x5 x6 x8 x9 x10 x11 H, J (tmk 0 176 [(1, .ptr x1 0), (5, .int .i64 x5), (6, .int .i64 x6), (8, .ptr x8 0), (9, .int .i64 x9), (10, x10), (11, .int .i64 x11)]) H = J' x1 x5 x6 x8 x9 x10 x11 H) (x1 : Nat) (x5 x6 : Int) (x8 : Nat) (x9 : Int) (x10 : V) (x11 : Int) (H : Heap) :
    run Try.prog o N (cAt Try.f4 [1, 1, 1, 1, 1, 1, 1, 1, 0, 1, 4, 4, 1, 0, 4, 1, 1, 4, 4, 0]) .n ((((env0 Try.prog Try.f4 κ).block 2 (kj [1, 5, 6, 8] X2)).block 3 (kj [1, 5, 6, 8, 9] X3)).block 4 (kj [1, 5, 6, 8, 9] X4)) (tmk 0 176 [(1, .ptr x1 0), (5, .int .i64 x5), (6, .int .i64 x6), (8, .ptr x8 0), (9, .int .i64 x9), (10, x10), (11, .int .i64 x11)]) H (kj [1, 5, 6, 8, 9, 10, 11] J) = M4_15 o N X4' J' κ x1 x5 x6 x8 x9 x10 x11 H := by
  obtain rfl := fx6 h4
  obtain rfl := fx8 hJ
  kernel_rfl
def A4_16 : An := (.d [0, 1, 2, 3, 4, 5, 6, 7, 8, 9, 10, 11, 12, 13, 14, 15, 16, 17, 18, 19, 20, 21, 22, 23, 24, 25, 26, 27, 28, 29, 30, 31, 32, 33, 34, 35, 36, 37, 38, 39, 40, 41, 42, 43, 44, 45, 46, 47, 48, 49, 50, 51, 52, 53, 54])
def M4_17 (o : Orc) (N : Nat) (J : Nat → Int → Int → Nat → Int → V → Int → Bool → Heap → Ans) (κ : Kv) (x1 : Nat) (x5 x6 : Int) (x8 : Nat) (x9 : Int) (x10 : V) (x11 : Int) (H : Heap) : Ans :=
  idxS 6 x10 x11 fun p46 o47 =>
  (ldI (Heap.skip H 55) .i64 p46 (o47 + 0)).bind fun n48 =>
  cond (decide (n48 < 1)) (
  J x1 x5 x6 x8 x9 x10 x11 true (Heap.skip H 55)) (
  idxS 6 x10 x11 fun p49 o50 =>
  (ldI (Heap.skip H 55) .i64 p49 (o50 + 0)).bind fun n51 =>
  cond (decide (n51 > 5)) (
  J x1 x5 x6 x8 x9 x10 x11 true (Heap.skip H 55)) (
  cond (decide (x11 > 0)) (
  idxS 6 x10 (IntKind.i64.wrap (x11 - 1)) fun p52 o53 =>
  (ldI (Heap.skip H 55) .i64 p52 (o53 + 1)).bind fun n54 =>
  idxS 6 x10 x11 fun p55 o56 =>
  (ldI (Heap.skip H 55) .i64 p55 (o56 + 1)).bind fun n57 =>
  cond (decide (n54 > n57)) (
  J x1 x5 x6 x8 x9 x10 x11 true (Heap.skip H 55)) (
  idxS 6 x10 x11 fun p58 o59 =>
  (ldI (Heap.skip H 55) .i64 p58 (o59 + 5)).bind fun n60 =>
  idxS 6 x10 x11 fun p61 o62 =>
  (ldI (Heap.skip H 55) .i64 p61 (o62 + 0)).bind fun n63 =>
  cond (n63 == 1) (
  J x1 x5 x6 x8 x9 x10 x11 (!((n60 != 0) == true)) (Heap.skip H 55)) (
  idxS 6 x10 x11 fun p64 o65 =>
  (ldI (Heap.skip H 55) .i64 p64 (o65 + 0)).bind fun n66 =>
  J x1 x5 x6 x8 x9 x10 x11 (!((n60 != 0) == (n66 == 2))) (Heap.skip H 55)))) (
  idxS 6 x10 x11 fun p67 o68 =>
  (ldI (Heap.skip H 55) .i64 p67 (o68 + 5)).bind fun n69 =>
  idxS 6 x10 x11 fun p70 o71 =>
  (ldI (Heap.skip H 55) .i64 p70 (o71 + 0)).bind fun n72 =>
  cond (n72 == 1) (
  J x1 x5 x6 x8 x9 x10 x11 (!((n69 != 0) == true)) (Heap.skip H 55)) (
  idxS 6 x10 x11 fun p73 o74 =>
  (ldI (Heap.skip H 55) .i64 p73 (o74 + 0)).bind fun n75 =>
  J x1 x5 x6 x8 x9 x10 x11 (!((n69 != 0) == (n75 == 2))) (Heap.skip H 55)))))
theorem M4_17_ok {o : Orc} {N : Nat} {κ : Kv} {X2 X3 X4 X5 J : Kt} {J' : Nat → Int → Int → Nat → Int → V → Int → Bool → Heap → Ans} (hJ : ∀ x1 x5 x6 x8 x9 x10 x11 x127 H, J (tmk 0 176 [(1, .ptr x1 0), (5, .int .i64 x5), (6, .int .i64 x6), (8, .ptr x8 0), (9, .int .i64 x9), (10, x10), (11, .int .i64 x11), (127, .bool x127)]) H = J' x1 x5 x6 x8 x9 x10 x11 x127 H) (x1 : Nat) (x5 x6 : Int) (x8 : Nat) (x9 : Int) (x10 : V) (x11 : Int) (H : Heap) :
    run Try.prog o N (cAt Try.f4 [1, 1, 1, 1, 1, 1, 1, 1, 0, 1, 4, 4, 1, 0, 4, 1, 1, 4, 4, 1, 0, 4, 0, 0]) A4_16 (((((env0 Try.prog Try.f4 κ).block 2 (kj [1, 5, 6, 8] X2)).block 3 (kj [1, 5, 6, 8, 9] X3)).block 4 (kj [1, 5, 6, 8, 9] X4)).block 5 (kj [1, 5, 6, 8, 9, 10, 11] X5)) (tmk 0 176 [(1, .ptr x1 0), (5, .int .i64 x5), (6, .int .i64 x6), (8, .ptr x8 0), (9, .int .i64 x9), (10, x10), (11, .int .i64 x11)]) H (kj [1, 5, 6, 8, 9, 10, 11, 127] J) = M4_17 o N J' κ x1 x5 x6 x8 x9 x10 x11 H := by
  obtain rfl := fx9 hJ
  kernel_rfl
def M4_18 (o : Orc) (N : Nat) (J : Nat → Int → Int → Nat → Int → V → Int → Heap → Ans) (κ : Kv) (x1 : Nat) (x5 x6 : Int) (x8 : Nat) (x9 : Int) (x10 : V) (x11 : Int) (x127 : Bool) (H : Heap) : Ans :=
  cond x127 (
  κ (.bool false) H) (
  J x1 x5 x6 x8 x9 x10 x11 H)
theorem M4_18_ok {o : Orc} {N : Nat} {κ : Kv} {X2 X3 X4 X5 J : Kt} {J' : Nat → Int → Int → Nat → Int → V → Int → Heap → Ans} (hJ : ∀ x1 x5 x6 x8 x9 x10 x11 H, J (tmk 0 176 [(1, .ptr x1 0), (5, .int .i64 x5), (6, .int .i64 x6), (8, .ptr x8 0), (9, .int .i64 x9), (10, x10), (11, .int .i64 x11)]) H = J' x1 x5 x6 x8 x9 x10 x11 H) (x1 : Nat) (x5 x6 : Int) (x8 : Nat) (x9 : Int) (x10 : V) (x11 : Int) (x127 : Bool) (H : Heap) :
    run Try.prog o N (cAt Try.f4 [1, 1, 1, 1, 1, 1, 1, 1, 0, 1, 4, 4, 1, 0, 4, 1, 1, 4, 4, 1, 0, 4, 0, 1]) .n (((((env0 Try.prog Try.f4 κ).block 2 (kj [1, 5, 6, 8] X2)).block 3 (kj [1, 5, 6, 8, 9] X3)).block 4 (kj [1, 5, 6, 8, 9] X4)).block 5 (kj [1, 5, 6, 8, 9, 10, 11] X5)) (tmk 0 176 [(1, .ptr x1 0), (5, .int .i64 x5), (6, .int .i64 x6), (8, .ptr x8 0), (9, .int .i64 x9), (10, x10), (11, .int .i64 x11), (127, .bool x127)]) H (kj [1, 5, 6, 8, 9, 10, 11] J) = M4_18 o N J' κ x1 x5 x6 x8 x9 x10 x11 x127 H := by
  obtain rfl := fx8 hJ
  kernel_rfl
def A4_19 : An := .s A4_16 (some (lvOf [1, 5, 6, 8, 9, 10, 11, 127])) .n
def M4_20 (o : Orc) (N : Nat) (J : Nat → Int → Int → Nat → Int → V → Int → Heap → Ans) (κ : Kv) (x1 : Nat) (x5 x6 : Int) (x8 : Nat) (x9 : Int) (x10 : V) (x11 : Int) (H : Heap) : Ans :=
  idxS 6 x10 x11 fun p76 o77 =>
  (ldI H .i64 p76 (o77 + 0)).bind fun n78 =>
  cond (decide (0 ≤ n78) && decide (n78 < (6 : Nat)) && Nat.blt 0 1) (
  (ldI H .i64 x8 (0 + Int.toNat n78 * 1)).bind fun n79 =>
  cond (decide (0 ≤ n78) && decide (n78 < (6 : Nat)) && Nat.blt 0 1) (
  (stN H x8 (0 + Int.toNat n78 * 1) [(.int .i64 (IntKind.i64.wrap (n79 + 1)))]).bind fun H80 =>
  J x1 x5 x6 x8 x9 x10 x11 H80) none) none
theorem M4_20_ok {o : Orc} {N : Nat} {κ : Kv} {X2 X3 X4 X5 J : Kt} {J' : Nat → Int → Int → Nat → Int → V → Int → Heap → Ans} (hJ : ∀ x1 x5 x6 x8 x9 x10 x11 H, J (tmk 0 176 [(1, .ptr x1 0), (5, .int .i64 x5), (6, .int .i64 x6), (8, .ptr x8 0), (9, .int .i64 x9), (10, x10), (11, .int .i64 x11)]) H = J' x1 x5 x6 x8 x9 x10 x11 H) (x1 : Nat) (x5 x6 : Int) (x8 : Nat) (x9 : Int) (x10 : V) (x11 : Int) (H : Heap) :
    run Try.prog o N (cAt Try.f4 [1, 1, 1, 1, 1, 1, 1, 1, 0, 1, 4, 4, 1, 0, 4, 1, 1, 4, 4, 1, 0, 4, 1]) .n (((((env0 Try.prog Try.f4 κ).block 2 (kj [1, 5, 6, 8] X2)).block 3 (kj [1, 5, 6, 8, 9] X3)).block 4 (kj [1, 5, 6, 8, 9] X4)).block 5 (kj [1, 5, 6, 8, 9, 10, 11] X5)) (tmk 0 176 [(1, .ptr x1 0), (5, .int .i64 x5), (6, .int .i64 x6), (8, .ptr x8 0), (9, .int .i64 x9), (10, x10), (11, .int .i64 x11)]) H (kj [1, 5, 6, 8, 9, 10, 11] J) = M4_20 o N J' κ x1 x5 x6 x8 x9 x10 x11 H := by
  obtain rfl := fx8 hJ
  kernel_rfl
def A4_21 : An := .s A4_19 (some (lvOf [1, 5, 6, 8, 9, 10, 11])) .n
def M4_22 (o : Orc) (N : Nat) (J : Nat → Int → Int → Nat → Int → V → Int → Heap → Ans) (κ : Kv) (x1 : Nat) (x5 x6 : Int) (x8 : Nat) (x9 : Int) (x10 : V) (x11 : Int) (H : Heap) : Ans :=
  J x1 x5 x6 x8 x9 x10 (IntKind.i64.wrap (x11 + 1)) H
theorem M4_22_ok {o : Orc} {N : Nat} {κ : Kv} {X2 X3 X4 J : Kt} {J' : Nat → Int → Int → Nat → Int → V → Int → Heap → Ans} (hJ : ∀ x1 x5 x6 x8 x9 x10 x11 H, J (tmk 0 176 [(1, .ptr x1 0), (5, .int .i64 x5), (6, .int .i64 x6), (8, .ptr x8 0), (9, .int .i64 x9), (10, x10), (11, .int .i64 x11)]) H = J' x1 x5 x6 x8 x9 x10 x11 H) (x1 : Nat) (x5 x6 : Int) (x8 : Nat) (x9 : Int) (x10 : V) (x11 : Int) (H : Heap) :
    run Try.prog o N (cAt Try.f4 [1, 1, 1, 1, 1, 1, 1, 1, 0, 1, 4, 4, 1, 0, 4, 1, 1, 4, 4, 1, 1]) .n ((((env0 Try.prog Try.f4 κ).block 2 (kj [1, 5, 6, 8] X2)).block 3 (kj [1, 5, 6, 8, 9] X3)).block 4 (kj [1, 5, 6, 8, 9] X4)) (tmk 0 176 [(1, .ptr x1 0), (5, .int .i64 x5), (6, .int .i64 x6), (8, .ptr x8 0), (9, .int .i64 x9), (10, x10), (11, .int .i64 x11)]) H (kj [1, 5, 6, 8, 9, 10, 11] J) = M4_22 o N J' κ x1 x5 x6 x8 x9 x10 x11 H := by
  obtain rfl := fx8 hJ
  kernel_rfl
def A4_23 : An := .s (.b none A4_21) (some (lvOf [1, 5, 6, 8, 9, 10, 11])) .n
def A4_24 : An := .s .n (some (lvOf [1, 5, 6, 8, 9, 10, 11])) A4_23
def A4_25 : An := .l (some (lvOf [1, 5, 6, 8, 9, 10, 11])) A4_24
def M4_26 (o : Orc) (N : Nat) (X4 : Nat → Int → Int → Nat → Int → Heap → Ans) (κ : Kv) (n : Nat) : Nat → Int → Int → Nat → Int → V → Int → Heap → Ans :=
  Nat.rec (motive := fun _ => Nat → Int → Int → Nat → Int → V → Int → Heap → Ans) (fun _ _ _ _ _ _ _ _ => none) (fun _ ih x1 x5 x6 x8 x9 x10 x11 H => M4_15 o N X4 (fun x1 x5 x6 x8 x9 x10 x11 H => M4_17 o N (fun x1 x5 x6 x8 x9 x10 x11 x127 H => M4_18 o N (fun x1 x5 x6 x8 x9 x10 x11 H => M4_20 o N (fun x1 x5 x6 x8 x9 x10 x11 H => M4_22 o N ih κ x1 x5 x6 x8 x9 x10 x11 H) κ x1 x5 x6 x8 x9 x10 x11 H) κ x1 x5 x6 x8 x9 x10 x11 x127 H) κ x1 x5 x6 x8 x9 x10 x11 H) κ x1 x5 x6 x8 x9 x10 x11 H) n
theorem M4_26_s (o : Orc) (N : Nat) (X4 : Nat → Int → Int → Nat → Int → Heap → Ans) (κ : Kv) (n : Nat) (x1 : Nat) (x5 x6 : Int) (x8 : Nat) (x9 : Int) (x10 : V) (x11 : Int) (H : Heap) : M4_26 o N X4 κ (n + 1) x1 x5 x6 x8 x9 x10 x11 H = M4_15 o N X4 (fun x1 x5 x6 x8 x9 x10 x11 H => M4_17 o N (fun x1 x5 x6 x8 x9 x10 x11 x127 H => M4_18 o N (fun x1 x5 x6 x8 x9 x10 x11 H => M4_20 o N (fun x1 x5 x6 x8 x9 x10 x11 H => M4_22 o N (M4_26 o N X4 κ n) κ x1 x5 x6 x8 x9 x10 x11 H) κ x1 x5 x6 x8 x9 x10 x11 H) κ x1 x5 x6 x8 x9 x10 x11 x127 H) κ x1 x5 x6 x8 x9 x10 x11 H) κ x1 x5 x6 x8 x9 x10 x11 H := rfl
theorem M4_26_ok {o : Orc} {N : Nat} {κ : Kv} {X2 X3 X4 : Kt} {X4' : Nat → Int → Int → Nat → Int → Heap → Ans} (h4 : ∀ x1 x5 x6 x8 x9 H, X4 (tmk 0 176 [(1, .ptr x1 0), (5, .int .i64 x5), (6, .int .i64 x6), (8, .ptr x8 0), (9, .int .i64 x9)]) H = X4' x1 x5 x6 x8 x9 H) (n : Nat) : ∀ (x1 : Nat) (x5 x6 : Int) (x8 : Nat) (x9 : Int) (x10 : V) (x11 : Int) (H : Heap),
    rounds (fun a H k => run Try.prog o N (cAt Try.f4 [1, 1, 1, 1, 1, 1, 1, 1, 0, 1, 4, 4, 1, 0, 4, 1, 1, 4, 4]) A4_24 ((((env0 Try.prog Try.f4 κ).block 2 (kj [1, 5, 6, 8] X2)).block 3 (kj [1, 5, 6, 8, 9] X3)).block 4 (kj [1, 5, 6, 8, 9] X4)) a H k) (some (lvOf [1, 5, 6, 8, 9, 10, 11])) n (tmk 0 176 [(1, .ptr x1 0), (5, .int .i64 x5), (6, .int .i64 x6), (8, .ptr x8 0), (9, .int .i64 x9), (10, x10), (11, .int .i64 x11)]) H = M4_26 o N X4' κ n x1 x5 x6 x8 x9 x10 x11 H := by
  induction n with
  | zero => intros; rfl
  | succ n ih =>
    intro x1 x5 x6 x8 x9 x10 x11 H
    refine (run_round.trans ?_).trans (M4_26_s ..).symm
    refine (run_seq (x := (cAt Try.f4 [1, 1, 1, 1, 1, 1, 1, 1, 0, 1, 4, 4, 1, 0, 4, 1, 1, 4, 4, 0])) (ax := .n) (y := (cAt Try.f4 [1, 1, 1, 1, 1, 1, 1, 1, 0, 1, 4, 4, 1, 0, 4, 1, 1, 4, 4, 1])) (ay := A4_23) (l := [1, 5, 6, 8, 9, 10, 11]) (by kernel_rfl) (by kernel_rfl)).trans ?_
    refine M4_15_ok h4 ?_ x1 x5 x6 x8 x9 x10 x11 H
    intro x1 x5 x6 x8 x9 x10 x11 H
    refine (run_seq (x := (cAt Try.f4 [1, 1, 1, 1, 1, 1, 1, 1, 0, 1, 4, 4, 1, 0, 4, 1, 1, 4, 4, 1, 0])) (ax := (.b none A4_21)) (y := (cAt Try.f4 [1, 1, 1, 1, 1, 1, 1, 1, 0, 1, 4, 4, 1, 0, 4, 1, 1, 4, 4, 1, 1])) (ay := .n) (l := [1, 5, 6, 8, 9, 10, 11]) (by kernel_rfl) (by kernel_rfl)).trans ?_
    refine (run_block (id := 5) (x := (cAt Try.f4 [1, 1, 1, 1, 1, 1, 1, 1, 0, 1, 4, 4, 1, 0, 4, 1, 1, 4, 4, 1, 0, 4])) (ax := A4_21) (by kernel_rfl) (by kernel_rfl)).trans ?_
    refine (run_seq (x := (cAt Try.f4 [1, 1, 1, 1, 1, 1, 1, 1, 0, 1, 4, 4, 1, 0, 4, 1, 1, 4, 4, 1, 0, 4, 0])) (ax := A4_19) (y := (cAt Try.f4 [1, 1, 1, 1, 1, 1, 1, 1, 0, 1, 4, 4, 1, 0, 4, 1, 1, 4, 4, 1, 0, 4, 1])) (ay := .n) (l := [1, 5, 6, 8, 9, 10, 11]) (by kernel_rfl) (by kernel_rfl)).trans ?_
    refine (run_seq (x := (cAt Try.f4 [1, 1, 1, 1, 1, 1, 1, 1, 0, 1, 4, 4, 1, 0, 4, 1, 1, 4, 4, 1, 0, 4, 0, 0])) (ax := A4_16) (y := (cAt Try.f4 [1, 1, 1, 1, 1, 1, 1, 1, 0, 1, 4, 4, 1, 0, 4, 1, 1, 4, 4, 1, 0, 4, 0, 1])) (ay := .n) (l := [1, 5, 6, 8, 9, 10, 11, 127]) (by kernel_rfl) (by kernel_rfl)).trans ?_
    refine M4_17_ok ?_ x1 x5 x6 x8 x9 x10 x11 H
    intro x1 x5 x6 x8 x9 x10 x11 x127 H
    refine M4_18_ok ?_ x1 x5 x6 x8 x9 x10 x11 x127 H
    intro x1 x5 x6 x8 x9 x10 x11 H
    refine M4_20_ok ?_ x1 x5 x6 x8 x9 x10 x11 H
    intro x1 x5 x6 x8 x9 x10 x11 H
    exact M4_22_ok ih x1 x5 x6 x8 x9 x10 x11 H
def A4_27 : An := .s .n (some (lvOf [1, 5, 6, 8, 9, 10, 11])) (.b none A4_25)
def A4_28 : An := .s .n (some (lvOf [1, 5, 6, 8, 9, 10])) A4_27
def M4_29 (o : Orc) (N : Nat) (J : Nat → Int → Int → Nat → Int → Heap → Ans) (κ : Kv) (x1 : Nat) (x5 x6 : Int) (x8 : Nat) (x9 : Int) (H : Heap) : Ans :=
  J x1 x5 x6 x8 (IntKind.i64.wrap (x9 + 1)) H
theorem M4_29_ok {o : Orc} {N : Nat} {κ : Kv} {X2 J : Kt} {J' : Nat → Int → Int → Nat → Int → Heap → Ans} (hJ : ∀ x1 x5 x6 x8 x9 H, J (tmk 0 176 [(1, .ptr x1 0), (5, .int .i64 x5), (6, .int .i64 x6), (8, .ptr x8 0), (9, .int .i64 x9)]) H = J' x1 x5 x6 x8 x9 H) (x1 : Nat) (x5 x6 : Int) (x8 : Nat) (x9 : Int) (H : Heap) :
    run Try.prog o N (cAt Try.f4 [1, 1, 1, 1, 1, 1, 1, 1, 0, 1, 4, 4, 1, 1]) .n ((env0 Try.prog Try.f4 κ).block 2 (kj [1, 5, 6, 8] X2)) (tmk 0 176 [(1, .ptr x1 0), (5, .int .i64 x5), (6, .int .i64 x6), (8, .ptr x8 0), (9, .int .i64 x9)]) H (kj [1, 5, 6, 8, 9] J) = M4_29 o N J' κ x1 x5 x6 x8 x9 H := by
  obtain rfl := fx6 hJ
  kernel_rfl
def A4_30 : An := .s (.b none A4_28) (some (lvOf [1, 5, 6, 8, 9])) .n
def A4_31 : An := .s .n (some (lvOf [1, 5, 6, 8, 9])) A4_30
def M4_32 (o : Orc) (N : Nat) (X2 : Nat → Int → Int → Nat → Heap → Ans) (κ : Kv) (n : Nat) : Nat → Int → Int → Nat → Int → Heap → Ans :=
  Nat.rec (motive := fun _ => Nat → Int → Int → Nat → Int → Heap → Ans) (fun _ _ _ _ _ _ => none) (fun _ ih x1 x5 x6 x8 x9 H => M4_12 o N X2 (fun x1 x5 x6 x8 x9 H => M4_13 o N (fun x1 x5 x6 x8 x9 x10 H => M4_14 o N (fun x1 x5 x6 x8 x9 x10 x11 H => M4_26 o N (fun x1 x5 x6 x8 x9 H => M4_29 o N ih κ x1 x5 x6 x8 x9 H) κ N x1 x5 x6 x8 x9 x10 x11 H) κ x1 x5 x6 x8 x9 x10 H) κ x1 x5 x6 x8 x9 H) κ x1 x5 x6 x8 x9 H) n
theorem M4_32_s (o : Orc) (N : Nat) (X2 : Nat → Int → Int → Nat → Heap → Ans) (κ : Kv) (n : Nat) (x1 : Nat) (x5 x6 : Int) (x8 : Nat) (x9 : Int) (H : Heap) : M4_32 o N X2 κ (n + 1) x1 x5 x6 x8 x9 H = M4_12 o N X2 (fun x1 x5 x6 x8 x9 H => M4_13 o N (fun x1 x5 x6 x8 x9 x10 H => M4_14 o N (fun x1 x5 x6 x8 x9 x10 x11 H => M4_26 o N (fun x1 x5 x6 x8 x9 H => M4_29 o N (M4_32 o N X2 κ n) κ x1 x5 x6 x8 x9 H) κ N x1 x5 x6 x8 x9 x10 x11 H) κ x1 x5 x6 x8 x9 x10 H) κ x1 x5 x6 x8 x9 H) κ x1 x5 x6 x8 x9 H := rfl
theorem M4_32_ok {o : Orc} {N : Nat} {κ : Kv} {X2 : Kt} {X2' : Nat → Int → Int → Nat → Heap → Ans} (h2 : ∀ x1 x5 x6 x8 H, X2 (tmk 0 176 [(1, .ptr x1 0), (5, .int .i64 x5), (6, .int .i64 x6), (8, .ptr x8 0)]) H = X2' x1 x5 x6 x8 H) (n : Nat) : ∀ (x1 : Nat) (x5 x6 : Int) (x8 : Nat) (x9 : Int) (H : Heap),
    rounds (fun a H k => run Try.prog o N (cAt Try.f4 [1, 1, 1, 1, 1, 1, 1, 1, 0, 1, 4, 4]) A4_31 ((env0 Try.prog Try.f4 κ).block 2 (kj [1, 5, 6, 8] X2)) a H k) (some (lvOf [1, 5, 6, 8, 9])) n (tmk 0 176 [(1, .ptr x1 0), (5, .int .i64 x5), (6, .int .i64 x6), (8, .ptr x8 0), (9, .int .i64 x9)]) H = M4_32 o N X2' κ n x1 x5 x6 x8 x9 H := by
  induction n with
  | zero => intros; rfl
  | succ n ih =>
    intro x1 x5 x6 x8 x9 H
    refine (run_round.trans ?_).trans (M4_32_s ..).symm
    refine (run_seq (x := (cAt Try.f4 [1, 1, 1, 1, 1, 1, 1, 1, 0, 1, 4, 4, 0])) (ax := .n) (y := (cAt Try.f4 [1, 1, 1, 1, 1, 1, 1, 1, 0, 1, 4, 4, 1])) (ay := A4_30) (l := [1, 5, 6, 8, 9]) (by kernel_rfl) (by kernel_rfl)).trans ?_
    refine M4_12_ok h2 ?_ x1 x5 x6 x8 x9 H
    intro x1 x5 x6 x8 x9 H
    refine (run_seq (x := (cAt Try.f4 [1, 1, 1, 1, 1, 1, 1, 1, 0, 1, 4, 4, 1, 0])) (ax := (.b none A4_28)) (y := (cAt Try.f4 [1, 1, 1, 1, 1, 1, 1, 1, 0, 1, 4, 4, 1, 1])) (ay := .n) (l := [1, 5, 6, 8, 9]) (by kernel_rfl) (by kernel_rfl)).trans ?_
    refine (run_block (id := 3) (x := (cAt Try.f4 [1, 1, 1, 1, 1, 1, 1, 1, 0, 1, 4, 4, 1, 0, 4])) (ax := A4_28) (by kernel_rfl) (by kernel_rfl)).trans ?_
    refine (run_seq (x := (cAt Try.f4 [1, 1, 1, 1, 1, 1, 1, 1, 0, 1, 4, 4, 1, 0, 4, 0])) (ax := .n) (y := (cAt Try.f4 [1, 1, 1, 1, 1, 1, 1, 1, 0, 1, 4, 4, 1, 0, 4, 1])) (ay := A4_27) (l := [1, 5, 6, 8, 9, 10]) (by kernel_rfl) (by kernel_rfl)).trans ?_
    refine M4_13_ok ?_ x1 x5 x6 x8 x9 H
    intro x1 x5 x6 x8 x9 x10 H
    refine (run_seq (x := (cAt Try.f4 [1, 1, 1, 1, 1, 1, 1, 1, 0, 1, 4, 4, 1, 0, 4, 1, 0])) (ax := .n) (y := (cAt Try.f4 [1, 1, 1, 1, 1, 1, 1, 1, 0, 1, 4, 4, 1, 0, 4, 1, 1])) (ay := (.b none A4_25)) (l := [1, 5, 6, 8, 9, 10, 11]) (by kernel_rfl) (by kernel_rfl)).trans ?_
    refine M4_14_ok ?_ x1 x5 x6 x8 x9 x10 H
    intro x1 x5 x6 x8 x9 x10 x11 H
    refine (run_block (id := 4) (x := (cAt Try.f4 [1, 1, 1, 1, 1, 1, 1, 1, 0, 1, 4, 4, 1, 0, 4, 1, 1, 4])) (ax := A4_25) (by kernel_rfl) (by kernel_rfl)).trans ?_
    refine (run_loop (x := (cAt Try.f4 [1, 1, 1, 1, 1, 1, 1, 1, 0, 1, 4, 4, 1, 0, 4, 1, 1, 4, 4])) (ax := A4_24) (l := [1, 5, 6, 8, 9, 10, 11]) (by kernel_rfl) (by kernel_rfl) (by kernel_rfl)).trans ?_
    refine M4_26_ok ?_ N x1 x5 x6 x8 x9 x10 x11 H
    intro x1 x5 x6 x8 x9 H
    exact M4_29_ok ih x1 x5 x6 x8 x9 H
def A4_33 : An := .b none (.l (some (lvOf [1, 5, 6, 8, 9])) A4_31)
def A4_34 : An := .s .n (some (lvOf [1, 5, 6, 8, 9])) A4_33
def M4_35 (o : Orc) (N : Nat) (J : Bool → Heap → Ans) (κ : Kv) (x1 : Nat) (x5 x6 : Int) (x8 : Nat) (H : Heap) : Ans :=
  cond (decide (0 ≤ 1) && decide (1 < (6 : Nat)) && Nat.blt 0 1) (
  (ldI H .i64 x8 (0 + Int.toNat 1 * 1)).bind fun n81 =>
  cond (n81 == x5) (
  cond (decide (0 ≤ 3) && decide (3 < (6 : Nat)) && Nat.blt 0 1) (
  (ldI H .i64 x8 (0 + Int.toNat 3 * 1)).bind fun n82 =>
  (ldI H .i64 x1 1).bind fun n83 =>
  cond (n82 == (IntKind.i64.wrap (x5 * (IntKind.i64.wrap (n83 - 1))))) (
  cond (decide (0 ≤ 2) && decide (2 < (6 : Nat)) && Nat.blt 0 1) (
  (ldI H .i64 x8 (0 + Int.toNat 2 * 1)).bind fun n84 =>
  (ldI H .i64 x1 1).bind fun n85 =>
  cond (n84 == (IntKind.i64.wrap (x6 * n85))) (
  cond (decide (0 ≤ 4) && decide (4 < (6 : Nat)) && Nat.blt 0 1) (
  (ldI H .i64 x8 (0 + Int.toNat 4 * 1)).bind fun n86 =>
  (ldV H x1 8).bind fun v87 =>
  lenS v87 fun n88 =>
  cond (n86 == (IntKind.i64.wrap (2 * n88))) (
  cond (decide (0 ≤ 5) && decide (5 < (6 : Nat)) && Nat.blt 0 1) (
  (ldI H .i64 x8 (0 + Int.toNat 5 * 1)).bind fun n89 =>
  (ldI H .i64 x1 1).bind fun n90 =>
  J (n89 == n90) H) none) (
  J false H)) none) (
  J false H)) none) (
  J false H)) none) (
  J false H)) none
theorem M4_35_ok {o : Orc} {N : Nat} {κ : Kv} {J : Kt} {J' : Bool → Heap → Ans} (hJ : ∀ x2 H, J (tmk 0 176 [(2, .bool x2)]) H = J' x2 H) (x1 : Nat) (x5 x6 : Int) (x8 : Nat) (H : Heap) :
    run Try.prog o N (cAt Try.f4 [1, 1, 1, 1, 1, 1, 1, 1, 1, 0]) .n (env0 Try.prog Try.f4 κ) (tmk 0 176 [(1, .ptr x1 0), (5, .int .i64 x5), (6, .int .i64 x6), (8, .ptr x8 0)]) H (kj [2] J) = M4_35 o N J' κ x1 x5 x6 x8 H := by
  obtain rfl := fx2 hJ
  kernel_rfl
def M4_36 (o : Orc) (N : Nat) (κ : Kv) (x2 : Bool) (H : Heap) : Ans :=
  κ (.bool x2) H
theorem M4_36_ok {o : Orc} {N : Nat} {κ : Kv} (x2 : Bool) (H : Heap) :
    run Try.prog o N (cAt Try.f4 [1, 1, 1, 1, 1, 1, 1, 1, 1, 1]) .n (env0 Try.prog Try.f4 κ) (tmk 0 176 [(2, .bool x2)]) H (env0 Try.prog Try.f4 κ).ret = M4_36 o N κ x2 H := by
  kernel_rfl
def A4_37 : An := .s A4_34 (some (lvOf [1, 5, 6, 8])) (.s .n (some (lvOf [2])) .n)
def A4_38 : An := .s (.s .n (some (lvOf [1, 5, 6, 7])) A4_9) (some (lvOf [1, 5, 6])) (.s .n (some (lvOf [1, 5, 6, 8])) A4_37)
def A4_39 : An := .s .n (some (lvOf [1])) (.s .n (some (lvOf [1, 5, 6])) A4_38)
def M4_40 (o : Orc) (N : Nat) (κ : Kv) (x1 : Nat) (H : Heap) : Ans :=
  M4_3 o N (fun x1 x4 H => M4_4 o N (fun x1 H => M4_5 o N (fun x1 x5 x6 H => M4_6 o N (fun x1 x5 x6 x7 H => M4_8 o N (fun x1 x5 x6 H => M4_10 o N (fun x1 x5 x6 x8 H => M4_11 o N (fun x1 x5 x6 x8 x9 H => M4_32 o N (fun x1 x5 x6 x8 H => M4_35 o N (fun x2 H => M4_36 o N κ x2 H) κ x1 x5 x6 x8 H) κ N x1 x5 x6 x8 x9 H) κ x1 x5 x6 x8 H) κ x1 x5 x6 H) κ N x1 x5 x6 x7 H) κ x1 x5 x6 H) κ x1 H) κ x1 x4 H) κ x1 H
theorem M4_40_ok {o : Orc} {N : Nat} {κ : Kv} (x1 : Nat) (H : Heap) :
    run Try.prog o N (cAt Try.f4 [1, 1, 1]) (.s .n (some (lvOf [1, 4])) A4_39) (env0 Try.prog Try.f4 κ) (tmk 0 176 [(1, .ptr x1 0)]) H (env0 Try.prog Try.f4 κ).ret = M4_40 o N κ x1 H := by
  refine (run_seq (x := (cAt Try.f4 [1, 1, 1, 0])) (ax := .n) (y := (cAt Try.f4 [1, 1, 1, 1])) (ay := A4_39) (l := [1, 4]) (by kernel_rfl) (by kernel_rfl)).trans ?_
  refine M4_3_ok ?_ x1 H
  intro x1 x4 H
  refine (run_seq (x := (cAt Try.f4 [1, 1, 1, 1, 0])) (ax := .n) (y := (cAt Try.f4 [1, 1, 1, 1, 1])) (ay := (.s .n (some (lvOf [1, 5, 6])) A4_38)) (l := [1]) (by kernel_rfl) (by kernel_rfl)).trans ?_
  refine M4_4_ok ?_ x1 x4 H
  intro x1 H
  refine (run_seq (x := (cAt Try.f4 [1, 1, 1, 1, 1, 0])) (ax := .n) (y := (cAt Try.f4 [1, 1, 1, 1, 1, 1])) (ay := A4_38) (l := [1, 5, 6]) (by kernel_rfl) (by kernel_rfl)).trans ?_
  refine M4_5_ok ?_ x1 H
  intro x1 x5 x6 H
  refine (run_seq (x := (cAt Try.f4 [1, 1, 1, 1, 1, 1, 0])) (ax := (.s .n (some (lvOf [1, 5, 6, 7])) A4_9)) (y := (cAt Try.f4 [1, 1, 1, 1, 1, 1, 1])) (ay := (.s .n (some (lvOf [1, 5, 6, 8])) A4_37)) (l := [1, 5, 6]) (by kernel_rfl) (by kernel_rfl)).trans ?_
  refine (run_seq (x := (cAt Try.f4 [1, 1, 1, 1, 1, 1, 0, 0])) (ax := .n) (y := (cAt Try.f4 [1, 1, 1, 1, 1, 1, 0, 1])) (ay := A4_9) (l := [1, 5, 6, 7]) (by kernel_rfl) (by kernel_rfl)).trans ?_
  refine M4_6_ok ?_ x1 x5 x6 H
  intro x1 x5 x6 x7 H
  refine (run_block (id := 0) (x := (cAt Try.f4 [1, 1, 1, 1, 1, 1, 0, 1, 4])) (ax := (.l (some (lvOf [1, 5, 6, 7])) .n)) (by kernel_rfl) (by kernel_rfl)).trans ?_
  refine (run_loop (x := (cAt Try.f4 [1, 1, 1, 1, 1, 1, 0, 1, 4, 4])) (ax := .n) (l := [1, 5, 6, 7]) (by kernel_rfl) (by kernel_rfl) (by kernel_rfl)).trans ?_
  refine M4_8_ok ?_ N x1 x5 x6 x7 H
  intro x1 x5 x6 H
  refine (run_seq (x := (cAt Try.f4 [1, 1, 1, 1, 1, 1, 1, 0])) (ax := .n) (y := (cAt Try.f4 [1, 1, 1, 1, 1, 1, 1, 1])) (ay := A4_37) (l := [1, 5, 6, 8]) (by kernel_rfl) (by kernel_rfl)).trans ?_
  refine M4_10_ok ?_ x1 x5 x6 H
  intro x1 x5 x6 x8 H
  refine (run_seq (x := (cAt Try.f4 [1, 1, 1, 1, 1, 1, 1, 1, 0])) (ax := A4_34) (y := (cAt Try.f4 [1, 1, 1, 1, 1, 1, 1, 1, 1])) (ay := (.s .n (some (lvOf [2])) .n)) (l := [1, 5, 6, 8]) (by kernel_rfl) (by kernel_rfl)).trans ?_
  refine (run_seq (x := (cAt Try.f4 [1, 1, 1, 1, 1, 1, 1, 1, 0, 0])) (ax := .n) (y := (cAt Try.f4 [1, 1, 1, 1, 1, 1, 1, 1, 0, 1])) (ay := A4_33) (l := [1, 5, 6, 8, 9]) (by kernel_rfl) (by kernel_rfl)).trans ?_
  refine M4_11_ok ?_ x1 x5 x6 x8 H
  intro x1 x5 x6 x8 x9 H
  refine (run_block (id := 2) (x := (cAt Try.f4 [1, 1, 1, 1, 1, 1, 1, 1, 0, 1, 4])) (ax := (.l (some (lvOf [1, 5, 6, 8, 9])) A4_31)) (by kernel_rfl) (by kernel_rfl)).trans ?_
  refine (run_loop (x := (cAt Try.f4 [1, 1, 1, 1, 1, 1, 1, 1, 0, 1, 4, 4])) (ax := A4_31) (l := [1, 5, 6, 8, 9]) (by kernel_rfl) (by kernel_rfl) (by kernel_rfl)).trans ?_
  refine M4_32_ok ?_ N x1 x5 x6 x8 x9 H
  intro x1 x5 x6 x8 H
  refine (run_seq (x := (cAt Try.f4 [1, 1, 1, 1, 1, 1, 1, 1, 1, 0])) (ax := .n) (y := (cAt Try.f4 [1, 1, 1, 1, 1, 1, 1, 1, 1, 1])) (ay := .n) (l := [2]) (by kernel_rfl) (by kernel_rfl)).trans ?_
  refine M4_35_ok ?_ x1 x5 x6 x8 H
  intro x2 H
  exact M4_36_ok x2 H
def A4_41 : An := .s .n (some (lvOf [1])) (.s .n (some (lvOf [1, 4])) A4_39)
def A4_42 : An := .s .n (some (lvOf [1])) (.s .n (some (lvOf [1])) A4_41)
def M4 (o : Orc) (N : Nat) : FnM := fun vs H κ => match vs with
  | [.agg x0] => M4_0 o N (fun x1 H => M4_1 o N (fun x1 H => M4_2 o N (fun x1 H => M4_40 o N κ x1 H) κ x1 H) κ x1 H) κ x0 H
  | _ => none
theorem M4_run (o : Orc) (N : Nat) (vs : List V) (H : Heap) (κ : Kv) (r) (h : M4 o N vs H κ = some r) : runFn Try.prog o N Try.f4 A4_42 vs H κ = some r := by
  unfold M4 at h
  split at h
  · rename_i x0
    refine (runFn_at (t := tmk 0 176 [(0, .agg x0)]) (by kernel_rfl) (by kernel_rfl)).trans (Eq.trans ?_ h)
    refine (run_seq (x := (cAt Try.f4 [0])) (ax := .n) (y := (cAt Try.f4 [1])) (ay := (.s .n (some (lvOf [1])) A4_41)) (l := [1]) (by kernel_rfl) (by kernel_rfl)).trans ?_
    refine M4_0_ok ?_ x0 H
    intro x1 H
    refine (run_seq (x := (cAt Try.f4 [1, 0])) (ax := .n) (y := (cAt Try.f4 [1, 1])) (ay := A4_41) (l := [1]) (by kernel_rfl) (by kernel_rfl)).trans ?_
    refine M4_1_ok ?_ x1 H
    intro x1 H
    refine (run_seq (x := (cAt Try.f4 [1, 1, 0])) (ax := .n) (y := (cAt Try.f4 [1, 1, 1])) (ay := (.s .n (some (lvOf [1, 4])) A4_39)) (l := [1]) (by kernel_rfl) (by kernel_rfl)).trans ?_
    refine M4_2_ok ?_ x1 H
    intro x1 H
    exact M4_40_ok x1 H
  · cases h
theorem M4_sound {o : Orc} (ho : ∀ f, FSound Try.prog f (o f)) (N : Nat) : FSound Try.prog 4 (M4 o N) :=
  FSound.sub (runFn_ok (an := A4_42) (fuel := N) hmix ho (by kernel_rfl) (by kernel_rfl)) (M4_run o N)
/-! 5 ostinato/ostinatolaw23.SchedOnce -/
def M5_0 (o : Orc) (N : Nat) (J : Int → Int → Nat → Heap → Ans) (κ : Kv) (x0 : List V) (x1 x2 : Int) (H : Heap) : Ans :=
  cond (List.all x0 V.one) (
  newB H (.row x0) fun i1 H2 =>
  J x1 x2 i1 H2) none
theorem M5_0_ok {o : Orc} {N : Nat} {κ : Kv} {J : Kt} {J' : Int → Int → Nat → Heap → Ans} (hJ : ∀ x1 x2 x3 H, J (tmk 0 107 [(1, .int .u8 x1), (2, .int .u8 x2), (3, .ptr x3 0)]) H = J' x1 x2 x3 H) (x0 : List V) (x1 x2 : Int) (H : Heap) :
    run Try.prog o N (cAt Try.f5 [0]) .n (env0 Try.prog Try.f5 κ) (tmk 0 107 [(0, .agg x0), (1, .int .u8 x1), (2, .int .u8 x2)]) H (kj [1, 2, 3] J) = M5_0 o N J' κ x0 x1 x2 H := by
  obtain rfl := fx4 hJ
  kernel_rfl
def M5_1 (o : Orc) (N : Nat) (J : Int → Int → Nat → Heap → Ans) (κ : Kv) (x1 x2 : Int) (x3 : Nat) (H : Heap) : Ans :=
  o 20 [] H fun v3 H4 =>
  asB v3 fun b5 =>
  cond (!b5) (
  κ (.bool false) H4) (
  J x1 x2 x3 H4)
theorem M5_1_ok {o : Orc} {N : Nat} {κ : Kv} {J : Kt} {J' : Int → Int → Nat → Heap → Ans} (hJ : ∀ x1 x2 x3 H, J (tmk 0 107 [(1, .int .u8 x1), (2, .int .u8 x2), (3, .ptr x3 0)]) H = J' x1 x2 x3 H) (x1 x2 : Int) (x3 : Nat) (H : Heap) :
    run Try.prog o N (cAt Try.f5 [1, 0]) .n (env0 Try.prog Try.f5 κ) (tmk 0 107 [(1, .int .u8 x1), (2, .int .u8 x2), (3, .ptr x3 0)]) H (kj [1, 2, 3] J) = M5_1 o N J' κ x1 x2 x3 H := by
  obtain rfl := fx4 hJ
  kernel_rfl
def M5_2 (o : Orc) (N : Nat) (J : Int → Int → Nat → Int → Heap → Ans) (κ : Kv) (x1 x2 : Int) (x3 : Nat) (H : Heap) : Ans :=
  ldFlat H x3 [.int .i64, .int .i64, .int .i64, .int .i64, .int .i64, .int .i64, .int .i64, .int .u32, .oth, .oth, .oth] 0 fun l6 =>
  o 19 [(.agg l6)] H fun v7 H8 =>
  asT2 v7 fun v9 v10 =>
  asI .i64 v9 fun n11 =>
  asI .i64 v10 fun n12 =>
  J x1 x2 x3 n12 H8
theorem M5_2_ok {o : Orc} {N : Nat} {κ : Kv} {J : Kt} {J' : Int → Int → Nat → Int → Heap → Ans} (hJ : ∀ x1 x2 x3 x8 H, J (tmk 0 107 [(1, .int .u8 x1), (2, .int .u8 x2), (3, .ptr x3 0), (8, .int .i64 x8)]) H = J' x1 x2 x3 x8 H) (x1 x2 : Int) (x3 : Nat) (H : Heap) :
    run Try.prog o N (cAt Try.f5 [1, 1, 0]) .n (env0 Try.prog Try.f5 κ) (tmk 0 107 [(1, .int .u8 x1), (2, .int .u8 x2), (3, .ptr x3 0)]) H (kj [1, 2, 3, 8] J) = M5_2 o N J' κ x1 x2 x3 H := by
  obtain rfl := fx5 hJ
  kernel_rfl
def M5_3 (o : Orc) (N : Nat) (J : Int → Int → Nat → Heap → Ans) (κ : Kv) (x1 x2 : Int) (x3 : Nat) (x8 : Int) (H : Heap) : Ans :=
  ldFlat H x3 [.int .i64, .int .i64, .int .i64, .int .i64, .int .i64, .int .i64, .int .i64, .int .u32, .oth, .oth, .oth] 0 fun l13 =>
  o 21 [(.agg l13)] H fun v14 H15 =>
  asB v14 fun b16 =>
  cond (!b16) (
  κ (.bool true) H15) (
  cond (x8 != 0) (
  κ (.bool true) H15) (
  J x1 x2 x3 H15))
theorem M5_3_ok {o : Orc} {N : Nat} {κ : Kv} {J : Kt} {J' : Int → Int → Nat → Heap → Ans} (hJ : ∀ x1 x2 x3 H, J (tmk 0 107 [(1, .int .u8 x1), (2, .int .u8 x2), (3, .ptr x3 0)]) H = J' x1 x2 x3 H) (x1 x2 : Int) (x3 : Nat) (x8 : Int) (H : Heap) :
    run Try.prog o N (cAt Try.f5 [1, 1, 1, 0]) .n (env0 Try.prog Try.f5 κ) (tmk 0 107 [(1, .int .u8 x1), (2, .int .u8 x2), (3, .ptr x3 0), (8, .int .i64 x8)]) H (kj [1, 2, 3] J) = M5_3 o N J' κ x1 x2 x3 x8 H := by
  obtain rfl := fx4 hJ
  kernel_rfl
def M5_4 (o : Orc) (N : Nat) (J : Int → Int → Nat → V → V → Heap → Ans) (κ : Kv) (x1 x2 : Int) (x3 : Nat) (H : Heap) : Ans :=
  ldFlat (Heap.skip H 6) x3 [.int .i64, .int .i64, .int .i64, .int .i64, .int .i64, .int .i64, .int .i64, .int .u32, .oth, .oth, .oth] 0 fun l17 =>
  ldFlat (Heap.skip H 6) x3 [.int .i64, .int .i64, .int .i64, .int .i64, .int .i64, .int .i64, .int .i64, .int .u32, .oth, .oth, .oth] 0 fun l18 =>
  o 22 [(.agg l17), (.int .i64 0)] (Heap.skip H 6) fun v19 H20 =>
  ldFlat H20 x3 [.int .i64, .int .i64, .int .i64, .int .i64, .int .i64, .int .i64, .int .i64, .int .u32, .oth, .oth, .oth] 0 fun l21 =>
  cond (sameL l18 l21) (
  o 22 [(.agg l18), (.int .i64 0)] H20 fun v22 H23 =>
  J x1 x2 x3 v19 v22 H23) none
theorem M5_4_ok {o : Orc} {N : Nat} {κ : Kv} {J : Kt} {J' : Int → Int → Nat → V → V → Heap → Ans} (hJ : ∀ x1 x2 x3 x9 x10 H, J (tmk 0 107 [(1, .int .u8 x1), (2, .int .u8 x2), (3, .ptr x3 0), (9, x9), (10, x10)]) H = J' x1 x2 x3 x9 x10 H) (x1 x2 : Int) (x3 : Nat) (H : Heap) :
    run Try.prog o N (cAt Try.f5 [1, 1, 1, 1, 0]) (.d [0, 2, 1, 3, 4, 5]) (env0 Try.prog Try.f5 κ) (tmk 0 107 [(1, .int .u8 x1), (2, .int .u8 x2), (3, .ptr x3 0)]) H (kj [1, 2, 3, 9, 10] J) = M5_4 o N J' κ x1 x2 x3 H := by
  obtain rfl := fx6 hJ
  kernel_rfl
def M5_5 (o : Orc) (N : Nat) (J : Int → Int → Nat → V → V → Heap → Ans) (κ : Kv) (x1 x2 : Int) (x3 : Nat) (x9 x10 : V) (H : Heap) : Ans :=
  (ldI H .i64 x3 2).bind fun n24 =>
  cond (decide (n24 = 0)) none (
  o 23 [x9, (.int .i64 (Int.tmod (IntKind.i64.wrap x1) n24))] H fun v25 H26 =>
  asT0 v25 (
  J x1 x2 x3 x9 x10 H26))
theorem M5_5_ok {o : Orc} {N : Nat} {κ : Kv} {J : Kt} {J' : Int → Int → Nat → V → V → Heap → Ans} (hJ : ∀ x1 x2 x3 x9 x10 H, J (tmk 0 107 [(1, .int .u8 x1), (2, .int .u8 x2), (3, .ptr x3 0), (9, x9), (10, x10)]) H = J' x1 x2 x3 x9 x10 H) (x1 x2 : Int) (x3 : Nat) (x9 x10 : V) (H : Heap) :
    run Try.prog o N (cAt Try.f5 [1, 1, 1, 1, 1, 0]) .n (env0 Try.prog Try.f5 κ) (tmk 0 107 [(1, .int .u8 x1), (2, .int .u8 x2), (3, .ptr x3 0), (9, x9), (10, x10)]) H (kj [1, 2, 3, 9, 10] J) = M5_5 o N J' κ x1 x2 x3 x9 x10 H := by
  obtain rfl := fx6 hJ
  kernel_rfl
def M5_6 (o : Orc) (N : Nat) (J : Int → Nat → V → V → Heap → Ans) (κ : Kv) (x1 x2 : Int) (x3 : Nat) (x9 x10 : V) (H : Heap) : Ans :=
  (ldI H .i64 x3 2).bind fun n27 =>
  cond (decide (n27 = 0)) none (
  o 23 [x10, (.int .i64 (Int.tmod (IntKind.i64.wrap x1) n27))] H fun v28 H29 =>
  asT0 v28 (
  J x2 x3 x9 x10 H29))
theorem M5_6_ok {o : Orc} {N : Nat} {κ : Kv} {J : Kt} {J' : Int → Nat → V → V → Heap → Ans} (hJ : ∀ x2 x3 x9 x10 H, J (tmk 0 107 [(2, .int .u8 x2), (3, .ptr x3 0), (9, x9), (10, x10)]) H = J' x2 x3 x9 x10 H) (x1 x2 : Int) (x3 : Nat) (x9 x10 : V) (H : Heap) :
    run Try.prog o N (cAt Try.f5 [1, 1, 1, 1, 1, 1, 0]) .n (env0 Try.prog Try.f5 κ) (tmk 0 107 [(1, .int .u8 x1), (2, .int .u8 x2), (3, .ptr x3 0), (9, x9), (10, x10)]) H (kj [2, 3, 9, 10] J) = M5_6 o N J' κ x1 x2 x3 x9 x10 H := by
  obtain rfl := fx5 hJ
  kernel_rfl
def M5_7 (o : Orc) (N : Nat) (J : Int → V → V → Int → Heap → Ans) (κ : Kv) (x2 : Int) (x3 : Nat) (x9 x10 : V) (H : Heap) : Ans :=
  ldFlat H x3 [.int .i64, .int .i64, .int .i64, .int .i64, .int .i64, .int .i64, .int .i64, .int .u32, .oth, .oth, .oth] 0 fun l30 =>
  o 17 [(.agg l30)] H fun v31 H32 =>
  asI .i64 v31 fun n33 =>
  J x2 x9 x10 n33 H32
theorem M5_7_ok {o : Orc} {N : Nat} {κ : Kv} {J : Kt} {J' : Int → V → V → Int → Heap → Ans} (hJ : ∀ x2 x9 x10 x11 H, J (tmk 0 107 [(2, .int .u8 x2), (9, x9), (10, x10), (11, .int .i64 x11)]) H = J' x2 x9 x10 x11 H) (x2 : Int) (x3 : Nat) (x9 x10 : V) (H : Heap) :
    run Try.prog o N (cAt Try.f5 [1, 1, 1, 1, 1, 1, 1, 0]) .n (env0 Try.prog Try.f5 κ) (tmk 0 107 [(2, .int .u8 x2), (3, .ptr x3 0), (9, x9), (10, x10)]) H (kj [2, 9, 10, 11] J) = M5_7 o N J' κ x2 x3 x9 x10 H := by
  obtain rfl := fx5 hJ
  kernel_rfl
def M5_8 (o : Orc) (N : Nat) (J : Int → V → V → Int → V → Heap → Ans) (κ : Kv) (x2 : Int) (x9 x10 : V) (x11 : Int) (H : Heap) : Ans :=
  o 24 [x9, (.int .i64 x11)] H fun v34 H35 =>
  J x2 x9 x10 x11 v34 H35
theorem M5_8_ok {o : Orc} {N : Nat} {κ : Kv} {J : Kt} {J' : Int → V → V → Int → V → Heap → Ans} (hJ : ∀ x2 x9 x10 x11 x12 H, J (tmk 0 107 [(2, .int .u8 x2), (9, x9), (10, x10), (11, .int .i64 x11), (12, x12)]) H = J' x2 x9 x10 x11 x12 H) (x2 : Int) (x9 x10 : V) (x11 : Int) (H : Heap) :
    run Try.prog o N (cAt Try.f5 [1, 1, 1, 1, 1, 1, 1, 1, 0]) .n (env0 Try.prog Try.f5 κ) (tmk 0 107 [(2, .int .u8 x2), (9, x9), (10, x10), (11, .int .i64 x11)]) H (kj [2, 9, 10, 11, 12] J) = M5_8 o N J' κ x2 x9 x10 x11 H := by
  obtain rfl := fx6 hJ
  kernel_rfl
def M5_9 (o : Orc) (N : Nat) (J : Int → V → V → Int → V → Int → Heap → Ans) (κ : Kv) (x2 : Int) (x9 x10 : V) (x11 : Int) (x12 : V) (H : Heap) : Ans :=
  J x2 x9 x10 x11 x12 0 H
theorem M5_9_ok {o : Orc} {N : Nat} {κ : Kv} {J : Kt} {J' : Int → V → V → Int → V → Int → Heap → Ans} (hJ : ∀ x2 x9 x10 x11 x12 x13 H, J (tmk 0 107 [(2, .int .u8 x2), (9, x9), (10, x10), (11, .int .i64 x11), (12, x12), (13, .int .i64 x13)]) H = J' x2 x9 x10 x11 x12 x13 H) (x2 : Int) (x9 x10 : V) (x11 : Int) (x12 : V) (H : Heap) :
    run Try.prog o N (cAt Try.f5 [1, 1, 1, 1, 1, 1, 1, 1, 1, 0]) .n (env0 Try.prog Try.f5 κ) (tmk 0 107 [(2, .int .u8 x2), (9, x9), (10, x10), (11, .int .i64 x11), (12, x12)]) H (kj [2, 9, 10, 11, 12, 13] J) = M5_9 o N J' κ x2 x9 x10 x11 x12 H := by
  obtain rfl := fx7 hJ
  kernel_rfl
def M5_10 (o : Orc) (N : Nat) (J : Int → V → V → Int → V → Int → Int → Heap → Ans) (κ : Kv) (x2 : Int) (x9 x10 : V) (x11 : Int) (x12 : V) (x13 : Int) (H : Heap) : Ans :=
  J x2 x9 x10 x11 x12 x13 0 H
theorem M5_10_ok {o : Orc} {N : Nat} {κ : Kv} {J : Kt} {J' : Int → V → V → Int → V → Int → Int → Heap → Ans} (hJ : ∀ x2 x9 x10 x11 x12 x13 x14 H, J (tmk 0 107 [(2, .int .u8 x2), (9, x9), (10, x10), (11, .int .i64 x11), (12, x12), (13, .int .i64 x13), (14, .int .i64 x14)]) H = J' x2 x9 x10 x11 x12 x13 x14 H) (x2 : Int) (x9 x10 : V) (x11 : Int) (x12 : V) (x13 : Int) (H : Heap) :
    run Try.prog o N (cAt Try.f5 [1, 1, 1, 1, 1, 1, 1, 1, 1, 1, 0, 0]) .n (env0 Try.prog Try.f5 κ) (tmk 0 107 [(2, .int .u8 x2), (9, x9), (10, x10), (11, .int .i64 x11), (12, x12), (13, .int .i64 x13)]) H (kj [2, 9, 10, 11, 12, 13, 14] J) = M5_10 o N J' κ x2 x9 x10 x11 x12 x13 H := by
  obtain rfl := fx8 hJ
  kernel_rfl
def M5_11 (o : Orc) (N : Nat) (J : Int → V → V → Int → V → Int → Int → V → Heap → Ans) (κ : Kv) (x2 : Int) (x9 x10 : V) (x11 : Int) (x12 : V) (x13 x14 : Int) (H : Heap) : Ans :=
  o 24 [x10, (.int .i64 (if x11 < x14 then x11 else x14))] H fun v36 H37 =>
  J x2 x9 x10 x11 x12 x13 x14 v36 H37
theorem M5_11_ok {o : Orc} {N : Nat} {κ : Kv} {X0 X1 J : Kt} {J' : Int → V → V → Int → V → Int → Int → V → Heap → Ans} (hJ : ∀ x2 x9 x10 x11 x12 x13 x14 x15 H, J (tmk 0 107 [(2, .int .u8 x2), (9, x9), (10, x10), (11, .int .i64 x11), (12, x12), (13, .int .i64 x13), (14, .int .i64 x14), (15, x15)]) H = J' x2 x9 x10 x11 x12 x13 x14 x15 H) (x2 : Int) (x9 x10 : V) (x11 : Int) (x12 : V) (x13 x14 : Int) (H : Heap) :
    run Try.prog o N (cAt Try.f5 [1, 1, 1, 1, 1, 1, 1, 1, 1, 1, 0, 1, 4, 4, 0, 4, 0]) .n (((env0 Try.prog Try.f5 κ).block 0 (kj [9, 11, 12, 13] X0)).block 1 (kj [2, 9, 10, 11, 12, 13, 14] X1)) (tmk 0 107 [(2, .int .u8 x2), (9, x9), (10, x10), (11, .int .i64 x11), (12, x12), (13, .int .i64 x13), (14, .int .i64 x14)]) H (kj [2, 9, 10, 11, 12, 13, 14, 15] J) = M5_11 o N J' κ x2 x9 x10 x11 x12 x13 x14 H := by
  obtain rfl := fx9 hJ
  kernel_rfl
def M5_12 (o : Orc) (N : Nat) (J : Int → V → V → Int → V → Int → Int → V → Int → Heap → Ans) (κ : Kv) (x2 : Int) (x9 x10 : V) (x11 : Int) (x12 : V) (x13 x14 : Int) (x15 : V) (H : Heap) : Ans :=
  J x2 x9 x10 x11 x12 x13 x14 x15 0 H
theorem M5_12_ok {o : Orc} {N : Nat} {κ : Kv} {X0 X1 J : Kt} {J' : Int → V → V → Int → V → Int → Int → V → Int → Heap → Ans} (hJ : ∀ x2 x9 x10 x11 x12 x13 x14 x15 x16 H, J (tmk 0 107 [(2, .int .u8 x2), (9, x9), (10, x10), (11, .int .i64 x11), (12, x12), (13, .int .i64 x13), (14, .int .i64 x14), (15, x15), (16, .int .i64 x16)]) H = J' x2 x9 x10 x11 x12 x13 x14 x15 x16 H) (x2 : Int) (x9 x10 : V) (x11 : Int) (x12 : V) (x13 x14 : Int) (x15 : V) (H : Heap) :
    run Try.prog o N (cAt Try.f5 [1, 1, 1, 1, 1, 1, 1, 1, 1, 1, 0, 1, 4, 4, 0, 4, 1, 0, 0]) .n (((env0 Try.prog Try.f5 κ).block 0 (kj [9, 11, 12, 13] X0)).block 1 (kj [2, 9, 10, 11, 12, 13, 14] X1)) (tmk 0 107 [(2, .int .u8 x2), (9, x9), (10, x10), (11, .int .i64 x11), (12, x12), (13, .int .i64 x13), (14, .int .i64 x14), (15, x15)]) H (kj [2, 9, 10, 11, 12, 13, 14, 15, 16] J) = M5_12 o N J' κ x2 x9 x10 x11 x12 x13 x14 x15 H := by
  obtain rfl := fx10 hJ
  kernel_rfl
def A5_13 : An := (.s .n none (.s (.b none (.s (.s (.d [0, 1, 2, 3, 4, 5, 6, 7, 8, 9, 10, 11, 12, 13, 14]) none .n) none .n)) none .n))
def M5_14 (o : Orc) (N : Nat) (X2 : Int → V → V → Int → V → Int → Int → Heap → Ans) (J : Int → V → V → Int → V → Int → Int → V → Int → Heap → Ans) (κ : Kv) (x2 : Int) (x9 x10 : V) (x11 : Int) (x12 : V) (x13 x14 : Int) (x15 : V) (x16 : Int) (H : Heap) : Ans :=
  lenS x15 fun n38 =>
  cond (decide (x16 < n38)) (
  lenS x12 fun n39 =>
  cond (decide (x13 ≥ n39)) (
  κ (.bool false) (Heap.skip H 15)) (
  idxS 6 x15 x16 fun p40 o41 =>
  ldFlat (Heap.skip H 15) p40 [.int .i64, .int .i64, .int .i64, .int .i64, .int .i64, .int .i64] o41 fun l42 =>
  idxS 6 x12 x13 fun p43 o44 =>
  ldFlat (Heap.skip H 15) p43 [.int .i64, .int .i64, .int .i64, .int .i64, .int .i64, .int .i64] o44 fun l45 =>
  (eqFlat [.int .i64, .int .i64, .int .i64, .int .i64, .int .i64, .int .i64] l42 l45).bind fun b46 =>
  cond (!b46) (
  κ (.bool false) (Heap.skip H 15)) (
  J x2 x9 x10 x11 x12 (IntKind.i64.wrap (x13 + 1)) x14 x15 (IntKind.i64.wrap (x16 + 1)) (Heap.skip H 15)))) (
  X2 x2 x9 x10 x11 x12 x13 x14 H)
theorem M5_14_ok {o : Orc} {N : Nat} {κ : Kv} {X0 X1 X2 J : Kt} {X2' : Int → V → V → Int → V → Int → Int → Heap → Ans} {J' : Int → V → V → Int → V → Int → Int → V → Int → Heap → Ans} (h2 : ∀ x2 x9 x10 x11 x12 x13 x14 H, X2 (tmk 0 107 [(2, .int .u8 x2), (9, x9), (10, x10), (11, .int .i64 x11), (12, x12), (13, .int .i64 x13), (14, .int .i64 x14)]) H = X2' x2 x9 x10 x11 x12 x13 x14 H) (hJ : ∀ x2 x9 x10 x11 x12 x13 x14 x15 x16 H, J (tmk 0 107 [(2, .int .u8 x2), (9, x9), (10, x10), (11, .int .i64 x11), (12, x12), (13, .int .i64 x13), (14, .int .i64 x14), (15, x15), (16, .int .i64 x16)]) H = J' x2 x9 x10 x11 x12 x13 x14 x15 x16 H) (x2 : Int) (x9 x10 : V) (x11 : Int) (x12 : V) (x13 x14 : Int) (x15 : V) (x16 : Int) (H : Heap) :
    run Try.prog o N (cAt Try.f5 [1, 1, 1, 1, 1, 1, 1, 1, 1, 1, 0, 1, 4, 4, 0, 4, 1, 0, 1, 4, 4]) A5_13 ((((env0 Try.prog Try.f5 κ).block 0 (kj [9, 11, 12, 13] X0)).block 1 (kj [2, 9, 10, 11, 12, 13, 14] X1)).block 2 (kj [2, 9, 10, 11, 12, 13, 14] X2)) (tmk 0 107 [(2, .int .u8 x2), (9, x9), (10, x10), (11, .int .i64 x11), (12, x12), (13, .int .i64 x13), (14, .int .i64 x14), (15, x15), (16, .int .i64 x16)]) H (kj [2, 9, 10, 11, 12, 13, 14, 15, 16] J) = M5_14 o N X2' J' κ x2 x9 x10 x11 x12 x13 x14 x15 x16 H := by
  obtain rfl := fx8 h2
  obtain rfl := fx10 hJ
  kernel_rfl
def A5_15 : An := .l (some (lvOf [2, 9, 10, 11, 12, 13, 14, 15, 16])) A5_13
def M5_16 (o : Orc) (N : Nat) (X2 : Int → V → V → Int → V → Int → Int → Heap → Ans) (κ : Kv) (n : Nat) : Int → V → V → Int → V → Int → Int → V → Int → Heap → Ans :=
  Nat.rec (motive := fun _ => Int → V → V → Int → V → Int → Int → V → Int → Heap → Ans) (fun _ _ _ _ _ _ _ _ _ _ => none) (fun _ ih x2 x9 x10 x11 x12 x13 x14 x15 x16 H => M5_14 o N X2 ih κ x2 x9 x10 x11 x12 x13 x14 x15 x16 H) n
theorem M5_16_s (o : Orc) (N : Nat) (X2 : Int → V → V → Int → V → Int → Int → Heap → Ans) (κ : Kv) (n : Nat) (x2 : Int) (x9 x10 : V) (x11 : Int) (x12 : V) (x13 x14 : Int) (x15 : V) (x16 : Int) (H : Heap) : M5_16 o N X2 κ (n + 1) x2 x9 x10 x11 x12 x13 x14 x15 x16 H = M5_14 o N X2 (M5_16 o N X2 κ n) κ x2 x9 x10 x11 x12 x13 x14 x15 x16 H := rfl
theorem M5_16_ok {o : Orc} {N : Nat} {κ : Kv} {X0 X1 X2 : Kt} {X2' : Int → V → V → Int → V → Int → Int → Heap → Ans} (h2 : ∀ x2 x9 x10 x11 x12 x13 x14 H, X2 (tmk 0 107 [(2, .int .u8 x2), (9, x9), (10, x10), (11, .int .i64 x11), (12, x12), (13, .int .i64 x13), (14, .int .i64 x14)]) H = X2' x2 x9 x10 x11 x12 x13 x14 H) (n : Nat) : ∀ (x2 : Int) (x9 x10 : V) (x11 : Int) (x12 : V) (x13 x14 : Int) (x15 : V) (x16 : Int) (H : Heap),
    rounds (fun a H k => run Try.prog o N (cAt Try.f5 [1, 1, 1, 1, 1, 1, 1, 1, 1, 1, 0, 1, 4, 4, 0, 4, 1, 0, 1, 4, 4]) A5_13 ((((env0 Try.prog Try.f5 κ).block 0 (kj [9, 11, 12, 13] X0)).block 1 (kj [2, 9, 10, 11, 12, 13, 14] X1)).block 2 (kj [2, 9, 10, 11, 12, 13, 14] X2)) a H k) (some (lvOf [2, 9, 10, 11, 12, 13, 14, 15, 16])) n (tmk 0 107 [(2, .int .u8 x2), (9, x9), (10, x10), (11, .int .i64 x11), (12, x12), (13, .int .i64 x13), (14, .int .i64 x14), (15, x15), (16, .int .i64 x16)]) H = M5_16 o N X2' κ n x2 x9 x10 x11 x12 x13 x14 x15 x16 H := by
  induction n with
  | zero => intros; rfl
  | succ n ih =>
    intro x2 x9 x10 x11 x12 x13 x14 x15 x16 H
    refine (run_round.trans ?_).trans (M5_16_s ..).symm
    exact M5_14_ok h2 ih x2 x9 x10 x11 x12 x13 x14 x15 x16 H
def A5_17 : An := .s .n (some (lvOf [2, 9, 10, 11, 12, 13, 14, 15, 16])) (.b none A5_15)
def M5_18 (o : Orc) (N : Nat) (X0 : V → Int → V → Int → Heap → Ans) (J : Int → V → V → Int → V → Int → Int → Heap → Ans) (κ : Kv) (x2 : Int) (x9 x10 : V) (x11 : Int) (x12 : V) (x13 x14 : Int) (H : Heap) : Ans :=
  cond (decide (x14 ≥ x11)) (
  X0 x9 x11 x12 x13 H) (
  J x2 x9 x10 x11 x12 x13 x14 H)
theorem M5_18_ok {o : Orc} {N : Nat} {κ : Kv} {X0 X1 J : Kt} {X0' : V → Int → V → Int → Heap → Ans} {J' : Int → V → V → Int → V → Int → Int → Heap → Ans} (h0 : ∀ x9 x11 x12 x13 H, X0 (tmk 0 107 [(9, x9), (11, .int .i64 x11), (12, x12), (13, .int .i64 x13)]) H = X0' x9 x11 x12 x13 H) (hJ : ∀ x2 x9 x10 x11 x12 x13 x14 H, J (tmk 0 107 [(2, .int .u8 x2), (9, x9), (10, x10), (11, .int .i64 x11), (12, x12), (13, .int .i64 x13), (14, .int .i64 x14)]) H = J' x2 x9 x10 x11 x12 x13 x14 H) (x2 : Int) (x9 x10 : V) (x11 : Int) (x12 : V) (x13 x14 : Int) (H : Heap) :
    run Try.prog o N (cAt Try.f5 [1, 1, 1, 1, 1, 1, 1, 1, 1, 1, 0, 1, 4, 4, 0, 4, 1, 1]) .n (((env0 Try.prog Try.f5 κ).block 0 (kj [9, 11, 12, 13] X0)).block 1 (kj [2, 9, 10, 11, 12, 13, 14] X1)) (tmk 0 107 [(2, .int .u8 x2), (9, x9), (10, x10), (11, .int .i64 x11), (12, x12), (13, .int .i64 x13), (14, .int .i64 x14)]) H (kj [2, 9, 10, 11, 12, 13, 14] J) = M5_18 o N X0' J' κ x2 x9 x10 x11 x12 x13 x14 H := by
  obtain rfl := fx5 h0
  obtain rfl := fx8 hJ
  kernel_rfl
def A5_19 : An := .s A5_17 (some (lvOf [2, 9, 10, 11, 12, 13, 14])) .n
def A5_20 : An := .s .n (some (lvOf [2, 9, 10, 11, 12, 13, 14, 15])) A5_19
def M5_21 (o : Orc) (N : Nat) (J : Int → V → V → Int → V → Int → Int → Heap → Ans) (κ : Kv) (x2 : Int) (x9 x10 : V) (x11 : Int) (x12 : V) (x13 x14 : Int) (H : Heap) : Ans :=
  J x2 x9 x10 x11 x12 x13 (IntKind.i64.wrap ((IntKind.i64.wrap (x14 + (IntKind.i64.wrap (Int.tmod x2 50)))) + 1)) H
theorem M5_21_ok {o : Orc} {N : Nat} {κ : Kv} {X0 J : Kt} {J' : Int → V → V → Int → V → Int → Int → Heap → Ans} (hJ : ∀ x2 x9 x10 x11 x12 x13 x14 H, J (tmk 0 107 [(2, .int .u8 x2), (9, x9), (10, x10), (11, .int .i64 x11), (12, x12), (13, .int .i64 x13), (14, .int .i64 x14)]) H = J' x2 x9 x10 x11 x12 x13 x14 H) (x2 : Int) (x9 x10 : V) (x11 : Int) (x12 : V) (x13 x14 : Int) (H : Heap) :
    run Try.prog o N (cAt Try.f5 [1, 1, 1, 1, 1, 1, 1, 1, 1, 1, 0, 1, 4, 4, 1]) .n ((env0 Try.prog Try.f5 κ).block 0 (kj [9, 11, 12, 13] X0)) (tmk 0 107 [(2, .int .u8 x2), (9, x9), (10, x10), (11, .int .i64 x11), (12, x12), (13, .int .i64 x13), (14, .int .i64 x14)]) H (kj [2, 9, 10, 11, 12, 13, 14] J) = M5_21 o N J' κ x2 x9 x10 x11 x12 x13 x14 H := by
  obtain rfl := fx8 hJ
  kernel_rfl
def A5_22 : An := .s (.b none A5_20) (some (lvOf [2, 9, 10, 11, 12, 13, 14])) .n
def A5_23 : An := .l (some (lvOf [2, 9, 10, 11, 12, 13, 14])) A5_22
def M5_24 (o : Orc) (N : Nat) (X0 : V → Int → V → Int → Heap → Ans) (κ : Kv) (n : Nat) : Int → V → V → Int → V → Int → Int → Heap → Ans :=
  Nat.rec (motive := fun _ => Int → V → V → Int → V → Int → Int → Heap → Ans) (fun _ _ _ _ _ _ _ _ => none) (fun _ ih x2 x9 x10 x11 x12 x13 x14 H => M5_11 o N (fun x2 x9 x10 x11 x12 x13 x14 x15 H => M5_12 o N (fun x2 x9 x10 x11 x12 x13 x14 x15 x16 H => M5_16 o N (fun x2 x9 x10 x11 x12 x13 x14 H => M5_18 o N X0 (fun x2 x9 x10 x11 x12 x13 x14 H => M5_21 o N ih κ x2 x9 x10 x11 x12 x13 x14 H) κ x2 x9 x10 x11 x12 x13 x14 H) κ N x2 x9 x10 x11 x12 x13 x14 x15 x16 H) κ x2 x9 x10 x11 x12 x13 x14 x15 H) κ x2 x9 x10 x11 x12 x13 x14 H) n
theorem M5_24_s (o : Orc) (N : Nat) (X0 : V → Int → V → Int → Heap → Ans) (κ : Kv) (n : Nat) (x2 : Int) (x9 x10 : V) (x11 : Int) (x12 : V) (x13 x14 : Int) (H : Heap) : M5_24 o N X0 κ (n + 1) x2 x9 x10 x11 x12 x13 x14 H = M5_11 o N (fun x2 x9 x10 x11 x12 x13 x14 x15 H => M5_12 o N (fun x2 x9 x10 x11 x12 x13 x14 x15 x16 H => M5_16 o N (fun x2 x9 x10 x11 x12 x13 x14 H => M5_18 o N X0 (fun x2 x9 x10 x11 x12 x13 x14 H => M5_21 o N (M5_24 o N X0 κ n) κ x2 x9 x10 x11 x12 x13 x14 H) κ x2 x9 x10 x11 x12 x13 x14 H) κ N x2 x9 x10 x11 x12 x13 x14 x15 x16 H) κ x2 x9 x10 x11 x12 x13 x14 x15 H) κ x2 x9 x10 x11 x12 x13 x14 H := rfl
theorem M5_24_ok {o : Orc} {N : Nat} {κ : Kv} {X0 : Kt} {X0' : V → Int → V → Int → Heap → Ans} (h0 : ∀ x9 x11 x12 x13 H, X0 (tmk 0 107 [(9, x9), (11, .int .i64 x11), (12, x12), (13, .int .i64 x13)]) H = X0' x9 x11 x12 x13 H) (n : Nat) : ∀ (x2 : Int) (x9 x10 : V) (x11 : Int) (x12 : V) (x13 x14 : Int) (H : Heap),
    rounds (fun a H k => run Try.prog o N (cAt Try.f5 [1, 1, 1, 1, 1, 1, 1, 1, 1, 1, 0, 1, 4, 4]) A5_22 ((env0 Try.prog Try.f5 κ).block 0 (kj [9, 11, 12, 13] X0)) a H k) (some (lvOf [2, 9, 10, 11, 12, 13, 14])) n (tmk 0 107 [(2, .int .u8 x2), (9, x9), (10, x10), (11, .int .i64 x11), (12, x12), (13, .int .i64 x13), (14, .int .i64 x14)]) H = M5_24 o N X0' κ n x2 x9 x10 x11 x12 x13 x14 H := by
  induction n with
  | zero => intros; rfl
  | succ n ih =>
    intro x2 x9 x10 x11 x12 x13 x14 H
    refine (run_round.trans ?_).trans (M5_24_s ..).symm
    refine (run_seq (x := (cAt Try.f5 [1, 1, 1, 1, 1, 1, 1, 1, 1, 1, 0, 1, 4, 4, 0])) (ax := (.b none A5_20)) (y := (cAt Try.f5 [1, 1, 1, 1, 1, 1, 1, 1, 1, 1, 0, 1, 4, 4, 1])) (ay := .n) (l := [2, 9, 10, 11, 12, 13, 14]) (by kernel_rfl) (by kernel_rfl)).trans ?_
    refine (run_block (id := 1) (x := (cAt Try.f5 [1, 1, 1, 1, 1, 1, 1, 1, 1, 1, 0, 1, 4, 4, 0, 4])) (ax := A5_20) (by kernel_rfl) (by kernel_rfl)).trans ?_
    refine (run_seq (x := (cAt Try.f5 [1, 1, 1, 1, 1, 1, 1, 1, 1, 1, 0, 1, 4, 4, 0, 4, 0])) (ax := .n) (y := (cAt Try.f5 [1, 1, 1, 1, 1, 1, 1, 1, 1, 1, 0, 1, 4, 4, 0, 4, 1])) (ay := A5_19) (l := [2, 9, 10, 11, 12, 13, 14, 15]) (by kernel_rfl) (by kernel_rfl)).trans ?_
    refine M5_11_ok ?_ x2 x9 x10 x11 x12 x13 x14 H
    intro x2 x9 x10 x11 x12 x13 x14 x15 H
    refine (run_seq (x := (cAt Try.f5 [1, 1, 1, 1, 1, 1, 1, 1, 1, 1, 0, 1, 4, 4, 0, 4, 1, 0])) (ax := A5_17) (y := (cAt Try.f5 [1, 1, 1, 1, 1, 1, 1, 1, 1, 1, 0, 1, 4, 4, 0, 4, 1, 1])) (ay := .n) (l := [2, 9, 10, 11, 12, 13, 14]) (by kernel_rfl) (by kernel_rfl)).trans ?_
    refine (run_seq (x := (cAt Try.f5 [1, 1, 1, 1, 1, 1, 1, 1, 1, 1, 0, 1, 4, 4, 0, 4, 1, 0, 0])) (ax := .n) (y := (cAt Try.f5 [1, 1, 1, 1, 1, 1, 1, 1, 1, 1, 0, 1, 4, 4, 0, 4, 1, 0, 1])) (ay := (.b none A5_15)) (l := [2, 9, 10, 11, 12, 13, 14, 15, 16]) (by kernel_rfl) (by kernel_rfl)).trans ?_
    refine M5_12_ok ?_ x2 x9 x10 x11 x12 x13 x14 x15 H
    intro x2 x9 x10 x11 x12 x13 x14 x15 x16 H
    refine (run_block (id := 2) (x := (cAt Try.f5 [1, 1, 1, 1, 1, 1, 1, 1, 1, 1, 0, 1, 4, 4, 0, 4, 1, 0, 1, 4])) (ax := A5_15) (by kernel_rfl) (by kernel_rfl)).trans ?_
    refine (run_loop (x := (cAt Try.f5 [1, 1, 1, 1, 1, 1, 1, 1, 1, 1, 0, 1, 4, 4, 0, 4, 1, 0, 1, 4, 4])) (ax := A5_13) (l := [2, 9, 10, 11, 12, 13, 14, 15, 16]) (by kernel_rfl) (by kernel_rfl) (by kernel_rfl)).trans ?_
    refine M5_16_ok ?_ N x2 x9 x10 x11 x12 x13 x14 x15 x16 H
    intro x2 x9 x10 x11 x12 x13 x14 H
    refine M5_18_ok h0 ?_ x2 x9 x10 x11 x12 x13 x14 H
    intro x2 x9 x10 x11 x12 x13 x14 H
    exact M5_21_ok ih x2 x9 x10 x11 x12 x13 x14 H
def A5_25 : An := .s .n (some (lvOf [2, 9, 10, 11, 12, 13, 14])) (.b none A5_23)
def M5_26 (o : Orc) (N : Nat) (κ : Kv) (x9 : V) (x11 : Int) (x12 : V) (x13 : Int) (H : Heap) : Ans :=
  lenS x12 fun n47 =>
  cond (x13 == n47) (
  o 24 [x9, (.int .i64 x11)] H fun v48 H49 =>
  lenS v48 fun n50 =>
  cond (n50 == 0) (
  lenS x12 fun n51 =>
  κ (.bool (decide (n51 ≥ 1))) H49) (
  κ (.bool false) H49)) (
  κ (.bool false) H)
theorem M5_26_ok {o : Orc} {N : Nat} {κ : Kv} (x9 : V) (x11 : Int) (x12 : V) (x13 : Int) (H : Heap) :
    run Try.prog o N (cAt Try.f5 [1, 1, 1, 1, 1, 1, 1, 1, 1, 1, 1]) .n (env0 Try.prog Try.f5 κ) (tmk 0 107 [(9, x9), (11, .int .i64 x11), (12, x12), (13, .int .i64 x13)]) H (env0 Try.prog Try.f5 κ).ret = M5_26 o N κ x9 x11 x12 x13 H := by
  kernel_rfl
def A5_27 : An := .s A5_25 (some (lvOf [9, 11, 12, 13])) .n
def A5_28 : An := .s .n (some (lvOf [2, 9, 10, 11, 12, 13])) A5_27
def A5_29 : An := .s .n (some (lvOf [2, 9, 10, 11, 12])) A5_28
def A5_30 : An := .s .n (some (lvOf [2, 9, 10, 11])) A5_29
def A5_31 : An := .s .n (some (lvOf [1, 2, 3, 9, 10])) (.s .n (some (lvOf [2, 3, 9, 10])) A5_30)
def A5_32 : An := .s (.d [0, 2, 1, 3, 4, 5]) (some (lvOf [1, 2, 3, 9, 10])) A5_31
def A5_33 : An := .s .n (some (lvOf [1, 2, 3, 8])) (.s .n (some (lvOf [1, 2, 3])) A5_32)
def M5_34 (o : Orc) (N : Nat) (κ : Kv) (x1 x2 : Int) (x3 : Nat) (H : Heap) : Ans :=
  M5_2 o N (fun x1 x2 x3 x8 H => M5_3 o N (fun x1 x2 x3 H => M5_4 o N (fun x1 x2 x3 x9 x10 H => M5_5 o N (fun x1 x2 x3 x9 x10 H => M5_6 o N (fun x2 x3 x9 x10 H => M5_7 o N (fun x2 x9 x10 x11 H => M5_8 o N (fun x2 x9 x10 x11 x12 H => M5_9 o N (fun x2 x9 x10 x11 x12 x13 H => M5_10 o N (fun x2 x9 x10 x11 x12 x13 x14 H => M5_24 o N (fun x9 x11 x12 x13 H => M5_26 o N κ x9 x11 x12 x13 H) κ N x2 x9 x10 x11 x12 x13 x14 H) κ x2 x9 x10 x11 x12 x13 H) κ x2 x9 x10 x11 x12 H) κ x2 x9 x10 x11 H) κ x2 x3 x9 x10 H) κ x1 x2 x3 x9 x10 H) κ x1 x2 x3 x9 x10 H) κ x1 x2 x3 H) κ x1 x2 x3 x8 H) κ x1 x2 x3 H
theorem M5_34_ok {o : Orc} {N : Nat} {κ : Kv} (x1 x2 : Int) (x3 : Nat) (H : Heap) :
    run Try.prog o N (cAt Try.f5 [1, 1]) A5_33 (env0 Try.prog Try.f5 κ) (tmk 0 107 [(1, .int .u8 x1), (2, .int .u8 x2), (3, .ptr x3 0)]) H (env0 Try.prog Try.f5 κ).ret = M5_34 o N κ x1 x2 x3 H := by
  refine (run_seq (x := (cAt Try.f5 [1, 1, 0])) (ax := .n) (y := (cAt Try.f5 [1, 1, 1])) (ay := (.s .n (some (lvOf [1, 2, 3])) A5_32)) (l := [1, 2, 3, 8]) (by kernel_rfl) (by kernel_rfl)).trans ?_
  refine M5_2_ok ?_ x1 x2 x3 H
  intro x1 x2 x3 x8 H
  refine (run_seq (x := (cAt Try.f5 [1, 1, 1, 0])) (ax := .n) (y := (cAt Try.f5 [1, 1, 1, 1])) (ay := A5_32) (l := [1, 2, 3]) (by kernel_rfl) (by kernel_rfl)).trans ?_
  refine M5_3_ok ?_ x1 x2 x3 x8 H
  intro x1 x2 x3 H
  refine (run_seq (x := (cAt Try.f5 [1, 1, 1, 1, 0])) (ax := (.d [0, 2, 1, 3, 4, 5])) (y := (cAt Try.f5 [1, 1, 1, 1, 1])) (ay := A5_31) (l := [1, 2, 3, 9, 10]) (by kernel_rfl) (by kernel_rfl)).trans ?_
  refine M5_4_ok ?_ x1 x2 x3 H
  intro x1 x2 x3 x9 x10 H
  refine (run_seq (x := (cAt Try.f5 [1, 1, 1, 1, 1, 0])) (ax := .n) (y := (cAt Try.f5 [1, 1, 1, 1, 1, 1])) (ay := (.s .n (some (lvOf [2, 3, 9, 10])) A5_30)) (l := [1, 2, 3, 9, 10]) (by kernel_rfl) (by kernel_rfl)).trans ?_
  refine M5_5_ok ?_ x1 x2 x3 x9 x10 H
  intro x1 x2 x3 x9 x10 H
  refine (run_seq (x := (cAt Try.f5 [1, 1, 1, 1, 1, 1, 0])) (ax := .n) (y := (cAt Try.f5 [1, 1, 1, 1, 1, 1, 1])) (ay := A5_30) (l := [2, 3, 9, 10]) (by kernel_rfl) (by kernel_rfl)).trans ?_
  refine M5_6_ok ?_ x1 x2 x3 x9 x10 H
  intro x2 x3 x9 x10 H
  refine (run_seq (x := (cAt Try.f5 [1, 1, 1, 1, 1, 1, 1, 0])) (ax := .n) (y := (cAt Try.f5 [1, 1, 1, 1, 1, 1, 1, 1])) (ay := A5_29) (l := [2, 9, 10, 11]) (by kernel_rfl) (by kernel_rfl)).trans ?_
  refine M5_7_ok ?_ x2 x3 x9 x10 H
  intro x2 x9 x10 x11 H
  refine (run_seq (x := (cAt Try.f5 [1, 1, 1, 1, 1, 1, 1, 1, 0])) (ax := .n) (y := (cAt Try.f5 [1, 1, 1, 1, 1, 1, 1, 1, 1])) (ay := A5_28) (l := [2, 9, 10, 11, 12]) (by kernel_rfl) (by kernel_rfl)).trans ?_
  refine M5_8_ok ?_ x2 x9 x10 x11 H
  intro x2 x9 x10 x11 x12 H
  refine (run_seq (x := (cAt Try.f5 [1, 1, 1, 1, 1, 1, 1, 1, 1, 0])) (ax := .n) (y := (cAt Try.f5 [1, 1, 1, 1, 1, 1, 1, 1, 1, 1])) (ay := A5_27) (l := [2, 9, 10, 11, 12, 13]) (by kernel_rfl) (by kernel_rfl)).trans ?_
  refine M5_9_ok ?_ x2 x9 x10 x11 x12 H
  intro x2 x9 x10 x11 x12 x13 H
  refine (run_seq (x := (cAt Try.f5 [1, 1, 1, 1, 1, 1, 1, 1, 1, 1, 0])) (ax := A5_25) (y := (cAt Try.f5 [1, 1, 1, 1, 1, 1, 1, 1, 1, 1, 1])) (ay := .n) (l := [9, 11, 12, 13]) (by kernel_rfl) (by kernel_rfl)).trans ?_
  refine (run_seq (x := (cAt Try.f5 [1, 1, 1, 1, 1, 1, 1, 1, 1, 1, 0, 0])) (ax := .n) (y := (cAt Try.f5 [1, 1, 1, 1, 1, 1, 1, 1, 1, 1, 0, 1])) (ay := (.b none A5_23)) (l := [2, 9, 10, 11, 12, 13, 14]) (by kernel_rfl) (by kernel_rfl)).trans ?_
  refine M5_10_ok ?_ x2 x9 x10 x11 x12 x13 H
  intro x2 x9 x10 x11 x12 x13 x14 H
  refine (run_block (id := 0) (x := (cAt Try.f5 [1, 1, 1, 1, 1, 1, 1, 1, 1, 1, 0, 1, 4])) (ax := A5_23) (by kernel_rfl) (by kernel_rfl)).trans ?_
  refine (run_loop (x := (cAt Try.f5 [1, 1, 1, 1, 1, 1, 1, 1, 1, 1, 0, 1, 4, 4])) (ax := A5_22) (l := [2, 9, 10, 11, 12, 13, 14]) (by kernel_rfl) (by kernel_rfl) (by kernel_rfl)).trans ?_
  refine M5_24_ok ?_ N x2 x9 x10 x11 x12 x13 x14 H
  intro x9 x11 x12 x13 H
  exact M5_26_ok x9 x11 x12 x13 H
def A5_35 : An := .s .n (some (lvOf [1, 2, 3])) (.s .n (some (lvOf [1, 2, 3])) A5_33)
def M5 (o : Orc) (N : Nat) : FnM := fun vs H κ => match vs with
  | [.agg x0, .int .u8 x1, .int .u8 x2] => M5_0 o N (fun x1 x2 x3 H => M5_1 o N (fun x1 x2 x3 H => M5_34 o N κ x1 x2 x3 H) κ x1 x2 x3 H) κ x0 x1 x2 H
  | _ => none
theorem M5_run (o : Orc) (N : Nat) (vs : List V) (H : Heap) (κ : Kv) (r) (h : M5 o N vs H κ = some r) : runFn Try.prog o N Try.f5 A5_35 vs H κ = some r := by
  unfold M5 at h
  split at h
  · rename_i x0 x1 x2
    refine (runFn_at (t := tmk 0 107 [(0, .agg x0), (1, .int .u8 x1), (2, .int .u8 x2)]) (by kernel_rfl) (by kernel_rfl)).trans (Eq.trans ?_ h)
    refine (run_seq (x := (cAt Try.f5 [0])) (ax := .n) (y := (cAt Try.f5 [1])) (ay := (.s .n (some (lvOf [1, 2, 3])) A5_33)) (l := [1, 2, 3]) (by kernel_rfl) (by kernel_rfl)).trans ?_
    refine M5_0_ok ?_ x0 x1 x2 H
    intro x1 x2 x3 H
    refine (run_seq (x := (cAt Try.f5 [1, 0])) (ax := .n) (y := (cAt Try.f5 [1, 1])) (ay := A5_33) (l := [1, 2, 3]) (by kernel_rfl) (by kernel_rfl)).trans ?_
    refine M5_1_ok ?_ x1 x2 x3 H
    intro x1 x2 x3 H
    exact M5_34_ok x1 x2 x3 H
  · cases h
theorem M5_sound {o : Orc} (ho : ∀ f, FSound Try.prog f (o f)) (N : Nat) : FSound Try.prog 5 (M5 o N) :=
  FSound.sub (runFn_ok (an := A5_35) (fuel := N) hmix ho (by kernel_rfl) (by kernel_rfl)) (M5_run o N)
/-! 6 ostinato/ostinatolaw23.SchedLast -/
def M6_0 (o : Orc) (N : Nat) (J : Int → Int → Nat → Heap → Ans) (κ : Kv) (x0 : List V) (x1 x2 : Int) (H : Heap) : Ans :=
  cond (List.all x0 V.one) (
  newB H (.row x0) fun i1 H2 =>
  J x1 x2 i1 H2) none
theorem M6_0_ok {o : Orc} {N : Nat} {κ : Kv} {J : Kt} {J' : Int → Int → Nat → Heap → Ans} (hJ : ∀ x1 x2 x3 H, J (tmk 0 110 [(1, .int .u8 x1), (2, .int .u16 x2), (3, .ptr x3 0)]) H = J' x1 x2 x3 H) (x0 : List V) (x1 x2 : Int) (H : Heap) :
    run Try.prog o N (cAt Try.f6 [0]) .n (env0 Try.prog Try.f6 κ) (tmk 0 110 [(0, .agg x0), (1, .int .u8 x1), (2, .int .u16 x2)]) H (kj [1, 2, 3] J) = M6_0 o N J' κ x0 x1 x2 H := by
  obtain rfl := fx4 hJ
  kernel_rfl
def M6_1 (o : Orc) (N : Nat) (J : Int → Int → Nat → Heap → Ans) (κ : Kv) (x1 x2 : Int) (x3 : Nat) (H : Heap) : Ans :=
  o 20 [] H fun v3 H4 =>
  asB v3 fun b5 =>
  cond (!b5) (
  κ (.bool false) H4) (
  J x1 x2 x3 H4)
theorem M6_1_ok {o : Orc} {N : Nat} {κ : Kv} {J : Kt} {J' : Int → Int → Nat → Heap → Ans} (hJ : ∀ x1 x2 x3 H, J (tmk 0 110 [(1, .int .u8 x1), (2, .int .u16 x2), (3, .ptr x3 0)]) H = J' x1 x2 x3 H) (x1 x2 : Int) (x3 : Nat) (H : Heap) :
    run Try.prog o N (cAt Try.f6 [1, 0]) .n (env0 Try.prog Try.f6 κ) (tmk 0 110 [(1, .int .u8 x1), (2, .int .u16 x2), (3, .ptr x3 0)]) H (kj [1, 2, 3] J) = M6_1 o N J' κ x1 x2 x3 H := by
  obtain rfl := fx4 hJ
  kernel_rfl
def M6_2 (o : Orc) (N : Nat) (J : Int → Int → Nat → Int → Heap → Ans) (κ : Kv) (x1 x2 : Int) (x3 : Nat) (H : Heap) : Ans :=
  ldFlat H x3 [.int .i64, .int .i64, .int .i64, .int .i64, .int .i64, .int .i64, .int .i64, .int .u32, .oth, .oth, .oth] 0 fun l6 =>
  o 19 [(.agg l6)] H fun v7 H8 =>
  asT2 v7 fun v9 v10 =>
  asI .i64 v9 fun n11 =>
  asI .i64 v10 fun n12 =>
  J x1 x2 x3 n12 H8
theorem M6_2_ok {o : Orc} {N : Nat} {κ : Kv} {J : Kt} {J' : Int → Int → Nat → Int → Heap → Ans} (hJ : ∀ x1 x2 x3 x8 H, J (tmk 0 110 [(1, .int .u8 x1), (2, .int .u16 x2), (3, .ptr x3 0), (8, .int .i64 x8)]) H = J' x1 x2 x3 x8 H) (x1 x2 : Int) (x3 : Nat) (H : Heap) :
    run Try.prog o N (cAt Try.f6 [1, 1, 0]) .n (env0 Try.prog Try.f6 κ) (tmk 0 110 [(1, .int .u8 x1), (2, .int .u16 x2), (3, .ptr x3 0)]) H (kj [1, 2, 3, 8] J) = M6_2 o N J' κ x1 x2 x3 H := by
  obtain rfl := fx5 hJ
  kernel_rfl
def M6_3 (o : Orc) (N : Nat) (J : Int → Int → Nat → Heap → Ans) (κ : Kv) (x1 x2 : Int) (x3 : Nat) (x8 : Int) (H : Heap) : Ans :=
  ldFlat H x3 [.int .i64, .int .i64, .int .i64, .int .i64, .int .i64, .int .i64, .int .i64, .int .u32, .oth, .oth, .oth] 0 fun l13 =>
  o 21 [(.agg l13)] H fun v14 H15 =>
  asB v14 fun b16 =>
  cond (!b16) (
  κ (.bool true) H15) (
  cond (x8 != 0) (
  κ (.bool true) H15) (
  J x1 x2 x3 H15))
theorem M6_3_ok {o : Orc} {N : Nat} {κ : Kv} {J : Kt} {J' : Int → Int → Nat → Heap → Ans} (hJ : ∀ x1 x2 x3 H, J (tmk 0 110 [(1, .int .u8 x1), (2, .int .u16 x2), (3, .ptr x3 0)]) H = J' x1 x2 x3 H) (x1 x2 : Int) (x3 : Nat) (x8 : Int) (H : Heap) :
    run Try.prog o N (cAt Try.f6 [1, 1, 1, 0]) .n (env0 Try.prog Try.f6 κ) (tmk 0 110 [(1, .int .u8 x1), (2, .int .u16 x2), (3, .ptr x3 0), (8, .int .i64 x8)]) H (kj [1, 2, 3] J) = M6_3 o N J' κ x1 x2 x3 x8 H := by
  obtain rfl := fx4 hJ
  kernel_rfl
def M6_4 (o : Orc) (N : Nat) (J : Int → V → Heap → Ans) (κ : Kv) (x1 x2 : Int) (x3 : Nat) (H : Heap) : Ans :=
  ldFlat (Heap.skip H 8) x3 [.int .i64, .int .i64, .int .i64, .int .i64, .int .i64, .int .i64, .int .i64, .int .u32, .oth, .oth, .oth] 0 fun l17 =>
  (ldI (Heap.skip H 8) .i64 x3 1).bind fun n18 =>
  cond (decide (n18 = 0)) none (
  o 22 [(.agg l17), (.int .i64 (Int.tmod (IntKind.i64.wrap x1) n18))] (Heap.skip H 8) fun v19 H20 =>
  J x2 v19 H20)
theorem M6_4_ok {o : Orc} {N : Nat} {κ : Kv} {J : Kt} {J' : Int → V → Heap → Ans} (hJ : ∀ x2 x9 H, J (tmk 0 110 [(2, .int .u16 x2), (9, x9)]) H = J' x2 x9 H) (x1 x2 : Int) (x3 : Nat) (H : Heap) :
    run Try.prog o N (cAt Try.f6 [1, 1, 1, 1, 0]) (.d [0, 1, 2, 3, 4, 5, 6, 7]) (env0 Try.prog Try.f6 κ) (tmk 0 110 [(1, .int .u8 x1), (2, .int .u16 x2), (3, .ptr x3 0)]) H (kj [2, 9] J) = M6_4 o N J' κ x1 x2 x3 H := by
  obtain rfl := fx3 hJ
  kernel_rfl
def M6_5 (o : Orc) (N : Nat) (J : Int → V → Heap → Ans) (κ : Kv) (x2 : Int) (x9 : V) (H : Heap) : Ans :=
  o 23 [x9, (.int .i64 0)] H fun v21 H22 =>
  asT0 v21 (
  J x2 x9 H22)
theorem M6_5_ok {o : Orc} {N : Nat} {κ : Kv} {J : Kt} {J' : Int → V → Heap → Ans} (hJ : ∀ x2 x9 H, J (tmk 0 110 [(2, .int .u16 x2), (9, x9)]) H = J' x2 x9 H) (x2 : Int) (x9 : V) (H : Heap) :
    run Try.prog o N (cAt Try.f6 [1, 1, 1, 1, 1, 0]) .n (env0 Try.prog Try.f6 κ) (tmk 0 110 [(2, .int .u16 x2), (9, x9)]) H (kj [2, 9] J) = M6_5 o N J' κ x2 x9 H := by
  obtain rfl := fx3 hJ
  kernel_rfl
def M6_6 (o : Orc) (N : Nat) (J : V → V → Heap → Ans) (κ : Kv) (x2 : Int) (x9 : V) (H : Heap) : Ans :=
  o 24 [x9, (.int .i64 (IntKind.i64.wrap (Int.tmod x2 5000)))] H fun v23 H24 =>
  J x9 v23 H24
theorem M6_6_ok {o : Orc} {N : Nat} {κ : Kv} {J : Kt} {J' : V → V → Heap → Ans} (hJ : ∀ x9 x10 H, J (tmk 0 110 [(9, x9), (10, x10)]) H = J' x9 x10 H) (x2 : Int) (x9 : V) (H : Heap) :
    run Try.prog o N (cAt Try.f6 [1, 1, 1, 1, 1, 1, 0]) .n (env0 Try.prog Try.f6 κ) (tmk 0 110 [(2, .int .u16 x2), (9, x9)]) H (kj [9, 10] J) = M6_6 o N J' κ x2 x9 H := by
  obtain rfl := fx3 hJ
  kernel_rfl
def M6_7 (o : Orc) (N : Nat) (J : V → V → Nat → Heap → Ans) (κ : Kv) (x9 x10 : V) (H : Heap) : Ans :=
  newB H (.row [(.int .i64 0), (.int .i64 0), (.int .i64 0), (.int .i64 0), (.int .i64 0), (.int .i64 0)]) fun i25 H26 =>
  J x9 x10 i25 H26
theorem M6_7_ok {o : Orc} {N : Nat} {κ : Kv} {J : Kt} {J' : V → V → Nat → Heap → Ans} (hJ : ∀ x9 x10 x11 H, J (tmk 0 110 [(9, x9), (10, x10), (11, .ptr x11 0)]) H = J' x9 x10 x11 H) (x9 x10 : V) (H : Heap) :
    run Try.prog o N (cAt Try.f6 [1, 1, 1, 1, 1, 1, 1, 0]) .n (env0 Try.prog Try.f6 κ) (tmk 0 110 [(9, x9), (10, x10)]) H (kj [9, 10, 11] J) = M6_7 o N J' κ x9 x10 H := by
  obtain rfl := fx4 hJ
  kernel_rfl
def M6_8 (o : Orc) (N : Nat) (J : V → V → Nat → Bool → Heap → Ans) (κ : Kv) (x9 x10 : V) (x11 : Nat) (H : Heap) : Ans :=
  J x9 x10 x11 false H
theorem M6_8_ok {o : Orc} {N : Nat} {κ : Kv} {J : Kt} {J' : V → V → Nat → Bool → Heap → Ans} (hJ : ∀ x9 x10 x11 x12 H, J (tmk 0 110 [(9, x9), (10, x10), (11, .ptr x11 0), (12, .bool x12)]) H = J' x9 x10 x11 x12 H) (x9 x10 : V) (x11 : Nat) (H : Heap) :
    run Try.prog o N (cAt Try.f6 [1, 1, 1, 1, 1, 1, 1, 1, 0]) .n (env0 Try.prog Try.f6 κ) (tmk 0 110 [(9, x9), (10, x10), (11, .ptr x11 0)]) H (kj [9, 10, 11, 12] J) = M6_8 o N J' κ x9 x10 x11 H := by
  obtain rfl := fx5 hJ
  kernel_rfl
def M6_9 (o : Orc) (N : Nat) (J : V → V → Nat → Bool → Int → Heap → Ans) (κ : Kv) (x9 x10 : V) (x11 : Nat) (x12 : Bool) (H : Heap) : Ans :=
  J x9 x10 x11 x12 0 H
theorem M6_9_ok {o : Orc} {N : Nat} {κ : Kv} {J : Kt} {J' : V → V → Nat → Bool → Int → Heap → Ans} (hJ : ∀ x9 x10 x11 x12 x13 H, J (tmk 0 110 [(9, x9), (10, x10), (11, .ptr x11 0), (12, .bool x12), (13, .int .i64 x13)]) H = J' x9 x10 x11 x12 x13 H) (x9 x10 : V) (x11 : Nat) (x12 : Bool) (H : Heap) :
    run Try.prog o N (cAt Try.f6 [1, 1, 1, 1, 1, 1, 1, 1, 1, 0, 0]) .n (env0 Try.prog Try.f6 κ) (tmk 0 110 [(9, x9), (10, x10), (11, .ptr x11 0), (12, .bool x12)]) H (kj [9, 10, 11, 12, 13] J) = M6_9 o N J' κ x9 x10 x11 x12 H := by
  obtain rfl := fx6 hJ
  kernel_rfl
def M6_10 (o : Orc) (N : Nat) (X0 : V → Nat → Bool → Heap → Ans) (J : V → V → Nat → Bool → Int → Heap → Ans) (κ : Kv) (x9 x10 : V) (x11 : Nat) (x12 : Bool) (x13 : Int) (H : Heap) : Ans :=
  lenS x10 fun n27 =>
  cond (decide (x13 < n27)) (
  idxS 6 x10 x13 fun p28 o29 =>
  (ldI H .i64 p28 (o29 + 0)).bind fun n30 =>
  cond (n30 == 1) (
  idxS 6 x10 x13 fun p31 o32 =>
  ldFlat H p31 [.int .i64, .int .i64, .int .i64, .int .i64, .int .i64, .int .i64] o32 fun l33 =>
  cond (Nat.beq (List.length l33) 6 && Nat.blt 0 6) (
  (stN H x11 0 l33).bind fun H34 =>
  J x9 x10 x11 true (IntKind.i64.wrap (x13 + 1)) H34) none) (
  idxS 6 x10 x13 fun p35 o36 =>
  (ldI H .i64 p35 (o36 + 0)).bind fun n37 =>
  cond (n37 == 2) (
  idxS 6 x10 x13 fun p38 o39 =>
  ldFlat H p38 [.int .i64, .int .i64, .int .i64, .int .i64, .int .i64, .int .i64] o39 fun l40 =>
  cond (Nat.beq (List.length l40) 6 && Nat.blt 0 6) (
  (stN H x11 0 l40).bind fun H41 =>
  J x9 x10 x11 true (IntKind.i64.wrap (x13 + 1)) H41) none) (
  J x9 x10 x11 x12 (IntKind.i64.wrap (x13 + 1)) H))) (
  X0 x9 x11 x12 H)
theorem M6_10_ok {o : Orc} {N : Nat} {κ : Kv} {X0 J : Kt} {X0' : V → Nat → Bool → Heap → Ans} {J' : V → V → Nat → Bool → Int → Heap → Ans} (h0 : ∀ x9 x11 x12 H, X0 (tmk 0 110 [(9, x9), (11, .ptr x11 0), (12, .bool x12)]) H = X0' x9 x11 x12 H) (hJ : ∀ x9 x10 x11 x12 x13 H, J (tmk 0 110 [(9, x9), (10, x10), (11, .ptr x11 0), (12, .bool x12), (13, .int .i64 x13)]) H = J' x9 x10 x11 x12 x13 H) (x9 x10 : V) (x11 : Nat) (x12 : Bool) (x13 : Int) (H : Heap) :
    run Try.prog o N (cAt Try.f6 [1, 1, 1, 1, 1, 1, 1, 1, 1, 0, 1, 4, 4]) .n ((env0 Try.prog Try.f6 κ).block 0 (kj [9, 11, 12] X0)) (tmk 0 110 [(9, x9), (10, x10), (11, .ptr x11 0), (12, .bool x12), (13, .int .i64 x13)]) H (kj [9, 10, 11, 12, 13] J) = M6_10 o N X0' J' κ x9 x10 x11 x12 x13 H := by
  obtain rfl := fx4 h0
  obtain rfl := fx6 hJ
  kernel_rfl
def M6_11 (o : Orc) (N : Nat) (X0 : V → Nat → Bool → Heap → Ans) (κ : Kv) (n : Nat) : V → V → Nat → Bool → Int → Heap → Ans :=
  Nat.rec (motive := fun _ => V → V → Nat → Bool → Int → Heap → Ans) (fun _ _ _ _ _ _ => none) (fun _ ih x9 x10 x11 x12 x13 H => M6_10 o N X0 ih κ x9 x10 x11 x12 x13 H) n
theorem M6_11_s (o : Orc) (N : Nat) (X0 : V → Nat → Bool → Heap → Ans) (κ : Kv) (n : Nat) (x9 x10 : V) (x11 : Nat) (x12 : Bool) (x13 : Int) (H : Heap) : M6_11 o N X0 κ (n + 1) x9 x10 x11 x12 x13 H = M6_10 o N X0 (M6_11 o N X0 κ n) κ x9 x10 x11 x12 x13 H := rfl
theorem M6_11_ok {o : Orc} {N : Nat} {κ : Kv} {X0 : Kt} {X0' : V → Nat → Bool → Heap → Ans} (h0 : ∀ x9 x11 x12 H, X0 (tmk 0 110 [(9, x9), (11, .ptr x11 0), (12, .bool x12)]) H = X0' x9 x11 x12 H) (n : Nat) : ∀ (x9 x10 : V) (x11 : Nat) (x12 : Bool) (x13 : Int) (H : Heap),
    rounds (fun a H k => run Try.prog o N (cAt Try.f6 [1, 1, 1, 1, 1, 1, 1, 1, 1, 0, 1, 4, 4]) .n ((env0 Try.prog Try.f6 κ).block 0 (kj [9, 11, 12] X0)) a H k) (some (lvOf [9, 10, 11, 12, 13])) n (tmk 0 110 [(9, x9), (10, x10), (11, .ptr x11 0), (12, .bool x12), (13, .int .i64 x13)]) H = M6_11 o N X0' κ n x9 x10 x11 x12 x13 H := by
  induction n with
  | zero => intros; rfl
  | succ n ih =>
    intro x9 x10 x11 x12 x13 H
    refine (run_round.trans ?_).trans (M6_11_s ..).symm
    exact M6_10_ok h0 ih x9 x10 x11 x12 x13 H
def A6_12 : An := .b none (.l (some (lvOf [9, 10, 11, 12, 13])) .n)
def A6_13 : An := .s .n (some (lvOf [9, 10, 11, 12, 13])) A6_12
def M6_14 (o : Orc) (N : Nat) (κ : Kv) (x9 : V) (x11 : Nat) (x12 : Bool) (H : Heap) : Ans :=
  o 25 [x9] H fun v42 H43 =>
  asT2 v42 fun v44 v45 =>
  asA v44 fun l46 =>
  asB v45 fun b47 =>
  newB H43 (.row [(.int .i64 0), (.int .i64 0), (.int .i64 0), (.int .i64 0), (.int .i64 0), (.int .i64 0)]) fun i48 H49 =>
  cond (Nat.beq (List.length l46) 6 && Nat.blt 0 6) (
  (stN H49 i48 0 l46).bind fun H50 =>
  (ldI H50 .i64 x11 5).bind fun n51 =>
  o 26 [x9, (.int .i64 (IntKind.i64.wrap (n51 + 1)))] H50 fun v52 H53 =>
  asB v52 fun b54 =>
  o 23 [x9, (.int .i64 0)] H53 fun v55 H56 =>
  asT0 v55 (
  o 25 [x9] H56 fun v57 H58 =>
  asT2 v57 fun v59 v60 =>
  asA v59 fun l61 =>
  asB v60 fun b62 =>
  newB H58 (.row [(.int .i64 0), (.int .i64 0), (.int .i64 0), (.int .i64 0), (.int .i64 0), (.int .i64 0)]) fun i63 H64 =>
  cond (Nat.beq (List.length l61) 6 && Nat.blt 0 6) (
  (stN H64 i63 0 l61).bind fun H65 =>
  cond (b47 == x12) (
  ldFlat H65 i48 [.int .i64, .int .i64, .int .i64, .int .i64, .int .i64, .int .i64] 0 fun l66 =>
  ldFlat H65 x11 [.int .i64, .int .i64, .int .i64, .int .i64, .int .i64, .int .i64] 0 fun l67 =>
  (eqFlat [.int .i64, .int .i64, .int .i64, .int .i64, .int .i64, .int .i64] l66 l67).bind fun b68 =>
  cond b68 (
  cond (b54 == x12) (
  cond (!b62) (
  o 26 [x9, (.int .i64 9000)] H65 fun v69 H70 =>
  asB v69 fun b71 =>
  κ (.bool (!b71)) H70) (
  κ (.bool false) H65)) (
  κ (.bool false) H65)) (
  κ (.bool false) H65)) (
  κ (.bool false) H65)) none)) none
theorem M6_14_ok {o : Orc} {N : Nat} {κ : Kv} (x9 : V) (x11 : Nat) (x12 : Bool) (H : Heap) :
    run Try.prog o N (cAt Try.f6 [1, 1, 1, 1, 1, 1, 1, 1, 1, 1]) .n (env0 Try.prog Try.f6 κ) (tmk 0 110 [(9, x9), (11, .ptr x11 0), (12, .bool x12)]) H (env0 Try.prog Try.f6 κ).ret = M6_14 o N κ x9 x11 x12 H := by
  kernel_rfl
def A6_15 : An := .s .n (some (lvOf [9, 10, 11, 12])) (.s A6_13 (some (lvOf [9, 11, 12])) .n)
def A6_16 : An := .s .n (some (lvOf [9, 10])) (.s .n (some (lvOf [9, 10, 11])) A6_15)
def A6_17 : An := .s (.d [0, 1, 2, 3, 4, 5, 6, 7]) (some (lvOf [2, 9])) (.s .n (some (lvOf [2, 9])) A6_16)
def A6_18 : An := .s .n (some (lvOf [1, 2, 3, 8])) (.s .n (some (lvOf [1, 2, 3])) A6_17)
def M6_19 (o : Orc) (N : Nat) (κ : Kv) (x1 x2 : Int) (x3 : Nat) (H : Heap) : Ans :=
  M6_1 o N (fun x1 x2 x3 H => M6_2 o N (fun x1 x2 x3 x8 H => M6_3 o N (fun x1 x2 x3 H => M6_4 o N (fun x2 x9 H => M6_5 o N (fun x2 x9 H => M6_6 o N (fun x9 x10 H => M6_7 o N (fun x9 x10 x11 H => M6_8 o N (fun x9 x10 x11 x12 H => M6_9 o N (fun x9 x10 x11 x12 x13 H => M6_11 o N (fun x9 x11 x12 H => M6_14 o N κ x9 x11 x12 H) κ N x9 x10 x11 x12 x13 H) κ x9 x10 x11 x12 H) κ x9 x10 x11 H) κ x9 x10 H) κ x2 x9 H) κ x2 x9 H) κ x1 x2 x3 H) κ x1 x2 x3 x8 H) κ x1 x2 x3 H) κ x1 x2 x3 H
theorem M6_19_ok {o : Orc} {N : Nat} {κ : Kv} (x1 x2 : Int) (x3 : Nat) (H : Heap) :
    run Try.prog o N (cAt Try.f6 [1]) (.s .n (some (lvOf [1, 2, 3])) A6_18) (env0 Try.prog Try.f6 κ) (tmk 0 110 [(1, .int .u8 x1), (2, .int .u16 x2), (3, .ptr x3 0)]) H (env0 Try.prog Try.f6 κ).ret = M6_19 o N κ x1 x2 x3 H := by
  refine (run_seq (x := (cAt Try.f6 [1, 0])) (ax := .n) (y := (cAt Try.f6 [1, 1])) (ay := A6_18) (l := [1, 2, 3]) (by kernel_rfl) (by kernel_rfl)).trans ?_
  refine M6_1_ok ?_ x1 x2 x3 H
  intro x1 x2 x3 H
  refine (run_seq (x := (cAt Try.f6 [1, 1, 0])) (ax := .n) (y := (cAt Try.f6 [1, 1, 1])) (ay := (.s .n (some (lvOf [1, 2, 3])) A6_17)) (l := [1, 2, 3, 8]) (by kernel_rfl) (by kernel_rfl)).trans ?_
  refine M6_2_ok ?_ x1 x2 x3 H
  intro x1 x2 x3 x8 H
  refine (run_seq (x := (cAt Try.f6 [1, 1, 1, 0])) (ax := .n) (y := (cAt Try.f6 [1, 1, 1, 1])) (ay := A6_17) (l := [1, 2, 3]) (by kernel_rfl) (by kernel_rfl)).trans ?_
  refine M6_3_ok ?_ x1 x2 x3 x8 H
  intro x1 x2 x3 H
  refine (run_seq (x := (cAt Try.f6 [1, 1, 1, 1, 0])) (ax := (.d [0, 1, 2, 3, 4, 5, 6, 7])) (y := (cAt Try.f6 [1, 1, 1, 1, 1])) (ay := (.s .n (some (lvOf [2, 9])) A6_16)) (l := [2, 9]) (by kernel_rfl) (by kernel_rfl)).trans ?_
  refine M6_4_ok ?_ x1 x2 x3 H
  intro x2 x9 H
  refine (run_seq (x := (cAt Try.f6 [1, 1, 1, 1, 1, 0])) (ax := .n) (y := (cAt Try.f6 [1, 1, 1, 1, 1, 1])) (ay := A6_16) (l := [2, 9]) (by kernel_rfl) (by kernel_rfl)).trans ?_
  refine M6_5_ok ?_ x2 x9 H
  intro x2 x9 H
  refine (run_seq (x := (cAt Try.f6 [1, 1, 1, 1, 1, 1, 0])) (ax := .n) (y := (cAt Try.f6 [1, 1, 1, 1, 1, 1, 1])) (ay := (.s .n (some (lvOf [9, 10, 11])) A6_15)) (l := [9, 10]) (by kernel_rfl) (by kernel_rfl)).trans ?_
  refine M6_6_ok ?_ x2 x9 H
  intro x9 x10 H
  refine (run_seq (x := (cAt Try.f6 [1, 1, 1, 1, 1, 1, 1, 0])) (ax := .n) (y := (cAt Try.f6 [1, 1, 1, 1, 1, 1, 1, 1])) (ay := A6_15) (l := [9, 10, 11]) (by kernel_rfl) (by kernel_rfl)).trans ?_
  refine M6_7_ok ?_ x9 x10 H
  intro x9 x10 x11 H
  refine (run_seq (x := (cAt Try.f6 [1, 1, 1, 1, 1, 1, 1, 1, 0])) (ax := .n) (y := (cAt Try.f6 [1, 1, 1, 1, 1, 1, 1, 1, 1])) (ay := (.s A6_13 (some (lvOf [9, 11, 12])) .n)) (l := [9, 10, 11, 12]) (by kernel_rfl) (by kernel_rfl)).trans ?_
  refine M6_8_ok ?_ x9 x10 x11 H
  intro x9 x10 x11 x12 H
  refine (run_seq (x := (cAt Try.f6 [1, 1, 1, 1, 1, 1, 1, 1, 1, 0])) (ax := A6_13) (y := (cAt Try.f6 [1, 1, 1, 1, 1, 1, 1, 1, 1, 1])) (ay := .n) (l := [9, 11, 12]) (by kernel_rfl) (by kernel_rfl)).trans ?_
  refine (run_seq (x := (cAt Try.f6 [1, 1, 1, 1, 1, 1, 1, 1, 1, 0, 0])) (ax := .n) (y := (cAt Try.f6 [1, 1, 1, 1, 1, 1, 1, 1, 1, 0, 1])) (ay := A6_12) (l := [9, 10, 11, 12, 13]) (by kernel_rfl) (by kernel_rfl)).trans ?_
  refine M6_9_ok ?_ x9 x10 x11 x12 H
  intro x9 x10 x11 x12 x13 H
  refine (run_block (id := 0) (x := (cAt Try.f6 [1, 1, 1, 1, 1, 1, 1, 1, 1, 0, 1, 4])) (ax := (.l (some (lvOf [9, 10, 11, 12, 13])) .n)) (by kernel_rfl) (by kernel_rfl)).trans ?_
  refine (run_loop (x := (cAt Try.f6 [1, 1, 1, 1, 1, 1, 1, 1, 1, 0, 1, 4, 4])) (ax := .n) (l := [9, 10, 11, 12, 13]) (by kernel_rfl) (by kernel_rfl) (by kernel_rfl)).trans ?_
  refine M6_11_ok ?_ N x9 x10 x11 x12 x13 H
  intro x9 x11 x12 H
  exact M6_14_ok x9 x11 x12 H
def A6_20 : An := .s .n (some (lvOf [1, 2, 3])) (.s .n (some (lvOf [1, 2, 3])) A6_18)
def M6 (o : Orc) (N : Nat) : FnM := fun vs H κ => match vs with
  | [.agg x0, .int .u8 x1, .int .u16 x2] => M6_0 o N (fun x1 x2 x3 H => M6_19 o N κ x1 x2 x3 H) κ x0 x1 x2 H
  | _ => none
theorem M6_run (o : Orc) (N : Nat) (vs : List V) (H : Heap) (κ : Kv) (r) (h : M6 o N vs H κ = some r) : runFn Try.prog o N Try.f6 A6_20 vs H κ = some r := by
  unfold M6 at h
  split at h
  · rename_i x0 x1 x2
    refine (runFn_at (t := tmk 0 110 [(0, .agg x0), (1, .int .u8 x1), (2, .int .u16 x2)]) (by kernel_rfl) (by kernel_rfl)).trans (Eq.trans ?_ h)
    refine (run_seq (x := (cAt Try.f6 [0])) (ax := .n) (y := (cAt Try.f6 [1])) (ay := (.s .n (some (lvOf [1, 2, 3])) A6_18)) (l := [1, 2, 3]) (by kernel_rfl) (by kernel_rfl)).trans ?_
    refine M6_0_ok ?_ x0 x1 x2 H
    intro x1 x2 x3 H
    exact M6_19_ok x1 x2 x3 H
  · cases h
theorem M6_sound {o : Orc} (ho : ∀ f, FSound Try.prog f (o f)) (N : Nat) : FSound Try.prog 6 (M6 o N) :=
  FSound.sub (runFn_ok (an := A6_20) (fuel := N) hmix ho (by kernel_rfl) (by kernel_rfl)) (M6_run o N)
/-! 7 ostinato/ostinatolaw23.SchedBack -/
def M7_0 (o : Orc) (N : Nat) (J : Int → Int → Nat → Heap → Ans) (κ : Kv) (x0 : List V) (x1 x2 : Int) (H : Heap) : Ans :=
  cond (List.all x0 V.one) (
  newB H (.row x0) fun i1 H2 =>
  J x1 x2 i1 H2) none
theorem M7_0_ok {o : Orc} {N : Nat} {κ : Kv} {J : Kt} {J' : Int → Int → Nat → Heap → Ans} (hJ : ∀ x1 x2 x3 H, J (tmk 0 113 [(1, .int .u16 x1), (2, .int .u16 x2), (3, .ptr x3 0)]) H = J' x1 x2 x3 H) (x0 : List V) (x1 x2 : Int) (H : Heap) :
    run Try.prog o N (cAt Try.f7 [0]) .n (env0 Try.prog Try.f7 κ) (tmk 0 113 [(0, .agg x0), (1, .int .u16 x1), (2, .int .u16 x2)]) H (kj [1, 2, 3] J) = M7_0 o N J' κ x0 x1 x2 H := by
  obtain rfl := fx4 hJ
  kernel_rfl
def M7_1 (o : Orc) (N : Nat) (J : Int → Int → Nat → Heap → Ans) (κ : Kv) (x1 x2 : Int) (x3 : Nat) (H : Heap) : Ans :=
  o 20 [] H fun v3 H4 =>
  asB v3 fun b5 =>
  cond (!b5) (
  κ (.bool false) H4) (
  J x1 x2 x3 H4)
theorem M7_1_ok {o : Orc} {N : Nat} {κ : Kv} {J : Kt} {J' : Int → Int → Nat → Heap → Ans} (hJ : ∀ x1 x2 x3 H, J (tmk 0 113 [(1, .int .u16 x1), (2, .int .u16 x2), (3, .ptr x3 0)]) H = J' x1 x2 x3 H) (x1 x2 : Int) (x3 : Nat) (H : Heap) :
    run Try.prog o N (cAt Try.f7 [1, 0]) .n (env0 Try.prog Try.f7 κ) (tmk 0 113 [(1, .int .u16 x1), (2, .int .u16 x2), (3, .ptr x3 0)]) H (kj [1, 2, 3] J) = M7_1 o N J' κ x1 x2 x3 H := by
  obtain rfl := fx4 hJ
  kernel_rfl
def M7_2 (o : Orc) (N : Nat) (J : Int → Int → Nat → Int → Heap → Ans) (κ : Kv) (x1 x2 : Int) (x3 : Nat) (H : Heap) : Ans :=
  ldFlat H x3 [.int .i64, .int .i64, .int .i64, .int .i64, .int .i64, .int .i64, .int .i64, .int .u32, .oth, .oth, .oth] 0 fun l6 =>
  o 19 [(.agg l6)] H fun v7 H8 =>
  asT2 v7 fun v9 v10 =>
  asI .i64 v9 fun n11 =>
  asI .i64 v10 fun n12 =>
  J x1 x2 x3 n12 H8
theorem M7_2_ok {o : Orc} {N : Nat} {κ : Kv} {J : Kt} {J' : Int → Int → Nat → Int → Heap → Ans} (hJ : ∀ x1 x2 x3 x8 H, J (tmk 0 113 [(1, .int .u16 x1), (2, .int .u16 x2), (3, .ptr x3 0), (8, .int .i64 x8)]) H = J' x1 x2 x3 x8 H) (x1 x2 : Int) (x3 : Nat) (H : Heap) :
    run Try.prog o N (cAt Try.f7 [1, 1, 0]) .n (env0 Try.prog Try.f7 κ) (tmk 0 113 [(1, .int .u16 x1), (2, .int .u16 x2), (3, .ptr x3 0)]) H (kj [1, 2, 3, 8] J) = M7_2 o N J' κ x1 x2 x3 H := by
  obtain rfl := fx5 hJ
  kernel_rfl
def M7_3 (o : Orc) (N : Nat) (J : Int → Int → Nat → Heap → Ans) (κ : Kv) (x1 x2 : Int) (x3 : Nat) (x8 : Int) (H : Heap) : Ans :=
  ldFlat H x3 [.int .i64, .int .i64, .int .i64, .int .i64, .int .i64, .int .i64, .int .i64, .int .u32, .oth, .oth, .oth] 0 fun l13 =>
  o 21 [(.agg l13)] H fun v14 H15 =>
  asB v14 fun b16 =>
  cond (!b16) (
  κ (.bool true) H15) (
  cond (x8 != 0) (
  κ (.bool true) H15) (
  J x1 x2 x3 H15))
theorem M7_3_ok {o : Orc} {N : Nat} {κ : Kv} {J : Kt} {J' : Int → Int → Nat → Heap → Ans} (hJ : ∀ x1 x2 x3 H, J (tmk 0 113 [(1, .int .u16 x1), (2, .int .u16 x2), (3, .ptr x3 0)]) H = J' x1 x2 x3 H) (x1 x2 : Int) (x3 : Nat) (x8 : Int) (H : Heap) :
    run Try.prog o N (cAt Try.f7 [1, 1, 1, 0]) .n (env0 Try.prog Try.f7 κ) (tmk 0 113 [(1, .int .u16 x1), (2, .int .u16 x2), (3, .ptr x3 0), (8, .int .i64 x8)]) H (kj [1, 2, 3] J) = M7_3 o N J' κ x1 x2 x3 x8 H := by
  obtain rfl := fx4 hJ
  kernel_rfl
def M7_4 (o : Orc) (N : Nat) (J : Nat → Int → Int → Heap → Ans) (κ : Kv) (x1 x2 : Int) (x3 : Nat) (H : Heap) : Ans :=
  J x3 (IntKind.i64.wrap (Int.tmod (if x2 < x1 then x2 else x1) 5000)) (IntKind.i64.wrap (Int.tmod (if x2 > x1 then x2 else x1) 5000)) H
theorem M7_4_ok {o : Orc} {N : Nat} {κ : Kv} {J : Kt} {J' : Nat → Int → Int → Heap → Ans} (hJ : ∀ x3 x9 x10 H, J (tmk 0 113 [(3, .ptr x3 0), (9, .int .i64 x9), (10, .int .i64 x10)]) H = J' x3 x9 x10 H) (x1 x2 : Int) (x3 : Nat) (H : Heap) :
    run Try.prog o N (cAt Try.f7 [1, 1, 1, 1, 0]) .n (env0 Try.prog Try.f7 κ) (tmk 0 113 [(1, .int .u16 x1), (2, .int .u16 x2), (3, .ptr x3 0)]) H (kj [3, 9, 10] J) = M7_4 o N J' κ x1 x2 x3 H := by
  obtain rfl := fx4 hJ
  kernel_rfl
def M7_5 (o : Orc) (N : Nat) (J : Nat → Int → Int → Heap → Ans) (κ : Kv) (x3 : Nat) (x9 x10 : Int) (H : Heap) : Ans :=
  cond (decide (x9 > x10)) (
  κ (.bool true) H) (
  J x3 x9 x10 H)
theorem M7_5_ok {o : Orc} {N : Nat} {κ : Kv} {J : Kt} {J' : Nat → Int → Int → Heap → Ans} (hJ : ∀ x3 x9 x10 H, J (tmk 0 113 [(3, .ptr x3 0), (9, .int .i64 x9), (10, .int .i64 x10)]) H = J' x3 x9 x10 H) (x3 : Nat) (x9 x10 : Int) (H : Heap) :
    run Try.prog o N (cAt Try.f7 [1, 1, 1, 1, 1, 0]) .n (env0 Try.prog Try.f7 κ) (tmk 0 113 [(3, .ptr x3 0), (9, .int .i64 x9), (10, .int .i64 x10)]) H (kj [3, 9, 10] J) = M7_5 o N J' κ x3 x9 x10 H := by
  obtain rfl := fx4 hJ
  kernel_rfl
def M7_6 (o : Orc) (N : Nat) (J : Int → Int → V → V → Heap → Ans) (κ : Kv) (x3 : Nat) (x9 x10 : Int) (H : Heap) : Ans :=
  ldFlat (Heap.skip H 6) x3 [.int .i64, .int .i64, .int .i64, .int .i64, .int .i64, .int .i64, .int .i64, .int .u32, .oth, .oth, .oth] 0 fun l17 =>
  ldFlat (Heap.skip H 6) x3 [.int .i64, .int .i64, .int .i64, .int .i64, .int .i64, .int .i64, .int .i64, .int .u32, .oth, .oth, .oth] 0 fun l18 =>
  o 22 [(.agg l17), (.int .i64 0)] (Heap.skip H 6) fun v19 H20 =>
  ldFlat H20 x3 [.int .i64, .int .i64, .int .i64, .int .i64, .int .i64, .int .i64, .int .i64, .int .u32, .oth, .oth, .oth] 0 fun l21 =>
  cond (sameL l18 l21) (
  o 22 [(.agg l18), (.int .i64 0)] H20 fun v22 H23 =>
  J x9 x10 v19 v22 H23) none
theorem M7_6_ok {o : Orc} {N : Nat} {κ : Kv} {J : Kt} {J' : Int → Int → V → V → Heap → Ans} (hJ : ∀ x9 x10 x11 x12 H, J (tmk 0 113 [(9, .int .i64 x9), (10, .int .i64 x10), (11, x11), (12, x12)]) H = J' x9 x10 x11 x12 H) (x3 : Nat) (x9 x10 : Int) (H : Heap) :
    run Try.prog o N (cAt Try.f7 [1, 1, 1, 1, 1, 1, 0]) (.d [0, 2, 1, 3, 4, 5]) (env0 Try.prog Try.f7 κ) (tmk 0 113 [(3, .ptr x3 0), (9, .int .i64 x9), (10, .int .i64 x10)]) H (kj [9, 10, 11, 12] J) = M7_6 o N J' κ x3 x9 x10 H := by
  obtain rfl := fx5 hJ
  kernel_rfl
def M7_7 (o : Orc) (N : Nat) (J : Int → Int → V → V → Heap → Ans) (κ : Kv) (x9 x10 : Int) (x11 x12 : V) (H : Heap) : Ans :=
  o 23 [x11, (.int .i64 0)] H fun v24 H25 =>
  asT0 v24 (
  J x9 x10 x11 x12 H25)
theorem M7_7_ok {o : Orc} {N : Nat} {κ : Kv} {J : Kt} {J' : Int → Int → V → V → Heap → Ans} (hJ : ∀ x9 x10 x11 x12 H, J (tmk 0 113 [(9, .int .i64 x9), (10, .int .i64 x10), (11, x11), (12, x12)]) H = J' x9 x10 x11 x12 H) (x9 x10 : Int) (x11 x12 : V) (H : Heap) :
    run Try.prog o N (cAt Try.f7 [1, 1, 1, 1, 1, 1, 1, 0]) .n (env0 Try.prog Try.f7 κ) (tmk 0 113 [(9, .int .i64 x9), (10, .int .i64 x10), (11, x11), (12, x12)]) H (kj [9, 10, 11, 12] J) = M7_7 o N J' κ x9 x10 x11 x12 H := by
  obtain rfl := fx5 hJ
  kernel_rfl
def M7_8 (o : Orc) (N : Nat) (J : Int → Int → V → V → Heap → Ans) (κ : Kv) (x9 x10 : Int) (x11 x12 : V) (H : Heap) : Ans :=
  o 23 [x12, (.int .i64 0)] H fun v26 H27 =>
  asT0 v26 (
  J x9 x10 x11 x12 H27)
theorem M7_8_ok {o : Orc} {N : Nat} {κ : Kv} {J : Kt} {J' : Int → Int → V → V → Heap → Ans} (hJ : ∀ x9 x10 x11 x12 H, J (tmk 0 113 [(9, .int .i64 x9), (10, .int .i64 x10), (11, x11), (12, x12)]) H = J' x9 x10 x11 x12 H) (x9 x10 : Int) (x11 x12 : V) (H : Heap) :
    run Try.prog o N (cAt Try.f7 [1, 1, 1, 1, 1, 1, 1, 1, 0]) .n (env0 Try.prog Try.f7 κ) (tmk 0 113 [(9, .int .i64 x9), (10, .int .i64 x10), (11, x11), (12, x12)]) H (kj [9, 10, 11, 12] J) = M7_8 o N J' κ x9 x10 x11 x12 H := by
  obtain rfl := fx5 hJ
  kernel_rfl
def M7_9 (o : Orc) (N : Nat) (J : Int → Int → V → V → Heap → Ans) (κ : Kv) (x9 x10 : Int) (x11 x12 : V) (H : Heap) : Ans :=
  o 24 [x11, (.int .i64 x10)] H fun v28 H29 =>
  J x9 x10 x11 x12 H29
theorem M7_9_ok {o : Orc} {N : Nat} {κ : Kv} {J : Kt} {J' : Int → Int → V → V → Heap → Ans} (hJ : ∀ x9 x10 x11 x12 H, J (tmk 0 113 [(9, .int .i64 x9), (10, .int .i64 x10), (11, x11), (12, x12)]) H = J' x9 x10 x11 x12 H) (x9 x10 : Int) (x11 x12 : V) (H : Heap) :
    run Try.prog o N (cAt Try.f7 [1, 1, 1, 1, 1, 1, 1, 1, 1, 0]) .n (env0 Try.prog Try.f7 κ) (tmk 0 113 [(9, .int .i64 x9), (10, .int .i64 x10), (11, x11), (12, x12)]) H (kj [9, 10, 11, 12] J) = M7_9 o N J' κ x9 x10 x11 x12 H := by
  obtain rfl := fx5 hJ
  kernel_rfl
def M7_10 (o : Orc) (N : Nat) (J : Int → Int → V → V → Heap → Ans) (κ : Kv) (x9 x10 : Int) (x11 x12 : V) (H : Heap) : Ans :=
  o 24 [x12, (.int .i64 x10)] H fun v30 H31 =>
  J x9 x10 x11 x12 H31
theorem M7_10_ok {o : Orc} {N : Nat} {κ : Kv} {J : Kt} {J' : Int → Int → V → V → Heap → Ans} (hJ : ∀ x9 x10 x11 x12 H, J (tmk 0 113 [(9, .int .i64 x9), (10, .int .i64 x10), (11, x11), (12, x12)]) H = J' x9 x10 x11 x12 H) (x9 x10 : Int) (x11 x12 : V) (H : Heap) :
    run Try.prog o N (cAt Try.f7 [1, 1, 1, 1, 1, 1, 1, 1, 1, 1, 0]) .n (env0 Try.prog Try.f7 κ) (tmk 0 113 [(9, .int .i64 x9), (10, .int .i64 x10), (11, x11), (12, x12)]) H (kj [9, 10, 11, 12] J) = M7_10 o N J' κ x9 x10 x11 x12 H := by
  obtain rfl := fx5 hJ
  kernel_rfl
def M7_11 (o : Orc) (N : Nat) (J : V → V → Heap → Ans) (κ : Kv) (x9 x10 : Int) (x11 x12 : V) (H : Heap) : Ans :=
  cond (decide (x9 < x10)) (
  o 24 [x11, (.int .i64 x9)] H fun v32 H33 =>
  lenS v32 fun n34 =>
  cond (n34 != 0) (
  κ (.bool false) H33) (
  J x11 x12 H33)) (
  J x11 x12 H)
theorem M7_11_ok {o : Orc} {N : Nat} {κ : Kv} {J : Kt} {J' : V → V → Heap → Ans} (hJ : ∀ x11 x12 H, J (tmk 0 113 [(11, x11), (12, x12)]) H = J' x11 x12 H) (x9 x10 : Int) (x11 x12 : V) (H : Heap) :
    run Try.prog o N (cAt Try.f7 [1, 1, 1, 1, 1, 1, 1, 1, 1, 1, 1, 0]) .n (env0 Try.prog Try.f7 κ) (tmk 0 113 [(9, .int .i64 x9), (10, .int .i64 x10), (11, x11), (12, x12)]) H (kj [11, 12] J) = M7_11 o N J' κ x9 x10 x11 x12 H := by
  obtain rfl := fx3 hJ
  kernel_rfl
def M7_12 (o : Orc) (N : Nat) (J : V → V → Nat → Bool → Heap → Ans) (κ : Kv) (x11 x12 : V) (H : Heap) : Ans :=
  o 25 [x11] H fun v35 H36 =>
  asT2 v35 fun v37 v38 =>
  asA v37 fun l39 =>
  asB v38 fun b40 =>
  newB H36 (.row [(.int .i64 0), (.int .i64 0), (.int .i64 0), (.int .i64 0), (.int .i64 0), (.int .i64 0)]) fun i41 H42 =>
  cond (Nat.beq (List.length l39) 6 && Nat.blt 0 6) (
  (stN H42 i41 0 l39).bind fun H43 =>
  J x11 x12 i41 b40 H43) none
theorem M7_12_ok {o : Orc} {N : Nat} {κ : Kv} {J : Kt} {J' : V → V → Nat → Bool → Heap → Ans} (hJ : ∀ x11 x12 x13 x14 H, J (tmk 0 113 [(11, x11), (12, x12), (13, .ptr x13 0), (14, .bool x14)]) H = J' x11 x12 x13 x14 H) (x11 x12 : V) (H : Heap) :
    run Try.prog o N (cAt Try.f7 [1, 1, 1, 1, 1, 1, 1, 1, 1, 1, 1, 1, 0]) .n (env0 Try.prog Try.f7 κ) (tmk 0 113 [(11, x11), (12, x12)]) H (kj [11, 12, 13, 14] J) = M7_12 o N J' κ x11 x12 H := by
  obtain rfl := fx5 hJ
  kernel_rfl
def M7_13 (o : Orc) (N : Nat) (J : V → V → Nat → Bool → Nat → Bool → Heap → Ans) (κ : Kv) (x11 x12 : V) (x13 : Nat) (x14 : Bool) (H : Heap) : Ans :=
  o 25 [x12] H fun v44 H45 =>
  asT2 v44 fun v46 v47 =>
  asA v46 fun l48 =>
  asB v47 fun b49 =>
  newB H45 (.row [(.int .i64 0), (.int .i64 0), (.int .i64 0), (.int .i64 0), (.int .i64 0), (.int .i64 0)]) fun i50 H51 =>
  cond (Nat.beq (List.length l48) 6 && Nat.blt 0 6) (
  (stN H51 i50 0 l48).bind fun H52 =>
  J x11 x12 x13 x14 i50 b49 H52) none
theorem M7_13_ok {o : Orc} {N : Nat} {κ : Kv} {J : Kt} {J' : V → V → Nat → Bool → Nat → Bool → Heap → Ans} (hJ : ∀ x11 x12 x13 x14 x15 x16 H, J (tmk 0 113 [(11, x11), (12, x12), (13, .ptr x13 0), (14, .bool x14), (15, .ptr x15 0), (16, .bool x16)]) H = J' x11 x12 x13 x14 x15 x16 H) (x11 x12 : V) (x13 : Nat) (x14 : Bool) (H : Heap) :
    run Try.prog o N (cAt Try.f7 [1, 1, 1, 1, 1, 1, 1, 1, 1, 1, 1, 1, 1, 0]) .n (env0 Try.prog Try.f7 κ) (tmk 0 113 [(11, x11), (12, x12), (13, .ptr x13 0), (14, .bool x14)]) H (kj [11, 12, 13, 14, 15, 16] J) = M7_13 o N J' κ x11 x12 x13 x14 H := by
  obtain rfl := fx7 hJ
  kernel_rfl
def M7_14 (o : Orc) (N : Nat) (J : Nat → Bool → Nat → Bool → V → V → Heap → Ans) (κ : Kv) (x11 x12 : V) (x13 : Nat) (x14 : Bool) (x15 : Nat) (x16 : Bool) (H : Heap) : Ans :=
  o 24 [x11, (.int .i64 9000)] H fun v53 H54 =>
  o 24 [x12, (.int .i64 9000)] H54 fun v55 H56 =>
  J x13 x14 x15 x16 v53 v55 H56
theorem M7_14_ok {o : Orc} {N : Nat} {κ : Kv} {J : Kt} {J' : Nat → Bool → Nat → Bool → V → V → Heap → Ans} (hJ : ∀ x13 x14 x15 x16 x17 x18 H, J (tmk 0 113 [(13, .ptr x13 0), (14, .bool x14), (15, .ptr x15 0), (16, .bool x16), (17, x17), (18, x18)]) H = J' x13 x14 x15 x16 x17 x18 H) (x11 x12 : V) (x13 : Nat) (x14 : Bool) (x15 : Nat) (x16 : Bool) (H : Heap) :
    run Try.prog o N (cAt Try.f7 [1, 1, 1, 1, 1, 1, 1, 1, 1, 1, 1, 1, 1, 1, 0]) .n (env0 Try.prog Try.f7 κ) (tmk 0 113 [(11, x11), (12, x12), (13, .ptr x13 0), (14, .bool x14), (15, .ptr x15 0), (16, .bool x16)]) H (kj [13, 14, 15, 16, 17, 18] J) = M7_14 o N J' κ x11 x12 x13 x14 x15 x16 H := by
  obtain rfl := fx7 hJ
  kernel_rfl
def M7_15 (o : Orc) (N : Nat) (J : Nat → Bool → Nat → Bool → V → V → Heap → Ans) (κ : Kv) (x13 : Nat) (x14 : Bool) (x15 : Nat) (x16 : Bool) (x17 x18 : V) (H : Heap) : Ans :=
  lenS x17 fun n57 =>
  lenS x18 fun n58 =>
  cond (n57 != n58) (
  κ (.bool false) H) (
  J x13 x14 x15 x16 x17 x18 H)
theorem M7_15_ok {o : Orc} {N : Nat} {κ : Kv} {J : Kt} {J' : Nat → Bool → Nat → Bool → V → V → Heap → Ans} (hJ : ∀ x13 x14 x15 x16 x17 x18 H, J (tmk 0 113 [(13, .ptr x13 0), (14, .bool x14), (15, .ptr x15 0), (16, .bool x16), (17, x17), (18, x18)]) H = J' x13 x14 x15 x16 x17 x18 H) (x13 : Nat) (x14 : Bool) (x15 : Nat) (x16 : Bool) (x17 x18 : V) (H : Heap) :
    run Try.prog o N (cAt Try.f7 [1, 1, 1, 1, 1, 1, 1, 1, 1, 1, 1, 1, 1, 1, 1, 0]) .n (env0 Try.prog Try.f7 κ) (tmk 0 113 [(13, .ptr x13 0), (14, .bool x14), (15, .ptr x15 0), (16, .bool x16), (17, x17), (18, x18)]) H (kj [13, 14, 15, 16, 17, 18] J) = M7_15 o N J' κ x13 x14 x15 x16 x17 x18 H := by
  obtain rfl := fx7 hJ
  kernel_rfl
def M7_16 (o : Orc) (N : Nat) (J : Nat → Bool → Nat → Bool → V → V → Int → Heap → Ans) (κ : Kv) (x13 : Nat) (x14 : Bool) (x15 : Nat) (x16 : Bool) (x17 x18 : V) (H : Heap) : Ans :=
  J x13 x14 x15 x16 x17 x18 0 H
theorem M7_16_ok {o : Orc} {N : Nat} {κ : Kv} {J : Kt} {J' : Nat → Bool → Nat → Bool → V → V → Int → Heap → Ans} (hJ : ∀ x13 x14 x15 x16 x17 x18 x19 H, J (tmk 0 113 [(13, .ptr x13 0), (14, .bool x14), (15, .ptr x15 0), (16, .bool x16), (17, x17), (18, x18), (19, .int .i64 x19)]) H = J' x13 x14 x15 x16 x17 x18 x19 H) (x13 : Nat) (x14 : Bool) (x15 : Nat) (x16 : Bool) (x17 x18 : V) (H : Heap) :
    run Try.prog o N (cAt Try.f7 [1, 1, 1, 1, 1, 1, 1, 1, 1, 1, 1, 1, 1, 1, 1, 1, 0, 0]) .n (env0 Try.prog Try.f7 κ) (tmk 0 113 [(13, .ptr x13 0), (14, .bool x14), (15, .ptr x15 0), (16, .bool x16), (17, x17), (18, x18)]) H (kj [13, 14, 15, 16, 17, 18, 19] J) = M7_16 o N J' κ x13 x14 x15 x16 x17 x18 H := by
  obtain rfl := fx8 hJ
  kernel_rfl
def A7_17 : An := (.s .n none (.s (.b none (.s (.d [0, 1, 2, 3, 4, 5, 6, 7, 8]) none .n)) none .n))
def M7_18 (o : Orc) (N : Nat) (X0 : Nat → Bool → Nat → Bool → Heap → Ans) (J : Nat → Bool → Nat → Bool → V → V → Int → Heap → Ans) (κ : Kv) (x13 : Nat) (x14 : Bool) (x15 : Nat) (x16 : Bool) (x17 x18 : V) (x19 : Int) (H : Heap) : Ans :=
  lenS x17 fun n59 =>
  cond (decide (x19 < n59)) (
  idxS 6 x17 x19 fun p60 o61 =>
  ldFlat (Heap.skip H 9) p60 [.int .i64, .int .i64, .int .i64, .int .i64, .int .i64, .int .i64] o61 fun l62 =>
  idxS 6 x18 x19 fun p63 o64 =>
  ldFlat (Heap.skip H 9) p63 [.int .i64, .int .i64, .int .i64, .int .i64, .int .i64, .int .i64] o64 fun l65 =>
  (eqFlat [.int .i64, .int .i64, .int .i64, .int .i64, .int .i64, .int .i64] l62 l65).bind fun b66 =>
  cond (!b66) (
  κ (.bool false) (Heap.skip H 9)) (
  J x13 x14 x15 x16 x17 x18 (IntKind.i64.wrap (x19 + 1)) (Heap.skip H 9))) (
  X0 x13 x14 x15 x16 H)
theorem M7_18_ok {o : Orc} {N : Nat} {κ : Kv} {X0 J : Kt} {X0' : Nat → Bool → Nat → Bool → Heap → Ans} {J' : Nat → Bool → Nat → Bool → V → V → Int → Heap → Ans} (h0 : ∀ x13 x14 x15 x16 H, X0 (tmk 0 113 [(13, .ptr x13 0), (14, .bool x14), (15, .ptr x15 0), (16, .bool x16)]) H = X0' x13 x14 x15 x16 H) (hJ : ∀ x13 x14 x15 x16 x17 x18 x19 H, J (tmk 0 113 [(13, .ptr x13 0), (14, .bool x14), (15, .ptr x15 0), (16, .bool x16), (17, x17), (18, x18), (19, .int .i64 x19)]) H = J' x13 x14 x15 x16 x17 x18 x19 H) (x13 : Nat) (x14 : Bool) (x15 : Nat) (x16 : Bool) (x17 x18 : V) (x19 : Int) (H : Heap) :
    run Try.prog o N (cAt Try.f7 [1, 1, 1, 1, 1, 1, 1, 1, 1, 1, 1, 1, 1, 1, 1, 1, 0, 1, 4, 4]) A7_17 ((env0 Try.prog Try.f7 κ).block 0 (kj [13, 14, 15, 16] X0)) (tmk 0 113 [(13, .ptr x13 0), (14, .bool x14), (15, .ptr x15 0), (16, .bool x16), (17, x17), (18, x18), (19, .int .i64 x19)]) H (kj [13, 14, 15, 16, 17, 18, 19] J) = M7_18 o N X0' J' κ x13 x14 x15 x16 x17 x18 x19 H := by
  obtain rfl := fx5 h0
  obtain rfl := fx8 hJ
  kernel_rfl
def A7_19 : An := .l (some (lvOf [13, 14, 15, 16, 17, 18, 19])) A7_17
def M7_20 (o : Orc) (N : Nat) (X0 : Nat → Bool → Nat → Bool → Heap → Ans) (κ : Kv) (n : Nat) : Nat → Bool → Nat → Bool → V → V → Int → Heap → Ans :=
  Nat.rec (motive := fun _ => Nat → Bool → Nat → Bool → V → V → Int → Heap → Ans) (fun _ _ _ _ _ _ _ _ => none) (fun _ ih x13 x14 x15 x16 x17 x18 x19 H => M7_18 o N X0 ih κ x13 x14 x15 x16 x17 x18 x19 H) n
theorem M7_20_s (o : Orc) (N : Nat) (X0 : Nat → Bool → Nat → Bool → Heap → Ans) (κ : Kv) (n : Nat) (x13 : Nat) (x14 : Bool) (x15 : Nat) (x16 : Bool) (x17 x18 : V) (x19 : Int) (H : Heap) : M7_20 o N X0 κ (n + 1) x13 x14 x15 x16 x17 x18 x19 H = M7_18 o N X0 (M7_20 o N X0 κ n) κ x13 x14 x15 x16 x17 x18 x19 H := rfl
theorem M7_20_ok {o : Orc} {N : Nat} {κ : Kv} {X0 : Kt} {X0' : Nat → Bool → Nat → Bool → Heap → Ans} (h0 : ∀ x13 x14 x15 x16 H, X0 (tmk 0 113 [(13, .ptr x13 0), (14, .bool x14), (15, .ptr x15 0), (16, .bool x16)]) H = X0' x13 x14 x15 x16 H) (n : Nat) : ∀ (x13 : Nat) (x14 : Bool) (x15 : Nat) (x16 : Bool) (x17 x18 : V) (x19 : Int) (H : Heap),
    rounds (fun a H k => run Try.prog o N (cAt Try.f7 [1, 1, 1, 1, 1, 1, 1, 1, 1, 1, 1, 1, 1, 1, 1, 1, 0, 1, 4, 4]) A7_17 ((env0 Try.prog Try.f7 κ).block 0 (kj [13, 14, 15, 16] X0)) a H k) (some (lvOf [13, 14, 15, 16, 17, 18, 19])) n (tmk 0 113 [(13, .ptr x13 0), (14, .bool x14), (15, .ptr x15 0), (16, .bool x16), (17, x17), (18, x18), (19, .int .i64 x19)]) H = M7_20 o N X0' κ n x13 x14 x15 x16 x17 x18 x19 H := by
  induction n with
  | zero => intros; rfl
  | succ n ih =>
    intro x13 x14 x15 x16 x17 x18 x19 H
    refine (run_round.trans ?_).trans (M7_20_s ..).symm
    exact M7_18_ok h0 ih x13 x14 x15 x16 x17 x18 x19 H
def A7_21 : An := .s .n (some (lvOf [13, 14, 15, 16, 17, 18, 19])) (.b none A7_19)
def M7_22 (o : Orc) (N : Nat) (κ : Kv) (x13 : Nat) (x14 : Bool) (x15 : Nat) (x16 : Bool) (H : Heap) : Ans :=
  ldFlat H x13 [.int .i64, .int .i64, .int .i64, .int .i64, .int .i64, .int .i64] 0 fun l67 =>
  ldFlat H x15 [.int .i64, .int .i64, .int .i64, .int .i64, .int .i64, .int .i64] 0 fun l68 =>
  (eqFlat [.int .i64, .int .i64, .int .i64, .int .i64, .int .i64, .int .i64] l67 l68).bind fun b69 =>
  cond b69 (
  κ (.bool (x14 == x16)) H) (
  κ (.bool false) H)
theorem M7_22_ok {o : Orc} {N : Nat} {κ : Kv} (x13 : Nat) (x14 : Bool) (x15 : Nat) (x16 : Bool) (H : Heap) :
    run Try.prog o N (cAt Try.f7 [1, 1, 1, 1, 1, 1, 1, 1, 1, 1, 1, 1, 1, 1, 1, 1, 1]) .n (env0 Try.prog Try.f7 κ) (tmk 0 113 [(13, .ptr x13 0), (14, .bool x14), (15, .ptr x15 0), (16, .bool x16)]) H (env0 Try.prog Try.f7 κ).ret = M7_22 o N κ x13 x14 x15 x16 H := by
  kernel_rfl
def A7_23 : An := .s A7_21 (some (lvOf [13, 14, 15, 16])) .n
def A7_24 : An := .s .n (some (lvOf [13, 14, 15, 16, 17, 18])) A7_23
def A7_25 : An := .s .n (some (lvOf [13, 14, 15, 16, 17, 18])) A7_24
def A7_26 : An := .s .n (some (lvOf [11, 12, 13, 14, 15, 16])) A7_25
def A7_27 : An := .s .n (some (lvOf [11, 12, 13, 14])) A7_26
def A7_28 : An := .s .n (some (lvOf [9, 10, 11, 12])) (.s .n (some (lvOf [11, 12])) A7_27)
def A7_29 : An := .s .n (some (lvOf [9, 10, 11, 12])) A7_28
def A7_30 : An := .s .n (some (lvOf [9, 10, 11, 12])) A7_29
def M7_31 (o : Orc) (N : Nat) (κ : Kv) (x9 x10 : Int) (x11 x12 : V) (H : Heap) : Ans :=
  M7_8 o N (fun x9 x10 x11 x12 H => M7_9 o N (fun x9 x10 x11 x12 H => M7_10 o N (fun x9 x10 x11 x12 H => M7_11 o N (fun x11 x12 H => M7_12 o N (fun x11 x12 x13 x14 H => M7_13 o N (fun x11 x12 x13 x14 x15 x16 H => M7_14 o N (fun x13 x14 x15 x16 x17 x18 H => M7_15 o N (fun x13 x14 x15 x16 x17 x18 H => M7_16 o N (fun x13 x14 x15 x16 x17 x18 x19 H => M7_20 o N (fun x13 x14 x15 x16 H => M7_22 o N κ x13 x14 x15 x16 H) κ N x13 x14 x15 x16 x17 x18 x19 H) κ x13 x14 x15 x16 x17 x18 H) κ x13 x14 x15 x16 x17 x18 H) κ x11 x12 x13 x14 x15 x16 H) κ x11 x12 x13 x14 H) κ x11 x12 H) κ x9 x10 x11 x12 H) κ x9 x10 x11 x12 H) κ x9 x10 x11 x12 H) κ x9 x10 x11 x12 H
theorem M7_31_ok {o : Orc} {N : Nat} {κ : Kv} (x9 x10 : Int) (x11 x12 : V) (H : Heap) :
    run Try.prog o N (cAt Try.f7 [1, 1, 1, 1, 1, 1, 1, 1]) A7_30 (env0 Try.prog Try.f7 κ) (tmk 0 113 [(9, .int .i64 x9), (10, .int .i64 x10), (11, x11), (12, x12)]) H (env0 Try.prog Try.f7 κ).ret = M7_31 o N κ x9 x10 x11 x12 H := by
  refine (run_seq (x := (cAt Try.f7 [1, 1, 1, 1, 1, 1, 1, 1, 0])) (ax := .n) (y := (cAt Try.f7 [1, 1, 1, 1, 1, 1, 1, 1, 1])) (ay := A7_29) (l := [9, 10, 11, 12]) (by kernel_rfl) (by kernel_rfl)).trans ?_
  refine M7_8_ok ?_ x9 x10 x11 x12 H
  intro x9 x10 x11 x12 H
  refine (run_seq (x := (cAt Try.f7 [1, 1, 1, 1, 1, 1, 1, 1, 1, 0])) (ax := .n) (y := (cAt Try.f7 [1, 1, 1, 1, 1, 1, 1, 1, 1, 1])) (ay := A7_28) (l := [9, 10, 11, 12]) (by kernel_rfl) (by kernel_rfl)).trans ?_
  refine M7_9_ok ?_ x9 x10 x11 x12 H
  intro x9 x10 x11 x12 H
  refine (run_seq (x := (cAt Try.f7 [1, 1, 1, 1, 1, 1, 1, 1, 1, 1, 0])) (ax := .n) (y := (cAt Try.f7 [1, 1, 1, 1, 1, 1, 1, 1, 1, 1, 1])) (ay := (.s .n (some (lvOf [11, 12])) A7_27)) (l := [9, 10, 11, 12]) (by kernel_rfl) (by kernel_rfl)).trans ?_
  refine M7_10_ok ?_ x9 x10 x11 x12 H
  intro x9 x10 x11 x12 H
  refine (run_seq (x := (cAt Try.f7 [1, 1, 1, 1, 1, 1, 1, 1, 1, 1, 1, 0])) (ax := .n) (y := (cAt Try.f7 [1, 1, 1, 1, 1, 1, 1, 1, 1, 1, 1, 1])) (ay := A7_27) (l := [11, 12]) (by kernel_rfl) (by kernel_rfl)).trans ?_
  refine M7_11_ok ?_ x9 x10 x11 x12 H
  intro x11 x12 H
  refine (run_seq (x := (cAt Try.f7 [1, 1, 1, 1, 1, 1, 1, 1, 1, 1, 1, 1, 0])) (ax := .n) (y := (cAt Try.f7 [1, 1, 1, 1, 1, 1, 1, 1, 1, 1, 1, 1, 1])) (ay := A7_26) (l := [11, 12, 13, 14]) (by kernel_rfl) (by kernel_rfl)).trans ?_
  refine M7_12_ok ?_ x11 x12 H
  intro x11 x12 x13 x14 H
  refine (run_seq (x := (cAt Try.f7 [1, 1, 1, 1, 1, 1, 1, 1, 1, 1, 1, 1, 1, 0])) (ax := .n) (y := (cAt Try.f7 [1, 1, 1, 1, 1, 1, 1, 1, 1, 1, 1, 1, 1, 1])) (ay := A7_25) (l := [11, 12, 13, 14, 15, 16]) (by kernel_rfl) (by kernel_rfl)).trans ?_
  refine M7_13_ok ?_ x11 x12 x13 x14 H
  intro x11 x12 x13 x14 x15 x16 H
  refine (run_seq (x := (cAt Try.f7 [1, 1, 1, 1, 1, 1, 1, 1, 1, 1, 1, 1, 1, 1, 0])) (ax := .n) (y := (cAt Try.f7 [1, 1, 1, 1, 1, 1, 1, 1, 1, 1, 1, 1, 1, 1, 1])) (ay := A7_24) (l := [13, 14, 15, 16, 17, 18]) (by kernel_rfl) (by kernel_rfl)).trans ?_
  refine M7_14_ok ?_ x11 x12 x13 x14 x15 x16 H
  intro x13 x14 x15 x16 x17 x18 H
  refine (run_seq (x := (cAt Try.f7 [1, 1, 1, 1, 1, 1, 1, 1, 1, 1, 1, 1, 1, 1, 1, 0])) (ax := .n) (y := (cAt Try.f7 [1, 1, 1, 1, 1, 1, 1, 1, 1, 1, 1, 1, 1, 1, 1, 1])) (ay := A7_23) (l := [13, 14, 15, 16, 17, 18]) (by kernel_rfl) (by kernel_rfl)).trans ?_
  refine M7_15_ok ?_ x13 x14 x15 x16 x17 x18 H
  intro x13 x14 x15 x16 x17 x18 H
  refine (run_seq (x := (cAt Try.f7 [1, 1, 1, 1, 1, 1, 1, 1, 1, 1, 1, 1, 1, 1, 1, 1, 0])) (ax := A7_21) (y := (cAt Try.f7 [1, 1, 1, 1, 1, 1, 1, 1, 1, 1, 1, 1, 1, 1, 1, 1, 1])) (ay := .n) (l := [13, 14, 15, 16]) (by kernel_rfl) (by kernel_rfl)).trans ?_
  refine (run_seq (x := (cAt Try.f7 [1, 1, 1, 1, 1, 1, 1, 1, 1, 1, 1, 1, 1, 1, 1, 1, 0, 0])) (ax := .n) (y := (cAt Try.f7 [1, 1, 1, 1, 1, 1, 1, 1, 1, 1, 1, 1, 1, 1, 1, 1, 0, 1])) (ay := (.b none A7_19)) (l := [13, 14, 15, 16, 17, 18, 19]) (by kernel_rfl) (by kernel_rfl)).trans ?_
  refine M7_16_ok ?_ x13 x14 x15 x16 x17 x18 H
  intro x13 x14 x15 x16 x17 x18 x19 H
  refine (run_block (id := 0) (x := (cAt Try.f7 [1, 1, 1, 1, 1, 1, 1, 1, 1, 1, 1, 1, 1, 1, 1, 1, 0, 1, 4])) (ax := A7_19) (by kernel_rfl) (by kernel_rfl)).trans ?_
  refine (run_loop (x := (cAt Try.f7 [1, 1, 1, 1, 1, 1, 1, 1, 1, 1, 1, 1, 1, 1, 1, 1, 0, 1, 4, 4])) (ax := A7_17) (l := [13, 14, 15, 16, 17, 18, 19]) (by kernel_rfl) (by kernel_rfl) (by kernel_rfl)).trans ?_
  refine M7_20_ok ?_ N x13 x14 x15 x16 x17 x18 x19 H
  intro x13 x14 x15 x16 H
  exact M7_22_ok x13 x14 x15 x16 H
def A7_32 : An := .s .n (some (lvOf [9, 10, 11, 12])) A7_30
def A7_33 : An := .s (.d [0, 2, 1, 3, 4, 5]) (some (lvOf [9, 10, 11, 12])) A7_32
def A7_34 : An := .s .n (some (lvOf [3, 9, 10])) (.s .n (some (lvOf [3, 9, 10])) A7_33)
def A7_35 : An := .s .n (some (lvOf [1, 2, 3, 8])) (.s .n (some (lvOf [1, 2, 3])) A7_34)
def A7_36 : An := .s .n (some (lvOf [1, 2, 3])) (.s .n (some (lvOf [1, 2, 3])) A7_35)
def M7 (o : Orc) (N : Nat) : FnM := fun vs H κ => match vs with
  | [.agg x0, .int .u16 x1, .int .u16 x2] => M7_0 o N (fun x1 x2 x3 H => M7_1 o N (fun x1 x2 x3 H => M7_2 o N (fun x1 x2 x3 x8 H => M7_3 o N (fun x1 x2 x3 H => M7_4 o N (fun x3 x9 x10 H => M7_5 o N (fun x3 x9 x10 H => M7_6 o N (fun x9 x10 x11 x12 H => M7_7 o N (fun x9 x10 x11 x12 H => M7_31 o N κ x9 x10 x11 x12 H) κ x9 x10 x11 x12 H) κ x3 x9 x10 H) κ x3 x9 x10 H) κ x1 x2 x3 H) κ x1 x2 x3 x8 H) κ x1 x2 x3 H) κ x1 x2 x3 H) κ x0 x1 x2 H
  | _ => none
theorem M7_run (o : Orc) (N : Nat) (vs : List V) (H : Heap) (κ : Kv) (r) (h : M7 o N vs H κ = some r) : runFn Try.prog o N Try.f7 A7_36 vs H κ = some r := by
  unfold M7 at h
  split at h
  · rename_i x0 x1 x2
    refine (runFn_at (t := tmk 0 113 [(0, .agg x0), (1, .int .u16 x1), (2, .int .u16 x2)]) (by kernel_rfl) (by kernel_rfl)).trans (Eq.trans ?_ h)
    refine (run_seq (x := (cAt Try.f7 [0])) (ax := .n) (y := (cAt Try.f7 [1])) (ay := (.s .n (some (lvOf [1, 2, 3])) A7_35)) (l := [1, 2, 3]) (by kernel_rfl) (by kernel_rfl)).trans ?_
    refine M7_0_ok ?_ x0 x1 x2 H
    intro x1 x2 x3 H
    refine (run_seq (x := (cAt Try.f7 [1, 0])) (ax := .n) (y := (cAt Try.f7 [1, 1])) (ay := A7_35) (l := [1, 2, 3]) (by kernel_rfl) (by kernel_rfl)).trans ?_
    refine M7_1_ok ?_ x1 x2 x3 H
    intro x1 x2 x3 H
    refine (run_seq (x := (cAt Try.f7 [1, 1, 0])) (ax := .n) (y := (cAt Try.f7 [1, 1, 1])) (ay := (.s .n (some (lvOf [1, 2, 3])) A7_34)) (l := [1, 2, 3, 8]) (by kernel_rfl) (by kernel_rfl)).trans ?_
    refine M7_2_ok ?_ x1 x2 x3 H
    intro x1 x2 x3 x8 H
    refine (run_seq (x := (cAt Try.f7 [1, 1, 1, 0])) (ax := .n) (y := (cAt Try.f7 [1, 1, 1, 1])) (ay := A7_34) (l := [1, 2, 3]) (by kernel_rfl) (by kernel_rfl)).trans ?_
    refine M7_3_ok ?_ x1 x2 x3 x8 H
    intro x1 x2 x3 H
    refine (run_seq (x := (cAt Try.f7 [1, 1, 1, 1, 0])) (ax := .n) (y := (cAt Try.f7 [1, 1, 1, 1, 1])) (ay := (.s .n (some (lvOf [3, 9, 10])) A7_33)) (l := [3, 9, 10]) (by kernel_rfl) (by kernel_rfl)).trans ?_
    refine M7_4_ok ?_ x1 x2 x3 H
    intro x3 x9 x10 H
    refine (run_seq (x := (cAt Try.f7 [1, 1, 1, 1, 1, 0])) (ax := .n) (y := (cAt Try.f7 [1, 1, 1, 1, 1, 1])) (ay := A7_33) (l := [3, 9, 10]) (by kernel_rfl) (by kernel_rfl)).trans ?_
    refine M7_5_ok ?_ x3 x9 x10 H
    intro x3 x9 x10 H
    refine (run_seq (x := (cAt Try.f7 [1, 1, 1, 1, 1, 1, 0])) (ax := (.d [0, 2, 1, 3, 4, 5])) (y := (cAt Try.f7 [1, 1, 1, 1, 1, 1, 1])) (ay := A7_32) (l := [9, 10, 11, 12]) (by kernel_rfl) (by kernel_rfl)).trans ?_
    refine M7_6_ok ?_ x3 x9 x10 H
    intro x9 x10 x11 x12 H
    refine (run_seq (x := (cAt Try.f7 [1, 1, 1, 1, 1, 1, 1, 0])) (ax := .n) (y := (cAt Try.f7 [1, 1, 1, 1, 1, 1, 1, 1])) (ay := A7_30) (l := [9, 10, 11, 12]) (by kernel_rfl) (by kernel_rfl)).trans ?_
    refine M7_7_ok ?_ x9 x10 x11 x12 H
    intro x9 x10 x11 x12 H
    exact M7_31_ok x9 x10 x11 x12 H
  · cases h
theorem M7_sound {o : Orc} (ho : ∀ f, FSound Try.prog f (o f)) (N : Nat) : FSound Try.prog 7 (M7 o N) :=
  FSound.sub (runFn_ok (an := A7_36) (fuel := N) hmix ho (by kernel_rfl) (by kernel_rfl)) (M7_run o N)
/-! 8 ostinato/ostinatolaw23.SchedPlays -/
def M8_0 (o : Orc) (N : Nat) (J : Int → V → Int → Nat → Heap → Ans) (κ : Kv) (x0 : List V) (x1 : Int) (x2 : V) (x3 : Int) (H : Heap) : Ans :=
  cond (List.all x0 V.one) (
  newB H (.row x0) fun i1 H2 =>
  J x1 x2 x3 i1 H2) none
theorem M8_0_ok {o : Orc} {N : Nat} {κ : Kv} {J : Kt} {J' : Int → V → Int → Nat → Heap → Ans} (hJ : ∀ x1 x2 x3 x4 H, J (tmk 0 157 [(1, .int .i64 x1), (2, x2), (3, .int .i64 x3), (4, .ptr x4 0)]) H = J' x1 x2 x3 x4 H) (x0 : List V) (x1 : Int) (x2 : V) (x3 : Int) (H : Heap) :
    run Try.prog o N (cAt Try.f8 [0]) .n (env0 Try.prog Try.f8 κ) (tmk 0 157 [(0, .agg x0), (1, .int .i64 x1), (2, x2), (3, .int .i64 x3)]) H (kj [1, 2, 3, 4] J) = M8_0 o N J' κ x0 x1 x2 x3 H := by
  obtain rfl := fx5 hJ
  kernel_rfl
def M8_1 (o : Orc) (N : Nat) (J : Int → V → Int → Nat → Heap → Ans) (κ : Kv) (x1 : Int) (x2 : V) (x3 : Int) (x4 : Nat) (H : Heap) : Ans :=
  o 20 [] H fun v3 H4 =>
  asB v3 fun b5 =>
  cond (!b5) (
  κ (.bool false) H4) (
  J x1 x2 x3 x4 H4)
theorem M8_1_ok {o : Orc} {N : Nat} {κ : Kv} {J : Kt} {J' : Int → V → Int → Nat → Heap → Ans} (hJ : ∀ x1 x2 x3 x4 H, J (tmk 0 157 [(1, .int .i64 x1), (2, x2), (3, .int .i64 x3), (4, .ptr x4 0)]) H = J' x1 x2 x3 x4 H) (x1 : Int) (x2 : V) (x3 : Int) (x4 : Nat) (H : Heap) :
    run Try.prog o N (cAt Try.f8 [1, 0]) .n (env0 Try.prog Try.f8 κ) (tmk 0 157 [(1, .int .i64 x1), (2, x2), (3, .int .i64 x3), (4, .ptr x4 0)]) H (kj [1, 2, 3, 4] J) = M8_1 o N J' κ x1 x2 x3 x4 H := by
  obtain rfl := fx5 hJ
  kernel_rfl
def M8_2 (o : Orc) (N : Nat) (J : Int → V → Int → Nat → Heap → Ans) (κ : Kv) (x1 : Int) (x2 : V) (x3 : Int) (x4 : Nat) (H : Heap) : Ans :=
  ldFlat H x4 [.int .i64, .int .i64, .int .i64, .int .i64, .int .i64, .int .i64, .int .i64, .int .u32, .oth, .oth, .oth] 0 fun l6 =>
  o 21 [(.agg l6)] H fun v7 H8 =>
  asB v7 fun b9 =>
  cond (!b9) (
  κ (.bool true) H8) (
  lenS x2 fun n10 =>
  cond (decide (n10 > 30)) (
  κ (.bool true) H8) (
  J x1 x2 x3 x4 H8))
theorem M8_2_ok {o : Orc} {N : Nat} {κ : Kv} {J : Kt} {J' : Int → V → Int → Nat → Heap → Ans} (hJ : ∀ x1 x2 x3 x4 H, J (tmk 0 157 [(1, .int .i64 x1), (2, x2), (3, .int .i64 x3), (4, .ptr x4 0)]) H = J' x1 x2 x3 x4 H) (x1 : Int) (x2 : V) (x3 : Int) (x4 : Nat) (H : Heap) :
    run Try.prog o N (cAt Try.f8 [1, 1, 0]) .n (env0 Try.prog Try.f8 κ) (tmk 0 157 [(1, .int .i64 x1), (2, x2), (3, .int .i64 x3), (4, .ptr x4 0)]) H (kj [1, 2, 3, 4] J) = M8_2 o N J' κ x1 x2 x3 x4 H := by
  obtain rfl := fx5 hJ
  kernel_rfl
def M8_3 (o : Orc) (N : Nat) (J : Int → V → Int → Nat → V → Heap → Ans) (κ : Kv) (x1 : Int) (x2 : V) (x3 : Int) (x4 : Nat) (H : Heap) : Ans :=
  ldFlat H x4 [.int .i64, .int .i64, .int .i64, .int .i64, .int .i64, .int .i64, .int .i64, .int .u32, .oth, .oth, .oth] 0 fun l11 =>
  o 22 [(.agg l11), (.int .i64 x1)] H fun v12 H13 =>
  J x1 x2 x3 x4 v12 H13
theorem M8_3_ok {o : Orc} {N : Nat} {κ : Kv} {J : Kt} {J' : Int → V → Int → Nat → V → Heap → Ans} (hJ : ∀ x1 x2 x3 x4 x9 H, J (tmk 0 157 [(1, .int .i64 x1), (2, x2), (3, .int .i64 x3), (4, .ptr x4 0), (9, x9)]) H = J' x1 x2 x3 x4 x9 H) (x1 : Int) (x2 : V) (x3 : Int) (x4 : Nat) (H : Heap) :
    run Try.prog o N (cAt Try.f8 [1, 1, 1, 0]) .n (env0 Try.prog Try.f8 κ) (tmk 0 157 [(1, .int .i64 x1), (2, x2), (3, .int .i64 x3), (4, .ptr x4 0)]) H (kj [1, 2, 3, 4, 9] J) = M8_3 o N J' κ x1 x2 x3 x4 H := by
  obtain rfl := fx6 hJ
  kernel_rfl
def M8_4 (o : Orc) (N : Nat) (J : V → Int → V → V → Heap → Ans) (κ : Kv) (x1 : Int) (x2 : V) (x3 : Int) (x4 : Nat) (x9 : V) (H : Heap) : Ans :=
  ldFlat H x4 [.int .i64, .int .i64, .int .i64, .int .i64, .int .i64, .int .i64, .int .i64, .int .u32, .oth, .oth, .oth] 0 fun l14 =>
  o 13 [(.agg l14), (.int .i64 x1)] H fun v15 H16 =>
  J x2 x3 x9 v15 H16
theorem M8_4_ok {o : Orc} {N : Nat} {κ : Kv} {J : Kt} {J' : V → Int → V → V → Heap → Ans} (hJ : ∀ x2 x3 x9 x10 H, J (tmk 0 157 [(2, x2), (3, .int .i64 x3), (9, x9), (10, x10)]) H = J' x2 x3 x9 x10 H) (x1 : Int) (x2 : V) (x3 : Int) (x4 : Nat) (x9 : V) (H : Heap) :
    run Try.prog o N (cAt Try.f8 [1, 1, 1, 1, 0]) .n (env0 Try.prog Try.f8 κ) (tmk 0 157 [(1, .int .i64 x1), (2, x2), (3, .int .i64 x3), (4, .ptr x4 0), (9, x9)]) H (kj [2, 3, 9, 10] J) = M8_4 o N J' κ x1 x2 x3 x4 x9 H := by
  obtain rfl := fx5 hJ
  kernel_rfl
def M8_5 (o : Orc) (N : Nat) (J : V → Int → V → V → Int → Int → Bool → Heap → Ans) (κ : Kv) (x2 : V) (x3 : Int) (x9 x10 : V) (H : Heap) : Ans :=
  J x2 x3 x9 x10 0 (-1) false H
theorem M8_5_ok {o : Orc} {N : Nat} {κ : Kv} {J : Kt} {J' : V → Int → V → V → Int → Int → Bool → Heap → Ans} (hJ : ∀ x2 x3 x9 x10 x11 x12 x13 H, J (tmk 0 157 [(2, x2), (3, .int .i64 x3), (9, x9), (10, x10), (11, .int .i64 x11), (12, .int .i64 x12), (13, .bool x13)]) H = J' x2 x3 x9 x10 x11 x12 x13 H) (x2 : V) (x3 : Int) (x9 x10 : V) (H : Heap) :
    run Try.prog o N (cAt Try.f8 [1, 1, 1, 1, 1, 0]) .n (env0 Try.prog Try.f8 κ) (tmk 0 157 [(2, x2), (3, .int .i64 x3), (9, x9), (10, x10)]) H (kj [2, 3, 9, 10, 11, 12, 13] J) = M8_5 o N J' κ x2 x3 x9 x10 H := by
  obtain rfl := fx8 hJ
  kernel_rfl
def M8_6 (o : Orc) (N : Nat) (J : V → Int → V → V → Int → Int → Bool → Nat → Heap → Ans) (κ : Kv) (x2 : V) (x3 : Int) (x9 x10 : V) (x11 x12 : Int) (x13 : Bool) (H : Heap) : Ans :=
  newB H (.row [(.int .i64 0), (.int .i64 0), (.int .i64 0), (.int .i64 0), (.int .i64 0), (.int .i64 0)]) fun i17 H18 =>
  J x2 x3 x9 x10 x11 x12 x13 i17 H18
theorem M8_6_ok {o : Orc} {N : Nat} {κ : Kv} {J : Kt} {J' : V → Int → V → V → Int → Int → Bool → Nat → Heap → Ans} (hJ : ∀ x2 x3 x9 x10 x11 x12 x13 x14 H, J (tmk 0 157 [(2, x2), (3, .int .i64 x3), (9, x9), (10, x10), (11, .int .i64 x11), (12, .int .i64 x12), (13, .bool x13), (14, .ptr x14 0)]) H = J' x2 x3 x9 x10 x11 x12 x13 x14 H) (x2 : V) (x3 : Int) (x9 x10 : V) (x11 x12 : Int) (x13 : Bool) (H : Heap) :
    run Try.prog o N (cAt Try.f8 [1, 1, 1, 1, 1, 1, 0]) .n (env0 Try.prog Try.f8 κ) (tmk 0 157 [(2, x2), (3, .int .i64 x3), (9, x9), (10, x10), (11, .int .i64 x11), (12, .int .i64 x12), (13, .bool x13)]) H (kj [2, 3, 9, 10, 11, 12, 13, 14] J) = M8_6 o N J' κ x2 x3 x9 x10 x11 x12 x13 H := by
  obtain rfl := fx9 hJ
  kernel_rfl
def M8_7 (o : Orc) (N : Nat) (J : V → Int → V → V → Int → Int → Bool → Nat → Int → Heap → Ans) (κ : Kv) (x2 : V) (x3 : Int) (x9 x10 : V) (x11 x12 : Int) (x13 : Bool) (x14 : Nat) (H : Heap) : Ans :=
  J x2 x3 x9 x10 x11 x12 x13 x14 0 H
theorem M8_7_ok {o : Orc} {N : Nat} {κ : Kv} {J : Kt} {J' : V → Int → V → V → Int → Int → Bool → Nat → Int → Heap → Ans} (hJ : ∀ x2 x3 x9 x10 x11 x12 x13 x14 x15 H, J (tmk 0 157 [(2, x2), (3, .int .i64 x3), (9, x9), (10, x10), (11, .int .i64 x11), (12, .int .i64 x12), (13, .bool x13), (14, .ptr x14 0), (15, .int .i64 x15)]) H = J' x2 x3 x9 x10 x11 x12 x13 x14 x15 H) (x2 : V) (x3 : Int) (x9 x10 : V) (x11 x12 : Int) (x13 : Bool) (x14 : Nat) (H : Heap) :
    run Try.prog o N (cAt Try.f8 [1, 1, 1, 1, 1, 1, 1, 0, 0]) .n (env0 Try.prog Try.f8 κ) (tmk 0 157 [(2, x2), (3, .int .i64 x3), (9, x9), (10, x10), (11, .int .i64 x11), (12, .int .i64 x12), (13, .bool x13), (14, .ptr x14 0)]) H (kj [2, 3, 9, 10, 11, 12, 13, 14, 15] J) = M8_7 o N J' κ x2 x3 x9 x10 x11 x12 x13 x14 H := by
  obtain rfl := fx10 hJ
  kernel_rfl
def M8_8 (o : Orc) (N : Nat) (X0 : Heap → Ans) (J : V → Int → V → V → Int → Int → Bool → Nat → Int → Heap → Ans) (κ : Kv) (x2 : V) (x3 : Int) (x9 x10 : V) (x11 x12 : Int) (x13 : Bool) (x14 : Nat) (x15 : Int) (H : Heap) : Ans :=
  lenS x2 fun n19 =>
  cond (decide (x15 < n19)) (
  J x2 x3 x9 x10 x11 x12 x13 x14 x15 H) (
  X0  H)
theorem M8_8_ok {o : Orc} {N : Nat} {κ : Kv} {X0 J : Kt} {X0' : Heap → Ans} {J' : V → Int → V → V → Int → Int → Bool → Nat → Int → Heap → Ans} (h0 : ∀  H, X0 (tmk 0 157 []) H = X0' H) (hJ : ∀ x2 x3 x9 x10 x11 x12 x13 x14 x15 H, J (tmk 0 157 [(2, x2), (3, .int .i64 x3), (9, x9), (10, x10), (11, .int .i64 x11), (12, .int .i64 x12), (13, .bool x13), (14, .ptr x14 0), (15, .int .i64 x15)]) H = J' x2 x3 x9 x10 x11 x12 x13 x14 x15 H) (x2 : V) (x3 : Int) (x9 x10 : V) (x11 x12 : Int) (x13 : Bool) (x14 : Nat) (x15 : Int) (H : Heap) :
    run Try.prog o N (cAt Try.f8 [1, 1, 1, 1, 1, 1, 1, 0, 1, 4, 4, 0]) .n ((env0 Try.prog Try.f8 κ).block 0 (kj [] X0)) (tmk 0 157 [(2, x2), (3, .int .i64 x3), (9, x9), (10, x10), (11, .int .i64 x11), (12, .int .i64 x12), (13, .bool x13), (14, .ptr x14 0), (15, .int .i64 x15)]) H (kj [2, 3, 9, 10, 11, 12, 13, 14, 15] J) = M8_8 o N X0' J' κ x2 x3 x9 x10 x11 x12 x13 x14 x15 H := by
  obtain rfl := fx1 h0
  obtain rfl := fx10 hJ
  kernel_rfl
def M8_9 (o : Orc) (N : Nat) (J : V → Int → V → V → Int → Int → Bool → Nat → Int → Int → Heap → Ans) (κ : Kv) (x2 : V) (x3 : Int) (x9 x10 : V) (x11 x12 : Int) (x13 : Bool) (x14 : Nat) (x15 : Int) (H : Heap) : Ans :=
  idxS 2 x2 x15 fun p20 o21 =>
  (ldI H .i64 p20 (o21 + 1)).bind fun n22 =>
  J x2 x3 x9 x10 x11 x12 x13 x14 x15 n22 H
theorem M8_9_ok {o : Orc} {N : Nat} {κ : Kv} {X0 X1 J : Kt} {J' : V → Int → V → V → Int → Int → Bool → Nat → Int → Int → Heap → Ans} (hJ : ∀ x2 x3 x9 x10 x11 x12 x13 x14 x15 x16 H, J (tmk 0 157 [(2, x2), (3, .int .i64 x3), (9, x9), (10, x10), (11, .int .i64 x11), (12, .int .i64 x12), (13, .bool x13), (14, .ptr x14 0), (15, .int .i64 x15), (16, .int .i64 x16)]) H = J' x2 x3 x9 x10 x11 x12 x13 x14 x15 x16 H) (x2 : V) (x3 : Int) (x9 x10 : V) (x11 x12 : Int) (x13 : Bool) (x14 : Nat) (x15 : Int) (H : Heap) :
    run Try.prog o N (cAt Try.f8 [1, 1, 1, 1, 1, 1, 1, 0, 1, 4, 4, 1, 0, 4, 0]) .n (((env0 Try.prog Try.f8 κ).block 0 (kj [] X0)).block 1 (kj [2, 3, 9, 10, 11, 12, 13, 14, 15] X1)) (tmk 0 157 [(2, x2), (3, .int .i64 x3), (9, x9), (10, x10), (11, .int .i64 x11), (12, .int .i64 x12), (13, .bool x13), (14, .ptr x14 0), (15, .int .i64 x15)]) H (kj [2, 3, 9, 10, 11, 12, 13, 14, 15, 16] J) = M8_9 o N J' κ x2 x3 x9 x10 x11 x12 x13 x14 x15 H := by
  obtain rfl := fx11 hJ
  kernel_rfl
def M8_10 (o : Orc) (N : Nat) (J : V → Int → V → V → Int → Int → Bool → Nat → Int → Int → V → Heap → Ans) (κ : Kv) (x2 : V) (x3 : Int) (x9 x10 : V) (x11 x12 : Int) (x13 : Bool) (x14 : Nat) (x15 x16 : Int) (H : Heap) : Ans :=
  o 27 [x9] H fun v23 H24 =>
  J x2 x3 x9 x10 x11 x12 x13 x14 x15 x16 v23 H24
theorem M8_10_ok {o : Orc} {N : Nat} {κ : Kv} {X0 X1 J : Kt} {J' : V → Int → V → V → Int → Int → Bool → Nat → Int → Int → V → Heap → Ans} (hJ : ∀ x2 x3 x9 x10 x11 x12 x13 x14 x15 x16 x17 H, J (tmk 0 157 [(2, x2), (3, .int .i64 x3), (9, x9), (10, x10), (11, .int .i64 x11), (12, .int .i64 x12), (13, .bool x13), (14, .ptr x14 0), (15, .int .i64 x15), (16, .int .i64 x16), (17, x17)]) H = J' x2 x3 x9 x10 x11 x12 x13 x14 x15 x16 x17 H) (x2 : V) (x3 : Int) (x9 x10 : V) (x11 x12 : Int) (x13 : Bool) (x14 : Nat) (x15 x16 : Int) (H : Heap) :
    run Try.prog o N (cAt Try.f8 [1, 1, 1, 1, 1, 1, 1, 0, 1, 4, 4, 1, 0, 4, 1, 0]) .n (((env0 Try.prog Try.f8 κ).block 0 (kj [] X0)).block 1 (kj [2, 3, 9, 10, 11, 12, 13, 14, 15] X1)) (tmk 0 157 [(2, x2), (3, .int .i64 x3), (9, x9), (10, x10), (11, .int .i64 x11), (12, .int .i64 x12), (13, .bool x13), (14, .ptr x14 0), (15, .int .i64 x15), (16, .int .i64 x16)]) H (kj [2, 3, 9, 10, 11, 12, 13, 14, 15, 16, 17] J) = M8_10 o N J' κ x2 x3 x9 x10 x11 x12 x13 x14 x15 x16 H := by
  obtain rfl := fx12 hJ
  kernel_rfl
def M8_11 (o : Orc) (N : Nat) (J : V → Int → V → V → Int → Int → Bool → Nat → Int → Int → V → Int → Heap → Ans) (κ : Kv) (x2 : V) (x3 : Int) (x9 x10 : V) (x11 x12 : Int) (x13 : Bool) (x14 : Nat) (x15 x16 : Int) (x17 : V) (H : Heap) : Ans :=
  idxS 2 x2 x15 fun p25 o26 =>
  (ldI H .i64 p25 (o26 + 0)).bind fun n27 =>
  J x2 x3 x9 x10 x11 x12 x13 x14 x15 x16 x17 n27 H
theorem M8_11_ok {o : Orc} {N : Nat} {κ : Kv} {X0 X1 J : Kt} {J' : V → Int → V → V → Int → Int → Bool → Nat → Int → Int → V → Int → Heap → Ans} (hJ : ∀ x2 x3 x9 x10 x11 x12 x13 x14 x15 x16 x17 x56 H, J (tmk 0 157 [(2, x2), (3, .int .i64 x3), (9, x9), (10, x10), (11, .int .i64 x11), (12, .int .i64 x12), (13, .bool x13), (14, .ptr x14 0), (15, .int .i64 x15), (16, .int .i64 x16), (17, x17), (56, .int .i64 x56)]) H = J' x2 x3 x9 x10 x11 x12 x13 x14 x15 x16 x17 x56 H) (x2 : V) (x3 : Int) (x9 x10 : V) (x11 x12 : Int) (x13 : Bool) (x14 : Nat) (x15 x16 : Int) (x17 : V) (H : Heap) :
    run Try.prog o N (cAt Try.f8 [1, 1, 1, 1, 1, 1, 1, 0, 1, 4, 4, 1, 0, 4, 1, 1, 0, 0]) .n (((env0 Try.prog Try.f8 κ).block 0 (kj [] X0)).block 1 (kj [2, 3, 9, 10, 11, 12, 13, 14, 15] X1)) (tmk 0 157 [(2, x2), (3, .int .i64 x3), (9, x9), (10, x10), (11, .int .i64 x11), (12, .int .i64 x12), (13, .bool x13), (14, .ptr x14 0), (15, .int .i64 x15), (16, .int .i64 x16), (17, x17)]) H (kj [2, 3, 9, 10, 11, 12, 13, 14, 15, 16, 17, 56] J) = M8_11 o N J' κ x2 x3 x9 x10 x11 x12 x13 x14 x15 x16 x17 H := by
  obtain rfl := fx13 hJ
  kernel_rfl
def M8_12 (o : Orc) (N : Nat) (J : V → Int → V → V → Int → Int → Bool → Nat → Int → Int → V → Int → Bool → Heap → Ans) (κ : Kv) (x2 : V) (x3 : Int) (x9 x10 : V) (x11 x12 : Int) (x13 : Bool) (x14 : Nat) (x15 x16 : Int) (x17 : V) (x56 : Int) (H : Heap) : Ans :=
  J x2 x3 x9 x10 x11 x12 x13 x14 x15 x16 x17 x56 (x56 == 0) H
theorem M8_12_ok {o : Orc} {N : Nat} {κ : Kv} {X0 X1 X2 J : Kt} {J' : V → Int → V → V → Int → Int → Bool → Nat → Int → Int → V → Int → Bool → Heap → Ans} (hJ : ∀ x2 x3 x9 x10 x11 x12 x13 x14 x15 x16 x17 x56 x107 H, J (tmk 0 157 [(2, x2), (3, .int .i64 x3), (9, x9), (10, x10), (11, .int .i64 x11), (12, .int .i64 x12), (13, .bool x13), (14, .ptr x14 0), (15, .int .i64 x15), (16, .int .i64 x16), (17, x17), (56, .int .i64 x56), (107, .bool x107)]) H = J' x2 x3 x9 x10 x11 x12 x13 x14 x15 x16 x17 x56 x107 H) (x2 : V) (x3 : Int) (x9 x10 : V) (x11 x12 : Int) (x13 : Bool) (x14 : Nat) (x15 x16 : Int) (x17 : V) (x56 : Int) (H : Heap) :
    run Try.prog o N (cAt Try.f8 [1, 1, 1, 1, 1, 1, 1, 0, 1, 4, 4, 1, 0, 4, 1, 1, 0, 1, 4, 0]) .n ((((env0 Try.prog Try.f8 κ).block 0 (kj [] X0)).block 1 (kj [2, 3, 9, 10, 11, 12, 13, 14, 15] X1)).block 2 (kj [2, 3, 9, 10, 11, 12, 13, 14, 15, 17] X2)) (tmk 0 157 [(2, x2), (3, .int .i64 x3), (9, x9), (10, x10), (11, .int .i64 x11), (12, .int .i64 x12), (13, .bool x13), (14, .ptr x14 0), (15, .int .i64 x15), (16, .int .i64 x16), (17, x17), (56, .int .i64 x56)]) H (kj [2, 3, 9, 10, 11, 12, 13, 14, 15, 16, 17, 56, 107] J) = M8_12 o N J' κ x2 x3 x9 x10 x11 x12 x13 x14 x15 x16 x17 x56 H := by
  obtain rfl := fx14 hJ
  kernel_rfl
def M8_13 (o : Orc) (N : Nat) (J : V → Int → V → V → Int → Int → Bool → Nat → Int → V → Heap → Ans) (κ : Kv) (x2 : V) (x3 : Int) (x9 x10 : V) (x11 x12 : Int) (x13 : Bool) (x14 : Nat) (x15 x16 : Int) (x17 : V) (x56 : Int) (x107 : Bool) (H : Heap) : Ans :=
  o 23 [x9, (.int .i64 x16)] H fun v28 H29 =>
  asT0 v28 (
  J x2 x3 x9 x10 x16 0 false x14 x15 x17 H29)
theorem M8_13_ok {o : Orc} {N : Nat} {κ : Kv} {X0 X1 X2 J : Kt} {J' : V → Int → V → V → Int → Int → Bool → Nat → Int → V → Heap → Ans} (hJ : ∀ x2 x3 x9 x10 x11 x12 x13 x14 x15 x17 H, J (tmk 0 157 [(2, x2), (3, .int .i64 x3), (9, x9), (10, x10), (11, .int .i64 x11), (12, .int .i64 x12), (13, .bool x13), (14, .ptr x14 0), (15, .int .i64 x15), (17, x17)]) H = J' x2 x3 x9 x10 x11 x12 x13 x14 x15 x17 H) (x2 : V) (x3 : Int) (x9 x10 : V) (x11 x12 : Int) (x13 : Bool) (x14 : Nat) (x15 x16 : Int) (x17 : V) (x56 : Int) (x107 : Bool) (H : Heap) :
    run Try.prog o N (cAt Try.f8 [1, 1, 1, 1, 1, 1, 1, 0, 1, 4, 4, 1, 0, 4, 1, 1, 0, 1, 4, 1, 2]) .n ((((env0 Try.prog Try.f8 κ).block 0 (kj [] X0)).block 1 (kj [2, 3, 9, 10, 11, 12, 13, 14, 15] X1)).block 2 (kj [2, 3, 9, 10, 11, 12, 13, 14, 15, 17] X2)) (tmk 0 157 [(2, x2), (3, .int .i64 x3), (9, x9), (10, x10), (11, .int .i64 x11), (12, .int .i64 x12), (13, .bool x13), (14, .ptr x14 0), (15, .int .i64 x15), (16, .int .i64 x16), (17, x17), (56, .int .i64 x56), (107, .bool x107)]) H (kj [2, 3, 9, 10, 11, 12, 13, 14, 15, 17] J) = M8_13 o N J' κ x2 x3 x9 x10 x11 x12 x13 x14 x15 x16 x17 x56 x107 H := by
  obtain rfl := fx11 hJ
  kernel_rfl
def M8_14 (o : Orc) (N : Nat) (J : V → Int → V → V → Int → Int → Bool → Nat → Int → Int → V → Bool → Heap → Ans) (κ : Kv) (x2 : V) (x3 : Int) (x9 x10 : V) (x11 x12 : Int) (x13 : Bool) (x14 : Nat) (x15 x16 : Int) (x17 : V) (x56 : Int) (x107 : Bool) (H : Heap) : Ans :=
  J x2 x3 x9 x10 x11 x12 x13 x14 x15 x16 x17 (x56 == 1) H
theorem M8_14_ok {o : Orc} {N : Nat} {κ : Kv} {X0 X1 X2 J : Kt} {J' : V → Int → V → V → Int → Int → Bool → Nat → Int → Int → V → Bool → Heap → Ans} (hJ : ∀ x2 x3 x9 x10 x11 x12 x13 x14 x15 x16 x17 x113 H, J (tmk 0 157 [(2, x2), (3, .int .i64 x3), (9, x9), (10, x10), (11, .int .i64 x11), (12, .int .i64 x12), (13, .bool x13), (14, .ptr x14 0), (15, .int .i64 x15), (16, .int .i64 x16), (17, x17), (113, .bool x113)]) H = J' x2 x3 x9 x10 x11 x12 x13 x14 x15 x16 x17 x113 H) (x2 : V) (x3 : Int) (x9 x10 : V) (x11 x12 : Int) (x13 : Bool) (x14 : Nat) (x15 x16 : Int) (x17 : V) (x56 : Int) (x107 : Bool) (H : Heap) :
    run Try.prog o N (cAt Try.f8 [1, 1, 1, 1, 1, 1, 1, 0, 1, 4, 4, 1, 0, 4, 1, 1, 0, 1, 4, 1, 3, 0]) .n ((((env0 Try.prog Try.f8 κ).block 0 (kj [] X0)).block 1 (kj [2, 3, 9, 10, 11, 12, 13, 14, 15] X1)).block 2 (kj [2, 3, 9, 10, 11, 12, 13, 14, 15, 17] X2)) (tmk 0 157 [(2, x2), (3, .int .i64 x3), (9, x9), (10, x10), (11, .int .i64 x11), (12, .int .i64 x12), (13, .bool x13), (14, .ptr x14 0), (15, .int .i64 x15), (16, .int .i64 x16), (17, x17), (56, .int .i64 x56), (107, .bool x107)]) H (kj [2, 3, 9, 10, 11, 12, 13, 14, 15, 16, 17, 113] J) = M8_14 o N J' κ x2 x3 x9 x10 x11 x12 x13 x14 x15 x16 x17 x56 x107 H := by
  obtain rfl := fx13 hJ
  kernel_rfl
def M8_15 (o : Orc) (N : Nat) (J : V → Int → V → V → Int → Int → Bool → Nat → Int → V → Heap → Ans) (κ : Kv) (x2 : V) (x3 : Int) (x9 x10 : V) (x11 x12 : Int) (x13 : Bool) (x14 : Nat) (x15 x16 : Int) (x17 : V) (x113 : Bool) (H : Heap) : Ans :=
  o 28 [x9] H fun v30 H31 =>
  asT0 v30 (
  J x2 x3 x9 x10 x11 x12 false x14 x15 x17 H31)
theorem M8_15_ok {o : Orc} {N : Nat} {κ : Kv} {X0 X1 X2 J : Kt} {J' : V → Int → V → V → Int → Int → Bool → Nat → Int → V → Heap → Ans} (hJ : ∀ x2 x3 x9 x10 x11 x12 x13 x14 x15 x17 H, J (tmk 0 157 [(2, x2), (3, .int .i64 x3), (9, x9), (10, x10), (11, .int .i64 x11), (12, .int .i64 x12), (13, .bool x13), (14, .ptr x14 0), (15, .int .i64 x15), (17, x17)]) H = J' x2 x3 x9 x10 x11 x12 x13 x14 x15 x17 H) (x2 : V) (x3 : Int) (x9 x10 : V) (x11 x12 : Int) (x13 : Bool) (x14 : Nat) (x15 x16 : Int) (x17 : V) (x113 : Bool) (H : Heap) :
    run Try.prog o N (cAt Try.f8 [1, 1, 1, 1, 1, 1, 1, 0, 1, 4, 4, 1, 0, 4, 1, 1, 0, 1, 4, 1, 3, 1, 2]) .n ((((env0 Try.prog Try.f8 κ).block 0 (kj [] X0)).block 1 (kj [2, 3, 9, 10, 11, 12, 13, 14, 15] X1)).block 2 (kj [2, 3, 9, 10, 11, 12, 13, 14, 15, 17] X2)) (tmk 0 157 [(2, x2), (3, .int .i64 x3), (9, x9), (10, x10), (11, .int .i64 x11), (12, .int .i64 x12), (13, .bool x13), (14, .ptr x14 0), (15, .int .i64 x15), (16, .int .i64 x16), (17, x17), (113, .bool x113)]) H (kj [2, 3, 9, 10, 11, 12, 13, 14, 15, 17] J) = M8_15 o N J' κ x2 x3 x9 x10 x11 x12 x13 x14 x15 x16 x17 x113 H := by
  obtain rfl := fx11 hJ
  kernel_rfl
def M8_16 (o : Orc) (N : Nat) (J : V → Int → V → V → Int → Int → Bool → Nat → Int → Int → V → V → Heap → Ans) (κ : Kv) (x2 : V) (x3 : Int) (x9 x10 : V) (x11 x12 : Int) (x13 : Bool) (x14 : Nat) (x15 x16 : Int) (x17 : V) (x113 : Bool) (H : Heap) : Ans :=
  J x2 x3 x9 x10 x11 x12 x13 x14 x15 x16 x17 .nils H
theorem M8_16_ok {o : Orc} {N : Nat} {κ : Kv} {X0 X1 X2 J : Kt} {J' : V → Int → V → V → Int → Int → Bool → Nat → Int → Int → V → V → Heap → Ans} (hJ : ∀ x2 x3 x9 x10 x11 x12 x13 x14 x15 x16 x17 x18 H, J (tmk 0 157 [(2, x2), (3, .int .i64 x3), (9, x9), (10, x10), (11, .int .i64 x11), (12, .int .i64 x12), (13, .bool x13), (14, .ptr x14 0), (15, .int .i64 x15), (16, .int .i64 x16), (17, x17), (18, x18)]) H = J' x2 x3 x9 x10 x11 x12 x13 x14 x15 x16 x17 x18 H) (x2 : V) (x3 : Int) (x9 x10 : V) (x11 x12 : Int) (x13 : Bool) (x14 : Nat) (x15 x16 : Int) (x17 : V) (x113 : Bool) (H : Heap) :
    run Try.prog o N (cAt Try.f8 [1, 1, 1, 1, 1, 1, 1, 0, 1, 4, 4, 1, 0, 4, 1, 1, 0, 1, 4, 1, 3, 1, 3, 0]) .n ((((env0 Try.prog Try.f8 κ).block 0 (kj [] X0)).block 1 (kj [2, 3, 9, 10, 11, 12, 13, 14, 15] X1)).block 2 (kj [2, 3, 9, 10, 11, 12, 13, 14, 15, 17] X2)) (tmk 0 157 [(2, x2), (3, .int .i64 x3), (9, x9), (10, x10), (11, .int .i64 x11), (12, .int .i64 x12), (13, .bool x13), (14, .ptr x14 0), (15, .int .i64 x15), (16, .int .i64 x16), (17, x17), (113, .bool x113)]) H (kj [2, 3, 9, 10, 11, 12, 13, 14, 15, 16, 17, 18] J) = M8_16 o N J' κ x2 x3 x9 x10 x11 x12 x13 x14 x15 x16 x17 x113 H := by
  obtain rfl := fx13 hJ
  kernel_rfl
def M8_17 (o : Orc) (N : Nat) (J : V → Int → V → V → Int → Int → Bool → Nat → Int → Int → V → V → Heap → Ans) (κ : Kv) (x2 : V) (x3 : Int) (x9 x10 : V) (x11 x12 : Int) (x13 : Bool) (x14 : Nat) (x15 x16 : Int) (x17 x18 : V) (H : Heap) : Ans :=
  cond (decide (x16 ≥ x12)) (
  o 29 [x10, (.int .i64 x11), (.int .i64 x12), (.int .i64 x16)] H fun v32 H33 =>
  J x2 x3 x9 x10 x11 x16 x13 x14 x15 x16 x17 v32 H33) (
  J x2 x3 x9 x10 x11 x12 x13 x14 x15 x16 x17 x18 H)
theorem M8_17_ok {o : Orc} {N : Nat} {κ : Kv} {X0 X1 X2 J : Kt} {J' : V → Int → V → V → Int → Int → Bool → Nat → Int → Int → V → V → Heap → Ans} (hJ : ∀ x2 x3 x9 x10 x11 x12 x13 x14 x15 x16 x17 x18 H, J (tmk 0 157 [(2, x2), (3, .int .i64 x3), (9, x9), (10, x10), (11, .int .i64 x11), (12, .int .i64 x12), (13, .bool x13), (14, .ptr x14 0), (15, .int .i64 x15), (16, .int .i64 x16), (17, x17), (18, x18)]) H = J' x2 x3 x9 x10 x11 x12 x13 x14 x15 x16 x17 x18 H) (x2 : V) (x3 : Int) (x9 x10 : V) (x11 x12 : Int) (x13 : Bool) (x14 : Nat) (x15 x16 : Int) (x17 x18 : V) (H : Heap) :
    run Try.prog o N (cAt Try.f8 [1, 1, 1, 1, 1, 1, 1, 0, 1, 4, 4, 1, 0, 4, 1, 1, 0, 1, 4, 1, 3, 1, 3, 1, 0]) .n ((((env0 Try.prog Try.f8 κ).block 0 (kj [] X0)).block 1 (kj [2, 3, 9, 10, 11, 12, 13, 14, 15] X1)).block 2 (kj [2, 3, 9, 10, 11, 12, 13, 14, 15, 17] X2)) (tmk 0 157 [(2, x2), (3, .int .i64 x3), (9, x9), (10, x10), (11, .int .i64 x11), (12, .int .i64 x12), (13, .bool x13), (14, .ptr x14 0), (15, .int .i64 x15), (16, .int .i64 x16), (17, x17), (18, x18)]) H (kj [2, 3, 9, 10, 11, 12, 13, 14, 15, 16, 17, 18] J) = M8_17 o N J' κ x2 x3 x9 x10 x11 x12 x13 x14 x15 x16 x17 x18 H := by
  obtain rfl := fx13 hJ
  kernel_rfl
def M8_18 (o : Orc) (N : Nat) (J : V → Int → V → V → Int → Int → Bool → Nat → Int → V → V → V → Heap → Ans) (κ : Kv) (x2 : V) (x3 : Int) (x9 x10 : V) (x11 x12 : Int) (x13 : Bool) (x14 : Nat) (x15 x16 : Int) (x17 x18 : V) (H : Heap) : Ans :=
  o 24 [x9, (.int .i64 x16)] H fun v34 H35 =>
  J x2 x3 x9 x10 x11 x12 x13 x14 x15 x17 x18 v34 H35
theorem M8_18_ok {o : Orc} {N : Nat} {κ : Kv} {X0 X1 X2 J : Kt} {J' : V → Int → V → V → Int → Int → Bool → Nat → Int → V → V → V → Heap → Ans} (hJ : ∀ x2 x3 x9 x10 x11 x12 x13 x14 x15 x17 x18 x19 H, J (tmk 0 157 [(2, x2), (3, .int .i64 x3), (9, x9), (10, x10), (11, .int .i64 x11), (12, .int .i64 x12), (13, .bool x13), (14, .ptr x14 0), (15, .int .i64 x15), (17, x17), (18, x18), (19, x19)]) H = J' x2 x3 x9 x10 x11 x12 x13 x14 x15 x17 x18 x19 H) (x2 : V) (x3 : Int) (x9 x10 : V) (x11 x12 : Int) (x13 : Bool) (x14 : Nat) (x15 x16 : Int) (x17 x18 : V) (H : Heap) :
    run Try.prog o N (cAt Try.f8 [1, 1, 1, 1, 1, 1, 1, 0, 1, 4, 4, 1, 0, 4, 1, 1, 0, 1, 4, 1, 3, 1, 3, 1, 1, 0]) .n ((((env0 Try.prog Try.f8 κ).block 0 (kj [] X0)).block 1 (kj [2, 3, 9, 10, 11, 12, 13, 14, 15] X1)).block 2 (kj [2, 3, 9, 10, 11, 12, 13, 14, 15, 17] X2)) (tmk 0 157 [(2, x2), (3, .int .i64 x3), (9, x9), (10, x10), (11, .int .i64 x11), (12, .int .i64 x12), (13, .bool x13), (14, .ptr x14 0), (15, .int .i64 x15), (16, .int .i64 x16), (17, x17), (18, x18)]) H (kj [2, 3, 9, 10, 11, 12, 13, 14, 15, 17, 18, 19] J) = M8_18 o N J' κ x2 x3 x9 x10 x11 x12 x13 x14 x15 x16 x17 x18 H := by
  obtain rfl := fx13 hJ
  kernel_rfl
def M8_19 (o : Orc) (N : Nat) (J : V → Int → V → V → Int → Int → Bool → Nat → Int → V → V → V → Heap → Ans) (κ : Kv) (x2 : V) (x3 : Int) (x9 x10 : V) (x11 x12 : Int) (x13 : Bool) (x14 : Nat) (x15 : Int) (x17 x18 x19 : V) (H : Heap) : Ans :=
  lenS x19 fun n36 =>
  lenS x18 fun n37 =>
  cond (n36 != n37) (
  κ (.bool false) H) (
  J x2 x3 x9 x10 x11 x12 x13 x14 x15 x17 x18 x19 H)
theorem M8_19_ok {o : Orc} {N : Nat} {κ : Kv} {X0 X1 X2 J : Kt} {J' : V → Int → V → V → Int → Int → Bool → Nat → Int → V → V → V → Heap → Ans} (hJ : ∀ x2 x3 x9 x10 x11 x12 x13 x14 x15 x17 x18 x19 H, J (tmk 0 157 [(2, x2), (3, .int .i64 x3), (9, x9), (10, x10), (11, .int .i64 x11), (12, .int .i64 x12), (13, .bool x13), (14, .ptr x14 0), (15, .int .i64 x15), (17, x17), (18, x18), (19, x19)]) H = J' x2 x3 x9 x10 x11 x12 x13 x14 x15 x17 x18 x19 H) (x2 : V) (x3 : Int) (x9 x10 : V) (x11 x12 : Int) (x13 : Bool) (x14 : Nat) (x15 : Int) (x17 x18 x19 : V) (H : Heap) :
    run Try.prog o N (cAt Try.f8 [1, 1, 1, 1, 1, 1, 1, 0, 1, 4, 4, 1, 0, 4, 1, 1, 0, 1, 4, 1, 3, 1, 3, 1, 1, 1, 0]) .n ((((env0 Try.prog Try.f8 κ).block 0 (kj [] X0)).block 1 (kj [2, 3, 9, 10, 11, 12, 13, 14, 15] X1)).block 2 (kj [2, 3, 9, 10, 11, 12, 13, 14, 15, 17] X2)) (tmk 0 157 [(2, x2), (3, .int .i64 x3), (9, x9), (10, x10), (11, .int .i64 x11), (12, .int .i64 x12), (13, .bool x13), (14, .ptr x14 0), (15, .int .i64 x15), (17, x17), (18, x18), (19, x19)]) H (kj [2, 3, 9, 10, 11, 12, 13, 14, 15, 17, 18, 19] J) = M8_19 o N J' κ x2 x3 x9 x10 x11 x12 x13 x14 x15 x17 x18 x19 H := by
  obtain rfl := fx13 hJ
  kernel_rfl
def M8_20 (o : Orc) (N : Nat) (J : V → Int → V → V → Int → Int → Bool → Nat → Int → V → V → V → Int → Heap → Ans) (κ : Kv) (x2 : V) (x3 : Int) (x9 x10 : V) (x11 x12 : Int) (x13 : Bool) (x14 : Nat) (x15 : Int) (x17 x18 x19 : V) (H : Heap) : Ans :=
  J x2 x3 x9 x10 x11 x12 x13 x14 x15 x17 x18 x19 0 H
theorem M8_20_ok {o : Orc} {N : Nat} {κ : Kv} {X0 X1 X2 J : Kt} {J' : V → Int → V → V → Int → Int → Bool → Nat → Int → V → V → V → Int → Heap → Ans} (hJ : ∀ x2 x3 x9 x10 x11 x12 x13 x14 x15 x17 x18 x19 x20 H, J (tmk 0 157 [(2, x2), (3, .int .i64 x3), (9, x9), (10, x10), (11, .int .i64 x11), (12, .int .i64 x12), (13, .bool x13), (14, .ptr x14 0), (15, .int .i64 x15), (17, x17), (18, x18), (19, x19), (20, .int .i64 x20)]) H = J' x2 x3 x9 x10 x11 x12 x13 x14 x15 x17 x18 x19 x20 H) (x2 : V) (x3 : Int) (x9 x10 : V) (x11 x12 : Int) (x13 : Bool) (x14 : Nat) (x15 : Int) (x17 x18 x19 : V) (H : Heap) :
    run Try.prog o N (cAt Try.f8 [1, 1, 1, 1, 1, 1, 1, 0, 1, 4, 4, 1, 0, 4, 1, 1, 0, 1, 4, 1, 3, 1, 3, 1, 1, 1, 1, 0]) .n ((((env0 Try.prog Try.f8 κ).block 0 (kj [] X0)).block 1 (kj [2, 3, 9, 10, 11, 12, 13, 14, 15] X1)).block 2 (kj [2, 3, 9, 10, 11, 12, 13, 14, 15, 17] X2)) (tmk 0 157 [(2, x2), (3, .int .i64 x3), (9, x9), (10, x10), (11, .int .i64 x11), (12, .int .i64 x12), (13, .bool x13), (14, .ptr x14 0), (15, .int .i64 x15), (17, x17), (18, x18), (19, x19)]) H (kj [2, 3, 9, 10, 11, 12, 13, 14, 15, 17, 18, 19, 20] J) = M8_20 o N J' κ x2 x3 x9 x10 x11 x12 x13 x14 x15 x17 x18 x19 H := by
  obtain rfl := fx14 hJ
  kernel_rfl
def A8_21 : An := (.s .n none (.s (.b none (.s (.s (.d [0, 1, 2, 3, 4, 5, 6, 7, 8]) none .n) none .n)) none .n))
def M8_22 (o : Orc) (N : Nat) (X3 : V → Int → V → V → Int → Int → Bool → Nat → Int → V → Heap → Ans) (J : V → Int → V → V → Int → Int → Bool → Nat → Int → V → V → V → Int → Heap → Ans) (κ : Kv) (x2 : V) (x3 : Int) (x9 x10 : V) (x11 x12 : Int) (x13 : Bool) (x14 : Nat) (x15 : Int) (x17 x18 x19 : V) (x20 : Int) (H : Heap) : Ans :=
  lenS x19 fun n38 =>
  cond (decide (x20 < n38)) (
  idxS 6 x19 x20 fun p39 o40 =>
  ldFlat (Heap.skip H 9) p39 [.int .i64, .int .i64, .int .i64, .int .i64, .int .i64, .int .i64] o40 fun l41 =>
  idxS 6 x18 x20 fun p42 o43 =>
  ldFlat (Heap.skip H 9) p42 [.int .i64, .int .i64, .int .i64, .int .i64, .int .i64, .int .i64] o43 fun l44 =>
  (eqFlat [.int .i64, .int .i64, .int .i64, .int .i64, .int .i64, .int .i64] l41 l44).bind fun b45 =>
  cond (!b45) (
  κ (.bool false) (Heap.skip H 9)) (
  idxS 6 x19 x20 fun p46 o47 =>
  (ldI (Heap.skip H 9) .i64 p46 (o47 + 0)).bind fun n48 =>
  cond (n48 == 1) (
  idxS 6 x19 x20 fun p49 o50 =>
  ldFlat (Heap.skip H 9) p49 [.int .i64, .int .i64, .int .i64, .int .i64, .int .i64, .int .i64] o50 fun l51 =>
  cond (Nat.beq (List.length l51) 6 && Nat.blt 0 6) (
  (stN (Heap.skip H 9) x14 0 l51).bind fun H52 =>
  J x2 x3 x9 x10 x11 x12 true x14 x15 x17 x18 x19 (IntKind.i64.wrap (x20 + 1)) H52) none) (
  idxS 6 x19 x20 fun p53 o54 =>
  (ldI (Heap.skip H 9) .i64 p53 (o54 + 0)).bind fun n55 =>
  cond (n55 == 2) (
  idxS 6 x19 x20 fun p56 o57 =>
  ldFlat (Heap.skip H 9) p56 [.int .i64, .int .i64, .int .i64, .int .i64, .int .i64, .int .i64] o57 fun l58 =>
  cond (Nat.beq (List.length l58) 6 && Nat.blt 0 6) (
  (stN (Heap.skip H 9) x14 0 l58).bind fun H59 =>
  J x2 x3 x9 x10 x11 x12 true x14 x15 x17 x18 x19 (IntKind.i64.wrap (x20 + 1)) H59) none) (
  J x2 x3 x9 x10 x11 x12 x13 x14 x15 x17 x18 x19 (IntKind.i64.wrap (x20 + 1)) (Heap.skip H 9))))) (
  X3 x2 x3 x9 x10 x11 x12 x13 x14 x15 x17 H)
theorem M8_22_ok {o : Orc} {N : Nat} {κ : Kv} {X0 X1 X2 X3 J : Kt} {X3' : V → Int → V → V → Int → Int → Bool → Nat → Int → V → Heap → Ans} {J' : V → Int → V → V → Int → Int → Bool → Nat → Int → V → V → V → Int → Heap → Ans} (h3 : ∀ x2 x3 x9 x10 x11 x12 x13 x14 x15 x17 H, X3 (tmk 0 157 [(2, x2), (3, .int .i64 x3), (9, x9), (10, x10), (11, .int .i64 x11), (12, .int .i64 x12), (13, .bool x13), (14, .ptr x14 0), (15, .int .i64 x15), (17, x17)]) H = X3' x2 x3 x9 x10 x11 x12 x13 x14 x15 x17 H) (hJ : ∀ x2 x3 x9 x10 x11 x12 x13 x14 x15 x17 x18 x19 x20 H, J (tmk 0 157 [(2, x2), (3, .int .i64 x3), (9, x9), (10, x10), (11, .int .i64 x11), (12, .int .i64 x12), (13, .bool x13), (14, .ptr x14 0), (15, .int .i64 x15), (17, x17), (18, x18), (19, x19), (20, .int .i64 x20)]) H = J' x2 x3 x9 x10 x11 x12 x13 x14 x15 x17 x18 x19 x20 H) (x2 : V) (x3 : Int) (x9 x10 : V) (x11 x12 : Int) (x13 : Bool) (x14 : Nat) (x15 : Int) (x17 x18 x19 : V) (x20 : Int) (H : Heap) :
    run Try.prog o N (cAt Try.f8 [1, 1, 1, 1, 1, 1, 1, 0, 1, 4, 4, 1, 0, 4, 1, 1, 0, 1, 4, 1, 3, 1, 3, 1, 1, 1, 1, 1, 4, 4]) A8_21 (((((env0 Try.prog Try.f8 κ).block 0 (kj [] X0)).block 1 (kj [2, 3, 9, 10, 11, 12, 13, 14, 15] X1)).block 2 (kj [2, 3, 9, 10, 11, 12, 13, 14, 15, 17] X2)).block 3 (kj [2, 3, 9, 10, 11, 12, 13, 14, 15, 17] X3)) (tmk 0 157 [(2, x2), (3, .int .i64 x3), (9, x9), (10, x10), (11, .int .i64 x11), (12, .int .i64 x12), (13, .bool x13), (14, .ptr x14 0), (15, .int .i64 x15), (17, x17), (18, x18), (19, x19), (20, .int .i64 x20)]) H (kj [2, 3, 9, 10, 11, 12, 13, 14, 15, 17, 18, 19, 20] J) = M8_22 o N X3' J' κ x2 x3 x9 x10 x11 x12 x13 x14 x15 x17 x18 x19 x20 H := by
  obtain rfl := fx11 h3
  obtain rfl := fx14 hJ
  kernel_rfl
def A8_23 : An := .l (some (lvOf [2, 3, 9, 10, 11, 12, 13, 14, 15, 17, 18, 19, 20])) A8_21
def M8_24 (o : Orc) (N : Nat) (X3 : V → Int → V → V → Int → Int → Bool → Nat → Int → V → Heap → Ans) (κ : Kv) (n : Nat) : V → Int → V → V → Int → Int → Bool → Nat → Int → V → V → V → Int → Heap → Ans :=
  Nat.rec (motive := fun _ => V → Int → V → V → Int → Int → Bool → Nat → Int → V → V → V → Int → Heap → Ans) (fun _ _ _ _ _ _ _ _ _ _ _ _ _ _ => none) (fun _ ih x2 x3 x9 x10 x11 x12 x13 x14 x15 x17 x18 x19 x20 H => M8_22 o N X3 ih κ x2 x3 x9 x10 x11 x12 x13 x14 x15 x17 x18 x19 x20 H) n
theorem M8_24_s (o : Orc) (N : Nat) (X3 : V → Int → V → V → Int → Int → Bool → Nat → Int → V → Heap → Ans) (κ : Kv) (n : Nat) (x2 : V) (x3 : Int) (x9 x10 : V) (x11 x12 : Int) (x13 : Bool) (x14 : Nat) (x15 : Int) (x17 x18 x19 : V) (x20 : Int) (H : Heap) : M8_24 o N X3 κ (n + 1) x2 x3 x9 x10 x11 x12 x13 x14 x15 x17 x18 x19 x20 H = M8_22 o N X3 (M8_24 o N X3 κ n) κ x2 x3 x9 x10 x11 x12 x13 x14 x15 x17 x18 x19 x20 H := rfl
theorem M8_24_ok {o : Orc} {N : Nat} {κ : Kv} {X0 X1 X2 X3 : Kt} {X3' : V → Int → V → V → Int → Int → Bool → Nat → Int → V → Heap → Ans} (h3 : ∀ x2 x3 x9 x10 x11 x12 x13 x14 x15 x17 H, X3 (tmk 0 157 [(2, x2), (3, .int .i64 x3), (9, x9), (10, x10), (11, .int .i64 x11), (12, .int .i64 x12), (13, .bool x13), (14, .ptr x14 0), (15, .int .i64 x15), (17, x17)]) H = X3' x2 x3 x9 x10 x11 x12 x13 x14 x15 x17 H) (n : Nat) : ∀ (x2 : V) (x3 : Int) (x9 x10 : V) (x11 x12 : Int) (x13 : Bool) (x14 : Nat) (x15 : Int) (x17 x18 x19 : V) (x20 : Int) (H : Heap),
    rounds (fun a H k => run Try.prog o N (cAt Try.f8 [1, 1, 1, 1, 1, 1, 1, 0, 1, 4, 4, 1, 0, 4, 1, 1, 0, 1, 4, 1, 3, 1, 3, 1, 1, 1, 1, 1, 4, 4]) A8_21 (((((env0 Try.prog Try.f8 κ).block 0 (kj [] X0)).block 1 (kj [2, 3, 9, 10, 11, 12, 13, 14, 15] X1)).block 2 (kj [2, 3, 9, 10, 11, 12, 13, 14, 15, 17] X2)).block 3 (kj [2, 3, 9, 10, 11, 12, 13, 14, 15, 17] X3)) a H k) (some (lvOf [2, 3, 9, 10, 11, 12, 13, 14, 15, 17, 18, 19, 20])) n (tmk 0 157 [(2, x2), (3, .int .i64 x3), (9, x9), (10, x10), (11, .int .i64 x11), (12, .int .i64 x12), (13, .bool x13), (14, .ptr x14 0), (15, .int .i64 x15), (17, x17), (18, x18), (19, x19), (20, .int .i64 x20)]) H = M8_24 o N X3' κ n x2 x3 x9 x10 x11 x12 x13 x14 x15 x17 x18 x19 x20 H := by
  induction n with
  | zero => intros; rfl
  | succ n ih =>
    intro x2 x3 x9 x10 x11 x12 x13 x14 x15 x17 x18 x19 x20 H
    refine (run_round.trans ?_).trans (M8_24_s ..).symm
    exact M8_22_ok h3 ih x2 x3 x9 x10 x11 x12 x13 x14 x15 x17 x18 x19 x20 H
def A8_25 : An := .s .n (some (lvOf [2, 3, 9, 10, 11, 12, 13, 14, 15, 17, 18, 19, 20])) (.b none A8_23)
def A8_26 : An := .s .n (some (lvOf [2, 3, 9, 10, 11, 12, 13, 14, 15, 17, 18, 19])) A8_25
def A8_27 : An := .s .n (some (lvOf [2, 3, 9, 10, 11, 12, 13, 14, 15, 17, 18, 19])) A8_26
def A8_28 : An := .s .n (some (lvOf [2, 3, 9, 10, 11, 12, 13, 14, 15, 16, 17, 18])) A8_27
def A8_29 : An := .s .n (some (lvOf [2, 3, 9, 10, 11, 12, 13, 14, 15, 16, 17, 18])) A8_28
def M8_30 (o : Orc) (N : Nat) (J : V → Int → V → V → Int → Int → Bool → Nat → Int → V → Heap → Ans) (κ : Kv) (x2 : V) (x3 : Int) (x9 x10 : V) (x11 x12 : Int) (x13 : Bool) (x14 : Nat) (x15 x16 : Int) (x17 : V) (x113 : Bool) (H : Heap) : Ans :=
  cond x113 (M8_15 o N J κ x2 x3 x9 x10 x11 x12 x13 x14 x15 x16 x17 x113 H) (M8_16 o N (fun x2 x3 x9 x10 x11 x12 x13 x14 x15 x16 x17 x18 H => M8_17 o N (fun x2 x3 x9 x10 x11 x12 x13 x14 x15 x16 x17 x18 H => M8_18 o N (fun x2 x3 x9 x10 x11 x12 x13 x14 x15 x17 x18 x19 H => M8_19 o N (fun x2 x3 x9 x10 x11 x12 x13 x14 x15 x17 x18 x19 H => M8_20 o N (fun x2 x3 x9 x10 x11 x12 x13 x14 x15 x17 x18 x19 x20 H => M8_24 o N J κ N x2 x3 x9 x10 x11 x12 x13 x14 x15 x17 x18 x19 x20 H) κ x2 x3 x9 x10 x11 x12 x13 x14 x15 x17 x18 x19 H) κ x2 x3 x9 x10 x11 x12 x13 x14 x15 x17 x18 x19 H) κ x2 x3 x9 x10 x11 x12 x13 x14 x15 x16 x17 x18 H) κ x2 x3 x9 x10 x11 x12 x13 x14 x15 x16 x17 x18 H) κ x2 x3 x9 x10 x11 x12 x13 x14 x15 x16 x17 x113 H)
theorem M8_30_ok {o : Orc} {N : Nat} {κ : Kv} {X0 X1 X2 J : Kt} {J' : V → Int → V → V → Int → Int → Bool → Nat → Int → V → Heap → Ans} (hJ : ∀ x2 x3 x9 x10 x11 x12 x13 x14 x15 x17 H, J (tmk 0 157 [(2, x2), (3, .int .i64 x3), (9, x9), (10, x10), (11, .int .i64 x11), (12, .int .i64 x12), (13, .bool x13), (14, .ptr x14 0), (15, .int .i64 x15), (17, x17)]) H = J' x2 x3 x9 x10 x11 x12 x13 x14 x15 x17 H) (x2 : V) (x3 : Int) (x9 x10 : V) (x11 x12 : Int) (x13 : Bool) (x14 : Nat) (x15 x16 : Int) (x17 : V) (x113 : Bool) (H : Heap) :
    run Try.prog o N (cAt Try.f8 [1, 1, 1, 1, 1, 1, 1, 0, 1, 4, 4, 1, 0, 4, 1, 1, 0, 1, 4, 1, 3, 1]) (.c .n A8_29) ((((env0 Try.prog Try.f8 κ).block 0 (kj [] X0)).block 1 (kj [2, 3, 9, 10, 11, 12, 13, 14, 15] X1)).block 2 (kj [2, 3, 9, 10, 11, 12, 13, 14, 15, 17] X2)) (tmk 0 157 [(2, x2), (3, .int .i64 x3), (9, x9), (10, x10), (11, .int .i64 x11), (12, .int .i64 x12), (13, .bool x13), (14, .ptr x14 0), (15, .int .i64 x15), (16, .int .i64 x16), (17, x17), (113, .bool x113)]) H (kj [2, 3, 9, 10, 11, 12, 13, 14, 15, 17] J) = M8_30 o N J' κ x2 x3 x9 x10 x11 x12 x13 x14 x15 x16 x17 x113 H := by
  refine (run_cond (op := .tmp 113) (b := x113) (x := (cAt Try.f8 [1, 1, 1, 1, 1, 1, 1, 0, 1, 4, 4, 1, 0, 4, 1, 1, 0, 1, 4, 1, 3, 1, 2])) (ax := .n) (y := (cAt Try.f8 [1, 1, 1, 1, 1, 1, 1, 0, 1, 4, 4, 1, 0, 4, 1, 1, 0, 1, 4, 1, 3, 1, 3])) (ay := A8_29) (by kernel_rfl) (by kernel_rfl) (by kernel_rfl)).trans (congr (congrArg (cond x113) ?_) ?_)
  · exact M8_15_ok hJ x2 x3 x9 x10 x11 x12 x13 x14 x15 x16 x17 x113 H
  · refine (run_seq (x := (cAt Try.f8 [1, 1, 1, 1, 1, 1, 1, 0, 1, 4, 4, 1, 0, 4, 1, 1, 0, 1, 4, 1, 3, 1, 3, 0])) (ax := .n) (y := (cAt Try.f8 [1, 1, 1, 1, 1, 1, 1, 0, 1, 4, 4, 1, 0, 4, 1, 1, 0, 1, 4, 1, 3, 1, 3, 1])) (ay := A8_28) (l := [2, 3, 9, 10, 11, 12, 13, 14, 15, 16, 17, 18]) (by kernel_rfl) (by kernel_rfl)).trans ?_
    refine M8_16_ok ?_ x2 x3 x9 x10 x11 x12 x13 x14 x15 x16 x17 x113 H
    intro x2 x3 x9 x10 x11 x12 x13 x14 x15 x16 x17 x18 H
    refine (run_seq (x := (cAt Try.f8 [1, 1, 1, 1, 1, 1, 1, 0, 1, 4, 4, 1, 0, 4, 1, 1, 0, 1, 4, 1, 3, 1, 3, 1, 0])) (ax := .n) (y := (cAt Try.f8 [1, 1, 1, 1, 1, 1, 1, 0, 1, 4, 4, 1, 0, 4, 1, 1, 0, 1, 4, 1, 3, 1, 3, 1, 1])) (ay := A8_27) (l := [2, 3, 9, 10, 11, 12, 13, 14, 15, 16, 17, 18]) (by kernel_rfl) (by kernel_rfl)).trans ?_
    refine M8_17_ok ?_ x2 x3 x9 x10 x11 x12 x13 x14 x15 x16 x17 x18 H
    intro x2 x3 x9 x10 x11 x12 x13 x14 x15 x16 x17 x18 H
    refine (run_seq (x := (cAt Try.f8 [1, 1, 1, 1, 1, 1, 1, 0, 1, 4, 4, 1, 0, 4, 1, 1, 0, 1, 4, 1, 3, 1, 3, 1, 1, 0])) (ax := .n) (y := (cAt Try.f8 [1, 1, 1, 1, 1, 1, 1, 0, 1, 4, 4, 1, 0, 4, 1, 1, 0, 1, 4, 1, 3, 1, 3, 1, 1, 1])) (ay := A8_26) (l := [2, 3, 9, 10, 11, 12, 13, 14, 15, 17, 18, 19]) (by kernel_rfl) (by kernel_rfl)).trans ?_
    refine M8_18_ok ?_ x2 x3 x9 x10 x11 x12 x13 x14 x15 x16 x17 x18 H
    intro x2 x3 x9 x10 x11 x12 x13 x14 x15 x17 x18 x19 H
    refine (run_seq (x := (cAt Try.f8 [1, 1, 1, 1, 1, 1, 1, 0, 1, 4, 4, 1, 0, 4, 1, 1, 0, 1, 4, 1, 3, 1, 3, 1, 1, 1, 0])) (ax := .n) (y := (cAt Try.f8 [1, 1, 1, 1, 1, 1, 1, 0, 1, 4, 4, 1, 0, 4, 1, 1, 0, 1, 4, 1, 3, 1, 3, 1, 1, 1, 1])) (ay := A8_25) (l := [2, 3, 9, 10, 11, 12, 13, 14, 15, 17, 18, 19]) (by kernel_rfl) (by kernel_rfl)).trans ?_
    refine M8_19_ok ?_ x2 x3 x9 x10 x11 x12 x13 x14 x15 x17 x18 x19 H
    intro x2 x3 x9 x10 x11 x12 x13 x14 x15 x17 x18 x19 H
    refine (run_seq (x := (cAt Try.f8 [1, 1, 1, 1, 1, 1, 1, 0, 1, 4, 4, 1, 0, 4, 1, 1, 0, 1, 4, 1, 3, 1, 3, 1, 1, 1, 1, 0])) (ax := .n) (y := (cAt Try.f8 [1, 1, 1, 1, 1, 1, 1, 0, 1, 4, 4, 1, 0, 4, 1, 1, 0, 1, 4, 1, 3, 1, 3, 1, 1, 1, 1, 1])) (ay := (.b none A8_23)) (l := [2, 3, 9, 10, 11, 12, 13, 14, 15, 17, 18, 19, 20]) (by kernel_rfl) (by kernel_rfl)).trans ?_
    refine M8_20_ok ?_ x2 x3 x9 x10 x11 x12 x13 x14 x15 x17 x18 x19 H
    intro x2 x3 x9 x10 x11 x12 x13 x14 x15 x17 x18 x19 x20 H
    refine (run_block (id := 3) (x := (cAt Try.f8 [1, 1, 1, 1, 1, 1, 1, 0, 1, 4, 4, 1, 0, 4, 1, 1, 0, 1, 4, 1, 3, 1, 3, 1, 1, 1, 1, 1, 4])) (ax := A8_23) (by kernel_rfl) (by kernel_rfl)).trans ?_
    refine (run_loop (x := (cAt Try.f8 [1, 1, 1, 1, 1, 1, 1, 0, 1, 4, 4, 1, 0, 4, 1, 1, 0, 1, 4, 1, 3, 1, 3, 1, 1, 1, 1, 1, 4, 4])) (ax := A8_21) (l := [2, 3, 9, 10, 11, 12, 13, 14, 15, 17, 18, 19, 20]) (by kernel_rfl) (by kernel_rfl) (by kernel_rfl)).trans ?_
    exact M8_24_ok hJ N x2 x3 x9 x10 x11 x12 x13 x14 x15 x17 x18 x19 x20 H
def A8_31 : An := .s .n (some (lvOf [2, 3, 9, 10, 11, 12, 13, 14, 15, 16, 17, 113])) (.c .n A8_29)
def M8_32 (o : Orc) (N : Nat) (J : V → Int → V → V → Int → Int → Bool → Nat → Int → V → Heap → Ans) (κ : Kv) (x2 : V) (x3 : Int) (x9 x10 : V) (x11 x12 : Int) (x13 : Bool) (x14 : Nat) (x15 x16 : Int) (x17 : V) (x56 : Int) (x107 : Bool) (H : Heap) : Ans :=
  cond x107 (M8_13 o N J κ x2 x3 x9 x10 x11 x12 x13 x14 x15 x16 x17 x56 x107 H) (M8_14 o N (fun x2 x3 x9 x10 x11 x12 x13 x14 x15 x16 x17 x113 H => M8_30 o N J κ x2 x3 x9 x10 x11 x12 x13 x14 x15 x16 x17 x113 H) κ x2 x3 x9 x10 x11 x12 x13 x14 x15 x16 x17 x56 x107 H)
theorem M8_32_ok {o : Orc} {N : Nat} {κ : Kv} {X0 X1 X2 J : Kt} {J' : V → Int → V → V → Int → Int → Bool → Nat → Int → V → Heap → Ans} (hJ : ∀ x2 x3 x9 x10 x11 x12 x13 x14 x15 x17 H, J (tmk 0 157 [(2, x2), (3, .int .i64 x3), (9, x9), (10, x10), (11, .int .i64 x11), (12, .int .i64 x12), (13, .bool x13), (14, .ptr x14 0), (15, .int .i64 x15), (17, x17)]) H = J' x2 x3 x9 x10 x11 x12 x13 x14 x15 x17 H) (x2 : V) (x3 : Int) (x9 x10 : V) (x11 x12 : Int) (x13 : Bool) (x14 : Nat) (x15 x16 : Int) (x17 : V) (x56 : Int) (x107 : Bool) (H : Heap) :
    run Try.prog o N (cAt Try.f8 [1, 1, 1, 1, 1, 1, 1, 0, 1, 4, 4, 1, 0, 4, 1, 1, 0, 1, 4, 1]) (.c .n A8_31) ((((env0 Try.prog Try.f8 κ).block 0 (kj [] X0)).block 1 (kj [2, 3, 9, 10, 11, 12, 13, 14, 15] X1)).block 2 (kj [2, 3, 9, 10, 11, 12, 13, 14, 15, 17] X2)) (tmk 0 157 [(2, x2), (3, .int .i64 x3), (9, x9), (10, x10), (11, .int .i64 x11), (12, .int .i64 x12), (13, .bool x13), (14, .ptr x14 0), (15, .int .i64 x15), (16, .int .i64 x16), (17, x17), (56, .int .i64 x56), (107, .bool x107)]) H (kj [2, 3, 9, 10, 11, 12, 13, 14, 15, 17] J) = M8_32 o N J' κ x2 x3 x9 x10 x11 x12 x13 x14 x15 x16 x17 x56 x107 H := by
  refine (run_cond (op := .tmp 107) (b := x107) (x := (cAt Try.f8 [1, 1, 1, 1, 1, 1, 1, 0, 1, 4, 4, 1, 0, 4, 1, 1, 0, 1, 4, 1, 2])) (ax := .n) (y := (cAt Try.f8 [1, 1, 1, 1, 1, 1, 1, 0, 1, 4, 4, 1, 0, 4, 1, 1, 0, 1, 4, 1, 3])) (ay := A8_31) (by kernel_rfl) (by kernel_rfl) (by kernel_rfl)).trans (congr (congrArg (cond x107) ?_) ?_)
  · exact M8_13_ok hJ x2 x3 x9 x10 x11 x12 x13 x14 x15 x16 x17 x56 x107 H
  · refine (run_seq (x := (cAt Try.f8 [1, 1, 1, 1, 1, 1, 1, 0, 1, 4, 4, 1, 0, 4, 1, 1, 0, 1, 4, 1, 3, 0])) (ax := .n) (y := (cAt Try.f8 [1, 1, 1, 1, 1, 1, 1, 0, 1, 4, 4, 1, 0, 4, 1, 1, 0, 1, 4, 1, 3, 1])) (ay := (.c .n A8_29)) (l := [2, 3, 9, 10, 11, 12, 13, 14, 15, 16, 17, 113]) (by kernel_rfl) (by kernel_rfl)).trans ?_
    refine M8_14_ok ?_ x2 x3 x9 x10 x11 x12 x13 x14 x15 x16 x17 x56 x107 H
    intro x2 x3 x9 x10 x11 x12 x13 x14 x15 x16 x17 x113 H
    exact M8_30_ok hJ x2 x3 x9 x10 x11 x12 x13 x14 x15 x16 x17 x113 H
def A8_33 : An := .s .n (some (lvOf [2, 3, 9, 10, 11, 12, 13, 14, 15, 16, 17, 56, 107])) (.c .n A8_31)
def A8_34 : An := .s .n (some (lvOf [2, 3, 9, 10, 11, 12, 13, 14, 15, 16, 17, 56])) (.b none A8_33)
def M8_35 (o : Orc) (N : Nat) (J : V → Int → V → V → Int → Int → Bool → Nat → Int → Heap → Ans) (κ : Kv) (x2 : V) (x3 : Int) (x9 x10 : V) (x11 x12 : Int) (x13 : Bool) (x14 : Nat) (x15 : Int) (x17 : V) (H : Heap) : Ans :=
  o 24 [x17, (.int .i64 9000)] H fun v60 H61 =>
  J x2 x3 x9 x10 x11 x12 x13 x14 x15 H61
theorem M8_35_ok {o : Orc} {N : Nat} {κ : Kv} {X0 X1 J : Kt} {J' : V → Int → V → V → Int → Int → Bool → Nat → Int → Heap → Ans} (hJ : ∀ x2 x3 x9 x10 x11 x12 x13 x14 x15 H, J (tmk 0 157 [(2, x2), (3, .int .i64 x3), (9, x9), (10, x10), (11, .int .i64 x11), (12, .int .i64 x12), (13, .bool x13), (14, .ptr x14 0), (15, .int .i64 x15)]) H = J' x2 x3 x9 x10 x11 x12 x13 x14 x15 H) (x2 : V) (x3 : Int) (x9 x10 : V) (x11 x12 : Int) (x13 : Bool) (x14 : Nat) (x15 : Int) (x17 : V) (H : Heap) :
    run Try.prog o N (cAt Try.f8 [1, 1, 1, 1, 1, 1, 1, 0, 1, 4, 4, 1, 0, 4, 1, 1, 1, 0]) .n (((env0 Try.prog Try.f8 κ).block 0 (kj [] X0)).block 1 (kj [2, 3, 9, 10, 11, 12, 13, 14, 15] X1)) (tmk 0 157 [(2, x2), (3, .int .i64 x3), (9, x9), (10, x10), (11, .int .i64 x11), (12, .int .i64 x12), (13, .bool x13), (14, .ptr x14 0), (15, .int .i64 x15), (17, x17)]) H (kj [2, 3, 9, 10, 11, 12, 13, 14, 15] J) = M8_35 o N J' κ x2 x3 x9 x10 x11 x12 x13 x14 x15 x17 H := by
  obtain rfl := fx10 hJ
  kernel_rfl
def M8_36 (o : Orc) (N : Nat) (J : V → Int → V → V → Int → Int → Bool → Nat → Int → Nat → Bool → Heap → Ans) (κ : Kv) (x2 : V) (x3 : Int) (x9 x10 : V) (x11 x12 : Int) (x13 : Bool) (x14 : Nat) (x15 : Int) (H : Heap) : Ans :=
  o 25 [x9] H fun v62 H63 =>
  asT2 v62 fun v64 v65 =>
  asA v64 fun l66 =>
  asB v65 fun b67 =>
  newB H63 (.row [(.int .i64 0), (.int .i64 0), (.int .i64 0), (.int .i64 0), (.int .i64 0), (.int .i64 0)]) fun i68 H69 =>
  cond (Nat.beq (List.length l66) 6 && Nat.blt 0 6) (
  (stN H69 i68 0 l66).bind fun H70 =>
  J x2 x3 x9 x10 x11 x12 x13 x14 x15 i68 b67 H70) none
theorem M8_36_ok {o : Orc} {N : Nat} {κ : Kv} {X0 X1 J : Kt} {J' : V → Int → V → V → Int → Int → Bool → Nat → Int → Nat → Bool → Heap → Ans} (hJ : ∀ x2 x3 x9 x10 x11 x12 x13 x14 x15 x21 x22 H, J (tmk 0 157 [(2, x2), (3, .int .i64 x3), (9, x9), (10, x10), (11, .int .i64 x11), (12, .int .i64 x12), (13, .bool x13), (14, .ptr x14 0), (15, .int .i64 x15), (21, .ptr x21 0), (22, .bool x22)]) H = J' x2 x3 x9 x10 x11 x12 x13 x14 x15 x21 x22 H) (x2 : V) (x3 : Int) (x9 x10 : V) (x11 x12 : Int) (x13 : Bool) (x14 : Nat) (x15 : Int) (H : Heap) :
    run Try.prog o N (cAt Try.f8 [1, 1, 1, 1, 1, 1, 1, 0, 1, 4, 4, 1, 0, 4, 1, 1, 1, 1, 0]) .n (((env0 Try.prog Try.f8 κ).block 0 (kj [] X0)).block 1 (kj [2, 3, 9, 10, 11, 12, 13, 14, 15] X1)) (tmk 0 157 [(2, x2), (3, .int .i64 x3), (9, x9), (10, x10), (11, .int .i64 x11), (12, .int .i64 x12), (13, .bool x13), (14, .ptr x14 0), (15, .int .i64 x15)]) H (kj [2, 3, 9, 10, 11, 12, 13, 14, 15, 21, 22] J) = M8_36 o N J' κ x2 x3 x9 x10 x11 x12 x13 x14 x15 H := by
  obtain rfl := fx12 hJ
  kernel_rfl
def M8_37 (o : Orc) (N : Nat) (J : V → Int → V → V → Int → Int → Bool → Nat → Int → Bool → Heap → Ans) (κ : Kv) (x2 : V) (x3 : Int) (x9 x10 : V) (x11 x12 : Int) (x13 : Bool) (x14 : Nat) (x15 : Int) (x21 : Nat) (x22 : Bool) (H : Heap) : Ans :=
  cond (!(x22 == x13)) (
  J x2 x3 x9 x10 x11 x12 x13 x14 x15 true H) (
  cond x22 (
  ldFlat H x21 [.int .i64, .int .i64, .int .i64, .int .i64, .int .i64, .int .i64] 0 fun l71 =>
  ldFlat H x14 [.int .i64, .int .i64, .int .i64, .int .i64, .int .i64, .int .i64] 0 fun l72 =>
  (eqFlat [.int .i64, .int .i64, .int .i64, .int .i64, .int .i64, .int .i64] l71 l72).bind fun b73 =>
  cond (!b73) (
  J x2 x3 x9 x10 x11 x12 x13 x14 x15 true H) (
  cond (!x22) (
  ldFlat H x21 [.int .i64, .int .i64, .int .i64, .int .i64, .int .i64, .int .i64] 0 fun l74 =>
  (eqFlat [.int .i64, .int .i64, .int .i64, .int .i64, .int .i64, .int .i64] l74 [(.int .i64 0), (.int .i64 0), (.int .i64 0), (.int .i64 0), (.int .i64 0), (.int .i64 0)]).bind fun b75 =>
  cond (!b75) (
  J x2 x3 x9 x10 x11 x12 x13 x14 x15 true H) (
  o 26 [x9, (.int .i64 x3)] H fun v76 H77 =>
  asB v76 fun b78 =>
  cond x13 (
  (ldI H77 .i64 x14 5).bind fun n79 =>
  J x2 x3 x9 x10 x11 x12 x13 x14 x15 (!(b78 == (decide (x3 > n79)))) H77) (
  J x2 x3 x9 x10 x11 x12 x13 x14 x15 (!(b78 == false)) H77))) (
  o 26 [x9, (.int .i64 x3)] H fun v80 H81 =>
  asB v80 fun b82 =>
  cond x13 (
  (ldI H81 .i64 x14 5).bind fun n83 =>
  J x2 x3 x9 x10 x11 x12 x13 x14 x15 (!(b82 == (decide (x3 > n83)))) H81) (
  J x2 x3 x9 x10 x11 x12 x13 x14 x15 (!(b82 == false)) H81)))) (
  cond (!x22) (
  ldFlat H x21 [.int .i64, .int .i64, .int .i64, .int .i64, .int .i64, .int .i64] 0 fun l84 =>
  (eqFlat [.int .i64, .int .i64, .int .i64, .int .i64, .int .i64, .int .i64] l84 [(.int .i64 0), (.int .i64 0), (.int .i64 0), (.int .i64 0), (.int .i64 0), (.int .i64 0)]).bind fun b85 =>
  cond (!b85) (
  J x2 x3 x9 x10 x11 x12 x13 x14 x15 true H) (
  o 26 [x9, (.int .i64 x3)] H fun v86 H87 =>
  asB v86 fun b88 =>
  cond x13 (
  (ldI H87 .i64 x14 5).bind fun n89 =>
  J x2 x3 x9 x10 x11 x12 x13 x14 x15 (!(b88 == (decide (x3 > n89)))) H87) (
  J x2 x3 x9 x10 x11 x12 x13 x14 x15 (!(b88 == false)) H87))) (
  o 26 [x9, (.int .i64 x3)] H fun v90 H91 =>
  asB v90 fun b92 =>
  cond x13 (
  (ldI H91 .i64 x14 5).bind fun n93 =>
  J x2 x3 x9 x10 x11 x12 x13 x14 x15 (!(b92 == (decide (x3 > n93)))) H91) (
  J x2 x3 x9 x10 x11 x12 x13 x14 x15 (!(b92 == false)) H91))))
theorem M8_37_ok {o : Orc} {N : Nat} {κ : Kv} {X0 X1 J : Kt} {J' : V → Int → V → V → Int → Int → Bool → Nat → Int → Bool → Heap → Ans} (hJ : ∀ x2 x3 x9 x10 x11 x12 x13 x14 x15 x156 H, J (tmk 0 157 [(2, x2), (3, .int .i64 x3), (9, x9), (10, x10), (11, .int .i64 x11), (12, .int .i64 x12), (13, .bool x13), (14, .ptr x14 0), (15, .int .i64 x15), (156, .bool x156)]) H = J' x2 x3 x9 x10 x11 x12 x13 x14 x15 x156 H) (x2 : V) (x3 : Int) (x9 x10 : V) (x11 x12 : Int) (x13 : Bool) (x14 : Nat) (x15 : Int) (x21 : Nat) (x22 : Bool) (H : Heap) :
    run Try.prog o N (cAt Try.f8 [1, 1, 1, 1, 1, 1, 1, 0, 1, 4, 4, 1, 0, 4, 1, 1, 1, 1, 1, 0]) .n (((env0 Try.prog Try.f8 κ).block 0 (kj [] X0)).block 1 (kj [2, 3, 9, 10, 11, 12, 13, 14, 15] X1)) (tmk 0 157 [(2, x2), (3, .int .i64 x3), (9, x9), (10, x10), (11, .int .i64 x11), (12, .int .i64 x12), (13, .bool x13), (14, .ptr x14 0), (15, .int .i64 x15), (21, .ptr x21 0), (22, .bool x22)]) H (kj [2, 3, 9, 10, 11, 12, 13, 14, 15, 156] J) = M8_37 o N J' κ x2 x3 x9 x10 x11 x12 x13 x14 x15 x21 x22 H := by
  obtain rfl := fx11 hJ
  kernel_rfl
def M8_38 (o : Orc) (N : Nat) (J : V → Int → V → V → Int → Int → Bool → Nat → Int → Heap → Ans) (κ : Kv) (x2 : V) (x3 : Int) (x9 x10 : V) (x11 x12 : Int) (x13 : Bool) (x14 : Nat) (x15 : Int) (x156 : Bool) (H : Heap) : Ans :=
  cond x156 (
  κ (.bool false) H) (
  J x2 x3 x9 x10 x11 x12 x13 x14 x15 H)
theorem M8_38_ok {o : Orc} {N : Nat} {κ : Kv} {X0 X1 J : Kt} {J' : V → Int → V → V → Int → Int → Bool → Nat → Int → Heap → Ans} (hJ : ∀ x2 x3 x9 x10 x11 x12 x13 x14 x15 H, J (tmk 0 157 [(2, x2), (3, .int .i64 x3), (9, x9), (10, x10), (11, .int .i64 x11), (12, .int .i64 x12), (13, .bool x13), (14, .ptr x14 0), (15, .int .i64 x15)]) H = J' x2 x3 x9 x10 x11 x12 x13 x14 x15 H) (x2 : V) (x3 : Int) (x9 x10 : V) (x11 x12 : Int) (x13 : Bool) (x14 : Nat) (x15 : Int) (x156 : Bool) (H : Heap) :
    run Try.prog o N (cAt Try.f8 [1, 1, 1, 1, 1, 1, 1, 0, 1, 4, 4, 1, 0, 4, 1, 1, 1, 1, 1, 1]) .n (((env0 Try.prog Try.f8 κ).block 0 (kj [] X0)).block 1 (kj [2, 3, 9, 10, 11, 12, 13, 14, 15] X1)) (tmk 0 157 [(2, x2), (3, .int .i64 x3), (9, x9), (10, x10), (11, .int .i64 x11), (12, .int .i64 x12), (13, .bool x13), (14, .ptr x14 0), (15, .int .i64 x15), (156, .bool x156)]) H (kj [2, 3, 9, 10, 11, 12, 13, 14, 15] J) = M8_38 o N J' κ x2 x3 x9 x10 x11 x12 x13 x14 x15 x156 H := by
  obtain rfl := fx10 hJ
  kernel_rfl
def A8_39 : An := .s .n (some (lvOf [2, 3, 9, 10, 11, 12, 13, 14, 15, 156])) .n
def A8_40 : An := .s .n (some (lvOf [2, 3, 9, 10, 11, 12, 13, 14, 15, 21, 22])) A8_39
def A8_41 : An := .s .n (some (lvOf [2, 3, 9, 10, 11, 12, 13, 14, 15])) A8_40
def A8_42 : An := .s A8_34 (some (lvOf [2, 3, 9, 10, 11, 12, 13, 14, 15, 17])) A8_41
def A8_43 : An := .s .n (some (lvOf [2, 3, 9, 10, 11, 12, 13, 14, 15, 16, 17])) A8_42
def A8_44 : An := .s .n (some (lvOf [2, 3, 9, 10, 11, 12, 13, 14, 15, 16])) A8_43
def M8_45 (o : Orc) (N : Nat) (J : V → Int → V → V → Int → Int → Bool → Nat → Int → Heap → Ans) (κ : Kv) (x2 : V) (x3 : Int) (x9 x10 : V) (x11 x12 : Int) (x13 : Bool) (x14 : Nat) (x15 : Int) (H : Heap) : Ans :=
  J x2 x3 x9 x10 x11 x12 x13 x14 (IntKind.i64.wrap (x15 + 1)) H
theorem M8_45_ok {o : Orc} {N : Nat} {κ : Kv} {X0 J : Kt} {J' : V → Int → V → V → Int → Int → Bool → Nat → Int → Heap → Ans} (hJ : ∀ x2 x3 x9 x10 x11 x12 x13 x14 x15 H, J (tmk 0 157 [(2, x2), (3, .int .i64 x3), (9, x9), (10, x10), (11, .int .i64 x11), (12, .int .i64 x12), (13, .bool x13), (14, .ptr x14 0), (15, .int .i64 x15)]) H = J' x2 x3 x9 x10 x11 x12 x13 x14 x15 H) (x2 : V) (x3 : Int) (x9 x10 : V) (x11 x12 : Int) (x13 : Bool) (x14 : Nat) (x15 : Int) (H : Heap) :
    run Try.prog o N (cAt Try.f8 [1, 1, 1, 1, 1, 1, 1, 0, 1, 4, 4, 1, 1]) .n ((env0 Try.prog Try.f8 κ).block 0 (kj [] X0)) (tmk 0 157 [(2, x2), (3, .int .i64 x3), (9, x9), (10, x10), (11, .int .i64 x11), (12, .int .i64 x12), (13, .bool x13), (14, .ptr x14 0), (15, .int .i64 x15)]) H (kj [2, 3, 9, 10, 11, 12, 13, 14, 15] J) = M8_45 o N J' κ x2 x3 x9 x10 x11 x12 x13 x14 x15 H := by
  obtain rfl := fx10 hJ
  kernel_rfl
def A8_46 : An := .s (.b none A8_44) (some (lvOf [2, 3, 9, 10, 11, 12, 13, 14, 15])) .n
def A8_47 : An := .s .n (some (lvOf [2, 3, 9, 10, 11, 12, 13, 14, 15])) A8_46
def M8_48 (o : Orc) (N : Nat) (X0 : Heap → Ans) (J : V → Int → V → V → Int → Int → Bool → Nat → Int → Heap → Ans) (κ : Kv) (x2 : V) (x3 : Int) (x9 x10 : V) (x11 x12 : Int) (x13 : Bool) (x14 : Nat) (x15 : Int) (H : Heap) : Ans :=
  M8_8 o N X0 (fun x2 x3 x9 x10 x11 x12 x13 x14 x15 H => M8_9 o N (fun x2 x3 x9 x10 x11 x12 x13 x14 x15 x16 H => M8_10 o N (fun x2 x3 x9 x10 x11 x12 x13 x14 x15 x16 x17 H => M8_11 o N (fun x2 x3 x9 x10 x11 x12 x13 x14 x15 x16 x17 x56 H => M8_12 o N (fun x2 x3 x9 x10 x11 x12 x13 x14 x15 x16 x17 x56 x107 H => M8_32 o N (fun x2 x3 x9 x10 x11 x12 x13 x14 x15 x17 H => M8_35 o N (fun x2 x3 x9 x10 x11 x12 x13 x14 x15 H => M8_36 o N (fun x2 x3 x9 x10 x11 x12 x13 x14 x15 x21 x22 H => M8_37 o N (fun x2 x3 x9 x10 x11 x12 x13 x14 x15 x156 H => M8_38 o N (fun x2 x3 x9 x10 x11 x12 x13 x14 x15 H => M8_45 o N J κ x2 x3 x9 x10 x11 x12 x13 x14 x15 H) κ x2 x3 x9 x10 x11 x12 x13 x14 x15 x156 H) κ x2 x3 x9 x10 x11 x12 x13 x14 x15 x21 x22 H) κ x2 x3 x9 x10 x11 x12 x13 x14 x15 H) κ x2 x3 x9 x10 x11 x12 x13 x14 x15 x17 H) κ x2 x3 x9 x10 x11 x12 x13 x14 x15 x16 x17 x56 x107 H) κ x2 x3 x9 x10 x11 x12 x13 x14 x15 x16 x17 x56 H) κ x2 x3 x9 x10 x11 x12 x13 x14 x15 x16 x17 H) κ x2 x3 x9 x10 x11 x12 x13 x14 x15 x16 H) κ x2 x3 x9 x10 x11 x12 x13 x14 x15 H) κ x2 x3 x9 x10 x11 x12 x13 x14 x15 H
theorem M8_48_ok {o : Orc} {N : Nat} {κ : Kv} {X0 J : Kt} {X0' : Heap → Ans} {J' : V → Int → V → V → Int → Int → Bool → Nat → Int → Heap → Ans} (h0 : ∀  H, X0 (tmk 0 157 []) H = X0' H) (hJ : ∀ x2 x3 x9 x10 x11 x12 x13 x14 x15 H, J (tmk 0 157 [(2, x2), (3, .int .i64 x3), (9, x9), (10, x10), (11, .int .i64 x11), (12, .int .i64 x12), (13, .bool x13), (14, .ptr x14 0), (15, .int .i64 x15)]) H = J' x2 x3 x9 x10 x11 x12 x13 x14 x15 H) (x2 : V) (x3 : Int) (x9 x10 : V) (x11 x12 : Int) (x13 : Bool) (x14 : Nat) (x15 : Int) (H : Heap) :
    run Try.prog o N (cAt Try.f8 [1, 1, 1, 1, 1, 1, 1, 0, 1, 4, 4]) A8_47 ((env0 Try.prog Try.f8 κ).block 0 (kj [] X0)) (tmk 0 157 [(2, x2), (3, .int .i64 x3), (9, x9), (10, x10), (11, .int .i64 x11), (12, .int .i64 x12), (13, .bool x13), (14, .ptr x14 0), (15, .int .i64 x15)]) H (kj [2, 3, 9, 10, 11, 12, 13, 14, 15] J) = M8_48 o N X0' J' κ x2 x3 x9 x10 x11 x12 x13 x14 x15 H := by
  refine (run_seq (x := (cAt Try.f8 [1, 1, 1, 1, 1, 1, 1, 0, 1, 4, 4, 0])) (ax := .n) (y := (cAt Try.f8 [1, 1, 1, 1, 1, 1, 1, 0, 1, 4, 4, 1])) (ay := A8_46) (l := [2, 3, 9, 10, 11, 12, 13, 14, 15]) (by kernel_rfl) (by kernel_rfl)).trans ?_
  refine M8_8_ok h0 ?_ x2 x3 x9 x10 x11 x12 x13 x14 x15 H
  intro x2 x3 x9 x10 x11 x12 x13 x14 x15 H
  refine (run_seq (x := (cAt Try.f8 [1, 1, 1, 1, 1, 1, 1, 0, 1, 4, 4, 1, 0])) (ax := (.b none A8_44)) (y := (cAt Try.f8 [1, 1, 1, 1, 1, 1, 1, 0, 1, 4, 4, 1, 1])) (ay := .n) (l := [2, 3, 9, 10, 11, 12, 13, 14, 15]) (by kernel_rfl) (by kernel_rfl)).trans ?_
  refine (run_block (id := 1) (x := (cAt Try.f8 [1, 1, 1, 1, 1, 1, 1, 0, 1, 4, 4, 1, 0, 4])) (ax := A8_44) (by kernel_rfl) (by kernel_rfl)).trans ?_
  refine (run_seq (x := (cAt Try.f8 [1, 1, 1, 1, 1, 1, 1, 0, 1, 4, 4, 1, 0, 4, 0])) (ax := .n) (y := (cAt Try.f8 [1, 1, 1, 1, 1, 1, 1, 0, 1, 4, 4, 1, 0, 4, 1])) (ay := A8_43) (l := [2, 3, 9, 10, 11, 12, 13, 14, 15, 16]) (by kernel_rfl) (by kernel_rfl)).trans ?_
  refine M8_9_ok ?_ x2 x3 x9 x10 x11 x12 x13 x14 x15 H
  intro x2 x3 x9 x10 x11 x12 x13 x14 x15 x16 H
  refine (run_seq (x := (cAt Try.f8 [1, 1, 1, 1, 1, 1, 1, 0, 1, 4, 4, 1, 0, 4, 1, 0])) (ax := .n) (y := (cAt Try.f8 [1, 1, 1, 1, 1, 1, 1, 0, 1, 4, 4, 1, 0, 4, 1, 1])) (ay := A8_42) (l := [2, 3, 9, 10, 11, 12, 13, 14, 15, 16, 17]) (by kernel_rfl) (by kernel_rfl)).trans ?_
  refine M8_10_ok ?_ x2 x3 x9 x10 x11 x12 x13 x14 x15 x16 H
  intro x2 x3 x9 x10 x11 x12 x13 x14 x15 x16 x17 H
  refine (run_seq (x := (cAt Try.f8 [1, 1, 1, 1, 1, 1, 1, 0, 1, 4, 4, 1, 0, 4, 1, 1, 0])) (ax := A8_34) (y := (cAt Try.f8 [1, 1, 1, 1, 1, 1, 1, 0, 1, 4, 4, 1, 0, 4, 1, 1, 1])) (ay := A8_41) (l := [2, 3, 9, 10, 11, 12, 13, 14, 15, 17]) (by kernel_rfl) (by kernel_rfl)).trans ?_
  refine (run_seq (x := (cAt Try.f8 [1, 1, 1, 1, 1, 1, 1, 0, 1, 4, 4, 1, 0, 4, 1, 1, 0, 0])) (ax := .n) (y := (cAt Try.f8 [1, 1, 1, 1, 1, 1, 1, 0, 1, 4, 4, 1, 0, 4, 1, 1, 0, 1])) (ay := (.b none A8_33)) (l := [2, 3, 9, 10, 11, 12, 13, 14, 15, 16, 17, 56]) (by kernel_rfl) (by kernel_rfl)).trans ?_
  refine M8_11_ok ?_ x2 x3 x9 x10 x11 x12 x13 x14 x15 x16 x17 H
  intro x2 x3 x9 x10 x11 x12 x13 x14 x15 x16 x17 x56 H
  refine (run_block (id := 2) (x := (cAt Try.f8 [1, 1, 1, 1, 1, 1, 1, 0, 1, 4, 4, 1, 0, 4, 1, 1, 0, 1, 4])) (ax := A8_33) (by kernel_rfl) (by kernel_rfl)).trans ?_
  refine (run_seq (x := (cAt Try.f8 [1, 1, 1, 1, 1, 1, 1, 0, 1, 4, 4, 1, 0, 4, 1, 1, 0, 1, 4, 0])) (ax := .n) (y := (cAt Try.f8 [1, 1, 1, 1, 1, 1, 1, 0, 1, 4, 4, 1, 0, 4, 1, 1, 0, 1, 4, 1])) (ay := (.c .n A8_31)) (l := [2, 3, 9, 10, 11, 12, 13, 14, 15, 16, 17, 56, 107]) (by kernel_rfl) (by kernel_rfl)).trans ?_
  refine M8_12_ok ?_ x2 x3 x9 x10 x11 x12 x13 x14 x15 x16 x17 x56 H
  intro x2 x3 x9 x10 x11 x12 x13 x14 x15 x16 x17 x56 x107 H
  refine M8_32_ok ?_ x2 x3 x9 x10 x11 x12 x13 x14 x15 x16 x17 x56 x107 H
  intro x2 x3 x9 x10 x11 x12 x13 x14 x15 x17 H
  refine (run_seq (x := (cAt Try.f8 [1, 1, 1, 1, 1, 1, 1, 0, 1, 4, 4, 1, 0, 4, 1, 1, 1, 0])) (ax := .n) (y := (cAt Try.f8 [1, 1, 1, 1, 1, 1, 1, 0, 1, 4, 4, 1, 0, 4, 1, 1, 1, 1])) (ay := A8_40) (l := [2, 3, 9, 10, 11, 12, 13, 14, 15]) (by kernel_rfl) (by kernel_rfl)).trans ?_
  refine M8_35_ok ?_ x2 x3 x9 x10 x11 x12 x13 x14 x15 x17 H
  intro x2 x3 x9 x10 x11 x12 x13 x14 x15 H
  refine (run_seq (x := (cAt Try.f8 [1, 1, 1, 1, 1, 1, 1, 0, 1, 4, 4, 1, 0, 4, 1, 1, 1, 1, 0])) (ax := .n) (y := (cAt Try.f8 [1, 1, 1, 1, 1, 1, 1, 0, 1, 4, 4, 1, 0, 4, 1, 1, 1, 1, 1])) (ay := A8_39) (l := [2, 3, 9, 10, 11, 12, 13, 14, 15, 21, 22]) (by kernel_rfl) (by kernel_rfl)).trans ?_
  refine M8_36_ok ?_ x2 x3 x9 x10 x11 x12 x13 x14 x15 H
  intro x2 x3 x9 x10 x11 x12 x13 x14 x15 x21 x22 H
  refine (run_seq (x := (cAt Try.f8 [1, 1, 1, 1, 1, 1, 1, 0, 1, 4, 4, 1, 0, 4, 1, 1, 1, 1, 1, 0])) (ax := .n) (y := (cAt Try.f8 [1, 1, 1, 1, 1, 1, 1, 0, 1, 4, 4, 1, 0, 4, 1, 1, 1, 1, 1, 1])) (ay := .n) (l := [2, 3, 9, 10, 11, 12, 13, 14, 15, 156]) (by kernel_rfl) (by kernel_rfl)).trans ?_
  refine M8_37_ok ?_ x2 x3 x9 x10 x11 x12 x13 x14 x15 x21 x22 H
  intro x2 x3 x9 x10 x11 x12 x13 x14 x15 x156 H
  refine M8_38_ok ?_ x2 x3 x9 x10 x11 x12 x13 x14 x15 x156 H
  intro x2 x3 x9 x10 x11 x12 x13 x14 x15 H
  exact M8_45_ok hJ x2 x3 x9 x10 x11 x12 x13 x14 x15 H
def A8_49 : An := .l (some (lvOf [2, 3, 9, 10, 11, 12, 13, 14, 15])) A8_47
def M8_50 (o : Orc) (N : Nat) (X0 : Heap → Ans) (κ : Kv) (n : Nat) : V → Int → V → V → Int → Int → Bool → Nat → Int → Heap → Ans :=
  Nat.rec (motive := fun _ => V → Int → V → V → Int → Int → Bool → Nat → Int → Heap → Ans) (fun _ _ _ _ _ _ _ _ _ _ => none) (fun _ ih x2 x3 x9 x10 x11 x12 x13 x14 x15 H => M8_48 o N X0 ih κ x2 x3 x9 x10 x11 x12 x13 x14 x15 H) n
theorem M8_50_s (o : Orc) (N : Nat) (X0 : Heap → Ans) (κ : Kv) (n : Nat) (x2 : V) (x3 : Int) (x9 x10 : V) (x11 x12 : Int) (x13 : Bool) (x14 : Nat) (x15 : Int) (H : Heap) : M8_50 o N X0 κ (n + 1) x2 x3 x9 x10 x11 x12 x13 x14 x15 H = M8_48 o N X0 (M8_50 o N X0 κ n) κ x2 x3 x9 x10 x11 x12 x13 x14 x15 H := rfl
theorem M8_50_ok {o : Orc} {N : Nat} {κ : Kv} {X0 : Kt} {X0' : Heap → Ans} (h0 : ∀  H, X0 (tmk 0 157 []) H = X0' H) (n : Nat) : ∀ (x2 : V) (x3 : Int) (x9 x10 : V) (x11 x12 : Int) (x13 : Bool) (x14 : Nat) (x15 : Int) (H : Heap),
    rounds (fun a H k => run Try.prog o N (cAt Try.f8 [1, 1, 1, 1, 1, 1, 1, 0, 1, 4, 4]) A8_47 ((env0 Try.prog Try.f8 κ).block 0 (kj [] X0)) a H k) (some (lvOf [2, 3, 9, 10, 11, 12, 13, 14, 15])) n (tmk 0 157 [(2, x2), (3, .int .i64 x3), (9, x9), (10, x10), (11, .int .i64 x11), (12, .int .i64 x12), (13, .bool x13), (14, .ptr x14 0), (15, .int .i64 x15)]) H = M8_50 o N X0' κ n x2 x3 x9 x10 x11 x12 x13 x14 x15 H := by
  induction n with
  | zero => intros; rfl
  | succ n ih =>
    intro x2 x3 x9 x10 x11 x12 x13 x14 x15 H
    refine (run_round.trans ?_).trans (M8_50_s ..).symm
    exact M8_48_ok h0 ih x2 x3 x9 x10 x11 x12 x13 x14 x15 H
def A8_51 : An := .s .n (some (lvOf [2, 3, 9, 10, 11, 12, 13, 14, 15])) (.b none A8_49)
def M8_52 (o : Orc) (N : Nat) (κ : Kv) (H : Heap) : Ans :=
  κ (.bool true) H
theorem M8_52_ok {o : Orc} {N : Nat} {κ : Kv} (H : Heap) :
    run Try.prog o N (cAt Try.f8 [1, 1, 1, 1, 1, 1, 1, 1]) .n (env0 Try.prog Try.f8 κ) (tmk 0 157 []) H (env0 Try.prog Try.f8 κ).ret = M8_52 o N κ  H := by
  kernel_rfl
def A8_53 : An := .s .n (some (lvOf [2, 3, 9, 10, 11, 12, 13, 14])) (.s A8_51 (some (lvOf [])) .n)
def A8_54 : An := .s .n (some (lvOf [2, 3, 9, 10, 11, 12, 13])) A8_53
def A8_55 : An := .s .n (some (lvOf [1, 2, 3, 4, 9])) (.s .n (some (lvOf [2, 3, 9, 10])) A8_54)
def A8_56 : An := .s .n (some (lvOf [1, 2, 3, 4])) (.s .n (some (lvOf [1, 2, 3, 4])) A8_55)
def M8 (o : Orc) (N : Nat) : FnM := fun vs H κ => match vs with
  | [.agg x0, .int .i64 x1, x2, .int .i64 x3] => M8_0 o N (fun x1 x2 x3 x4 H => M8_1 o N (fun x1 x2 x3 x4 H => M8_2 o N (fun x1 x2 x3 x4 H => M8_3 o N (fun x1 x2 x3 x4 x9 H => M8_4 o N (fun x2 x3 x9 x10 H => M8_5 o N (fun x2 x3 x9 x10 x11 x12 x13 H => M8_6 o N (fun x2 x3 x9 x10 x11 x12 x13 x14 H => M8_7 o N (fun x2 x3 x9 x10 x11 x12 x13 x14 x15 H => M8_50 o N (fun H => M8_52 o N κ  H) κ N x2 x3 x9 x10 x11 x12 x13 x14 x15 H) κ x2 x3 x9 x10 x11 x12 x13 x14 H) κ x2 x3 x9 x10 x11 x12 x13 H) κ x2 x3 x9 x10 H) κ x1 x2 x3 x4 x9 H) κ x1 x2 x3 x4 H) κ x1 x2 x3 x4 H) κ x1 x2 x3 x4 H) κ x0 x1 x2 x3 H
  | _ => none
theorem M8_run (o : Orc) (N : Nat) (vs : List V) (H : Heap) (κ : Kv) (r) (h : M8 o N vs H κ = some r) : runFn Try.prog o N Try.f8 (.s .n (some (lvOf [1, 2, 3, 4])) A8_56) vs H κ = some r := by
  unfold M8 at h
  split at h
  · rename_i x0 x1 x2 x3
    refine (runFn_at (t := tmk 0 157 [(0, .agg x0), (1, .int .i64 x1), (2, x2), (3, .int .i64 x3)]) (by kernel_rfl) (by kernel_rfl)).trans (Eq.trans ?_ h)
    refine (run_seq (x := (cAt Try.f8 [0])) (ax := .n) (y := (cAt Try.f8 [1])) (ay := A8_56) (l := [1, 2, 3, 4]) (by kernel_rfl) (by kernel_rfl)).trans ?_
    refine M8_0_ok ?_ x0 x1 x2 x3 H
    intro x1 x2 x3 x4 H
    refine (run_seq (x := (cAt Try.f8 [1, 0])) (ax := .n) (y := (cAt Try.f8 [1, 1])) (ay := (.s .n (some (lvOf [1, 2, 3, 4])) A8_55)) (l := [1, 2, 3, 4]) (by kernel_rfl) (by kernel_rfl)).trans ?_
    refine M8_1_ok ?_ x1 x2 x3 x4 H
    intro x1 x2 x3 x4 H
    refine (run_seq (x := (cAt Try.f8 [1, 1, 0])) (ax := .n) (y := (cAt Try.f8 [1, 1, 1])) (ay := A8_55) (l := [1, 2, 3, 4]) (by kernel_rfl) (by kernel_rfl)).trans ?_
    refine M8_2_ok ?_ x1 x2 x3 x4 H
    intro x1 x2 x3 x4 H
    refine (run_seq (x := (cAt Try.f8 [1, 1, 1, 0])) (ax := .n) (y := (cAt Try.f8 [1, 1, 1, 1])) (ay := (.s .n (some (lvOf [2, 3, 9, 10])) A8_54)) (l := [1, 2, 3, 4, 9]) (by kernel_rfl) (by kernel_rfl)).trans ?_
    refine M8_3_ok ?_ x1 x2 x3 x4 H
    intro x1 x2 x3 x4 x9 H
    refine (run_seq (x := (cAt Try.f8 [1, 1, 1, 1, 0])) (ax := .n) (y := (cAt Try.f8 [1, 1, 1, 1, 1])) (ay := A8_54) (l := [2, 3, 9, 10]) (by kernel_rfl) (by kernel_rfl)).trans ?_
    refine M8_4_ok ?_ x1 x2 x3 x4 x9 H
    intro x2 x3 x9 x10 H
    refine (run_seq (x := (cAt Try.f8 [1, 1, 1, 1, 1, 0])) (ax := .n) (y := (cAt Try.f8 [1, 1, 1, 1, 1, 1])) (ay := A8_53) (l := [2, 3, 9, 10, 11, 12, 13]) (by kernel_rfl) (by kernel_rfl)).trans ?_
    refine M8_5_ok ?_ x2 x3 x9 x10 H
    intro x2 x3 x9 x10 x11 x12 x13 H
    refine (run_seq (x := (cAt Try.f8 [1, 1, 1, 1, 1, 1, 0])) (ax := .n) (y := (cAt Try.f8 [1, 1, 1, 1, 1, 1, 1])) (ay := (.s A8_51 (some (lvOf [])) .n)) (l := [2, 3, 9, 10, 11, 12, 13, 14]) (by kernel_rfl) (by kernel_rfl)).trans ?_
    refine M8_6_ok ?_ x2 x3 x9 x10 x11 x12 x13 H
    intro x2 x3 x9 x10 x11 x12 x13 x14 H
    refine (run_seq (x := (cAt Try.f8 [1, 1, 1, 1, 1, 1, 1, 0])) (ax := A8_51) (y := (cAt Try.f8 [1, 1, 1, 1, 1, 1, 1, 1])) (ay := .n) (l := []) (by kernel_rfl) (by kernel_rfl)).trans ?_
    refine (run_seq (x := (cAt Try.f8 [1, 1, 1, 1, 1, 1, 1, 0, 0])) (ax := .n) (y := (cAt Try.f8 [1, 1, 1, 1, 1, 1, 1, 0, 1])) (ay := (.b none A8_49)) (l := [2, 3, 9, 10, 11, 12, 13, 14, 15]) (by kernel_rfl) (by kernel_rfl)).trans ?_
    refine M8_7_ok ?_ x2 x3 x9 x10 x11 x12 x13 x14 H
    intro x2 x3 x9 x10 x11 x12 x13 x14 x15 H
    refine (run_block (id := 0) (x := (cAt Try.f8 [1, 1, 1, 1, 1, 1, 1, 0, 1, 4])) (ax := A8_49) (by kernel_rfl) (by kernel_rfl)).trans ?_
    refine (run_loop (x := (cAt Try.f8 [1, 1, 1, 1, 1, 1, 1, 0, 1, 4, 4])) (ax := A8_47) (l := [2, 3, 9, 10, 11, 12, 13, 14, 15]) (by kernel_rfl) (by kernel_rfl) (by kernel_rfl)).trans ?_
    refine M8_50_ok ?_ N x2 x3 x9 x10 x11 x12 x13 x14 x15 H
    intro H
    exact M8_52_ok  H
  · cases h
theorem M8_sound {o : Orc} (ho : ∀ f, FSound Try.prog f (o f)) (N : Nat) : FSound Try.prog 8 (M8 o N) :=
  FSound.sub (runFn_ok (an := (.s .n (some (lvOf [1, 2, 3, 4])) A8_56)) (fuel := N) hmix ho (by kernel_rfl) (by kernel_rfl)) (M8_run o N)
/-! 20 ostinato/ostinatolaw23.known -/
def M20_0 (o : Orc) (N : Nat) (J : Heap → Ans) (κ : Kv) (H : Heap) : Ans :=
  J  H
theorem M20_0_ok {o : Orc} {N : Nat} {κ : Kv} {J : Kt} {J' : Heap → Ans} (hJ : ∀  H, J (tmk 0 84 []) H = J' H) (H : Heap) :
    run Try.prog o N (cAt Try.f20 [0]) .n (env0 Try.prog Try.f20 κ) (tmk 0 84 []) H (kj [] J) = M20_0 o N J' κ  H := by
  obtain rfl := fx1 hJ
  kernel_rfl
def M20_1 (o : Orc) (N : Nat) (J : V → Heap → Ans) (κ : Kv) (H : Heap) : Ans :=
  o 48 [] H fun v1 H2 =>
  asA v1 fun l3 =>
  o 22 [(.agg l3), (.int .i64 0)] H2 fun v4 H5 =>
  J v4 H5
theorem M20_1_ok {o : Orc} {N : Nat} {κ : Kv} {J : Kt} {J' : V → Heap → Ans} (hJ : ∀ x1 H, J (tmk 0 84 [(1, x1)]) H = J' x1 H) (H : Heap) :
    run Try.prog o N (cAt Try.f20 [1, 0]) .n (env0 Try.prog Try.f20 κ) (tmk 0 84 []) H (kj [1] J) = M20_1 o N J' κ  H := by
  obtain rfl := fx2 hJ
  kernel_rfl
def M20_2 (o : Orc) (N : Nat) (J : V → Heap → Ans) (κ : Kv) (x1 : V) (H : Heap) : Ans :=
  eqP false x1 .nilp fun b6 =>
  cond b6 (
  κ (.bool false) H) (
  J x1 H)
theorem M20_2_ok {o : Orc} {N : Nat} {κ : Kv} {J : Kt} {J' : V → Heap → Ans} (hJ : ∀ x1 H, J (tmk 0 84 [(1, x1)]) H = J' x1 H) (x1 : V) (H : Heap) :
    run Try.prog o N (cAt Try.f20 [1, 1, 0]) .n (env0 Try.prog Try.f20 κ) (tmk 0 84 [(1, x1)]) H (kj [1] J) = M20_2 o N J' κ x1 H := by
  obtain rfl := fx2 hJ
  kernel_rfl
def M20_3 (o : Orc) (N : Nat) (J : V → Heap → Ans) (κ : Kv) (x1 : V) (H : Heap) : Ans :=
  o 23 [x1, (.int .i64 0)] H fun v7 H8 =>
  asT0 v7 (
  J x1 H8)
theorem M20_3_ok {o : Orc} {N : Nat} {κ : Kv} {J : Kt} {J' : V → Heap → Ans} (hJ : ∀ x1 H, J (tmk 0 84 [(1, x1)]) H = J' x1 H) (x1 : V) (H : Heap) :
    run Try.prog o N (cAt Try.f20 [1, 1, 1, 0]) .n (env0 Try.prog Try.f20 κ) (tmk 0 84 [(1, x1)]) H (kj [1] J) = M20_3 o N J' κ x1 H := by
  obtain rfl := fx2 hJ
  kernel_rfl
def M20_4 (o : Orc) (N : Nat) (J : V → V → Heap → Ans) (κ : Kv) (x1 : V) (H : Heap) : Ans :=
  o 24 [x1, (.int .i64 39)] H fun v9 H10 =>
  J x1 v9 H10
theorem M20_4_ok {o : Orc} {N : Nat} {κ : Kv} {J : Kt} {J' : V → V → Heap → Ans} (hJ : ∀ x1 x2 H, J (tmk 0 84 [(1, x1), (2, x2)]) H = J' x1 x2 H) (x1 : V) (H : Heap) :
    run Try.prog o N (cAt Try.f20 [1, 1, 1, 1, 0]) .n (env0 Try.prog Try.f20 κ) (tmk 0 84 [(1, x1)]) H (kj [1, 2] J) = M20_4 o N J' κ x1 H := by
  obtain rfl := fx3 hJ
  kernel_rfl
def M20_5 (o : Orc) (N : Nat) (J : V → V → V → Heap → Ans) (κ : Kv) (x1 x2 : V) (H : Heap) : Ans :=
  o 24 [x1, (.int .i64 41)] H fun v11 H12 =>
  J x1 x2 v11 H12
theorem M20_5_ok {o : Orc} {N : Nat} {κ : Kv} {J : Kt} {J' : V → V → V → Heap → Ans} (hJ : ∀ x1 x2 x3 H, J (tmk 0 84 [(1, x1), (2, x2), (3, x3)]) H = J' x1 x2 x3 H) (x1 x2 : V) (H : Heap) :
    run Try.prog o N (cAt Try.f20 [1, 1, 1, 1, 1, 0]) .n (env0 Try.prog Try.f20 κ) (tmk 0 84 [(1, x1), (2, x2)]) H (kj [1, 2, 3] J) = M20_5 o N J' κ x1 x2 H := by
  obtain rfl := fx4 hJ
  kernel_rfl
def M20_6 (o : Orc) (N : Nat) (J : V → V → V → Nat → Bool → Heap → Ans) (κ : Kv) (x1 x2 x3 : V) (H : Heap) : Ans :=
  o 25 [x1] H fun v13 H14 =>
  asT2 v13 fun v15 v16 =>
  asA v15 fun l17 =>
  asB v16 fun b18 =>
  newB H14 (.row [(.int .i64 0), (.int .i64 0), (.int .i64 0), (.int .i64 0), (.int .i64 0), (.int .i64 0)]) fun i19 H20 =>
  cond (Nat.beq (List.length l17) 6 && Nat.blt 0 6) (
  (stN H20 i19 0 l17).bind fun H21 =>
  J x1 x2 x3 i19 b18 H21) none
theorem M20_6_ok {o : Orc} {N : Nat} {κ : Kv} {J : Kt} {J' : V → V → V → Nat → Bool → Heap → Ans} (hJ : ∀ x1 x2 x3 x4 x5 H, J (tmk 0 84 [(1, x1), (2, x2), (3, x3), (4, .ptr x4 0), (5, .bool x5)]) H = J' x1 x2 x3 x4 x5 H) (x1 x2 x3 : V) (H : Heap) :
    run Try.prog o N (cAt Try.f20 [1, 1, 1, 1, 1, 1, 0]) .n (env0 Try.prog Try.f20 κ) (tmk 0 84 [(1, x1), (2, x2), (3, x3)]) H (kj [1, 2, 3, 4, 5] J) = M20_6 o N J' κ x1 x2 x3 H := by
  obtain rfl := fx6 hJ
  kernel_rfl
def M20_7 (o : Orc) (N : Nat) (J : V → V → V → Nat → Bool → Bool → Bool → Heap → Ans) (κ : Kv) (x1 x2 x3 : V) (x4 : Nat) (x5 : Bool) (H : Heap) : Ans :=
  o 26 [x1, (.int .i64 42)] H fun v22 H23 =>
  asB v22 fun b24 =>
  o 26 [x1, (.int .i64 43)] H23 fun v25 H26 =>
  asB v25 fun b27 =>
  J x1 x2 x3 x4 x5 b24 b27 H26
theorem M20_7_ok {o : Orc} {N : Nat} {κ : Kv} {J : Kt} {J' : V → V → V → Nat → Bool → Bool → Bool → Heap → Ans} (hJ : ∀ x1 x2 x3 x4 x5 x6 x7 H, J (tmk 0 84 [(1, x1), (2, x2), (3, x3), (4, .ptr x4 0), (5, .bool x5), (6, .bool x6), (7, .bool x7)]) H = J' x1 x2 x3 x4 x5 x6 x7 H) (x1 x2 x3 : V) (x4 : Nat) (x5 : Bool) (H : Heap) :
    run Try.prog o N (cAt Try.f20 [1, 1, 1, 1, 1, 1, 1, 0]) .n (env0 Try.prog Try.f20 κ) (tmk 0 84 [(1, x1), (2, x2), (3, x3), (4, .ptr x4 0), (5, .bool x5)]) H (kj [1, 2, 3, 4, 5, 6, 7] J) = M20_7 o N J' κ x1 x2 x3 x4 x5 H := by
  obtain rfl := fx8 hJ
  kernel_rfl
def M20_8 (o : Orc) (N : Nat) (J : V → V → V → Nat → Bool → Bool → Bool → Heap → Ans) (κ : Kv) (x1 x2 x3 : V) (x4 : Nat) (x5 x6 x7 : Bool) (H : Heap) : Ans :=
  o 28 [x1] H fun v28 H29 =>
  asT0 v28 (
  J x1 x2 x3 x4 x5 x6 x7 H29)
theorem M20_8_ok {o : Orc} {N : Nat} {κ : Kv} {J : Kt} {J' : V → V → V → Nat → Bool → Bool → Bool → Heap → Ans} (hJ : ∀ x1 x2 x3 x4 x5 x6 x7 H, J (tmk 0 84 [(1, x1), (2, x2), (3, x3), (4, .ptr x4 0), (5, .bool x5), (6, .bool x6), (7, .bool x7)]) H = J' x1 x2 x3 x4 x5 x6 x7 H) (x1 x2 x3 : V) (x4 : Nat) (x5 x6 x7 : Bool) (H : Heap) :
    run Try.prog o N (cAt Try.f20 [1, 1, 1, 1, 1, 1, 1, 1, 0]) .n (env0 Try.prog Try.f20 κ) (tmk 0 84 [(1, x1), (2, x2), (3, x3), (4, .ptr x4 0), (5, .bool x5), (6, .bool x6), (7, .bool x7)]) H (kj [1, 2, 3, 4, 5, 6, 7] J) = M20_8 o N J' κ x1 x2 x3 x4 x5 x6 x7 H := by
  obtain rfl := fx8 hJ
  kernel_rfl
def M20_9 (o : Orc) (N : Nat) (J : V → V → V → Nat → Bool → Bool → Bool → Bool → Heap → Ans) (κ : Kv) (x1 x2 x3 : V) (x4 : Nat) (x5 x6 x7 : Bool) (H : Heap) : Ans :=
  o 25 [x1] H fun v30 H31 =>
  asT2 v30 fun v32 v33 =>
  asA v32 fun l34 =>
  asB v33 fun b35 =>
  newB H31 (.row [(.int .i64 0), (.int .i64 0), (.int .i64 0), (.int .i64 0), (.int .i64 0), (.int .i64 0)]) fun i36 H37 =>
  cond (Nat.beq (List.length l34) 6 && Nat.blt 0 6) (
  (stN H37 i36 0 l34).bind fun H38 =>
  J x1 x2 x3 x4 x5 x6 x7 b35 H38) none
theorem M20_9_ok {o : Orc} {N : Nat} {κ : Kv} {J : Kt} {J' : V → V → V → Nat → Bool → Bool → Bool → Bool → Heap → Ans} (hJ : ∀ x1 x2 x3 x4 x5 x6 x7 x9 H, J (tmk 0 84 [(1, x1), (2, x2), (3, x3), (4, .ptr x4 0), (5, .bool x5), (6, .bool x6), (7, .bool x7), (9, .bool x9)]) H = J' x1 x2 x3 x4 x5 x6 x7 x9 H) (x1 x2 x3 : V) (x4 : Nat) (x5 x6 x7 : Bool) (H : Heap) :
    run Try.prog o N (cAt Try.f20 [1, 1, 1, 1, 1, 1, 1, 1, 1, 0]) .n (env0 Try.prog Try.f20 κ) (tmk 0 84 [(1, x1), (2, x2), (3, x3), (4, .ptr x4 0), (5, .bool x5), (6, .bool x6), (7, .bool x7)]) H (kj [1, 2, 3, 4, 5, 6, 7, 9] J) = M20_9 o N J' κ x1 x2 x3 x4 x5 x6 x7 H := by
  obtain rfl := fx9 hJ
  kernel_rfl
def A20_10 : An := (.d [0, 1, 2, 3, 4, 5, 6, 7, 8, 9, 10, 11, 12, 13, 14, 15, 16, 17, 18, 19, 20, 21, 22, 23, 24, 25, 26, 27, 28, 29, 30, 31, 32, 33, 34, 35, 36, 37, 38, 39, 40, 41, 42, 43, 44, 45, 46, 47, 48])
def M20_11 (o : Orc) (N : Nat) (J : Bool → Heap → Ans) (κ : Kv) (x1 x2 x3 : V) (x4 : Nat) (x5 x6 x7 x9 : Bool) (H : Heap) : Ans :=
  lenS x2 fun n39 =>
  cond (n39 == 0) (
  lenS x3 fun n40 =>
  cond (n40 == 1) (
  idxS 6 x3 0 fun p41 o42 =>
  (ldI (Heap.skip H 49) .i64 p41 (o42 + 0)).bind fun n43 =>
  cond (n43 == 1) (
  cond x5 (
  ldFlat (Heap.skip H 49) x4 [.int .i64, .int .i64, .int .i64, .int .i64, .int .i64, .int .i64] 0 fun l44 =>
  idxS 6 x3 0 fun p45 o46 =>
  ldFlat (Heap.skip H 49) p45 [.int .i64, .int .i64, .int .i64, .int .i64, .int .i64, .int .i64] o46 fun l47 =>
  (eqFlat [.int .i64, .int .i64, .int .i64, .int .i64, .int .i64, .int .i64] l44 l47).bind fun b48 =>
  cond b48 (
  cond (!x6) (
  cond x7 (
  cond (!x9) (
  o 24 [x1, (.int .i64 41)] (Heap.skip H 49) fun v49 H50 =>
  lenS v49 fun n51 =>
  cond (n51 == 0) (
  o 24 [x1, (.int .i64 5000)] H50 fun v52 H53 =>
  lenS v52 fun n54 =>
  J (n54 == 3) H53) (
  J false H50)) (
  J false (Heap.skip H 49))) (
  J false (Heap.skip H 49))) (
  J false (Heap.skip H 49))) (
  J false (Heap.skip H 49))) (
  J false (Heap.skip H 49))) (
  J false (Heap.skip H 49))) (
  J false (Heap.skip H 49))) (
  J false (Heap.skip H 49))
theorem M20_11_ok {o : Orc} {N : Nat} {κ : Kv} {J : Kt} {J' : Bool → Heap → Ans} (hJ : ∀ x0 H, J (tmk 0 84 [(0, .bool x0)]) H = J' x0 H) (x1 x2 x3 : V) (x4 : Nat) (x5 x6 x7 x9 : Bool) (H : Heap) :
    run Try.prog o N (cAt Try.f20 [1, 1, 1, 1, 1, 1, 1, 1, 1, 1, 0]) A20_10 (env0 Try.prog Try.f20 κ) (tmk 0 84 [(1, x1), (2, x2), (3, x3), (4, .ptr x4 0), (5, .bool x5), (6, .bool x6), (7, .bool x7), (9, .bool x9)]) H (kj [0] J) = M20_11 o N J' κ x1 x2 x3 x4 x5 x6 x7 x9 H := by
  obtain rfl := fx2 hJ
  kernel_rfl
def M20_12 (o : Orc) (N : Nat) (κ : Kv) (x0 : Bool) (H : Heap) : Ans :=
  κ (.bool x0) H
theorem M20_12_ok {o : Orc} {N : Nat} {κ : Kv} (x0 : Bool) (H : Heap) :
    run Try.prog o N (cAt Try.f20 [1, 1, 1, 1, 1, 1, 1, 1, 1, 1, 1]) .n (env0 Try.prog Try.f20 κ) (tmk 0 84 [(0, .bool x0)]) H (env0 Try.prog Try.f20 κ).ret = M20_12 o N κ x0 H := by
  kernel_rfl
def A20_13 : An := .s .n (some (lvOf [1, 2, 3, 4, 5, 6, 7, 9])) (.s A20_10 (some (lvOf [0])) .n)
def A20_14 : An := .s .n (some (lvOf [1, 2, 3, 4, 5, 6, 7])) A20_13
def A20_15 : An := .s .n (some (lvOf [1, 2, 3, 4, 5, 6, 7])) A20_14
def A20_16 : An := .s .n (some (lvOf [1, 2, 3, 4, 5])) A20_15
def A20_17 : An := .s .n (some (lvOf [1, 2])) (.s .n (some (lvOf [1, 2, 3])) A20_16)
def A20_18 : An := .s .n (some (lvOf [1])) (.s .n (some (lvOf [1])) A20_17)
def M20_19 (o : Orc) (N : Nat) (κ : Kv) (H : Heap) : Ans :=
  M20_1 o N (fun x1 H => M20_2 o N (fun x1 H => M20_3 o N (fun x1 H => M20_4 o N (fun x1 x2 H => M20_5 o N (fun x1 x2 x3 H => M20_6 o N (fun x1 x2 x3 x4 x5 H => M20_7 o N (fun x1 x2 x3 x4 x5 x6 x7 H => M20_8 o N (fun x1 x2 x3 x4 x5 x6 x7 H => M20_9 o N (fun x1 x2 x3 x4 x5 x6 x7 x9 H => M20_11 o N (fun x0 H => M20_12 o N κ x0 H) κ x1 x2 x3 x4 x5 x6 x7 x9 H) κ x1 x2 x3 x4 x5 x6 x7 H) κ x1 x2 x3 x4 x5 x6 x7 H) κ x1 x2 x3 x4 x5 H) κ x1 x2 x3 H) κ x1 x2 H) κ x1 H) κ x1 H) κ x1 H) κ  H
theorem M20_19_ok {o : Orc} {N : Nat} {κ : Kv} (H : Heap) :
    run Try.prog o N (cAt Try.f20 [1]) (.s .n (some (lvOf [1])) A20_18) (env0 Try.prog Try.f20 κ) (tmk 0 84 []) H (env0 Try.prog Try.f20 κ).ret = M20_19 o N κ  H := by
  refine (run_seq (x := (cAt Try.f20 [1, 0])) (ax := .n) (y := (cAt Try.f20 [1, 1])) (ay := A20_18) (l := [1]) (by kernel_rfl) (by kernel_rfl)).trans ?_
  refine M20_1_ok ?_  H
  intro x1 H
  refine (run_seq (x := (cAt Try.f20 [1, 1, 0])) (ax := .n) (y := (cAt Try.f20 [1, 1, 1])) (ay := (.s .n (some (lvOf [1])) A20_17)) (l := [1]) (by kernel_rfl) (by kernel_rfl)).trans ?_
  refine M20_2_ok ?_ x1 H
  intro x1 H
  refine (run_seq (x := (cAt Try.f20 [1, 1, 1, 0])) (ax := .n) (y := (cAt Try.f20 [1, 1, 1, 1])) (ay := A20_17) (l := [1]) (by kernel_rfl) (by kernel_rfl)).trans ?_
  refine M20_3_ok ?_ x1 H
  intro x1 H
  refine (run_seq (x := (cAt Try.f20 [1, 1, 1, 1, 0])) (ax := .n) (y := (cAt Try.f20 [1, 1, 1, 1, 1])) (ay := (.s .n (some (lvOf [1, 2, 3])) A20_16)) (l := [1, 2]) (by kernel_rfl) (by kernel_rfl)).trans ?_
  refine M20_4_ok ?_ x1 H
  intro x1 x2 H
  refine (run_seq (x := (cAt Try.f20 [1, 1, 1, 1, 1, 0])) (ax := .n) (y := (cAt Try.f20 [1, 1, 1, 1, 1, 1])) (ay := A20_16) (l := [1, 2, 3]) (by kernel_rfl) (by kernel_rfl)).trans ?_
  refine M20_5_ok ?_ x1 x2 H
  intro x1 x2 x3 H
  refine (run_seq (x := (cAt Try.f20 [1, 1, 1, 1, 1, 1, 0])) (ax := .n) (y := (cAt Try.f20 [1, 1, 1, 1, 1, 1, 1])) (ay := A20_15) (l := [1, 2, 3, 4, 5]) (by kernel_rfl) (by kernel_rfl)).trans ?_
  refine M20_6_ok ?_ x1 x2 x3 H
  intro x1 x2 x3 x4 x5 H
  refine (run_seq (x := (cAt Try.f20 [1, 1, 1, 1, 1, 1, 1, 0])) (ax := .n) (y := (cAt Try.f20 [1, 1, 1, 1, 1, 1, 1, 1])) (ay := A20_14) (l := [1, 2, 3, 4, 5, 6, 7]) (by kernel_rfl) (by kernel_rfl)).trans ?_
  refine M20_7_ok ?_ x1 x2 x3 x4 x5 H
  intro x1 x2 x3 x4 x5 x6 x7 H
  refine (run_seq (x := (cAt Try.f20 [1, 1, 1, 1, 1, 1, 1, 1, 0])) (ax := .n) (y := (cAt Try.f20 [1, 1, 1, 1, 1, 1, 1, 1, 1])) (ay := A20_13) (l := [1, 2, 3, 4, 5, 6, 7]) (by kernel_rfl) (by kernel_rfl)).trans ?_
  refine M20_8_ok ?_ x1 x2 x3 x4 x5 x6 x7 H
  intro x1 x2 x3 x4 x5 x6 x7 H
  refine (run_seq (x := (cAt Try.f20 [1, 1, 1, 1, 1, 1, 1, 1, 1, 0])) (ax := .n) (y := (cAt Try.f20 [1, 1, 1, 1, 1, 1, 1, 1, 1, 1])) (ay := (.s A20_10 (some (lvOf [0])) .n)) (l := [1, 2, 3, 4, 5, 6, 7, 9]) (by kernel_rfl) (by kernel_rfl)).trans ?_
  refine M20_9_ok ?_ x1 x2 x3 x4 x5 x6 x7 H
  intro x1 x2 x3 x4 x5 x6 x7 x9 H
  refine (run_seq (x := (cAt Try.f20 [1, 1, 1, 1, 1, 1, 1, 1, 1, 1, 0])) (ax := A20_10) (y := (cAt Try.f20 [1, 1, 1, 1, 1, 1, 1, 1, 1, 1, 1])) (ay := .n) (l := [0]) (by kernel_rfl) (by kernel_rfl)).trans ?_
  refine M20_11_ok ?_ x1 x2 x3 x4 x5 x6 x7 x9 H
  intro x0 H
  exact M20_12_ok x0 H
def A20_20 : An := .s .n (some (lvOf [])) (.s .n (some (lvOf [1])) A20_18)
def M20 (o : Orc) (N : Nat) : FnM := fun vs H κ => match vs with
  | [] => M20_0 o N (fun H => M20_19 o N κ  H) κ  H
  | _ => none
theorem M20_run (o : Orc) (N : Nat) (vs : List V) (H : Heap) (κ : Kv) (r) (h : M20 o N vs H κ = some r) : runFn Try.prog o N Try.f20 A20_20 vs H κ = some r := by
  unfold M20 at h
  split at h
  · refine (runFn_at (t := tmk 0 84 []) (by kernel_rfl) (by kernel_rfl)).trans (Eq.trans ?_ h)
    refine (run_seq (x := (cAt Try.f20 [0])) (ax := .n) (y := (cAt Try.f20 [1])) (ay := (.s .n (some (lvOf [1])) A20_18)) (l := []) (by kernel_rfl) (by kernel_rfl)).trans ?_
    refine M20_0_ok ?_  H
    intro H
    exact M20_19_ok  H
  · cases h
theorem M20_sound {o : Orc} (ho : ∀ f, FSound Try.prog f (o f)) (N : Nat) : FSound Try.prog 20 (M20 o N) :=
  FSound.sub (runFn_ok (an := A20_20) (fuel := N) hmix ho (by kernel_rfl) (by kernel_rfl)) (M20_run o N)
/-! 21 ostinato/ostinatolaw23.few -/
def M21_0 (o : Orc) (N : Nat) (κ : Kv) (x0 : List V) (H : Heap) : Ans :=
  cond (List.all x0 V.one) (
  newB H (.row x0) fun i1 H2 =>
  (ldV H2 i1 8).bind fun v3 =>
  lenS v3 fun n4 =>
  cond (decide (n4 ≤ 10)) (
  (ldV H2 i1 9).bind fun v5 =>
  lenS v5 fun n6 =>
  cond (decide (n6 ≤ 20)) (
  (ldV H2 i1 10).bind fun v7 =>
  lenS v7 fun n8 =>
  κ (.bool (decide (n8 ≤ 25))) H2) (
  κ (.bool false) H2)) (
  κ (.bool false) H2)) none
theorem M21_0_ok {o : Orc} {N : Nat} {κ : Kv} (x0 : List V) (H : Heap) :
    run Try.prog o N (cAt Try.f21 []) .n (env0 Try.prog Try.f21 κ) (tmk 0 19 [(0, .agg x0)]) H (env0 Try.prog Try.f21 κ).ret = M21_0 o N κ x0 H := by
  kernel_rfl
def M21 (o : Orc) (N : Nat) : FnM := fun vs H κ => match vs with
  | [.agg x0] => M21_0 o N κ x0 H
  | _ => none
theorem M21_run (o : Orc) (N : Nat) (vs : List V) (H : Heap) (κ : Kv) (r) (h : M21 o N vs H κ = some r) : runFn Try.prog o N Try.f21 .n vs H κ = some r := by
  unfold M21 at h
  split at h
  · rename_i x0
    refine (runFn_at (t := tmk 0 19 [(0, .agg x0)]) (by kernel_rfl) (by kernel_rfl)).trans (Eq.trans ?_ h)
    exact M21_0_ok x0 H
  · cases h
theorem M21_sound {o : Orc} (ho : ∀ f, FSound Try.prog f (o f)) (N : Nat) : FSound Try.prog 21 (M21 o N) :=
  FSound.sub (runFn_ok (an := .n) (fuel := N) hmix ho (by kernel_rfl) (by kernel_rfl)) (M21_run o N)
/-! 22 ostinato/sched.New -/
def M22_0 (o : Orc) (N : Nat) (κ : Kv) (x0 : List V) (x1 : Int) (H : Heap) : Ans :=
  cond (List.all x0 V.one) (
  newB H (.row x0) fun i1 H2 =>
  ldFlat H2 i1 [.int .i64, .int .i64, .int .i64, .int .i64, .int .i64, .int .i64, .int .i64, .int .u32, .oth, .oth, .oth] 0 fun l3 =>
  o 12 [(.agg l3), (.int .i64 x1)] H2 fun v4 H5 =>
  (fillV (nth [(0, 1), (1, 1), (2, 1), (3, 6), (9, 1)]) [.nils, (.int .i64 0), (.int .i64 0), (.int .i64 0), (.int .i64 0), (.int .i64 0), (.int .i64 0), (.int .i64 0), (.int .i64 0), (.bool false)] [(0, v4), (2, (.int .i64 (-1)))]).bind fun l6 =>
  cond (List.all l6 V.one) (
  newB H5 (.row l6) fun i7 H8 =>
  κ (.ptr i7 0) H8) none) none
theorem M22_0_ok {o : Orc} {N : Nat} {κ : Kv} (x0 : List V) (x1 : Int) (H : Heap) :
    run Try.prog o N (cAt Try.f22 []) .n (env0 Try.prog Try.f22 κ) (tmk 0 10 [(0, .agg x0), (1, .int .i64 x1)]) H (env0 Try.prog Try.f22 κ).ret = M22_0 o N κ x0 x1 H := by
  kernel_rfl
def M22 (o : Orc) (N : Nat) : FnM := fun vs H κ => match vs with
  | [.agg x0, .int .i64 x1] => M22_0 o N κ x0 x1 H
  | _ => none
theorem M22_run (o : Orc) (N : Nat) (vs : List V) (H : Heap) (κ : Kv) (r) (h : M22 o N vs H κ = some r) : runFn Try.prog o N Try.f22 .n vs H κ = some r := by
  unfold M22 at h
  split at h
  · rename_i x0 x1
    refine (runFn_at (t := tmk 0 10 [(0, .agg x0), (1, .int .i64 x1)]) (by kernel_rfl) (by kernel_rfl)).trans (Eq.trans ?_ h)
    exact M22_0_ok x0 x1 H
  · cases h
theorem M22_sound {o : Orc} (ho : ∀ f, FSound Try.prog f (o f)) (N : Nat) : FSound Try.prog 22 (M22 o N) :=
  FSound.sub (runFn_ok (an := .n) (fuel := N) hmix ho (by kernel_rfl) (by kernel_rfl)) (M22_run o N)
/-! 23 (*ostinato/sched.Sched).Begin -/
def M23_0 (o : Orc) (N : Nat) (κ : Kv) (x0 : V) (x1 : Int) (H : Heap) : Ans :=
  asP x0 fun p1 o2 =>
  (stN H p1 (o2 + 1) [(.int .i64 x1)]).bind fun H3 =>
  asP x0 fun p4 o5 =>
  (stN H3 p4 (o5 + 2) [(.int .i64 0)]).bind fun H6 =>
  o 28 [x0] H6 fun v7 H8 =>
  asT0 v7 (
  κ (.tup []) H8)
theorem M23_0_ok {o : Orc} {N : Nat} {κ : Kv} (x0 : V) (x1 : Int) (H : Heap) :
    run Try.prog o N (cAt Try.f23 []) .n (env0 Try.prog Try.f23 κ) (tmk 0 13 [(0, x0), (1, .int .i64 x1)]) H (env0 Try.prog Try.f23 κ).ret = M23_0 o N κ x0 x1 H := by
  kernel_rfl
def M23 (o : Orc) (N : Nat) : FnM := fun vs H κ => match vs with
  | [x0, .int .i64 x1] => M23_0 o N κ x0 x1 H
  | _ => none
theorem M23_run (o : Orc) (N : Nat) (vs : List V) (H : Heap) (κ : Kv) (r) (h : M23 o N vs H κ = some r) : runFn Try.prog o N Try.f23 .n vs H κ = some r := by
  unfold M23 at h
  split at h
  · rename_i x0 x1
    refine (runFn_at (t := tmk 0 13 [(0, x0), (1, .int .i64 x1)]) (by kernel_rfl) (by kernel_rfl)).trans (Eq.trans ?_ h)
    exact M23_0_ok x0 x1 H
  · cases h
theorem M23_sound {o : Orc} (ho : ∀ f, FSound Try.prog f (o f)) (N : Nat) : FSound Try.prog 23 (M23 o N) :=
  FSound.sub (runFn_ok (an := .n) (fuel := N) hmix ho (by kernel_rfl) (by kernel_rfl)) (M23_run o N)
/-! 24 (*ostinato/sched.Sched).Now -/
def M24_0 (o : Orc) (N : Nat) (J : V → Int → Heap → Ans) (κ : Kv) (x0 : V) (x1 : Int) (H : Heap) : Ans :=
  J x0 x1 H
theorem M24_0_ok {o : Orc} {N : Nat} {κ : Kv} {J : Kt} {J' : V → Int → Heap → Ans} (hJ : ∀ x0 x1 H, J (tmk 0 55 [(0, x0), (1, .int .i64 x1)]) H = J' x0 x1 H) (x0 : V) (x1 : Int) (H : Heap) :
    run Try.prog o N (cAt Try.f24 [0]) .n (env0 Try.prog Try.f24 κ) (tmk 0 55 [(0, x0), (1, .int .i64 x1)]) H (kj [0, 1] J) = M24_0 o N J' κ x0 x1 H := by
  obtain rfl := fx3 hJ
  kernel_rfl
def M24_1 (o : Orc) (N : Nat) (J : V → Int → Heap → Ans) (κ : Kv) (x0 : V) (x1 : Int) (H : Heap) : Ans :=
  asP x0 fun p1 o2 =>
  (ldI H .i64 p1 (o2 + 2)).bind fun n3 =>
  cond (decide (x1 < n3)) (
  κ .nils H) (
  J x0 x1 H)
theorem M24_1_ok {o : Orc} {N : Nat} {κ : Kv} {J : Kt} {J' : V → Int → Heap → Ans} (hJ : ∀ x0 x1 H, J (tmk 0 55 [(0, x0), (1, .int .i64 x1)]) H = J' x0 x1 H) (x0 : V) (x1 : Int) (H : Heap) :
    run Try.prog o N (cAt Try.f24 [1, 4, 0]) .n (env0 Try.prog Try.f24 κ) (tmk 0 55 [(0, x0), (1, .int .i64 x1)]) H (kj [0, 1] J) = M24_1 o N J' κ x0 x1 H := by
  obtain rfl := fx3 hJ
  kernel_rfl
def A24_2 : An := (.d [0, 1, 2, 3, 4, 5, 6, 7, 8, 9, 10, 11, 12, 13, 14])
def M24_3 (o : Orc) (N : Nat) (J : V → Int → V → Heap → Ans) (κ : Kv) (x0 : V) (x1 : Int) (H : Heap) : Ans :=
  asP x0 fun p4 o5 =>
  (ldV (Heap.skip H 15) p4 (o5 + 0)).bind fun v6 =>
  asP x0 fun p7 o8 =>
  (ldI (Heap.skip H 15) .i64 p7 (o8 + 1)).bind fun n9 =>
  asP x0 fun p10 o11 =>
  (ldI (Heap.skip H 15) .i64 p10 (o11 + 2)).bind fun n12 =>
  o 31 [v6, (.int .i64 n9), (.int .i64 n12), (.int .i64 x1)] (Heap.skip H 15) fun v13 H14 =>
  J x0 x1 v13 H14
theorem M24_3_ok {o : Orc} {N : Nat} {κ : Kv} {J : Kt} {J' : V → Int → V → Heap → Ans} (hJ : ∀ x0 x1 x5 H, J (tmk 0 55 [(0, x0), (1, .int .i64 x1), (5, x5)]) H = J' x0 x1 x5 H) (x0 : V) (x1 : Int) (H : Heap) :
    run Try.prog o N (cAt Try.f24 [1, 4, 1, 0]) A24_2 (env0 Try.prog Try.f24 κ) (tmk 0 55 [(0, x0), (1, .int .i64 x1)]) H (kj [0, 1, 5] J) = M24_3 o N J' κ x0 x1 H := by
  obtain rfl := fx4 hJ
  kernel_rfl
def M24_4 (o : Orc) (N : Nat) (J : V → V → Heap → Ans) (κ : Kv) (x0 : V) (x1 : Int) (x5 : V) (H : Heap) : Ans :=
  asP x0 fun p15 o16 =>
  (stN H p15 (o16 + 2) [(.int .i64 x1)]).bind fun H17 =>
  J x0 x5 H17
theorem M24_4_ok {o : Orc} {N : Nat} {κ : Kv} {J : Kt} {J' : V → V → Heap → Ans} (hJ : ∀ x0 x5 H, J (tmk 0 55 [(0, x0), (5, x5)]) H = J' x0 x5 H) (x0 : V) (x1 : Int) (x5 : V) (H : Heap) :
    run Try.prog o N (cAt Try.f24 [1, 4, 1, 1, 0]) .n (env0 Try.prog Try.f24 κ) (tmk 0 55 [(0, x0), (1, .int .i64 x1), (5, x5)]) H (kj [0, 5] J) = M24_4 o N J' κ x0 x1 x5 H := by
  obtain rfl := fx3 hJ
  kernel_rfl
def M24_5 (o : Orc) (N : Nat) (J : V → V → Heap → Ans) (κ : Kv) (x0 x5 : V) (H : Heap) : Ans :=
  J x0 x5 H
theorem M24_5_ok {o : Orc} {N : Nat} {κ : Kv} {J : Kt} {J' : V → V → Heap → Ans} (hJ : ∀ x0 x5 H, J (tmk 0 55 [(0, x0), (5, x5)]) H = J' x0 x5 H) (x0 x5 : V) (H : Heap) :
    run Try.prog o N (cAt Try.f24 [1, 4, 1, 1, 1, 0]) .n (env0 Try.prog Try.f24 κ) (tmk 0 55 [(0, x0), (5, x5)]) H (kj [0, 5] J) = M24_5 o N J' κ x0 x5 H := by
  obtain rfl := fx3 hJ
  kernel_rfl
def M24_6 (o : Orc) (N : Nat) (J : V → V → V → Int → Int → Heap → Ans) (κ : Kv) (x0 x5 : V) (H : Heap) : Ans :=
  lenS x5 fun n18 =>
  J x0 x5 x5 n18 0 H
theorem M24_6_ok {o : Orc} {N : Nat} {κ : Kv} {J : Kt} {J' : V → V → V → Int → Int → Heap → Ans} (hJ : ∀ x0 x5 x32 x33 x34 H, J (tmk 0 55 [(0, x0), (5, x5), (32, x32), (33, .int .i64 x33), (34, .int .i64 x34)]) H = J' x0 x5 x32 x33 x34 H) (x0 x5 : V) (H : Heap) :
    run Try.prog o N (cAt Try.f24 [1, 4, 1, 1, 1, 1, 0, 0]) .n (env0 Try.prog Try.f24 κ) (tmk 0 55 [(0, x0), (5, x5)]) H (kj [0, 5, 32, 33, 34] J) = M24_6 o N J' κ x0 x5 H := by
  obtain rfl := fx6 hJ
  kernel_rfl
def M24_7 (o : Orc) (N : Nat) (X0 : V → Heap → Ans) (J : V → V → V → Int → Int → Heap → Ans) (κ : Kv) (x0 x5 x32 : V) (x33 x34 : Int) (H : Heap) : Ans :=
  cond (decide (x34 < x33)) (
  idxS 6 x32 x34 fun p19 o20 =>
  ldFlat H p19 [.int .i64, .int .i64, .int .i64, .int .i64, .int .i64, .int .i64] o20 fun l21 =>
  newB H (.row [(.int .i64 0), (.int .i64 0), (.int .i64 0), (.int .i64 0), (.int .i64 0), (.int .i64 0)]) fun i22 H23 =>
  cond (Nat.beq (List.length l21) 6 && Nat.blt 0 6) (
  (stN H23 i22 0 l21).bind fun H24 =>
  (ldI H24 .i64 i22 0).bind fun n25 =>
  cond (n25 != 1) (
  (ldI H24 .i64 i22 0).bind fun n26 =>
  cond (n26 != 2) (
  J x0 x5 x32 x33 (IntKind.i64.wrap (x34 + 1)) H24) (
  ldFlat H24 i22 [.int .i64, .int .i64, .int .i64, .int .i64, .int .i64, .int .i64] 0 fun l27 =>
  asP x0 fun p28 o29 =>
  cond (Nat.beq (List.length l27) 6 && Nat.blt 0 6) (
  (stN H24 p28 (o29 + 3) l27).bind fun H30 =>
  asP x0 fun p31 o32 =>
  (stN H30 p31 (o32 + 9) [(.bool true)]).bind fun H33 =>
  J x0 x5 x32 x33 (IntKind.i64.wrap (x34 + 1)) H33) none)) (
  ldFlat H24 i22 [.int .i64, .int .i64, .int .i64, .int .i64, .int .i64, .int .i64] 0 fun l34 =>
  asP x0 fun p35 o36 =>
  cond (Nat.beq (List.length l34) 6 && Nat.blt 0 6) (
  (stN H24 p35 (o36 + 3) l34).bind fun H37 =>
  asP x0 fun p38 o39 =>
  (stN H37 p38 (o39 + 9) [(.bool true)]).bind fun H40 =>
  J x0 x5 x32 x33 (IntKind.i64.wrap (x34 + 1)) H40) none)) none) (
  X0 x5 H)
theorem M24_7_ok {o : Orc} {N : Nat} {κ : Kv} {X0 J : Kt} {X0' : V → Heap → Ans} {J' : V → V → V → Int → Int → Heap → Ans} (h0 : ∀ x5 H, X0 (tmk 0 55 [(5, x5)]) H = X0' x5 H) (hJ : ∀ x0 x5 x32 x33 x34 H, J (tmk 0 55 [(0, x0), (5, x5), (32, x32), (33, .int .i64 x33), (34, .int .i64 x34)]) H = J' x0 x5 x32 x33 x34 H) (x0 x5 x32 : V) (x33 x34 : Int) (H : Heap) :
    run Try.prog o N (cAt Try.f24 [1, 4, 1, 1, 1, 1, 0, 1, 4, 4]) .n ((env0 Try.prog Try.f24 κ).block 0 (kj [5] X0)) (tmk 0 55 [(0, x0), (5, x5), (32, x32), (33, .int .i64 x33), (34, .int .i64 x34)]) H (kj [0, 5, 32, 33, 34] J) = M24_7 o N X0' J' κ x0 x5 x32 x33 x34 H := by
  obtain rfl := fx2 h0
  obtain rfl := fx6 hJ
  kernel_rfl
def M24_8 (o : Orc) (N : Nat) (X0 : V → Heap → Ans) (κ : Kv) (n : Nat) : V → V → V → Int → Int → Heap → Ans :=
  Nat.rec (motive := fun _ => V → V → V → Int → Int → Heap → Ans) (fun _ _ _ _ _ _ => none) (fun _ ih x0 x5 x32 x33 x34 H => M24_7 o N X0 ih κ x0 x5 x32 x33 x34 H) n
theorem M24_8_s (o : Orc) (N : Nat) (X0 : V → Heap → Ans) (κ : Kv) (n : Nat) (x0 x5 x32 : V) (x33 x34 : Int) (H : Heap) : M24_8 o N X0 κ (n + 1) x0 x5 x32 x33 x34 H = M24_7 o N X0 (M24_8 o N X0 κ n) κ x0 x5 x32 x33 x34 H := rfl
theorem M24_8_ok {o : Orc} {N : Nat} {κ : Kv} {X0 : Kt} {X0' : V → Heap → Ans} (h0 : ∀ x5 H, X0 (tmk 0 55 [(5, x5)]) H = X0' x5 H) (n : Nat) : ∀ (x0 x5 x32 : V) (x33 x34 : Int) (H : Heap),
    rounds (fun a H k => run Try.prog o N (cAt Try.f24 [1, 4, 1, 1, 1, 1, 0, 1, 4, 4]) .n ((env0 Try.prog Try.f24 κ).block 0 (kj [5] X0)) a H k) (some (lvOf [0, 5, 32, 33, 34])) n (tmk 0 55 [(0, x0), (5, x5), (32, x32), (33, .int .i64 x33), (34, .int .i64 x34)]) H = M24_8 o N X0' κ n x0 x5 x32 x33 x34 H := by
  induction n with
  | zero => intros; rfl
  | succ n ih =>
    intro x0 x5 x32 x33 x34 H
    refine (run_round.trans ?_).trans (M24_8_s ..).symm
    exact M24_7_ok h0 ih x0 x5 x32 x33 x34 H
def A24_9 : An := .b none (.l (some (lvOf [0, 5, 32, 33, 34])) .n)
def A24_10 : An := .s .n (some (lvOf [0, 5, 32, 33, 34])) A24_9
def M24_11 (o : Orc) (N : Nat) (κ : Kv) (x5 : V) (H : Heap) : Ans :=
  κ x5 H
theorem M24_11_ok {o : Orc} {N : Nat} {κ : Kv} (x5 : V) (H : Heap) :
    run Try.prog o N (cAt Try.f24 [1, 4, 1, 1, 1, 1, 1]) .n (env0 Try.prog Try.f24 κ) (tmk 0 55 [(5, x5)]) H (env0 Try.prog Try.f24 κ).ret = M24_11 o N κ x5 H := by
  kernel_rfl
def A24_12 : An := .s .n (some (lvOf [0, 5])) (.s A24_10 (some (lvOf [5])) .n)
def A24_13 : An := .s A24_2 (some (lvOf [0, 1, 5])) (.s .n (some (lvOf [0, 5])) A24_12)
def A24_14 : An := .s .n (some (lvOf [0, 1])) (.s .n (some (lvOf [0, 1])) A24_13)
def M24 (o : Orc) (N : Nat) : FnM := fun vs H κ => match vs with
  | [x0, .int .i64 x1] => M24_0 o N (fun x0 x1 H => M24_1 o N (fun x0 x1 H => M24_3 o N (fun x0 x1 x5 H => M24_4 o N (fun x0 x5 H => M24_5 o N (fun x0 x5 H => M24_6 o N (fun x0 x5 x32 x33 x34 H => M24_8 o N (fun x5 H => M24_11 o N κ x5 H) κ N x0 x5 x32 x33 x34 H) κ x0 x5 H) κ x0 x5 H) κ x0 x1 x5 H) κ x0 x1 H) κ x0 x1 H) κ x0 x1 H
  | _ => none
theorem M24_run (o : Orc) (N : Nat) (vs : List V) (H : Heap) (κ : Kv) (r) (h : M24 o N vs H κ = some r) : runFn Try.prog o N Try.f24 A24_14 vs H κ = some r := by
  unfold M24 at h
  split at h
  · rename_i x0 x1
    refine (runFn_at (t := tmk 0 55 [(0, x0), (1, .int .i64 x1)]) (by kernel_rfl) (by kernel_rfl)).trans (Eq.trans ?_ h)
    refine (run_seq (x := (cAt Try.f24 [0])) (ax := .n) (y := (cAt Try.f24 [1])) (ay := (.s .n (some (lvOf [0, 1])) A24_13)) (l := [0, 1]) (by kernel_rfl) (by kernel_rfl)).trans ?_
    refine M24_0_ok ?_ x0 x1 H
    intro x0 x1 H
    refine (run_scope (x := (cAt Try.f24 [1, 4])) (by kernel_rfl)).trans ?_
    refine (run_seq (x := (cAt Try.f24 [1, 4, 0])) (ax := .n) (y := (cAt Try.f24 [1, 4, 1])) (ay := A24_13) (l := [0, 1]) (by kernel_rfl) (by kernel_rfl)).trans ?_
    refine M24_1_ok ?_ x0 x1 H
    intro x0 x1 H
    refine (run_seq (x := (cAt Try.f24 [1, 4, 1, 0])) (ax := A24_2) (y := (cAt Try.f24 [1, 4, 1, 1])) (ay := (.s .n (some (lvOf [0, 5])) A24_12)) (l := [0, 1, 5]) (by kernel_rfl) (by kernel_rfl)).trans ?_
    refine M24_3_ok ?_ x0 x1 H
    intro x0 x1 x5 H
    refine (run_seq (x := (cAt Try.f24 [1, 4, 1, 1, 0])) (ax := .n) (y := (cAt Try.f24 [1, 4, 1, 1, 1])) (ay := A24_12) (l := [0, 5]) (by kernel_rfl) (by kernel_rfl)).trans ?_
    refine M24_4_ok ?_ x0 x1 x5 H
    intro x0 x5 H
    refine (run_seq (x := (cAt Try.f24 [1, 4, 1, 1, 1, 0])) (ax := .n) (y := (cAt Try.f24 [1, 4, 1, 1, 1, 1])) (ay := (.s A24_10 (some (lvOf [5])) .n)) (l := [0, 5]) (by kernel_rfl) (by kernel_rfl)).trans ?_
    refine M24_5_ok ?_ x0 x5 H
    intro x0 x5 H
    refine (run_seq (x := (cAt Try.f24 [1, 4, 1, 1, 1, 1, 0])) (ax := A24_10) (y := (cAt Try.f24 [1, 4, 1, 1, 1, 1, 1])) (ay := .n) (l := [5]) (by kernel_rfl) (by kernel_rfl)).trans ?_
    refine (run_seq (x := (cAt Try.f24 [1, 4, 1, 1, 1, 1, 0, 0])) (ax := .n) (y := (cAt Try.f24 [1, 4, 1, 1, 1, 1, 0, 1])) (ay := A24_9) (l := [0, 5, 32, 33, 34]) (by kernel_rfl) (by kernel_rfl)).trans ?_
    refine M24_6_ok ?_ x0 x5 H
    intro x0 x5 x32 x33 x34 H
    refine (run_block (id := 0) (x := (cAt Try.f24 [1, 4, 1, 1, 1, 1, 0, 1, 4])) (ax := (.l (some (lvOf [0, 5, 32, 33, 34])) .n)) (by kernel_rfl) (by kernel_rfl)).trans ?_
    refine (run_loop (x := (cAt Try.f24 [1, 4, 1, 1, 1, 1, 0, 1, 4, 4])) (ax := .n) (l := [0, 5, 32, 33, 34]) (by kernel_rfl) (by kernel_rfl) (by kernel_rfl)).trans ?_
    refine M24_8_ok ?_ N x0 x5 x32 x33 x34 H
    intro x5 H
    exact M24_11_ok x5 H
  · cases h
theorem M24_sound {o : Orc} (ho : ∀ f, FSound Try.prog f (o f)) (N : Nat) : FSound Try.prog 24 (M24 o N) :=
  FSound.sub (runFn_ok (an := A24_14) (fuel := N) hmix ho (by kernel_rfl) (by kernel_rfl)) (M24_run o N)
/-! 25 (*ostinato/sched.Sched).Open -/
def A25_0 : An := (.s .n none (.s (.d [0, 1, 2, 3, 4, 5, 6, 7, 8, 9]) none .n))
def M25_1 (o : Orc) (N : Nat) (κ : Kv) (x0 : V) (H : Heap) : Ans :=
  newB H (.row [(.int .i64 0), (.int .i64 0), (.int .i64 0), (.int .i64 0), (.int .i64 0), (.int .i64 0)]) fun i1 H2 =>
  asP x0 fun p3 o4 =>
  ldFlat (Heap.skip H2 10) p3 [.int .i64, .int .i64, .int .i64, .int .i64, .int .i64, .int .i64] (o4 + 3) fun l5 =>
  asP x0 fun p6 o7 =>
  (ldB (Heap.skip H2 10) p6 (o7 + 9)).bind fun b8 =>
  cond (Nat.beq (List.length l5) 6 && Nat.blt 0 6) (
  (stN (Heap.skip H2 10) i1 0 l5).bind fun H9 =>
  (ldB H9 p6 (o7 + 9)).bind fun b10 =>
  cond ((b8 == b10)) (
  ldFlat H9 i1 [.int .i64, .int .i64, .int .i64, .int .i64, .int .i64, .int .i64] 0 fun l11 =>
  κ (.tup [(.agg l11), (.bool b8)]) H9) none) none
theorem M25_1_ok {o : Orc} {N : Nat} {κ : Kv} (x0 : V) (H : Heap) :
    run Try.prog o N (cAt Try.f25 []) A25_0 (env0 Try.prog Try.f25 κ) (tmk 0 12 [(0, x0)]) H (env0 Try.prog Try.f25 κ).ret = M25_1 o N κ x0 H := by
  kernel_rfl
def M25 (o : Orc) (N : Nat) : FnM := fun vs H κ => match vs with
  | [x0] => M25_1 o N κ x0 H
  | _ => none
theorem M25_run (o : Orc) (N : Nat) (vs : List V) (H : Heap) (κ : Kv) (r) (h : M25 o N vs H κ = some r) : runFn Try.prog o N Try.f25 A25_0 vs H κ = some r := by
  unfold M25 at h
  split at h
  · rename_i x0
    refine (runFn_at (t := tmk 0 12 [(0, x0)]) (by kernel_rfl) (by kernel_rfl)).trans (Eq.trans ?_ h)
    exact M25_1_ok x0 H
  · cases h
theorem M25_sound {o : Orc} (ho : ∀ f, FSound Try.prog f (o f)) (N : Nat) : FSound Try.prog 25 (M25 o N) :=
  FSound.sub (runFn_ok (an := A25_0) (fuel := N) hmix ho (by kernel_rfl) (by kernel_rfl)) (M25_run o N)
/-! 26 (*ostinato/sched.Sched).Over -/
def M26_0 (o : Orc) (N : Nat) (κ : Kv) (x0 : V) (x1 : Int) (H : Heap) : Ans :=
  asP x0 fun p1 o2 =>
  (ldB H p1 (o2 + 9)).bind fun b3 =>
  cond b3 (
  asP x0 fun p4 o5 =>
  (ldI H .i64 p4 ((o5 + 3) + 5)).bind fun n6 =>
  κ (.bool (decide (x1 > n6))) H) (
  κ (.bool false) H)
theorem M26_0_ok {o : Orc} {N : Nat} {κ : Kv} (x0 : V) (x1 : Int) (H : Heap) :
    run Try.prog o N (cAt Try.f26 []) .n (env0 Try.prog Try.f26 κ) (tmk 0 18 [(0, x0), (1, .int .i64 x1)]) H (env0 Try.prog Try.f26 κ).ret = M26_0 o N κ x0 x1 H := by
  kernel_rfl
def M26 (o : Orc) (N : Nat) : FnM := fun vs H κ => match vs with
  | [x0, .int .i64 x1] => M26_0 o N κ x0 x1 H
  | _ => none
theorem M26_run (o : Orc) (N : Nat) (vs : List V) (H : Heap) (κ : Kv) (r) (h : M26 o N vs H κ = some r) : runFn Try.prog o N Try.f26 .n vs H κ = some r := by
  unfold M26 at h
  split at h
  · rename_i x0 x1
    refine (runFn_at (t := tmk 0 18 [(0, x0), (1, .int .i64 x1)]) (by kernel_rfl) (by kernel_rfl)).trans (Eq.trans ?_ h)
    exact M26_0_ok x0 x1 H
  · cases h
theorem M26_sound {o : Orc} (ho : ∀ f, FSound Try.prog f (o f)) (N : Nat) : FSound Try.prog 26 (M26 o N) :=
  FSound.sub (runFn_ok (an := .n) (fuel := N) hmix ho (by kernel_rfl) (by kernel_rfl)) (M26_run o N)
/-! 27 (*ostinato/sched.Sched).Copy -/
def M27_0 (o : Orc) (N : Nat) (κ : Kv) (x0 : V) (H : Heap) : Ans :=
  asP x0 fun p1 o2 =>
  ldFlat H p1 [.oth, .int .i64, .int .i64, .int .i64, .int .i64, .int .i64, .int .i64, .int .i64, .int .i64, .bool] o2 fun l3 =>
  newB H (.row [.nils, (.int .i64 0), (.int .i64 0), (.int .i64 0), (.int .i64 0), (.int .i64 0), (.int .i64 0), (.int .i64 0), (.int .i64 0), (.bool false)]) fun i4 H5 =>
  cond (Nat.beq (List.length l3) 10 && Nat.blt 0 10) (
  (stN H5 i4 0 l3).bind fun H6 =>
  κ (.ptr i4 0) H6) none
theorem M27_0_ok {o : Orc} {N : Nat} {κ : Kv} (x0 : V) (H : Heap) :
    run Try.prog o N (cAt Try.f27 []) .n (env0 Try.prog Try.f27 κ) (tmk 0 7 [(0, x0)]) H (env0 Try.prog Try.f27 κ).ret = M27_0 o N κ x0 H := by
  kernel_rfl
def M27 (o : Orc) (N : Nat) : FnM := fun vs H κ => match vs with
  | [x0] => M27_0 o N κ x0 H
  | _ => none
theorem M27_run (o : Orc) (N : Nat) (vs : List V) (H : Heap) (κ : Kv) (r) (h : M27 o N vs H κ = some r) : runFn Try.prog o N Try.f27 .n vs H κ = some r := by
  unfold M27 at h
  split at h
  · rename_i x0
    refine (runFn_at (t := tmk 0 7 [(0, x0)]) (by kernel_rfl) (by kernel_rfl)).trans (Eq.trans ?_ h)
    exact M27_0_ok x0 H
  · cases h
theorem M27_sound {o : Orc} (ho : ∀ f, FSound Try.prog f (o f)) (N : Nat) : FSound Try.prog 27 (M27 o N) :=
  FSound.sub (runFn_ok (an := .n) (fuel := N) hmix ho (by kernel_rfl) (by kernel_rfl)) (M27_run o N)
/-! 28 (*ostinato/sched.Sched).Close -/
def M28_0 (o : Orc) (N : Nat) (κ : Kv) (x0 : V) (H : Heap) : Ans :=
  asP x0 fun p1 o2 =>
  (stN H p1 (o2 + 3) [(.int .i64 0), (.int .i64 0), (.int .i64 0), (.int .i64 0), (.int .i64 0), (.int .i64 0)]).bind fun H3 =>
  asP x0 fun p4 o5 =>
  (stN H3 p4 (o5 + 9) [(.bool false)]).bind fun H6 =>
  κ (.tup []) H6
theorem M28_0_ok {o : Orc} {N : Nat} {κ : Kv} (x0 : V) (H : Heap) :
    run Try.prog o N (cAt Try.f28 []) .n (env0 Try.prog Try.f28 κ) (tmk 0 9 [(0, x0)]) H (env0 Try.prog Try.f28 κ).ret = M28_0 o N κ x0 H := by
  kernel_rfl
def M28 (o : Orc) (N : Nat) : FnM := fun vs H κ => match vs with
  | [x0] => M28_0 o N κ x0 H
  | _ => none
theorem M28_run (o : Orc) (N : Nat) (vs : List V) (H : Heap) (κ : Kv) (r) (h : M28 o N vs H κ = some r) : runFn Try.prog o N Try.f28 .n vs H κ = some r := by
  unfold M28 at h
  split at h
  · rename_i x0
    refine (runFn_at (t := tmk 0 9 [(0, x0)]) (by kernel_rfl) (by kernel_rfl)).trans (Eq.trans ?_ h)
    exact M28_0_ok x0 H
  · cases h
theorem M28_sound {o : Orc} (ho : ∀ f, FSound Try.prog f (o f)) (N : Nat) : FSound Try.prog 28 (M28 o N) :=
  FSound.sub (runFn_ok (an := .n) (fuel := N) hmix ho (by kernel_rfl) (by kernel_rfl)) (M28_run o N)
/-! 48 ostinato/ostinatolaw23.least -/
def M48_0 (o : Orc) (N : Nat) (κ : Kv) (H : Heap) : Ans :=
  newB H (.row [(.int .i64 0), (.int .i64 0), (.int .i64 0), (.int .i64 0), (.int .i64 0), (.int .i64 0), (.int .i64 0), (.int .u32 0), .nils, .nils, .nils]) fun i1 H2 =>
  newB H2 (.row [(.int .i64 0)]) fun i3 H4 =>
  newB H4 (.row [(.int .u32 99), (.int .i64 0), (.bool false)]) fun i5 H6 =>
  newB H6 (.row [(.int .i64 1), (.int .i64 40), (.int .i64 80), (.int .i64 0), (.int .i64 1), (.int .i64 0)]) fun i7 H8 =>
  (stN H8 i1 0 [(.int .i64 1), (.int .i64 2), (.int .i64 2), (.int .i64 400), (.int .i64 2), (.int .i64 16), (.int .i64 0), (.int .u32 8), (.sl i3 0 1 1 true), (.sl i5 0 1 3 true), (.sl i7 0 1 6 true)]).bind fun H9 =>
  ldFlat H9 i1 [.int .i64, .int .i64, .int .i64, .int .i64, .int .i64, .int .i64, .int .i64, .int .u32, .oth, .oth, .oth] 0 fun l10 =>
  κ (.agg l10) H9
theorem M48_0_ok {o : Orc} {N : Nat} {κ : Kv} (H : Heap) :
    run Try.prog o N (cAt Try.f48 []) .n (env0 Try.prog Try.f48 κ) (tmk 0 7 []) H (env0 Try.prog Try.f48 κ).ret = M48_0 o N κ  H := by
  kernel_rfl
def M48 (o : Orc) (N : Nat) : FnM := fun vs H κ => match vs with
  | [] => M48_0 o N κ  H
  | _ => none
theorem M48_run (o : Orc) (N : Nat) (vs : List V) (H : Heap) (κ : Kv) (r) (h : M48 o N vs H κ = some r) : runFn Try.prog o N Try.f48 .n vs H κ = some r := by
  unfold M48 at h
  split at h
  · refine (runFn_at (t := tmk 0 7 []) (by kernel_rfl) (by kernel_rfl)).trans (Eq.trans ?_ h)
    exact M48_0_ok  H
  · cases h
theorem M48_sound {o : Orc} (ho : ∀ f, FSound Try.prog f (o f)) (N : Nat) : FSound Try.prog 48 (M48 o N) :=
  FSound.sub (runFn_ok (an := .n) (fuel := N) hmix ho (by kernel_rfl) (by kernel_rfl)) (M48_run o N)
end Go.Proofs.Ytminfdcdmgpnjaa.K
