/- Printed: runs of functions. -/
import Derived.Test.YtfcmdgdjifoecaaGreatK20
set_option linter.unusedVariables false
set_option maxRecDepth 100000
noncomputable section
namespace Go.Proofs.YtfcmdgdjifoecaaGreat.K
open Go
/-! 7 ostinato/ostinatolaw24.NodeStands -/
def M7_0 (o : Orc) (N : Nat) (J : Int → Heap → Ans) (κ : Kv) (x0 : Int) (H : Heap) : Ans :=
  J x0 H
theorem M7_0_ok {o : Orc} {N : Nat} {κ : Kv} {J : Kt} {J' : Int → Heap → Ans} (hJ : ∀ x0 H, J (tmk 0 61 [(0, .int .u8 x0)]) H = J' x0 H) (x0 : Int) (H : Heap) :
    run Tryz.prog o N (cAt Tryz.f7 [0]) .n (env0 Tryz.prog Tryz.f7 κ) (tmk 0 61 [(0, .int .u8 x0)]) H (kj [0] J) = M7_0 o N J' κ x0 H := by
  obtain rfl := fx2 hJ
  kernel_rfl
def M7_1 (o : Orc) (N : Nat) (J : Int → Heap → Ans) (κ : Kv) (x0 : Int) (H : Heap) : Ans :=
  o 24 [] H fun v1 H2 =>
  asB v1 fun b3 =>
  cond (!b3) (
  κ (.bool false) H2) (
  J x0 H2)
theorem M7_1_ok {o : Orc} {N : Nat} {κ : Kv} {J : Kt} {J' : Int → Heap → Ans} (hJ : ∀ x0 H, J (tmk 0 61 [(0, .int .u8 x0)]) H = J' x0 H) (x0 : Int) (H : Heap) :
    run Tryz.prog o N (cAt Tryz.f7 [1, 0]) .n (env0 Tryz.prog Tryz.f7 κ) (tmk 0 61 [(0, .int .u8 x0)]) H (kj [0] J) = M7_1 o N J' κ x0 H := by
  obtain rfl := fx2 hJ
  kernel_rfl
def M7_2 (o : Orc) (N : Nat) (J : Int → Heap → Ans) (κ : Kv) (x0 : Int) (H : Heap) : Ans :=
  J (IntKind.i64.wrap (Int.tmod x0 2)) H
theorem M7_2_ok {o : Orc} {N : Nat} {κ : Kv} {J : Kt} {J' : Int → Heap → Ans} (hJ : ∀ x3 H, J (tmk 0 61 [(3, .int .i64 x3)]) H = J' x3 H) (x0 : Int) (H : Heap) :
    run Tryz.prog o N (cAt Tryz.f7 [1, 1, 0]) .n (env0 Tryz.prog Tryz.f7 κ) (tmk 0 61 [(0, .int .u8 x0)]) H (kj [3] J) = M7_2 o N J' κ x0 H := by
  obtain rfl := fx2 hJ
  kernel_rfl
def M7_3 (o : Orc) (N : Nat) (J : Int → V → Heap → Ans) (κ : Kv) (x3 : Int) (H : Heap) : Ans :=
  o 27 [] H fun v4 H5 =>
  asA v4 fun l6 =>
  o 26 [(.agg l6)] H5 fun v7 H8 =>
  asS v7 fun s9 =>
  o 25 [(.str s9), (.int .i64 x3)] H8 fun v10 H11 =>
  J x3 v10 H11
theorem M7_3_ok {o : Orc} {N : Nat} {κ : Kv} {J : Kt} {J' : Int → V → Heap → Ans} (hJ : ∀ x3 x4 H, J (tmk 0 61 [(3, .int .i64 x3), (4, x4)]) H = J' x3 x4 H) (x3 : Int) (H : Heap) :
    run Tryz.prog o N (cAt Tryz.f7 [1, 1, 1, 0]) .n (env0 Tryz.prog Tryz.f7 κ) (tmk 0 61 [(3, .int .i64 x3)]) H (kj [3, 4] J) = M7_3 o N J' κ x3 H := by
  obtain rfl := fx3 hJ
  kernel_rfl
def M7_4 (o : Orc) (N : Nat) (J : Int → V → Int → Int → Heap → Ans) (κ : Kv) (x3 : Int) (x4 : V) (H : Heap) : Ans :=
  J x3 x4 (-1) 0 H
theorem M7_4_ok {o : Orc} {N : Nat} {κ : Kv} {J : Kt} {J' : Int → V → Int → Int → Heap → Ans} (hJ : ∀ x3 x4 x5 x6 H, J (tmk 0 61 [(3, .int .i64 x3), (4, x4), (5, .int .i64 x5), (6, .int .i64 x6)]) H = J' x3 x4 x5 x6 H) (x3 : Int) (x4 : V) (H : Heap) :
    run Tryz.prog o N (cAt Tryz.f7 [1, 1, 1, 1, 0]) .n (env0 Tryz.prog Tryz.f7 κ) (tmk 0 61 [(3, .int .i64 x3), (4, x4)]) H (kj [3, 4, 5, 6] J) = M7_4 o N J' κ x3 x4 H := by
  obtain rfl := fx5 hJ
  kernel_rfl
def M7_5 (o : Orc) (N : Nat) (J : Int → V → Int → Int → Int → Heap → Ans) (κ : Kv) (x3 : Int) (x4 : V) (x5 x6 : Int) (H : Heap) : Ans :=
  J x3 x4 x5 x6 0 H
theorem M7_5_ok {o : Orc} {N : Nat} {κ : Kv} {J : Kt} {J' : Int → V → Int → Int → Int → Heap → Ans} (hJ : ∀ x3 x4 x5 x6 x7 H, J (tmk 0 61 [(3, .int .i64 x3), (4, x4), (5, .int .i64 x5), (6, .int .i64 x6), (7, .int .i64 x7)]) H = J' x3 x4 x5 x6 x7 H) (x3 : Int) (x4 : V) (x5 x6 : Int) (H : Heap) :
    run Tryz.prog o N (cAt Tryz.f7 [1, 1, 1, 1, 1, 0, 0]) .n (env0 Tryz.prog Tryz.f7 κ) (tmk 0 61 [(3, .int .i64 x3), (4, x4), (5, .int .i64 x5), (6, .int .i64 x6)]) H (kj [3, 4, 5, 6, 7] J) = M7_5 o N J' κ x3 x4 x5 x6 H := by
  obtain rfl := fx6 hJ
  kernel_rfl
def M7_6 (o : Orc) (N : Nat) (X0 : Int → V → Int → Int → Heap → Ans) (J : Int → V → Int → Int → Int → Heap → Ans) (κ : Kv) (x3 : Int) (x4 : V) (x5 x6 x7 : Int) (H : Heap) : Ans :=
  cond (decide (x7 < 2000)) (
  o 32 [x4, (.int .i64 4)] H fun v12 H13 =>
  asT0 v12 (
  o 33 [x4] H13 fun v14 H15 =>
  asI .u8 v14 fun n16 =>
  cond (n16 == 48) (
  cond (decide (x5 < 0)) (
  o 34 [x4, (.int .u8 n16)] H15 fun v17 H18 =>
  asT0 v17 (
  J x3 x4 x7 (IntKind.i64.wrap (x6 + 1)) (IntKind.i64.wrap (x7 + 1)) H18)) (
  o 34 [x4, (.int .u8 n16)] H15 fun v19 H20 =>
  asT0 v19 (
  J x3 x4 x5 (IntKind.i64.wrap (x6 + 1)) (IntKind.i64.wrap (x7 + 1)) H20))) (
  o 34 [x4, (.int .u8 n16)] H15 fun v21 H22 =>
  asT0 v21 (
  J x3 x4 x5 x6 (IntKind.i64.wrap (x7 + 1)) H22)))) (
  X0 x3 x4 x5 x6 H)
theorem M7_6_ok {o : Orc} {N : Nat} {κ : Kv} {X0 J : Kt} {X0' : Int → V → Int → Int → Heap → Ans} {J' : Int → V → Int → Int → Int → Heap → Ans} (h0 : ∀ x3 x4 x5 x6 H, X0 (tmk 0 61 [(3, .int .i64 x3), (4, x4), (5, .int .i64 x5), (6, .int .i64 x6)]) H = X0' x3 x4 x5 x6 H) (hJ : ∀ x3 x4 x5 x6 x7 H, J (tmk 0 61 [(3, .int .i64 x3), (4, x4), (5, .int .i64 x5), (6, .int .i64 x6), (7, .int .i64 x7)]) H = J' x3 x4 x5 x6 x7 H) (x3 : Int) (x4 : V) (x5 x6 x7 : Int) (H : Heap) :
    run Tryz.prog o N (cAt Tryz.f7 [1, 1, 1, 1, 1, 0, 1, 4, 4]) .n ((env0 Tryz.prog Tryz.f7 κ).block 0 (kj [3, 4, 5, 6] X0)) (tmk 0 61 [(3, .int .i64 x3), (4, x4), (5, .int .i64 x5), (6, .int .i64 x6), (7, .int .i64 x7)]) H (kj [3, 4, 5, 6, 7] J) = M7_6 o N X0' J' κ x3 x4 x5 x6 x7 H := by
  obtain rfl := fx5 h0
  obtain rfl := fx6 hJ
  kernel_rfl
def M7_7 (o : Orc) (N : Nat) (X0 : Int → V → Int → Int → Heap → Ans) (κ : Kv) (n : Nat) : Int → V → Int → Int → Int → Heap → Ans :=
  Nat.rec (motive := fun _ => Int → V → Int → Int → Int → Heap → Ans) (fun _ _ _ _ _ _ => none) (fun _ ih x3 x4 x5 x6 x7 H => M7_6 o N X0 ih κ x3 x4 x5 x6 x7 H) n
theorem M7_7_s (o : Orc) (N : Nat) (X0 : Int → V → Int → Int → Heap → Ans) (κ : Kv) (n : Nat) (x3 : Int) (x4 : V) (x5 x6 x7 : Int) (H : Heap) : M7_7 o N X0 κ (n + 1) x3 x4 x5 x6 x7 H = M7_6 o N X0 (M7_7 o N X0 κ n) κ x3 x4 x5 x6 x7 H := rfl
theorem M7_7_ok {o : Orc} {N : Nat} {κ : Kv} {X0 : Kt} {X0' : Int → V → Int → Int → Heap → Ans} (h0 : ∀ x3 x4 x5 x6 H, X0 (tmk 0 61 [(3, .int .i64 x3), (4, x4), (5, .int .i64 x5), (6, .int .i64 x6)]) H = X0' x3 x4 x5 x6 H) (n : Nat) : ∀ (x3 : Int) (x4 : V) (x5 x6 x7 : Int) (H : Heap),
    rounds (fun a H k => run Tryz.prog o N (cAt Tryz.f7 [1, 1, 1, 1, 1, 0, 1, 4, 4]) .n ((env0 Tryz.prog Tryz.f7 κ).block 0 (kj [3, 4, 5, 6] X0)) a H k) (some (lvOf [3, 4, 5, 6, 7])) n (tmk 0 61 [(3, .int .i64 x3), (4, x4), (5, .int .i64 x5), (6, .int .i64 x6), (7, .int .i64 x7)]) H = M7_7 o N X0' κ n x3 x4 x5 x6 x7 H := by
  induction n with
  | zero => intros; rfl
  | succ n ih =>
    intro x3 x4 x5 x6 x7 H
    refine (run_round.trans ?_).trans (M7_7_s ..).symm
    exact M7_6_ok h0 ih x3 x4 x5 x6 x7 H
def A7_8 : An := .b none (.l (some (lvOf [3, 4, 5, 6, 7])) .n)
def A7_9 : An := .s .n (some (lvOf [3, 4, 5, 6, 7])) A7_8
def M7_10 (o : Orc) (N : Nat) (κ : Kv) (x3 : Int) (x4 : V) (x5 x6 : Int) (H : Heap) : Ans :=
  cond (x5 == (IntKind.i64.wrap ((IntKind.i64.wrap ((IntKind.i64.wrap (20 + (IntKind.i64.wrap (12 * (IntKind.i64.wrap (x3 + 1)))))) * 16)) - 1))) (
  cond (decide (x6 > 20)) (
  o 19 [x4] H fun v23 H24 =>
  asA v23 fun l25 =>
  cond (Nat.ble 6 (List.length l25)) (
  (nth (List.take 2 (List.drop 4 l25)) 0).bind fun c26 =>
  asI .i64 c26 fun n27 =>
  cond (decide (n27 ≥ 8)) (
  o 19 [x4] H24 fun v28 H29 =>
  asA v28 fun l30 =>
  (nth l30 0).bind fun c31 =>
  asI .i64 c31 fun n32 =>
  κ (.bool (n32 == 0)) H29) (
  κ (.bool false) H24)) none) (
  κ (.bool false) H)) (
  κ (.bool false) H)
theorem M7_10_ok {o : Orc} {N : Nat} {κ : Kv} (x3 : Int) (x4 : V) (x5 x6 : Int) (H : Heap) :
    run Tryz.prog o N (cAt Tryz.f7 [1, 1, 1, 1, 1, 1]) .n (env0 Tryz.prog Tryz.f7 κ) (tmk 0 61 [(3, .int .i64 x3), (4, x4), (5, .int .i64 x5), (6, .int .i64 x6)]) H (env0 Tryz.prog Tryz.f7 κ).ret = M7_10 o N κ x3 x4 x5 x6 H := by
  kernel_rfl
def A7_11 : An := .s .n (some (lvOf [3, 4, 5, 6])) (.s A7_9 (some (lvOf [3, 4, 5, 6])) .n)
def A7_12 : An := .s .n (some (lvOf [3])) (.s .n (some (lvOf [3, 4])) A7_11)
def A7_13 : An := .s .n (some (lvOf [0])) (.s .n (some (lvOf [0])) A7_12)
def M7 (o : Orc) (N : Nat) : FnM := fun vs H κ => match vs with
  | [.int .u8 x0] => M7_0 o N (fun x0 H => M7_1 o N (fun x0 H => M7_2 o N (fun x3 H => M7_3 o N (fun x3 x4 H => M7_4 o N (fun x3 x4 x5 x6 H => M7_5 o N (fun x3 x4 x5 x6 x7 H => M7_7 o N (fun x3 x4 x5 x6 H => M7_10 o N κ x3 x4 x5 x6 H) κ N x3 x4 x5 x6 x7 H) κ x3 x4 x5 x6 H) κ x3 x4 H) κ x3 H) κ x0 H) κ x0 H) κ x0 H
  | _ => none
theorem M7_run (o : Orc) (N : Nat) (vs : List V) (H : Heap) (κ : Kv) (r) (h : M7 o N vs H κ = some r) : runFn Tryz.prog o N Tryz.f7 A7_13 vs H κ = some r := by
  unfold M7 at h
  split at h
  · rename_i x0
    refine (runFn_at (t := tmk 0 61 [(0, .int .u8 x0)]) (by kernel_rfl) (by kernel_rfl)).trans (Eq.trans ?_ h)
    refine (run_seq (x := (cAt Tryz.f7 [0])) (ax := .n) (y := (cAt Tryz.f7 [1])) (ay := (.s .n (some (lvOf [0])) A7_12)) (l := [0]) (by kernel_rfl) (by kernel_rfl)).trans ?_
    refine M7_0_ok ?_ x0 H
    intro x0 H
    refine (run_seq (x := (cAt Tryz.f7 [1, 0])) (ax := .n) (y := (cAt Tryz.f7 [1, 1])) (ay := A7_12) (l := [0]) (by kernel_rfl) (by kernel_rfl)).trans ?_
    refine M7_1_ok ?_ x0 H
    intro x0 H
    refine (run_seq (x := (cAt Tryz.f7 [1, 1, 0])) (ax := .n) (y := (cAt Tryz.f7 [1, 1, 1])) (ay := (.s .n (some (lvOf [3, 4])) A7_11)) (l := [3]) (by kernel_rfl) (by kernel_rfl)).trans ?_
    refine M7_2_ok ?_ x0 H
    intro x3 H
    refine (run_seq (x := (cAt Tryz.f7 [1, 1, 1, 0])) (ax := .n) (y := (cAt Tryz.f7 [1, 1, 1, 1])) (ay := A7_11) (l := [3, 4]) (by kernel_rfl) (by kernel_rfl)).trans ?_
    refine M7_3_ok ?_ x3 H
    intro x3 x4 H
    refine (run_seq (x := (cAt Tryz.f7 [1, 1, 1, 1, 0])) (ax := .n) (y := (cAt Tryz.f7 [1, 1, 1, 1, 1])) (ay := (.s A7_9 (some (lvOf [3, 4, 5, 6])) .n)) (l := [3, 4, 5, 6]) (by kernel_rfl) (by kernel_rfl)).trans ?_
    refine M7_4_ok ?_ x3 x4 H
    intro x3 x4 x5 x6 H
    refine (run_seq (x := (cAt Tryz.f7 [1, 1, 1, 1, 1, 0])) (ax := A7_9) (y := (cAt Tryz.f7 [1, 1, 1, 1, 1, 1])) (ay := .n) (l := [3, 4, 5, 6]) (by kernel_rfl) (by kernel_rfl)).trans ?_
    refine (run_seq (x := (cAt Tryz.f7 [1, 1, 1, 1, 1, 0, 0])) (ax := .n) (y := (cAt Tryz.f7 [1, 1, 1, 1, 1, 0, 1])) (ay := A7_8) (l := [3, 4, 5, 6, 7]) (by kernel_rfl) (by kernel_rfl)).trans ?_
    refine M7_5_ok ?_ x3 x4 x5 x6 H
    intro x3 x4 x5 x6 x7 H
    refine (run_block (id := 0) (x := (cAt Tryz.f7 [1, 1, 1, 1, 1, 0, 1, 4])) (ax := (.l (some (lvOf [3, 4, 5, 6, 7])) .n)) (by kernel_rfl) (by kernel_rfl)).trans ?_
    refine (run_loop (x := (cAt Tryz.f7 [1, 1, 1, 1, 1, 0, 1, 4, 4])) (ax := .n) (l := [3, 4, 5, 6, 7]) (by kernel_rfl) (by kernel_rfl) (by kernel_rfl)).trans ?_
    refine M7_7_ok ?_ N x3 x4 x5 x6 x7 H
    intro x3 x4 x5 x6 H
    exact M7_10_ok x3 x4 x5 x6 H
  · cases h
theorem M7_sound {o : Orc} (ho : ∀ f, FSound Tryz.prog f (o f)) (N : Nat) : FSound Tryz.prog 7 (M7 o N) :=
  FSound.sub (runFn_ok (an := A7_13) (fuel := N) hmix ho (by kernel_rfl) (by kernel_rfl)) (M7_run o N)
/-! 19 (*ostinato/node.Node).Status -/
def A19_0 : An := (.s .n none (.s .n none (.s .n none (.s (.d [0, 1, 2, 3, 4, 6, 8, 10, 11, 12, 13, 14, 16, 17, 5, 7, 9, 15, 18, 19, 20]) none .n))))
def M19_1 (o : Orc) (N : Nat) (κ : Kv) (x0 : V) (H : Heap) : Ans :=
  newB H (.row [(.int .i64 0), (.int .i64 0), (.bool false), (.int .i64 0), (.int .i64 0), (.int .i64 0), (.bool false)]) fun i1 H2 =>
  asP x0 fun p3 o4 =>
  (ldB H2 p3 (o4 + 11)).bind fun b5 =>
  cond (!b5) (
  o 46 [.nilp, (.bool false), (.bool true)] H2 fun v6 H7 =>
  asI .i64 v6 fun n8 =>
  (stN H7 i1 0 [(.int .i64 0), (.int .i64 n8), (.bool false), (.int .i64 0), (.int .i64 0), (.int .i64 0), (.bool false)]).bind fun H9 =>
  ldFlat H9 i1 [.int .i64, .int .i64, .bool, .int .i64, .int .i64, .int .i64, .bool] 0 fun l10 =>
  κ (.agg l10) H9) (
  asP x0 fun p11 o12 =>
  (ldV H2 p11 ((o12 + 13) + 1)).bind fun v13 =>
  o 47 [v13] H2 fun v14 H15 =>
  asA v14 fun l16 =>
  newB H15 (.row [(.int .i64 0), (.int .i64 0)]) fun i17 H18 =>
  cond (Nat.beq (List.length l16) 2 && Nat.blt 0 2) (
  (stN H18 i17 0 l16).bind fun H19 =>
  asP x0 fun p20 o21 =>
  (ldV (Heap.skip H19 21) p20 ((o21 + 13) + 6)).bind fun v22 =>
  asP x0 fun p23 o24 =>
  (ldV (Heap.skip H19 21) p23 ((o24 + 13) + 2)).bind fun v25 =>
  ldFlat (Heap.skip H19 21) i17 [.int .i64, .int .i64] 0 fun l26 =>
  ldFlat (Heap.skip H19 21) i17 [.int .i64, .int .i64] 0 fun l27 =>
  o 48 [v22] (Heap.skip H19 21) fun v28 H29 =>
  asI .i64 v28 fun n30 =>
  ldFlat H29 i17 [.int .i64, .int .i64] 0 fun l31 =>
  cond (sameL l27 l31) (
  ldFlat H29 i17 [.int .i64, .int .i64] 0 fun l32 =>
  cond (sameL l26 l32) (
  (ldV H29 p23 ((o24 + 13) + 2)).bind fun v33 =>
  cond (V.same v25 v33) (
  o 49 [x0] H29 fun v34 H35 =>
  asI .i64 v34 fun n36 =>
  ldFlat H35 i17 [.int .i64, .int .i64] 0 fun l37 =>
  cond (sameL l27 l37) (
  ldFlat H35 i17 [.int .i64, .int .i64] 0 fun l38 =>
  cond (sameL l26 l38) (
  (ldV H35 p23 ((o24 + 13) + 2)).bind fun v39 =>
  cond (V.same v25 v39) (
  o 50 [x0] H35 fun v40 H41 =>
  asB v40 fun b42 =>
  ldFlat H41 i17 [.int .i64, .int .i64] 0 fun l43 =>
  cond (sameL l27 l43) (
  ldFlat H41 i17 [.int .i64, .int .i64] 0 fun l44 =>
  cond (sameL l26 l44) (
  (ldV H41 p23 ((o24 + 13) + 2)).bind fun v45 =>
  cond (V.same v25 v45) (
  o 51 [v25] H41 fun v46 H47 =>
  asI .i64 v46 fun n48 =>
  ldFlat H47 i17 [.int .i64, .int .i64] 0 fun l49 =>
  cond (sameL l27 l49) (
  ldFlat H47 i17 [.int .i64, .int .i64] 0 fun l50 =>
  cond (sameL l26 l50) (
  o 52 [(.agg l27)] H47 fun v51 H52 =>
  asB v51 fun b53 =>
  ldFlat H52 i17 [.int .i64, .int .i64] 0 fun l54 =>
  cond (sameL l26 l54) (
  (fillV (nth [(0, 1), (1, 1), (2, 1), (3, 1), (4, 2), (6, 1)]) [(.int .i64 0), (.int .i64 0), (.bool false), (.int .i64 0), (.int .i64 0), (.int .i64 0), (.bool false)] [(0, (.int .i64 n30)), (1, (.int .i64 n36)), (2, (.bool b42)), (3, (.int .i64 n48)), (4, (.agg l26)), (5, (.bool b53))]).bind fun l55 =>
  cond (Nat.beq (List.length l55) 7 && Nat.blt 0 7) (
  (stN H52 i1 0 l55).bind fun H56 =>
  ldFlat H56 i1 [.int .i64, .int .i64, .bool, .int .i64, .int .i64, .int .i64, .bool] 0 fun l57 =>
  κ (.agg l57) H56) none) none) none) none) none) none) none) none) none) none) none) none) none) none)
theorem M19_1_ok {o : Orc} {N : Nat} {κ : Kv} (x0 : V) (H : Heap) :
    run Tryz.prog o N (cAt Tryz.f19 []) A19_0 (env0 Tryz.prog Tryz.f19 κ) (tmk 0 37 [(0, x0)]) H (env0 Tryz.prog Tryz.f19 κ).ret = M19_1 o N κ x0 H := by
  kernel_rfl
def M19 (o : Orc) (N : Nat) : FnM := fun vs H κ => match vs with
  | [x0] => M19_1 o N κ x0 H
  | _ => none
theorem M19_run (o : Orc) (N : Nat) (vs : List V) (H : Heap) (κ : Kv) (r) (h : M19 o N vs H κ = some r) : runFn Tryz.prog o N Tryz.f19 A19_0 vs H κ = some r := by
  unfold M19 at h
  split at h
  · rename_i x0
    refine (runFn_at (t := tmk 0 37 [(0, x0)]) (by kernel_rfl) (by kernel_rfl)).trans (Eq.trans ?_ h)
    exact M19_1_ok x0 H
  · cases h
theorem M19_sound {o : Orc} (ho : ∀ f, FSound Tryz.prog f (o f)) (N : Nat) : FSound Tryz.prog 19 (M19 o N) :=
  FSound.sub (runFn_ok (an := A19_0) (fuel := N) hmix ho (by kernel_rfl) (by kernel_rfl)) (M19_run o N)
/-! 24 ostinato/ostinatolaw24.known -/
def M24_0 (o : Orc) (N : Nat) (J : Heap → Ans) (κ : Kv) (H : Heap) : Ans :=
  J  H
theorem M24_0_ok {o : Orc} {N : Nat} {κ : Kv} {J : Kt} {J' : Heap → Ans} (hJ : ∀  H, J (tmk 0 65 []) H = J' H) (H : Heap) :
    run Tryz.prog o N (cAt Tryz.f24 [0]) .n (env0 Tryz.prog Tryz.f24 κ) (tmk 0 65 []) H (kj [] J) = M24_0 o N J' κ  H := by
  obtain rfl := fx1 hJ
  kernel_rfl
def M24_1 (o : Orc) (N : Nat) (J : V → Heap → Ans) (κ : Kv) (H : Heap) : Ans :=
  o 27 [] H fun v1 H2 =>
  asA v1 fun l3 =>
  o 26 [(.agg l3)] H2 fun v4 H5 =>
  asS v4 fun s6 =>
  o 25 [(.str s6), (.int .i64 0)] H5 fun v7 H8 =>
  J v7 H8
theorem M24_1_ok {o : Orc} {N : Nat} {κ : Kv} {J : Kt} {J' : V → Heap → Ans} (hJ : ∀ x1 H, J (tmk 0 65 [(1, x1)]) H = J' x1 H) (H : Heap) :
    run Tryz.prog o N (cAt Tryz.f24 [1, 0]) .n (env0 Tryz.prog Tryz.f24 κ) (tmk 0 65 []) H (kj [1] J) = M24_1 o N J' κ  H := by
  obtain rfl := fx2 hJ
  kernel_rfl
def M24_2 (o : Orc) (N : Nat) (J : V → V → Heap → Ans) (κ : Kv) (x1 : V) (H : Heap) : Ans :=
  o 25 [(.str [119, 104, 97, 116]), (.int .i64 0)] H fun v9 H10 =>
  J x1 v9 H10
theorem M24_2_ok {o : Orc} {N : Nat} {κ : Kv} {J : Kt} {J' : V → V → Heap → Ans} (hJ : ∀ x1 x2 H, J (tmk 0 65 [(1, x1), (2, x2)]) H = J' x1 x2 H) (x1 : V) (H : Heap) :
    run Tryz.prog o N (cAt Tryz.f24 [1, 1, 0]) .n (env0 Tryz.prog Tryz.f24 κ) (tmk 0 65 [(1, x1)]) H (kj [1, 2] J) = M24_2 o N J' κ x1 H := by
  obtain rfl := fx3 hJ
  kernel_rfl
def M24_3 (o : Orc) (N : Nat) (J : V → Bool → Heap → Ans) (κ : Kv) (x1 x2 : V) (H : Heap) : Ans :=
  eqP false x1 .nilp fun b11 =>
  cond b11 (
  J x1 true H) (
  eqP false x2 .nilp fun b12 =>
  cond b12 (
  J x1 true H) (
  o 19 [x2] H fun v13 H14 =>
  asA v13 fun l15 =>
  (eqFlat [.int .i64, .int .i64, .bool, .int .i64, .int .i64, .int .i64, .bool] l15 [(.int .i64 0), (.int .i64 3), (.bool false), (.int .i64 0), (.int .i64 0), (.int .i64 0), (.bool false)]).bind fun b16 =>
  cond (!b16) (
  J x1 true H14) (
  o 31 [x2, (.int .i64 0), (.str [])] H14 fun v17 H18 =>
  asI .i64 v17 fun n19 =>
  cond (n19 != 130) (
  J x1 true H18) (
  o 33 [x2] H18 fun v20 H21 =>
  asI .u8 v20 fun n22 =>
  cond (n22 != 49) (
  J x1 true H21) (
  o 57 [x2] H21 fun v23 H24 =>
  eqP true v23 .nilp fun b25 =>
  J x1 b25 H24)))))
theorem M24_3_ok {o : Orc} {N : Nat} {κ : Kv} {J : Kt} {J' : V → Bool → Heap → Ans} (hJ : ∀ x1 x35 H, J (tmk 0 65 [(1, x1), (35, .bool x35)]) H = J' x1 x35 H) (x1 x2 : V) (H : Heap) :
    run Tryz.prog o N (cAt Tryz.f24 [1, 1, 1, 0, 0]) .n (env0 Tryz.prog Tryz.f24 κ) (tmk 0 65 [(1, x1), (2, x2)]) H (kj [1, 35] J) = M24_3 o N J' κ x1 x2 H := by
  obtain rfl := fx3 hJ
  kernel_rfl
def M24_4 (o : Orc) (N : Nat) (J : V → Heap → Ans) (κ : Kv) (x1 : V) (x35 : Bool) (H : Heap) : Ans :=
  cond x35 (
  κ (.bool false) H) (
  J x1 H)
theorem M24_4_ok {o : Orc} {N : Nat} {κ : Kv} {J : Kt} {J' : V → Heap → Ans} (hJ : ∀ x1 H, J (tmk 0 65 [(1, x1)]) H = J' x1 H) (x1 : V) (x35 : Bool) (H : Heap) :
    run Tryz.prog o N (cAt Tryz.f24 [1, 1, 1, 0, 1]) .n (env0 Tryz.prog Tryz.f24 κ) (tmk 0 65 [(1, x1), (35, .bool x35)]) H (kj [1] J) = M24_4 o N J' κ x1 x35 H := by
  obtain rfl := fx2 hJ
  kernel_rfl
def M24_5 (o : Orc) (N : Nat) (J : V → Int → Heap → Ans) (κ : Kv) (x1 : V) (H : Heap) : Ans :=
  J x1 (-1) H
theorem M24_5_ok {o : Orc} {N : Nat} {κ : Kv} {J : Kt} {J' : V → Int → Heap → Ans} (hJ : ∀ x1 x3 H, J (tmk 0 65 [(1, x1), (3, .int .i64 x3)]) H = J' x1 x3 H) (x1 : V) (H : Heap) :
    run Tryz.prog o N (cAt Tryz.f24 [1, 1, 1, 1, 0]) .n (env0 Tryz.prog Tryz.f24 κ) (tmk 0 65 [(1, x1)]) H (kj [1, 3] J) = M24_5 o N J' κ x1 H := by
  obtain rfl := fx3 hJ
  kernel_rfl
def M24_6 (o : Orc) (N : Nat) (J : V → Int → Int → Heap → Ans) (κ : Kv) (x1 : V) (x3 : Int) (H : Heap) : Ans :=
  J x1 x3 0 H
theorem M24_6_ok {o : Orc} {N : Nat} {κ : Kv} {J : Kt} {J' : V → Int → Int → Heap → Ans} (hJ : ∀ x1 x3 x4 H, J (tmk 0 65 [(1, x1), (3, .int .i64 x3), (4, .int .i64 x4)]) H = J' x1 x3 x4 H) (x1 : V) (x3 : Int) (H : Heap) :
    run Tryz.prog o N (cAt Tryz.f24 [1, 1, 1, 1, 1, 0, 0]) .n (env0 Tryz.prog Tryz.f24 κ) (tmk 0 65 [(1, x1), (3, .int .i64 x3)]) H (kj [1, 3, 4] J) = M24_6 o N J' κ x1 x3 H := by
  obtain rfl := fx4 hJ
  kernel_rfl
def M24_7 (o : Orc) (N : Nat) (X0 : V → Int → Heap → Ans) (J : V → Int → Int → Heap → Ans) (κ : Kv) (x1 : V) (x3 x4 : Int) (H : Heap) : Ans :=
  cond (decide (x4 < 900)) (
  cond (decide (x3 < 0)) (
  o 32 [x1, (.int .i64 4)] H fun v26 H27 =>
  asT0 v26 (
  o 33 [x1] H27 fun v28 H29 =>
  asI .u8 v28 fun n30 =>
  cond (n30 == 48) (
  o 34 [x1, (.int .u8 49)] H29 fun v31 H32 =>
  asT0 v31 (
  J x1 x4 (IntKind.i64.wrap (x4 + 1)) H32)) (
  o 34 [x1, (.int .u8 49)] H29 fun v33 H34 =>
  asT0 v33 (
  J x1 x3 (IntKind.i64.wrap (x4 + 1)) H34)))) (
  X0 x1 x3 H)) (
  X0 x1 x3 H)
theorem M24_7_ok {o : Orc} {N : Nat} {κ : Kv} {X0 J : Kt} {X0' : V → Int → Heap → Ans} {J' : V → Int → Int → Heap → Ans} (h0 : ∀ x1 x3 H, X0 (tmk 0 65 [(1, x1), (3, .int .i64 x3)]) H = X0' x1 x3 H) (hJ : ∀ x1 x3 x4 H, J (tmk 0 65 [(1, x1), (3, .int .i64 x3), (4, .int .i64 x4)]) H = J' x1 x3 x4 H) (x1 : V) (x3 x4 : Int) (H : Heap) :
    run Tryz.prog o N (cAt Tryz.f24 [1, 1, 1, 1, 1, 0, 1, 4, 4]) .n ((env0 Tryz.prog Tryz.f24 κ).block 0 (kj [1, 3] X0)) (tmk 0 65 [(1, x1), (3, .int .i64 x3), (4, .int .i64 x4)]) H (kj [1, 3, 4] J) = M24_7 o N X0' J' κ x1 x3 x4 H := by
  obtain rfl := fx3 h0
  obtain rfl := fx4 hJ
  kernel_rfl
def M24_8 (o : Orc) (N : Nat) (X0 : V → Int → Heap → Ans) (κ : Kv) (n : Nat) : V → Int → Int → Heap → Ans :=
  Nat.rec (motive := fun _ => V → Int → Int → Heap → Ans) (fun _ _ _ _ => none) (fun _ ih x1 x3 x4 H => M24_7 o N X0 ih κ x1 x3 x4 H) n
theorem M24_8_s (o : Orc) (N : Nat) (X0 : V → Int → Heap → Ans) (κ : Kv) (n : Nat) (x1 : V) (x3 x4 : Int) (H : Heap) : M24_8 o N X0 κ (n + 1) x1 x3 x4 H = M24_7 o N X0 (M24_8 o N X0 κ n) κ x1 x3 x4 H := rfl
theorem M24_8_ok {o : Orc} {N : Nat} {κ : Kv} {X0 : Kt} {X0' : V → Int → Heap → Ans} (h0 : ∀ x1 x3 H, X0 (tmk 0 65 [(1, x1), (3, .int .i64 x3)]) H = X0' x1 x3 H) (n : Nat) : ∀ (x1 : V) (x3 x4 : Int) (H : Heap),
    rounds (fun a H k => run Tryz.prog o N (cAt Tryz.f24 [1, 1, 1, 1, 1, 0, 1, 4, 4]) .n ((env0 Tryz.prog Tryz.f24 κ).block 0 (kj [1, 3] X0)) a H k) (some (lvOf [1, 3, 4])) n (tmk 0 65 [(1, x1), (3, .int .i64 x3), (4, .int .i64 x4)]) H = M24_8 o N X0' κ n x1 x3 x4 H := by
  induction n with
  | zero => intros; rfl
  | succ n ih =>
    intro x1 x3 x4 H
    refine (run_round.trans ?_).trans (M24_8_s ..).symm
    exact M24_7_ok h0 ih x1 x3 x4 H
def A24_9 : An := .s .n (some (lvOf [1, 3, 4])) (.b none (.l (some (lvOf [1, 3, 4])) .n))
def M24_10 (o : Orc) (N : Nat) (κ : Kv) (x1 : V) (x3 : Int) (H : Heap) : Ans :=
  cond (decide (x3 > 300)) (
  o 31 [x1, (.int .i64 1), (.str [])] H fun v35 H36 =>
  asI .i64 v35 fun n37 =>
  cond (n37 == 145) (
  o 19 [x1] H36 fun v38 H39 =>
  asA v38 fun l40 =>
  (nth l40 0).bind fun c41 =>
  asI .i64 c41 fun n42 =>
  κ (.bool (n42 == 0)) H39) (
  κ (.bool false) H36)) (
  κ (.bool false) H)
theorem M24_10_ok {o : Orc} {N : Nat} {κ : Kv} (x1 : V) (x3 : Int) (H : Heap) :
    run Tryz.prog o N (cAt Tryz.f24 [1, 1, 1, 1, 1, 1]) .n (env0 Tryz.prog Tryz.f24 κ) (tmk 0 65 [(1, x1), (3, .int .i64 x3)]) H (env0 Tryz.prog Tryz.f24 κ).ret = M24_10 o N κ x1 x3 H := by
  kernel_rfl
def A24_11 : An := .s .n (some (lvOf [1, 3])) (.s A24_9 (some (lvOf [1, 3])) .n)
def A24_12 : An := .s (.s .n (some (lvOf [1, 35])) .n) (some (lvOf [1])) A24_11
def A24_13 : An := .s .n (some (lvOf [1])) (.s .n (some (lvOf [1, 2])) A24_12)
def M24 (o : Orc) (N : Nat) : FnM := fun vs H κ => match vs with
  | [] => M24_0 o N (fun H => M24_1 o N (fun x1 H => M24_2 o N (fun x1 x2 H => M24_3 o N (fun x1 x35 H => M24_4 o N (fun x1 H => M24_5 o N (fun x1 x3 H => M24_6 o N (fun x1 x3 x4 H => M24_8 o N (fun x1 x3 H => M24_10 o N κ x1 x3 H) κ N x1 x3 x4 H) κ x1 x3 H) κ x1 H) κ x1 x35 H) κ x1 x2 H) κ x1 H) κ  H) κ  H
  | _ => none
theorem M24_run (o : Orc) (N : Nat) (vs : List V) (H : Heap) (κ : Kv) (r) (h : M24 o N vs H κ = some r) : runFn Tryz.prog o N Tryz.f24 (.s .n (some (lvOf [])) A24_13) vs H κ = some r := by
  unfold M24 at h
  split at h
  · refine (runFn_at (t := tmk 0 65 []) (by kernel_rfl) (by kernel_rfl)).trans (Eq.trans ?_ h)
    refine (run_seq (x := (cAt Tryz.f24 [0])) (ax := .n) (y := (cAt Tryz.f24 [1])) (ay := A24_13) (l := []) (by kernel_rfl) (by kernel_rfl)).trans ?_
    refine M24_0_ok ?_  H
    intro H
    refine (run_seq (x := (cAt Tryz.f24 [1, 0])) (ax := .n) (y := (cAt Tryz.f24 [1, 1])) (ay := (.s .n (some (lvOf [1, 2])) A24_12)) (l := [1]) (by kernel_rfl) (by kernel_rfl)).trans ?_
    refine M24_1_ok ?_  H
    intro x1 H
    refine (run_seq (x := (cAt Tryz.f24 [1, 1, 0])) (ax := .n) (y := (cAt Tryz.f24 [1, 1, 1])) (ay := A24_12) (l := [1, 2]) (by kernel_rfl) (by kernel_rfl)).trans ?_
    refine M24_2_ok ?_ x1 H
    intro x1 x2 H
    refine (run_seq (x := (cAt Tryz.f24 [1, 1, 1, 0])) (ax := (.s .n (some (lvOf [1, 35])) .n)) (y := (cAt Tryz.f24 [1, 1, 1, 1])) (ay := A24_11) (l := [1]) (by kernel_rfl) (by kernel_rfl)).trans ?_
    refine (run_seq (x := (cAt Tryz.f24 [1, 1, 1, 0, 0])) (ax := .n) (y := (cAt Tryz.f24 [1, 1, 1, 0, 1])) (ay := .n) (l := [1, 35]) (by kernel_rfl) (by kernel_rfl)).trans ?_
    refine M24_3_ok ?_ x1 x2 H
    intro x1 x35 H
    refine M24_4_ok ?_ x1 x35 H
    intro x1 H
    refine (run_seq (x := (cAt Tryz.f24 [1, 1, 1, 1, 0])) (ax := .n) (y := (cAt Tryz.f24 [1, 1, 1, 1, 1])) (ay := (.s A24_9 (some (lvOf [1, 3])) .n)) (l := [1, 3]) (by kernel_rfl) (by kernel_rfl)).trans ?_
    refine M24_5_ok ?_ x1 H
    intro x1 x3 H
    refine (run_seq (x := (cAt Tryz.f24 [1, 1, 1, 1, 1, 0])) (ax := A24_9) (y := (cAt Tryz.f24 [1, 1, 1, 1, 1, 1])) (ay := .n) (l := [1, 3]) (by kernel_rfl) (by kernel_rfl)).trans ?_
    refine (run_seq (x := (cAt Tryz.f24 [1, 1, 1, 1, 1, 0, 0])) (ax := .n) (y := (cAt Tryz.f24 [1, 1, 1, 1, 1, 0, 1])) (ay := (.b none (.l (some (lvOf [1, 3, 4])) .n))) (l := [1, 3, 4]) (by kernel_rfl) (by kernel_rfl)).trans ?_
    refine M24_6_ok ?_ x1 x3 H
    intro x1 x3 x4 H
    refine (run_block (id := 0) (x := (cAt Tryz.f24 [1, 1, 1, 1, 1, 0, 1, 4])) (ax := (.l (some (lvOf [1, 3, 4])) .n)) (by kernel_rfl) (by kernel_rfl)).trans ?_
    refine (run_loop (x := (cAt Tryz.f24 [1, 1, 1, 1, 1, 0, 1, 4, 4])) (ax := .n) (l := [1, 3, 4]) (by kernel_rfl) (by kernel_rfl) (by kernel_rfl)).trans ?_
    refine M24_8_ok ?_ N x1 x3 x4 H
    intro x1 x3 H
    exact M24_10_ok x1 x3 H
  · cases h
theorem M24_sound {o : Orc} (ho : ∀ f, FSound Tryz.prog f (o f)) (N : Nat) : FSound Tryz.prog 24 (M24 o N) :=
  FSound.sub (runFn_ok (an := (.s .n (some (lvOf [])) A24_13)) (fuel := N) hmix ho (by kernel_rfl) (by kernel_rfl)) (M24_run o N)
/-! 25 ostinato/node.New -/
def A25_0 : An := (.s .n none (.s .n none (.s .n none (.s .n none (.s .n none (.s (.d [0, 1, 6, 7, 9, 10, 11, 13, 15, 16, 2, 3, 4, 5, 8, 12, 14, 17, 18, 19, 20]) none .n))))))
def M25_1 (o : Orc) (N : Nat) (κ : Kv) (x0 : List Nat) (x1 : Int) (H : Heap) : Ans :=
  o 58 [(.str x0)] H fun v1 H2 =>
  asT2 v1 fun v3 v4 =>
  asA v3 fun l5 =>
  asI .i64 v4 fun n6 =>
  newB H2 (.row [(.int .i64 0), (.int .i64 0), (.int .i64 0), (.int .i64 0), (.int .i64 0), (.int .i64 0), (.int .i64 0), (.int .u32 0), .nils, .nils, .nils]) fun i7 H8 =>
  cond (Nat.beq (List.length l5) 11 && Nat.blt 0 11) (
  (stN H8 i7 0 l5).bind fun H9 =>
  cond (n6 != 0) (
  newB H9 (.row [(.int .i64 0), (.int .i64 0), (.int .i64 0), (.int .i64 0), (.int .i64 0), (.int .i64 0), (.int .i64 0), (.int .u32 0), .nils, .nils, .nils, (.bool false), (.int .i64 0), .nilp, .nilp, .nilp, .nilp, .nilp, .nilp, .nilp, .nilp, (.int .i64 0), (.bool false), (.bool false), (.bool false), (.bool false), (.bool false), (.bool false), (.bool false), (.bool false), (.bool false), (.bool false), (.bool false), (.bool false), (.bool false), .nils, .nils]) fun i10 H11 =>
  κ (.ptr i10 0) H11) (
  cond (decide (x1 < 0)) (
  newB H9 (.row [(.int .i64 0), (.int .i64 0), (.int .i64 0), (.int .i64 0), (.int .i64 0), (.int .i64 0), (.int .i64 0), (.int .u32 0), .nils, .nils, .nils, (.bool false), (.int .i64 0), .nilp, .nilp, .nilp, .nilp, .nilp, .nilp, .nilp, .nilp, (.int .i64 0), (.bool false), (.bool false), (.bool false), (.bool false), (.bool false), (.bool false), (.bool false), (.bool false), (.bool false), (.bool false), (.bool false), (.bool false), (.bool false), .nils, .nils]) fun i12 H13 =>
  κ (.ptr i12 0) H13) (
  (ldI H9 .i64 i7 1).bind fun n14 =>
  cond (decide (x1 ≥ n14)) (
  newB H9 (.row [(.int .i64 0), (.int .i64 0), (.int .i64 0), (.int .i64 0), (.int .i64 0), (.int .i64 0), (.int .i64 0), (.int .u32 0), .nils, .nils, .nils, (.bool false), (.int .i64 0), .nilp, .nilp, .nilp, .nilp, .nilp, .nilp, .nilp, .nilp, (.int .i64 0), (.bool false), (.bool false), (.bool false), (.bool false), (.bool false), (.bool false), (.bool false), (.bool false), (.bool false), (.bool false), (.bool false), (.bool false), (.bool false), .nils, .nils]) fun i15 H16 =>
  κ (.ptr i15 0) H16) (
  ldFlat H9 i7 [.int .i64, .int .i64, .int .i64, .int .i64, .int .i64, .int .i64, .int .i64, .int .u32, .oth, .oth, .oth] 0 fun l17 =>
  o 59 [(.agg l17)] H9 fun v18 H19 =>
  asT2 v18 fun v20 v21 =>
  asI .i64 v20 fun n22 =>
  asI .i64 v21 fun n23 =>
  cond (n23 != 0) (
  newB H19 (.row [(.int .i64 0), (.int .i64 0), (.int .i64 0), (.int .i64 0), (.int .i64 0), (.int .i64 0), (.int .i64 0), (.int .u32 0), .nils, .nils, .nils, (.bool false), (.int .i64 0), .nilp, .nilp, .nilp, .nilp, .nilp, .nilp, .nilp, .nilp, (.int .i64 0), (.bool false), (.bool false), (.bool false), (.bool false), (.bool false), (.bool false), (.bool false), (.bool false), (.bool false), (.bool false), (.bool false), (.bool false), (.bool false), .nils, .nils]) fun i24 H25 =>
  κ (.ptr i24 0) H25) (
  ldFlat H19 i7 [.int .i64, .int .i64, .int .i64, .int .i64, .int .i64, .int .i64, .int .i64, .int .u32, .oth, .oth, .oth] 0 fun l26 =>
  o 60 [(.agg l26), (.int .i64 x1)] H19 fun v27 H28 =>
  asI .i64 v27 fun n29 =>
  (ldI (Heap.skip H28 21) .i64 i7 5).bind fun n30 =>
  ldFlat (Heap.skip H28 21) i7 [.int .i64, .int .i64, .int .i64, .int .i64, .int .i64, .int .i64, .int .i64, .int .u32, .oth, .oth, .oth] 0 fun l31 =>
  (ldV (Heap.skip H28 21) i7 9).bind fun v32 =>
  lenS v32 fun n33 =>
  ldFlat (Heap.skip H28 21) i7 [.int .i64, .int .i64, .int .i64, .int .i64, .int .i64, .int .i64, .int .i64, .int .u32, .oth, .oth, .oth] 0 fun l34 =>
  o 61 [(.int .i64 n30)] (Heap.skip H28 21) fun v35 H36 =>
  ldFlat H36 i7 [.int .i64, .int .i64, .int .i64, .int .i64, .int .i64, .int .i64, .int .i64, .int .u32, .oth, .oth, .oth] 0 fun l37 =>
  cond (sameL l34 l37) (
  (ldV H36 i7 9).bind fun v38 =>
  cond (V.same v32 v38) (
  ldFlat H36 i7 [.int .i64, .int .i64, .int .i64, .int .i64, .int .i64, .int .i64, .int .i64, .int .u32, .oth, .oth, .oth] 0 fun l39 =>
  cond (sameL l31 l39) (
  o 62 [] H36 fun v40 H41 =>
  ldFlat H41 i7 [.int .i64, .int .i64, .int .i64, .int .i64, .int .i64, .int .i64, .int .i64, .int .u32, .oth, .oth, .oth] 0 fun l42 =>
  cond (sameL l34 l42) (
  (ldV H41 i7 9).bind fun v43 =>
  cond (V.same v32 v43) (
  ldFlat H41 i7 [.int .i64, .int .i64, .int .i64, .int .i64, .int .i64, .int .i64, .int .i64, .int .u32, .oth, .oth, .oth] 0 fun l44 =>
  cond (sameL l31 l44) (
  o 63 [] H41 fun v45 H46 =>
  ldFlat H46 i7 [.int .i64, .int .i64, .int .i64, .int .i64, .int .i64, .int .i64, .int .i64, .int .u32, .oth, .oth, .oth] 0 fun l47 =>
  cond (sameL l34 l47) (
  (ldV H46 i7 9).bind fun v48 =>
  cond (V.same v32 v48) (
  ldFlat H46 i7 [.int .i64, .int .i64, .int .i64, .int .i64, .int .i64, .int .i64, .int .i64, .int .u32, .oth, .oth, .oth] 0 fun l49 =>
  cond (sameL l31 l49) (
  o 64 [] H46 fun v50 H51 =>
  ldFlat H51 i7 [.int .i64, .int .i64, .int .i64, .int .i64, .int .i64, .int .i64, .int .i64, .int .u32, .oth, .oth, .oth] 0 fun l52 =>
  cond (sameL l34 l52) (
  (ldV H51 i7 9).bind fun v53 =>
  cond (V.same v32 v53) (
  ldFlat H51 i7 [.int .i64, .int .i64, .int .i64, .int .i64, .int .i64, .int .i64, .int .i64, .int .u32, .oth, .oth, .oth] 0 fun l54 =>
  cond (sameL l31 l54) (
  o 65 [(.agg l31), (.int .i64 x1)] H51 fun v55 H56 =>
  ldFlat H56 i7 [.int .i64, .int .i64, .int .i64, .int .i64, .int .i64, .int .i64, .int .i64, .int .u32, .oth, .oth, .oth] 0 fun l57 =>
  cond (sameL l34 l57) (
  (ldV H56 i7 9).bind fun v58 =>
  cond (V.same v32 v58) (
  o 66 [(.int .i64 n33)] H56 fun v59 H60 =>
  ldFlat H60 i7 [.int .i64, .int .i64, .int .i64, .int .i64, .int .i64, .int .i64, .int .i64, .int .u32, .oth, .oth, .oth] 0 fun l61 =>
  cond (sameL l34 l61) (
  o 67 [(.int .i64 n29)] H60 fun v62 H63 =>
  ldFlat H63 i7 [.int .i64, .int .i64, .int .i64, .int .i64, .int .i64, .int .i64, .int .i64, .int .u32, .oth, .oth, .oth] 0 fun l64 =>
  cond (sameL l34 l64) (
  o 68 [(.agg l34), (.int .i64 x1)] H63 fun v65 H66 =>
  (fillV (nth [(0, 1), (1, 1), (2, 1), (3, 1), (4, 1), (5, 1), (6, 1), (7, 1)]) [.nilp, .nilp, .nilp, .nilp, .nilp, .nilp, .nilp, .nilp] [(0, v35), (1, v40), (2, v45), (3, v50), (4, v55), (5, v59), (6, v62), (7, v65)]).bind fun l67 =>
  cond (Nat.beq (List.length l67) 8 && Nat.blt 0 8) (
  (stN (Heap.newAt H66 (H28.next + 19) (.row [.nilp, .nilp, .nilp, .nilp, .nilp, .nilp, .nilp, .nilp])) (H28.next + 19) 0 l67).bind fun H68 =>
  ldFlat H68 i7 [.int .i64, .int .i64, .int .i64, .int .i64, .int .i64, .int .i64, .int .i64, .int .u32, .oth, .oth, .oth] 0 fun l69 =>
  ldFlat H68 (H28.next + 19) [.oth, .oth, .oth, .oth, .oth, .oth, .oth, .oth] 0 fun l70 =>
  (fillV (nth [(0, 11), (11, 1), (12, 1), (13, 8), (21, 1), (22, 1), (23, 12), (35, 1), (36, 1)]) [(.int .i64 0), (.int .i64 0), (.int .i64 0), (.int .i64 0), (.int .i64 0), (.int .i64 0), (.int .i64 0), (.int .u32 0), .nils, .nils, .nils, (.bool false), (.int .i64 0), .nilp, .nilp, .nilp, .nilp, .nilp, .nilp, .nilp, .nilp, (.int .i64 0), (.bool false), (.bool false), (.bool false), (.bool false), (.bool false), (.bool false), (.bool false), (.bool false), (.bool false), (.bool false), (.bool false), (.bool false), (.bool false), .nils, .nils] [(0, (.agg l69)), (1, (.bool true)), (2, (.int .i64 n29)), (3, (.agg l70))]).bind fun l71 =>
  cond (List.all l71 V.one) (
  newB H68 (.row l71) fun i72 H73 =>
  κ (.ptr i72 0) H73) none) none) none) none) none) none) none) none) none) none) none) none) none) none) none) none) none) none))))) none
theorem M25_1_ok {o : Orc} {N : Nat} {κ : Kv} (x0 : List Nat) (x1 : Int) (H : Heap) :
    run Tryz.prog o N (cAt Tryz.f25 []) A25_0 (env0 Tryz.prog Tryz.f25 κ) (tmk 0 66 [(0, .str x0), (1, .int .i64 x1)]) H (env0 Tryz.prog Tryz.f25 κ).ret = M25_1 o N κ x0 x1 H := by
  kernel_rfl
def M25 (o : Orc) (N : Nat) : FnM := fun vs H κ => match vs with
  | [.str x0, .int .i64 x1] => M25_1 o N κ x0 x1 H
  | _ => none
theorem M25_run (o : Orc) (N : Nat) (vs : List V) (H : Heap) (κ : Kv) (r) (h : M25 o N vs H κ = some r) : runFn Tryz.prog o N Tryz.f25 A25_0 vs H κ = some r := by
  unfold M25 at h
  split at h
  · rename_i x0 x1
    refine (runFn_at (t := tmk 0 66 [(0, .str x0), (1, .int .i64 x1)]) (by kernel_rfl) (by kernel_rfl)).trans (Eq.trans ?_ h)
    exact M25_1_ok x0 x1 H
  · cases h
theorem M25_sound {o : Orc} (ho : ∀ f, FSound Tryz.prog f (o f)) (N : Nat) : FSound Tryz.prog 25 (M25 o N) :=
  FSound.sub (runFn_ok (an := A25_0) (fuel := N) hmix ho (by kernel_rfl) (by kernel_rfl)) (M25_run o N)
/-! 26 ostinato/ostinatoref12.Print -/
def M26_0 (o : Orc) (N : Nat) (J : Nat → Heap → Ans) (κ : Kv) (x0 : List V) (H : Heap) : Ans :=
  cond (List.all x0 V.one) (
  newB H (.row x0) fun i1 H2 =>
  J i1 H2) none
theorem M26_0_ok {o : Orc} {N : Nat} {κ : Kv} {J : Kt} {J' : Nat → Heap → Ans} (hJ : ∀ x1 H, J (tmk 0 148 [(1, .ptr x1 0)]) H = J' x1 H) (x0 : List V) (H : Heap) :
    run Tryz.prog o N (cAt Tryz.f26 [0]) .n (env0 Tryz.prog Tryz.f26 κ) (tmk 0 148 [(0, .agg x0)]) H (kj [1] J) = M26_0 o N J' κ x0 H := by
  obtain rfl := fx2 hJ
  kernel_rfl
def M26_1 (o : Orc) (N : Nat) (J : Nat → Heap → Ans) (κ : Kv) (x1 : Nat) (H : Heap) : Ans :=
  ldFlat H x1 [.int .i64, .int .i64, .int .i64, .int .i64, .int .i64, .int .i64, .int .i64, .int .u32, .oth, .oth, .oth] 0 fun l3 =>
  o 69 [(.agg l3)] H fun v4 H5 =>
  asB v4 fun b6 =>
  cond (!b6) (
  κ (.str []) H5) (
  J x1 H5)
theorem M26_1_ok {o : Orc} {N : Nat} {κ : Kv} {J : Kt} {J' : Nat → Heap → Ans} (hJ : ∀ x1 H, J (tmk 0 148 [(1, .ptr x1 0)]) H = J' x1 H) (x1 : Nat) (H : Heap) :
    run Tryz.prog o N (cAt Tryz.f26 [1, 0]) .n (env0 Tryz.prog Tryz.f26 κ) (tmk 0 148 [(1, .ptr x1 0)]) H (kj [1] J) = M26_1 o N J' κ x1 H := by
  obtain rfl := fx2 hJ
  kernel_rfl
def M26_2 (o : Orc) (N : Nat) (J : Nat → V → Heap → Ans) (κ : Kv) (x1 : Nat) (H : Heap) : Ans :=
  (ldI H .i64 x1 0).bind fun n7 =>
  (ldI H .i64 x1 1).bind fun n8 =>
  (ldI H .i64 x1 2).bind fun n9 =>
  newB H (.row [(.int .u8 79), (.int .u8 (IntKind.u8.wrap n7)), (.int .u8 (IntKind.u8.wrap n8)), (.int .u8 (IntKind.u8.wrap n9))]) fun i10 H11 =>
  (ldI H11 .i64 x1 3).bind fun n12 =>
  o 70 [(.sl i10 0 4 1 true), (.int .i64 n12)] H11 fun v13 H14 =>
  J x1 v13 H14
theorem M26_2_ok {o : Orc} {N : Nat} {κ : Kv} {J : Kt} {J' : Nat → V → Heap → Ans} (hJ : ∀ x1 x3 H, J (tmk 0 148 [(1, .ptr x1 0), (3, x3)]) H = J' x1 x3 H) (x1 : Nat) (H : Heap) :
    run Tryz.prog o N (cAt Tryz.f26 [1, 1, 0]) .n (env0 Tryz.prog Tryz.f26 κ) (tmk 0 148 [(1, .ptr x1 0)]) H (kj [1, 3] J) = M26_2 o N J' κ x1 H := by
  obtain rfl := fx3 hJ
  kernel_rfl
def A26_3 : An := (.d [0, 1, 2, 3, 4, 5, 6, 9, 10, 7, 8, 11, 12])
def M26_4 (o : Orc) (N : Nat) (J : Nat → V → Heap → Ans) (κ : Kv) (x1 : Nat) (x3 : V) (H : Heap) : Ans :=
  (ldI (Heap.skip H 13) .i64 x1 4).bind fun n15 =>
  (ldI (Heap.skip H 13) .i64 x1 5).bind fun n16 =>
  (ldI (Heap.skip H 13) .i64 x1 6).bind fun n17 =>
  appV (Heap.newAt (Heap.skip H 13) (H.next + 7) (.row [(.int .u8 (IntKind.u8.wrap n15)), (.int .u8 (IntKind.u8.wrap n16))])) x3 (.sl (H.next + 7) 0 2 1 true) 1 fun v18 H19 =>
  (ldI H19 .i64 x1 6).bind fun n20 =>
  cond (decide (n17 = n20)) (
  o 70 [v18, (.int .i64 n17)] H19 fun v21 H22 =>
  J x1 v21 H22) none
theorem M26_4_ok {o : Orc} {N : Nat} {κ : Kv} {J : Kt} {J' : Nat → V → Heap → Ans} (hJ : ∀ x1 x3 H, J (tmk 0 148 [(1, .ptr x1 0), (3, x3)]) H = J' x1 x3 H) (x1 : Nat) (x3 : V) (H : Heap) :
    run Tryz.prog o N (cAt Tryz.f26 [1, 1, 1, 0]) A26_3 (env0 Tryz.prog Tryz.f26 κ) (tmk 0 148 [(1, .ptr x1 0), (3, x3)]) H (kj [1, 3] J) = M26_4 o N J' κ x1 x3 H := by
  obtain rfl := fx3 hJ
  kernel_rfl
def A26_5 : An := (.d [0, 1, 2, 3, 5, 6, 7, 8, 4, 9, 10, 11])
def M26_6 (o : Orc) (N : Nat) (J : Nat → V → Heap → Ans) (κ : Kv) (x1 : Nat) (x3 : V) (H : Heap) : Ans :=
  (ldI (Heap.skip H 12) .u32 x1 7).bind fun n23 =>
  (ldV (Heap.skip H 12) x1 8).bind fun v24 =>
  lenS v24 fun n25 =>
  o 70 [x3, (.int .i64 (IntKind.i64.wrap n23))] (Heap.skip H 12) fun v26 H27 =>
  (ldV H27 x1 8).bind fun v28 =>
  cond (V.same v24 v28) (
  appV (Heap.newAt H27 (H.next + 9) (.row [(.int .u8 (IntKind.u8.wrap n25))])) v26 (.sl (H.next + 9) 0 1 1 true) 1 fun v29 H30 =>
  J x1 v29 H30) none
theorem M26_6_ok {o : Orc} {N : Nat} {κ : Kv} {J : Kt} {J' : Nat → V → Heap → Ans} (hJ : ∀ x1 x3 H, J (tmk 0 148 [(1, .ptr x1 0), (3, x3)]) H = J' x1 x3 H) (x1 : Nat) (x3 : V) (H : Heap) :
    run Tryz.prog o N (cAt Tryz.f26 [1, 1, 1, 1, 0]) A26_5 (env0 Tryz.prog Tryz.f26 κ) (tmk 0 148 [(1, .ptr x1 0), (3, x3)]) H (kj [1, 3] J) = M26_6 o N J' κ x1 x3 H := by
  obtain rfl := fx3 hJ
  kernel_rfl
def M26_7 (o : Orc) (N : Nat) (J : Nat → V → Int → Heap → Ans) (κ : Kv) (x1 : Nat) (x3 : V) (H : Heap) : Ans :=
  J x1 x3 0 H
theorem M26_7_ok {o : Orc} {N : Nat} {κ : Kv} {J : Kt} {J' : Nat → V → Int → Heap → Ans} (hJ : ∀ x1 x3 x4 H, J (tmk 0 148 [(1, .ptr x1 0), (3, x3), (4, .int .i64 x4)]) H = J' x1 x3 x4 H) (x1 : Nat) (x3 : V) (H : Heap) :
    run Tryz.prog o N (cAt Tryz.f26 [1, 1, 1, 1, 1, 0, 0]) .n (env0 Tryz.prog Tryz.f26 κ) (tmk 0 148 [(1, .ptr x1 0), (3, x3)]) H (kj [1, 3, 4] J) = M26_7 o N J' κ x1 x3 H := by
  obtain rfl := fx4 hJ
  kernel_rfl
def M26_8 (o : Orc) (N : Nat) (X0 : Nat → V → Heap → Ans) (J : Nat → V → Int → Heap → Ans) (κ : Kv) (x1 : Nat) (x3 : V) (x4 : Int) (H : Heap) : Ans :=
  (ldV H x1 8).bind fun v31 =>
  lenS v31 fun n32 =>
  cond (decide (x4 < n32)) (
  (ldV H x1 8).bind fun v33 =>
  idxS 1 v33 x4 fun p34 o35 =>
  (ldI H .i64 p34 o35).bind fun n36 =>
  newB H (.row [(.int .u8 (IntKind.u8.wrap n36))]) fun i37 H38 =>
  appV H38 x3 (.sl i37 0 1 1 true) 1 fun v39 H40 =>
  J x1 v39 (IntKind.i64.wrap (x4 + 1)) H40) (
  X0 x1 x3 H)
theorem M26_8_ok {o : Orc} {N : Nat} {κ : Kv} {X0 J : Kt} {X0' : Nat → V → Heap → Ans} {J' : Nat → V → Int → Heap → Ans} (h0 : ∀ x1 x3 H, X0 (tmk 0 148 [(1, .ptr x1 0), (3, x3)]) H = X0' x1 x3 H) (hJ : ∀ x1 x3 x4 H, J (tmk 0 148 [(1, .ptr x1 0), (3, x3), (4, .int .i64 x4)]) H = J' x1 x3 x4 H) (x1 : Nat) (x3 : V) (x4 : Int) (H : Heap) :
    run Tryz.prog o N (cAt Tryz.f26 [1, 1, 1, 1, 1, 0, 1, 4, 4]) .n ((env0 Tryz.prog Tryz.f26 κ).block 0 (kj [1, 3] X0)) (tmk 0 148 [(1, .ptr x1 0), (3, x3), (4, .int .i64 x4)]) H (kj [1, 3, 4] J) = M26_8 o N X0' J' κ x1 x3 x4 H := by
  obtain rfl := fx3 h0
  obtain rfl := fx4 hJ
  kernel_rfl
def M26_9 (o : Orc) (N : Nat) (X0 : Nat → V → Heap → Ans) (κ : Kv) (n : Nat) : Nat → V → Int → Heap → Ans :=
  Nat.rec (motive := fun _ => Nat → V → Int → Heap → Ans) (fun _ _ _ _ => none) (fun _ ih x1 x3 x4 H => M26_8 o N X0 ih κ x1 x3 x4 H) n
theorem M26_9_s (o : Orc) (N : Nat) (X0 : Nat → V → Heap → Ans) (κ : Kv) (n : Nat) (x1 : Nat) (x3 : V) (x4 : Int) (H : Heap) : M26_9 o N X0 κ (n + 1) x1 x3 x4 H = M26_8 o N X0 (M26_9 o N X0 κ n) κ x1 x3 x4 H := rfl
theorem M26_9_ok {o : Orc} {N : Nat} {κ : Kv} {X0 : Kt} {X0' : Nat → V → Heap → Ans} (h0 : ∀ x1 x3 H, X0 (tmk 0 148 [(1, .ptr x1 0), (3, x3)]) H = X0' x1 x3 H) (n : Nat) : ∀ (x1 : Nat) (x3 : V) (x4 : Int) (H : Heap),
    rounds (fun a H k => run Tryz.prog o N (cAt Tryz.f26 [1, 1, 1, 1, 1, 0, 1, 4, 4]) .n ((env0 Tryz.prog Tryz.f26 κ).block 0 (kj [1, 3] X0)) a H k) (some (lvOf [1, 3, 4])) n (tmk 0 148 [(1, .ptr x1 0), (3, x3), (4, .int .i64 x4)]) H = M26_9 o N X0' κ n x1 x3 x4 H := by
  induction n with
  | zero => intros; rfl
  | succ n ih =>
    intro x1 x3 x4 H
    refine (run_round.trans ?_).trans (M26_9_s ..).symm
    exact M26_8_ok h0 ih x1 x3 x4 H
def A26_10 : An := .s .n (some (lvOf [1, 3, 4])) (.b none (.l (some (lvOf [1, 3, 4])) .n))
def M26_11 (o : Orc) (N : Nat) (J : Nat → V → Heap → Ans) (κ : Kv) (x1 : Nat) (x3 : V) (H : Heap) : Ans :=
  (ldV H x1 9).bind fun v41 =>
  lenS v41 fun n42 =>
  newB H (.row [(.int .u8 (IntKind.u8.wrap n42))]) fun i43 H44 =>
  appV H44 x3 (.sl i43 0 1 1 true) 1 fun v45 H46 =>
  J x1 v45 H46
theorem M26_11_ok {o : Orc} {N : Nat} {κ : Kv} {J : Kt} {J' : Nat → V → Heap → Ans} (hJ : ∀ x1 x3 H, J (tmk 0 148 [(1, .ptr x1 0), (3, x3)]) H = J' x1 x3 H) (x1 : Nat) (x3 : V) (H : Heap) :
    run Tryz.prog o N (cAt Tryz.f26 [1, 1, 1, 1, 1, 1, 0]) .n (env0 Tryz.prog Tryz.f26 κ) (tmk 0 148 [(1, .ptr x1 0), (3, x3)]) H (kj [1, 3] J) = M26_11 o N J' κ x1 x3 H := by
  obtain rfl := fx3 hJ
  kernel_rfl
def M26_12 (o : Orc) (N : Nat) (J : Nat → V → Int → Heap → Ans) (κ : Kv) (x1 : Nat) (x3 : V) (H : Heap) : Ans :=
  J x1 x3 0 H
theorem M26_12_ok {o : Orc} {N : Nat} {κ : Kv} {J : Kt} {J' : Nat → V → Int → Heap → Ans} (hJ : ∀ x1 x3 x5 H, J (tmk 0 148 [(1, .ptr x1 0), (3, x3), (5, .int .i64 x5)]) H = J' x1 x3 x5 H) (x1 : Nat) (x3 : V) (H : Heap) :
    run Tryz.prog o N (cAt Tryz.f26 [1, 1, 1, 1, 1, 1, 1, 0, 0]) .n (env0 Tryz.prog Tryz.f26 κ) (tmk 0 148 [(1, .ptr x1 0), (3, x3)]) H (kj [1, 3, 5] J) = M26_12 o N J' κ x1 x3 H := by
  obtain rfl := fx4 hJ
  kernel_rfl
def A26_13 : An := (.s .n none (.s (.b none (.s .n none (.s .n none (.d [0, 1, 2, 3, 4, 5, 6, 7, 9, 10, 11, 12, 13, 14, 15, 16, 8, 17, 18, 19])))) none .n))
def M26_14 (o : Orc) (N : Nat) (X2 : Nat → V → Heap → Ans) (J : Nat → V → Int → Heap → Ans) (κ : Kv) (x1 : Nat) (x3 : V) (x5 : Int) (H : Heap) : Ans :=
  (ldV H x1 9).bind fun v47 =>
  lenS v47 fun n48 =>
  cond (decide (x5 < n48)) (
  (ldV H x1 9).bind fun v49 =>
  idxS 3 v49 x5 fun p50 o51 =>
  (ldB H p50 (o51 + 2)).bind fun b52 =>
  cond b52 (
  (ldV (Heap.skip H 20) x1 9).bind fun v53 =>
  idxS 3 v53 x5 fun p54 o55 =>
  (ldI (Heap.skip H 20) .u32 p54 (o55 + 0)).bind fun n56 =>
  (ldV (Heap.skip H 20) x1 9).bind fun v57 =>
  idxS 3 v57 x5 fun p58 o59 =>
  (ldI (Heap.skip H 20) .i64 p58 (o59 + 1)).bind fun n60 =>
  o 70 [x3, (.int .i64 (IntKind.i64.wrap n56))] (Heap.skip H 20) fun v61 H62 =>
  (ldI H62 .i64 p58 (o59 + 1)).bind fun n63 =>
  cond (decide (n60 = n63)) (
  (ldV H62 x1 9).bind fun v64 =>
  cond (V.same v57 v64) (
  appV (Heap.newAt H62 (H.next + 17) (.row [(.int .u8 (IntKind.u8.wrap n60)), (.int .u8 1)])) v61 (.sl (H.next + 17) 0 2 1 true) 1 fun v65 H66 =>
  J x1 v65 (IntKind.i64.wrap (x5 + 1)) H66) none) none) (
  (ldV (Heap.skip H 20) x1 9).bind fun v67 =>
  idxS 3 v67 x5 fun p68 o69 =>
  (ldI (Heap.skip H 20) .u32 p68 (o69 + 0)).bind fun n70 =>
  (ldV (Heap.skip H 20) x1 9).bind fun v71 =>
  idxS 3 v71 x5 fun p72 o73 =>
  (ldI (Heap.skip H 20) .i64 p72 (o73 + 1)).bind fun n74 =>
  o 70 [x3, (.int .i64 (IntKind.i64.wrap n70))] (Heap.skip H 20) fun v75 H76 =>
  (ldI H76 .i64 p72 (o73 + 1)).bind fun n77 =>
  cond (decide (n74 = n77)) (
  (ldV H76 x1 9).bind fun v78 =>
  cond (V.same v71 v78) (
  appV (Heap.newAt H76 (H.next + 17) (.row [(.int .u8 (IntKind.u8.wrap n74)), (.int .u8 0)])) v75 (.sl (H.next + 17) 0 2 1 true) 1 fun v79 H80 =>
  J x1 v79 (IntKind.i64.wrap (x5 + 1)) H80) none) none)) (
  X2 x1 x3 H)
theorem M26_14_ok {o : Orc} {N : Nat} {κ : Kv} {X2 J : Kt} {X2' : Nat → V → Heap → Ans} {J' : Nat → V → Int → Heap → Ans} (h2 : ∀ x1 x3 H, X2 (tmk 0 148 [(1, .ptr x1 0), (3, x3)]) H = X2' x1 x3 H) (hJ : ∀ x1 x3 x5 H, J (tmk 0 148 [(1, .ptr x1 0), (3, x3), (5, .int .i64 x5)]) H = J' x1 x3 x5 H) (x1 : Nat) (x3 : V) (x5 : Int) (H : Heap) :
    run Tryz.prog o N (cAt Tryz.f26 [1, 1, 1, 1, 1, 1, 1, 0, 1, 4, 4]) A26_13 ((env0 Tryz.prog Tryz.f26 κ).block 2 (kj [1, 3] X2)) (tmk 0 148 [(1, .ptr x1 0), (3, x3), (5, .int .i64 x5)]) H (kj [1, 3, 5] J) = M26_14 o N X2' J' κ x1 x3 x5 H := by
  obtain rfl := fx3 h2
  obtain rfl := fx4 hJ
  kernel_rfl
def M26_15 (o : Orc) (N : Nat) (X2 : Nat → V → Heap → Ans) (κ : Kv) (n : Nat) : Nat → V → Int → Heap → Ans :=
  Nat.rec (motive := fun _ => Nat → V → Int → Heap → Ans) (fun _ _ _ _ => none) (fun _ ih x1 x3 x5 H => M26_14 o N X2 ih κ x1 x3 x5 H) n
theorem M26_15_s (o : Orc) (N : Nat) (X2 : Nat → V → Heap → Ans) (κ : Kv) (n : Nat) (x1 : Nat) (x3 : V) (x5 : Int) (H : Heap) : M26_15 o N X2 κ (n + 1) x1 x3 x5 H = M26_14 o N X2 (M26_15 o N X2 κ n) κ x1 x3 x5 H := rfl
theorem M26_15_ok {o : Orc} {N : Nat} {κ : Kv} {X2 : Kt} {X2' : Nat → V → Heap → Ans} (h2 : ∀ x1 x3 H, X2 (tmk 0 148 [(1, .ptr x1 0), (3, x3)]) H = X2' x1 x3 H) (n : Nat) : ∀ (x1 : Nat) (x3 : V) (x5 : Int) (H : Heap),
    rounds (fun a H k => run Tryz.prog o N (cAt Tryz.f26 [1, 1, 1, 1, 1, 1, 1, 0, 1, 4, 4]) A26_13 ((env0 Tryz.prog Tryz.f26 κ).block 2 (kj [1, 3] X2)) a H k) (some (lvOf [1, 3, 5])) n (tmk 0 148 [(1, .ptr x1 0), (3, x3), (5, .int .i64 x5)]) H = M26_15 o N X2' κ n x1 x3 x5 H := by
  induction n with
  | zero => intros; rfl
  | succ n ih =>
    intro x1 x3 x5 H
    refine (run_round.trans ?_).trans (M26_15_s ..).symm
    exact M26_14_ok h2 ih x1 x3 x5 H
def A26_16 : An := .b none (.l (some (lvOf [1, 3, 5])) A26_13)
def M26_17 (o : Orc) (N : Nat) (J : Nat → V → Heap → Ans) (κ : Kv) (x1 : Nat) (x3 : V) (H : Heap) : Ans :=
  (ldV H x1 10).bind fun v81 =>
  lenS v81 fun n82 =>
  newB H (.row [(.int .u8 (IntKind.u8.wrap n82))]) fun i83 H84 =>
  appV H84 x3 (.sl i83 0 1 1 true) 1 fun v85 H86 =>
  J x1 v85 H86
theorem M26_17_ok {o : Orc} {N : Nat} {κ : Kv} {J : Kt} {J' : Nat → V → Heap → Ans} (hJ : ∀ x1 x3 H, J (tmk 0 148 [(1, .ptr x1 0), (3, x3)]) H = J' x1 x3 H) (x1 : Nat) (x3 : V) (H : Heap) :
    run Tryz.prog o N (cAt Tryz.f26 [1, 1, 1, 1, 1, 1, 1, 1, 0]) .n (env0 Tryz.prog Tryz.f26 κ) (tmk 0 148 [(1, .ptr x1 0), (3, x3)]) H (kj [1, 3] J) = M26_17 o N J' κ x1 x3 H := by
  obtain rfl := fx3 hJ
  kernel_rfl
def M26_18 (o : Orc) (N : Nat) (J : Nat → V → Int → Heap → Ans) (κ : Kv) (x1 : Nat) (x3 : V) (H : Heap) : Ans :=
  J x1 x3 0 H
theorem M26_18_ok {o : Orc} {N : Nat} {κ : Kv} {J : Kt} {J' : Nat → V → Int → Heap → Ans} (hJ : ∀ x1 x3 x7 H, J (tmk 0 148 [(1, .ptr x1 0), (3, x3), (7, .int .i64 x7)]) H = J' x1 x3 x7 H) (x1 : Nat) (x3 : V) (H : Heap) :
    run Tryz.prog o N (cAt Tryz.f26 [1, 1, 1, 1, 1, 1, 1, 1, 1, 0, 0]) .n (env0 Tryz.prog Tryz.f26 κ) (tmk 0 148 [(1, .ptr x1 0), (3, x3)]) H (kj [1, 3, 7] J) = M26_18 o N J' κ x1 x3 H := by
  obtain rfl := fx4 hJ
  kernel_rfl
def A26_19 : An := (.s .n none (.s (.b none (.s .n none (.s (.d [0, 1, 2, 3, 6, 7, 9, 10, 4, 5, 8, 11, 12]) none .n))) none .n))
def M26_20 (o : Orc) (N : Nat) (X4 : V → Heap → Ans) (J : Nat → V → Int → Heap → Ans) (κ : Kv) (x1 : Nat) (x3 : V) (x7 : Int) (H : Heap) : Ans :=
  (ldV H x1 10).bind fun v87 =>
  lenS v87 fun n88 =>
  cond (decide (x7 < n88)) (
  (ldV H x1 10).bind fun v89 =>
  idxS 6 v89 x7 fun p90 o91 =>
  ldFlat H p90 [.int .i64, .int .i64, .int .i64, .int .i64, .int .i64, .int .i64] o91 fun l92 =>
  newB H (.row [(.int .i64 0), (.int .i64 0), (.int .i64 0), (.int .i64 0), (.int .i64 0), (.int .i64 0)]) fun i93 H94 =>
  cond (Nat.beq (List.length l92) 6 && Nat.blt 0 6) (
  (stN H94 i93 0 l92).bind fun H95 =>
  (ldI (Heap.skip H95 13) .i64 i93 0).bind fun n96 =>
  (ldI (Heap.skip H95 13) .i64 i93 1).bind fun n97 =>
  (ldI (Heap.skip H95 13) .i64 i93 2).bind fun n98 =>
  appV (Heap.newAt (Heap.skip H95 13) (H95.next + 4) (.row [(.int .u8 (IntKind.u8.wrap n96))])) x3 (.sl (H95.next + 4) 0 1 1 true) 1 fun v99 H100 =>
  (ldI H100 .i64 i93 2).bind fun n101 =>
  cond (decide (n98 = n101)) (
  (ldI H100 .i64 i93 1).bind fun n102 =>
  cond (decide (n97 = n102)) (
  o 70 [v99, (.int .i64 n97)] H100 fun v103 H104 =>
  (ldI H104 .i64 i93 2).bind fun n105 =>
  cond (decide (n98 = n105)) (
  o 70 [v103, (.int .i64 n98)] H104 fun v106 H107 =>
  (ldI H107 .i64 i93 3).bind fun n108 =>
  (ldI H107 .i64 i93 4).bind fun n109 =>
  (ldI H107 .i64 i93 5).bind fun n110 =>
  newB H107 (.row [(.int .u8 (IntKind.u8.wrap n108)), (.int .u8 (IntKind.u8.wrap n109)), (.int .u8 (IntKind.u8.wrap n110))]) fun i111 H112 =>
  appV H112 v106 (.sl i111 0 3 1 true) 1 fun v113 H114 =>
  J x1 v113 (IntKind.i64.wrap (x7 + 1)) H114) none) none) none) none) (
  X4 x3 H)
theorem M26_20_ok {o : Orc} {N : Nat} {κ : Kv} {X4 J : Kt} {X4' : V → Heap → Ans} {J' : Nat → V → Int → Heap → Ans} (h4 : ∀ x3 H, X4 (tmk 0 148 [(3, x3)]) H = X4' x3 H) (hJ : ∀ x1 x3 x7 H, J (tmk 0 148 [(1, .ptr x1 0), (3, x3), (7, .int .i64 x7)]) H = J' x1 x3 x7 H) (x1 : Nat) (x3 : V) (x7 : Int) (H : Heap) :
    run Tryz.prog o N (cAt Tryz.f26 [1, 1, 1, 1, 1, 1, 1, 1, 1, 0, 1, 4, 4]) A26_19 ((env0 Tryz.prog Tryz.f26 κ).block 4 (kj [3] X4)) (tmk 0 148 [(1, .ptr x1 0), (3, x3), (7, .int .i64 x7)]) H (kj [1, 3, 7] J) = M26_20 o N X4' J' κ x1 x3 x7 H := by
  obtain rfl := fx2 h4
  obtain rfl := fx4 hJ
  kernel_rfl
def M26_21 (o : Orc) (N : Nat) (X4 : V → Heap → Ans) (κ : Kv) (n : Nat) : Nat → V → Int → Heap → Ans :=
  Nat.rec (motive := fun _ => Nat → V → Int → Heap → Ans) (fun _ _ _ _ => none) (fun _ ih x1 x3 x7 H => M26_20 o N X4 ih κ x1 x3 x7 H) n
theorem M26_21_s (o : Orc) (N : Nat) (X4 : V → Heap → Ans) (κ : Kv) (n : Nat) (x1 : Nat) (x3 : V) (x7 : Int) (H : Heap) : M26_21 o N X4 κ (n + 1) x1 x3 x7 H = M26_20 o N X4 (M26_21 o N X4 κ n) κ x1 x3 x7 H := rfl
theorem M26_21_ok {o : Orc} {N : Nat} {κ : Kv} {X4 : Kt} {X4' : V → Heap → Ans} (h4 : ∀ x3 H, X4 (tmk 0 148 [(3, x3)]) H = X4' x3 H) (n : Nat) : ∀ (x1 : Nat) (x3 : V) (x7 : Int) (H : Heap),
    rounds (fun a H k => run Tryz.prog o N (cAt Tryz.f26 [1, 1, 1, 1, 1, 1, 1, 1, 1, 0, 1, 4, 4]) A26_19 ((env0 Tryz.prog Tryz.f26 κ).block 4 (kj [3] X4)) a H k) (some (lvOf [1, 3, 7])) n (tmk 0 148 [(1, .ptr x1 0), (3, x3), (7, .int .i64 x7)]) H = M26_21 o N X4' κ n x1 x3 x7 H := by
  induction n with
  | zero => intros; rfl
  | succ n ih =>
    intro x1 x3 x7 H
    refine (run_round.trans ?_).trans (M26_21_s ..).symm
    exact M26_20_ok h4 ih x1 x3 x7 H
def A26_22 : An := .b none (.l (some (lvOf [1, 3, 7])) A26_19)
def M26_23 (o : Orc) (N : Nat) (κ : Kv) (x3 : V) (H : Heap) : Ans :=
  bytesV H x3 fun s115 =>
  κ (.str s115) H
theorem M26_23_ok {o : Orc} {N : Nat} {κ : Kv} (x3 : V) (H : Heap) :
    run Tryz.prog o N (cAt Tryz.f26 [1, 1, 1, 1, 1, 1, 1, 1, 1, 1]) .n (env0 Tryz.prog Tryz.f26 κ) (tmk 0 148 [(3, x3)]) H (env0 Tryz.prog Tryz.f26 κ).ret = M26_23 o N κ x3 H := by
  kernel_rfl
def A26_24 : An := .s (.s .n (some (lvOf [1, 3, 7])) A26_22) (some (lvOf [3])) .n
def A26_25 : An := .s (.s .n (some (lvOf [1, 3, 5])) A26_16) (some (lvOf [1, 3])) (.s .n (some (lvOf [1, 3])) A26_24)
def A26_26 : An := .s A26_10 (some (lvOf [1, 3])) (.s .n (some (lvOf [1, 3])) A26_25)
def M26_27 (o : Orc) (N : Nat) (κ : Kv) (x1 : Nat) (x3 : V) (H : Heap) : Ans :=
  M26_7 o N (fun x1 x3 x4 H => M26_9 o N (fun x1 x3 H => M26_11 o N (fun x1 x3 H => M26_12 o N (fun x1 x3 x5 H => M26_15 o N (fun x1 x3 H => M26_17 o N (fun x1 x3 H => M26_18 o N (fun x1 x3 x7 H => M26_21 o N (fun x3 H => M26_23 o N κ x3 H) κ N x1 x3 x7 H) κ x1 x3 H) κ x1 x3 H) κ N x1 x3 x5 H) κ x1 x3 H) κ x1 x3 H) κ N x1 x3 x4 H) κ x1 x3 H
theorem M26_27_ok {o : Orc} {N : Nat} {κ : Kv} (x1 : Nat) (x3 : V) (H : Heap) :
    run Tryz.prog o N (cAt Tryz.f26 [1, 1, 1, 1, 1]) A26_26 (env0 Tryz.prog Tryz.f26 κ) (tmk 0 148 [(1, .ptr x1 0), (3, x3)]) H (env0 Tryz.prog Tryz.f26 κ).ret = M26_27 o N κ x1 x3 H := by
  refine (run_seq (x := (cAt Tryz.f26 [1, 1, 1, 1, 1, 0])) (ax := A26_10) (y := (cAt Tryz.f26 [1, 1, 1, 1, 1, 1])) (ay := (.s .n (some (lvOf [1, 3])) A26_25)) (l := [1, 3]) (by kernel_rfl) (by kernel_rfl)).trans ?_
  refine (run_seq (x := (cAt Tryz.f26 [1, 1, 1, 1, 1, 0, 0])) (ax := .n) (y := (cAt Tryz.f26 [1, 1, 1, 1, 1, 0, 1])) (ay := (.b none (.l (some (lvOf [1, 3, 4])) .n))) (l := [1, 3, 4]) (by kernel_rfl) (by kernel_rfl)).trans ?_
  refine M26_7_ok ?_ x1 x3 H
  intro x1 x3 x4 H
  refine (run_block (id := 0) (x := (cAt Tryz.f26 [1, 1, 1, 1, 1, 0, 1, 4])) (ax := (.l (some (lvOf [1, 3, 4])) .n)) (by kernel_rfl) (by kernel_rfl)).trans ?_
  refine (run_loop (x := (cAt Tryz.f26 [1, 1, 1, 1, 1, 0, 1, 4, 4])) (ax := .n) (l := [1, 3, 4]) (by kernel_rfl) (by kernel_rfl) (by kernel_rfl)).trans ?_
  refine M26_9_ok ?_ N x1 x3 x4 H
  intro x1 x3 H
  refine (run_seq (x := (cAt Tryz.f26 [1, 1, 1, 1, 1, 1, 0])) (ax := .n) (y := (cAt Tryz.f26 [1, 1, 1, 1, 1, 1, 1])) (ay := A26_25) (l := [1, 3]) (by kernel_rfl) (by kernel_rfl)).trans ?_
  refine M26_11_ok ?_ x1 x3 H
  intro x1 x3 H
  refine (run_seq (x := (cAt Tryz.f26 [1, 1, 1, 1, 1, 1, 1, 0])) (ax := (.s .n (some (lvOf [1, 3, 5])) A26_16)) (y := (cAt Tryz.f26 [1, 1, 1, 1, 1, 1, 1, 1])) (ay := (.s .n (some (lvOf [1, 3])) A26_24)) (l := [1, 3]) (by kernel_rfl) (by kernel_rfl)).trans ?_
  refine (run_seq (x := (cAt Tryz.f26 [1, 1, 1, 1, 1, 1, 1, 0, 0])) (ax := .n) (y := (cAt Tryz.f26 [1, 1, 1, 1, 1, 1, 1, 0, 1])) (ay := A26_16) (l := [1, 3, 5]) (by kernel_rfl) (by kernel_rfl)).trans ?_
  refine M26_12_ok ?_ x1 x3 H
  intro x1 x3 x5 H
  refine (run_block (id := 2) (x := (cAt Tryz.f26 [1, 1, 1, 1, 1, 1, 1, 0, 1, 4])) (ax := (.l (some (lvOf [1, 3, 5])) A26_13)) (by kernel_rfl) (by kernel_rfl)).trans ?_
  refine (run_loop (x := (cAt Tryz.f26 [1, 1, 1, 1, 1, 1, 1, 0, 1, 4, 4])) (ax := A26_13) (l := [1, 3, 5]) (by kernel_rfl) (by kernel_rfl) (by kernel_rfl)).trans ?_
  refine M26_15_ok ?_ N x1 x3 x5 H
  intro x1 x3 H
  refine (run_seq (x := (cAt Tryz.f26 [1, 1, 1, 1, 1, 1, 1, 1, 0])) (ax := .n) (y := (cAt Tryz.f26 [1, 1, 1, 1, 1, 1, 1, 1, 1])) (ay := A26_24) (l := [1, 3]) (by kernel_rfl) (by kernel_rfl)).trans ?_
  refine M26_17_ok ?_ x1 x3 H
  intro x1 x3 H
  refine (run_seq (x := (cAt Tryz.f26 [1, 1, 1, 1, 1, 1, 1, 1, 1, 0])) (ax := (.s .n (some (lvOf [1, 3, 7])) A26_22)) (y := (cAt Tryz.f26 [1, 1, 1, 1, 1, 1, 1, 1, 1, 1])) (ay := .n) (l := [3]) (by kernel_rfl) (by kernel_rfl)).trans ?_
  refine (run_seq (x := (cAt Tryz.f26 [1, 1, 1, 1, 1, 1, 1, 1, 1, 0, 0])) (ax := .n) (y := (cAt Tryz.f26 [1, 1, 1, 1, 1, 1, 1, 1, 1, 0, 1])) (ay := A26_22) (l := [1, 3, 7]) (by kernel_rfl) (by kernel_rfl)).trans ?_
  refine M26_18_ok ?_ x1 x3 H
  intro x1 x3 x7 H
  refine (run_block (id := 4) (x := (cAt Tryz.f26 [1, 1, 1, 1, 1, 1, 1, 1, 1, 0, 1, 4])) (ax := (.l (some (lvOf [1, 3, 7])) A26_19)) (by kernel_rfl) (by kernel_rfl)).trans ?_
  refine (run_loop (x := (cAt Tryz.f26 [1, 1, 1, 1, 1, 1, 1, 1, 1, 0, 1, 4, 4])) (ax := A26_19) (l := [1, 3, 7]) (by kernel_rfl) (by kernel_rfl) (by kernel_rfl)).trans ?_
  refine M26_21_ok ?_ N x1 x3 x7 H
  intro x3 H
  exact M26_23_ok x3 H
def A26_28 : An := .s A26_3 (some (lvOf [1, 3])) (.s A26_5 (some (lvOf [1, 3])) A26_26)
def A26_29 : An := .s .n (some (lvOf [1])) (.s .n (some (lvOf [1, 3])) A26_28)
def M26 (o : Orc) (N : Nat) : FnM := fun vs H κ => match vs with
  | [.agg x0] => M26_0 o N (fun x1 H => M26_1 o N (fun x1 H => M26_2 o N (fun x1 x3 H => M26_4 o N (fun x1 x3 H => M26_6 o N (fun x1 x3 H => M26_27 o N κ x1 x3 H) κ x1 x3 H) κ x1 x3 H) κ x1 H) κ x1 H) κ x0 H
  | _ => none
theorem M26_run (o : Orc) (N : Nat) (vs : List V) (H : Heap) (κ : Kv) (r) (h : M26 o N vs H κ = some r) : runFn Tryz.prog o N Tryz.f26 (.s .n (some (lvOf [1])) A26_29) vs H κ = some r := by
  unfold M26 at h
  split at h
  · rename_i x0
    refine (runFn_at (t := tmk 0 148 [(0, .agg x0)]) (by kernel_rfl) (by kernel_rfl)).trans (Eq.trans ?_ h)
    refine (run_seq (x := (cAt Tryz.f26 [0])) (ax := .n) (y := (cAt Tryz.f26 [1])) (ay := A26_29) (l := [1]) (by kernel_rfl) (by kernel_rfl)).trans ?_
    refine M26_0_ok ?_ x0 H
    intro x1 H
    refine (run_seq (x := (cAt Tryz.f26 [1, 0])) (ax := .n) (y := (cAt Tryz.f26 [1, 1])) (ay := (.s .n (some (lvOf [1, 3])) A26_28)) (l := [1]) (by kernel_rfl) (by kernel_rfl)).trans ?_
    refine M26_1_ok ?_ x1 H
    intro x1 H
    refine (run_seq (x := (cAt Tryz.f26 [1, 1, 0])) (ax := .n) (y := (cAt Tryz.f26 [1, 1, 1])) (ay := A26_28) (l := [1, 3]) (by kernel_rfl) (by kernel_rfl)).trans ?_
    refine M26_2_ok ?_ x1 H
    intro x1 x3 H
    refine (run_seq (x := (cAt Tryz.f26 [1, 1, 1, 0])) (ax := A26_3) (y := (cAt Tryz.f26 [1, 1, 1, 1])) (ay := (.s A26_5 (some (lvOf [1, 3])) A26_26)) (l := [1, 3]) (by kernel_rfl) (by kernel_rfl)).trans ?_
    refine M26_4_ok ?_ x1 x3 H
    intro x1 x3 H
    refine (run_seq (x := (cAt Tryz.f26 [1, 1, 1, 1, 0])) (ax := A26_5) (y := (cAt Tryz.f26 [1, 1, 1, 1, 1])) (ay := A26_26) (l := [1, 3]) (by kernel_rfl) (by kernel_rfl)).trans ?_
    refine M26_6_ok ?_ x1 x3 H
    intro x1 x3 H
    exact M26_27_ok x1 x3 H
  · cases h
theorem M26_sound {o : Orc} (ho : ∀ f, FSound Tryz.prog f (o f)) (N : Nat) : FSound Tryz.prog 26 (M26 o N) :=
  FSound.sub (runFn_ok (an := (.s .n (some (lvOf [1])) A26_29)) (fuel := N) hmix ho (by kernel_rfl) (by kernel_rfl)) (M26_run o N)
/-! 27 ostinato/ostinatolaw24.least -/
def M27_0 (o : Orc) (N : Nat) (κ : Kv) (H : Heap) : Ans :=
  newB H (.row [(.int .i64 0), (.int .i64 0), (.int .i64 0), (.int .i64 0), (.int .i64 0), (.int .i64 0), (.int .i64 0), (.int .u32 0), .nils, .nils, .nils]) fun i1 H2 =>
  newB H2 (.row [(.int .i64 0), (.int .i64 1)]) fun i3 H4 =>
  newB H4 (.row [(.int .u32 99), (.int .i64 2), (.bool false), (.int .u32 50), (.int .i64 1), (.bool true)]) fun i5 H6 =>
  newB H6 (.row [(.int .i64 1), (.int .i64 20), (.int .i64 40), (.int .i64 0), (.int .i64 1), (.int .i64 0), (.int .i64 2), (.int .i64 50), (.int .i64 80), (.int .i64 0), (.int .i64 1), (.int .i64 0)]) fun i7 H8 =>
  (stN H8 i1 0 [(.int .i64 2), (.int .i64 3), (.int .i64 2), (.int .i64 120), (.int .i64 2), (.int .i64 64), (.int .i64 20), (.int .u32 16), (.sl i3 0 2 1 true), (.sl i5 0 2 3 true), (.sl i7 0 2 6 true)]).bind fun H9 =>
  ldFlat H9 i1 [.int .i64, .int .i64, .int .i64, .int .i64, .int .i64, .int .i64, .int .i64, .int .u32, .oth, .oth, .oth] 0 fun l10 =>
  κ (.agg l10) H9
theorem M27_0_ok {o : Orc} {N : Nat} {κ : Kv} (H : Heap) :
    run Tryz.prog o N (cAt Tryz.f27 []) .n (env0 Tryz.prog Tryz.f27 κ) (tmk 0 9 []) H (env0 Tryz.prog Tryz.f27 κ).ret = M27_0 o N κ  H := by
  kernel_rfl
def M27 (o : Orc) (N : Nat) : FnM := fun vs H κ => match vs with
  | [] => M27_0 o N κ  H
  | _ => none
theorem M27_run (o : Orc) (N : Nat) (vs : List V) (H : Heap) (κ : Kv) (r) (h : M27 o N vs H κ = some r) : runFn Tryz.prog o N Tryz.f27 .n vs H κ = some r := by
  unfold M27 at h
  split at h
  · refine (runFn_at (t := tmk 0 9 []) (by kernel_rfl) (by kernel_rfl)).trans (Eq.trans ?_ h)
    exact M27_0_ok  H
  · cases h
theorem M27_sound {o : Orc} (ho : ∀ f, FSound Tryz.prog f (o f)) (N : Nat) : FSound Tryz.prog 27 (M27 o N) :=
  FSound.sub (runFn_ok (an := .n) (fuel := N) hmix ho (by kernel_rfl) (by kernel_rfl)) (M27_run o N)
/-! 31 (*ostinato/node.Node).Send -/
def M31_0 (o : Orc) (N : Nat) (κ : Kv) (x0 : V) (x1 : Int) (x2 : List Nat) (H : Heap) : Ans :=
  asP x0 fun p1 o2 =>
  (ldB H p1 (o2 + 11)).bind fun b3 =>
  cond (!b3) (
  κ (.int .i64 130) H) (
  asP x0 fun p4 o5 =>
  (ldV H p4 ((o5 + 13) + 4)).bind fun v6 =>
  o 72 [v6, (.int .i64 x1), (.str x2)] H fun v7 H8 =>
  asI .i64 v7 fun n9 =>
  κ (.int .i64 n9) H8)
theorem M31_0_ok {o : Orc} {N : Nat} {κ : Kv} (x0 : V) (x1 : Int) (x2 : List Nat) (H : Heap) :
    run Tryz.prog o N (cAt Tryz.f31 []) .n (env0 Tryz.prog Tryz.f31 κ) (tmk 0 20 [(0, x0), (1, .int .i64 x1), (2, .str x2)]) H (env0 Tryz.prog Tryz.f31 κ).ret = M31_0 o N κ x0 x1 x2 H := by
  kernel_rfl
def M31 (o : Orc) (N : Nat) : FnM := fun vs H κ => match vs with
  | [x0, .int .i64 x1, .str x2] => M31_0 o N κ x0 x1 x2 H
  | _ => none
theorem M31_run (o : Orc) (N : Nat) (vs : List V) (H : Heap) (κ : Kv) (r) (h : M31 o N vs H κ = some r) : runFn Tryz.prog o N Tryz.f31 .n vs H κ = some r := by
  unfold M31 at h
  split at h
  · rename_i x0 x1 x2
    refine (runFn_at (t := tmk 0 20 [(0, x0), (1, .int .i64 x1), (2, .str x2)]) (by kernel_rfl) (by kernel_rfl)).trans (Eq.trans ?_ h)
    exact M31_0_ok x0 x1 x2 H
  · cases h
theorem M31_sound {o : Orc} (ho : ∀ f, FSound Tryz.prog f (o f)) (N : Nat) : FSound Tryz.prog 31 (M31 o N) :=
  FSound.sub (runFn_ok (an := .n) (fuel := N) hmix ho (by kernel_rfl) (by kernel_rfl)) (M31_run o N)
/-! 32 (*ostinato/node.Node).Tick -/
def M32_0 (o : Orc) (N : Nat) (J : V → Int → Heap → Ans) (κ : Kv) (x0 : V) (x1 : Int) (H : Heap) : Ans :=
  asP x0 fun p1 o2 =>
  (ldB H p1 (o2 + 11)).bind fun b3 =>
  cond (!b3) (
  κ (.tup []) H) (
  J x0 x1 H)
theorem M32_0_ok {o : Orc} {N : Nat} {κ : Kv} {J : Kt} {J' : V → Int → Heap → Ans} (hJ : ∀ x0 x1 H, J (tmk 0 92 [(0, x0), (1, .int .i64 x1)]) H = J' x0 x1 H) (x0 : V) (x1 : Int) (H : Heap) :
    run Tryz.prog o N (cAt Tryz.f32 [0]) .n (env0 Tryz.prog Tryz.f32 κ) (tmk 0 92 [(0, x0), (1, .int .i64 x1)]) H (kj [0, 1] J) = M32_0 o N J' κ x0 x1 H := by
  obtain rfl := fx3 hJ
  kernel_rfl
def M32_1 (o : Orc) (N : Nat) (J : V → Int → Int → Heap → Ans) (κ : Kv) (x0 : V) (x1 : Int) (H : Heap) : Ans :=
  asP x0 fun p4 o5 =>
  (ldV H p4 ((o5 + 13) + 0)).bind fun v6 =>
  o 73 [v6] H fun v7 H8 =>
  asI .u16 v7 fun n9 =>
  J x0 x1 n9 H8
theorem M32_1_ok {o : Orc} {N : Nat} {κ : Kv} {J : Kt} {J' : V → Int → Int → Heap → Ans} (hJ : ∀ x0 x1 x4 H, J (tmk 0 92 [(0, x0), (1, .int .i64 x1), (4, .int .u16 x4)]) H = J' x0 x1 x4 H) (x0 : V) (x1 : Int) (H : Heap) :
    run Tryz.prog o N (cAt Tryz.f32 [1, 0]) .n (env0 Tryz.prog Tryz.f32 κ) (tmk 0 92 [(0, x0), (1, .int .i64 x1)]) H (kj [0, 1, 4] J) = M32_1 o N J' κ x0 x1 H := by
  obtain rfl := fx4 hJ
  kernel_rfl
def M32_2 (o : Orc) (N : Nat) (J : V → Int → Heap → Ans) (κ : Kv) (x0 : V) (x1 x4 : Int) (H : Heap) : Ans :=
  asP x0 fun p10 o11 =>
  (ldV H p10 ((o11 + 13) + 0)).bind fun v12 =>
  o 74 [v12, (.int .i64 x1)] H fun v13 H14 =>
  asT0 v13 (
  J x0 x4 H14)
theorem M32_2_ok {o : Orc} {N : Nat} {κ : Kv} {J : Kt} {J' : V → Int → Heap → Ans} (hJ : ∀ x0 x4 H, J (tmk 0 92 [(0, x0), (4, .int .u16 x4)]) H = J' x0 x4 H) (x0 : V) (x1 x4 : Int) (H : Heap) :
    run Tryz.prog o N (cAt Tryz.f32 [1, 1, 0]) .n (env0 Tryz.prog Tryz.f32 κ) (tmk 0 92 [(0, x0), (1, .int .i64 x1), (4, .int .u16 x4)]) H (kj [0, 4] J) = M32_2 o N J' κ x0 x1 x4 H := by
  obtain rfl := fx3 hJ
  kernel_rfl
def M32_3 (o : Orc) (N : Nat) (J : V → Int → Int → Heap → Ans) (κ : Kv) (x0 : V) (x4 : Int) (H : Heap) : Ans :=
  asP x0 fun p15 o16 =>
  (ldV H p15 ((o16 + 13) + 0)).bind fun v17 =>
  o 73 [v17] H fun v18 H19 =>
  asI .u16 v18 fun n20 =>
  J x0 x4 n20 H19
theorem M32_3_ok {o : Orc} {N : Nat} {κ : Kv} {J : Kt} {J' : V → Int → Int → Heap → Ans} (hJ : ∀ x0 x4 x5 H, J (tmk 0 92 [(0, x0), (4, .int .u16 x4), (5, .int .u16 x5)]) H = J' x0 x4 x5 H) (x0 : V) (x4 : Int) (H : Heap) :
    run Tryz.prog o N (cAt Tryz.f32 [1, 1, 1, 0]) .n (env0 Tryz.prog Tryz.f32 κ) (tmk 0 92 [(0, x0), (4, .int .u16 x4)]) H (kj [0, 4, 5] J) = M32_3 o N J' κ x0 x4 H := by
  obtain rfl := fx4 hJ
  kernel_rfl
def M32_4 (o : Orc) (N : Nat) (J : V → Int → Int → Int → Bool → Heap → Ans) (κ : Kv) (x0 : V) (x4 x5 : Int) (H : Heap) : Ans :=
  asP x0 fun p21 o22 =>
  (ldV H p21 ((o22 + 13) + 2)).bind fun v23 =>
  o 75 [v23, (.int .u16 x5)] H fun v24 H25 =>
  asT2 v24 fun v26 v27 =>
  asI .i64 v26 fun n28 =>
  asB v27 fun b29 =>
  J x0 x4 x5 n28 b29 H25
theorem M32_4_ok {o : Orc} {N : Nat} {κ : Kv} {J : Kt} {J' : V → Int → Int → Int → Bool → Heap → Ans} (hJ : ∀ x0 x4 x5 x6 x7 H, J (tmk 0 92 [(0, x0), (4, .int .u16 x4), (5, .int .u16 x5), (6, .int .i64 x6), (7, .bool x7)]) H = J' x0 x4 x5 x6 x7 H) (x0 : V) (x4 x5 : Int) (H : Heap) :
    run Tryz.prog o N (cAt Tryz.f32 [1, 1, 1, 1, 0, 0]) .n (env0 Tryz.prog Tryz.f32 κ) (tmk 0 92 [(0, x0), (4, .int .u16 x4), (5, .int .u16 x5)]) H (kj [0, 4, 5, 6, 7] J) = M32_4 o N J' κ x0 x4 x5 H := by
  obtain rfl := fx6 hJ
  kernel_rfl
def M32_5 (o : Orc) (N : Nat) (J : V → Int → Int → Int → Bool → Heap → Ans) (κ : Kv) (x0 : V) (x4 x5 x6 : Int) (x7 : Bool) (H : Heap) : Ans :=
  J x0 x4 x5 x6 x7 H
theorem M32_5_ok {o : Orc} {N : Nat} {κ : Kv} {J : Kt} {J' : V → Int → Int → Int → Bool → Heap → Ans} (hJ : ∀ x0 x4 x5 x6 x46 H, J (tmk 0 92 [(0, x0), (4, .int .u16 x4), (5, .int .u16 x5), (6, .int .i64 x6), (46, .bool x46)]) H = J' x0 x4 x5 x6 x46 H) (x0 : V) (x4 x5 x6 : Int) (x7 : Bool) (H : Heap) :
    run Tryz.prog o N (cAt Tryz.f32 [1, 1, 1, 1, 0, 1, 0]) .n (env0 Tryz.prog Tryz.f32 κ) (tmk 0 92 [(0, x0), (4, .int .u16 x4), (5, .int .u16 x5), (6, .int .i64 x6), (7, .bool x7)]) H (kj [0, 4, 5, 6, 46] J) = M32_5 o N J' κ x0 x4 x5 x6 x7 H := by
  obtain rfl := fx6 hJ
  kernel_rfl
def M32_6 (o : Orc) (N : Nat) (J : V → Int → V → Int → Int → Heap → Ans) (κ : Kv) (x0 : V) (x4 x5 x6 : Int) (x46 : Bool) (H : Heap) : Ans :=
  asP x0 fun p30 o31 =>
  (ldV H p30 ((o31 + 13) + 7)).bind fun v32 =>
  o 76 [v32, (.int .i64 x6)] H fun v33 H34 =>
  lenS v33 fun n35 =>
  J x0 x5 v33 n35 0 H34
theorem M32_6_ok {o : Orc} {N : Nat} {κ : Kv} {J : Kt} {J' : V → Int → V → Int → Int → Heap → Ans} (hJ : ∀ x0 x5 x53 x54 x55 H, J (tmk 0 92 [(0, x0), (5, .int .u16 x5), (53, x53), (54, .int .i64 x54), (55, .int .i64 x55)]) H = J' x0 x5 x53 x54 x55 H) (x0 : V) (x4 x5 x6 : Int) (x46 : Bool) (H : Heap) :
    run Tryz.prog o N (cAt Tryz.f32 [1, 1, 1, 1, 0, 1, 1, 2, 0]) .n (env0 Tryz.prog Tryz.f32 κ) (tmk 0 92 [(0, x0), (4, .int .u16 x4), (5, .int .u16 x5), (6, .int .i64 x6), (46, .bool x46)]) H (kj [0, 5, 53, 54, 55] J) = M32_6 o N J' κ x0 x4 x5 x6 x46 H := by
  obtain rfl := fx6 hJ
  kernel_rfl
def M32_7 (o : Orc) (N : Nat) (X0 : V → Int → Heap → Ans) (J : V → Int → V → Int → Int → Heap → Ans) (κ : Kv) (x0 : V) (x5 : Int) (x53 : V) (x54 x55 : Int) (H : Heap) : Ans :=
  cond (decide (x55 < x54)) (
  idxS 6 x53 x55 fun p36 o37 =>
  ldFlat H p36 [.int .i64, .int .i64, .int .i64, .int .i64, .int .i64, .int .i64] o37 fun l38 =>
  newB H (.row [(.int .i64 0), (.int .i64 0), (.int .i64 0), (.int .i64 0), (.int .i64 0), (.int .i64 0)]) fun i39 H40 =>
  cond (Nat.beq (List.length l38) 6 && Nat.blt 0 6) (
  (stN H40 i39 0 l38).bind fun H41 =>
  ldFlat H41 i39 [.int .i64, .int .i64, .int .i64, .int .i64, .int .i64, .int .i64] 0 fun l42 =>
  o 77 [x0, (.agg l42), (.int .u16 x5)] H41 fun v43 H44 =>
  asT0 v43 (
  J x0 x5 x53 x54 (IntKind.i64.wrap (x55 + 1)) H44)) none) (
  X0 x0 x5 H)
theorem M32_7_ok {o : Orc} {N : Nat} {κ : Kv} {X0 J : Kt} {X0' : V → Int → Heap → Ans} {J' : V → Int → V → Int → Int → Heap → Ans} (h0 : ∀ x0 x5 H, X0 (tmk 0 92 [(0, x0), (5, .int .u16 x5)]) H = X0' x0 x5 H) (hJ : ∀ x0 x5 x53 x54 x55 H, J (tmk 0 92 [(0, x0), (5, .int .u16 x5), (53, x53), (54, .int .i64 x54), (55, .int .i64 x55)]) H = J' x0 x5 x53 x54 x55 H) (x0 : V) (x5 : Int) (x53 : V) (x54 x55 : Int) (H : Heap) :
    run Tryz.prog o N (cAt Tryz.f32 [1, 1, 1, 1, 0, 1, 1, 2, 1, 4, 4]) .n ((env0 Tryz.prog Tryz.f32 κ).block 0 (kj [0, 5] X0)) (tmk 0 92 [(0, x0), (5, .int .u16 x5), (53, x53), (54, .int .i64 x54), (55, .int .i64 x55)]) H (kj [0, 5, 53, 54, 55] J) = M32_7 o N X0' J' κ x0 x5 x53 x54 x55 H := by
  obtain rfl := fx3 h0
  obtain rfl := fx6 hJ
  kernel_rfl
def M32_8 (o : Orc) (N : Nat) (X0 : V → Int → Heap → Ans) (κ : Kv) (n : Nat) : V → Int → V → Int → Int → Heap → Ans :=
  Nat.rec (motive := fun _ => V → Int → V → Int → Int → Heap → Ans) (fun _ _ _ _ _ _ => none) (fun _ ih x0 x5 x53 x54 x55 H => M32_7 o N X0 ih κ x0 x5 x53 x54 x55 H) n
theorem M32_8_s (o : Orc) (N : Nat) (X0 : V → Int → Heap → Ans) (κ : Kv) (n : Nat) (x0 : V) (x5 : Int) (x53 : V) (x54 x55 : Int) (H : Heap) : M32_8 o N X0 κ (n + 1) x0 x5 x53 x54 x55 H = M32_7 o N X0 (M32_8 o N X0 κ n) κ x0 x5 x53 x54 x55 H := rfl
theorem M32_8_ok {o : Orc} {N : Nat} {κ : Kv} {X0 : Kt} {X0' : V → Int → Heap → Ans} (h0 : ∀ x0 x5 H, X0 (tmk 0 92 [(0, x0), (5, .int .u16 x5)]) H = X0' x0 x5 H) (n : Nat) : ∀ (x0 : V) (x5 : Int) (x53 : V) (x54 x55 : Int) (H : Heap),
    rounds (fun a H k => run Tryz.prog o N (cAt Tryz.f32 [1, 1, 1, 1, 0, 1, 1, 2, 1, 4, 4]) .n ((env0 Tryz.prog Tryz.f32 κ).block 0 (kj [0, 5] X0)) a H k) (some (lvOf [0, 5, 53, 54, 55])) n (tmk 0 92 [(0, x0), (5, .int .u16 x5), (53, x53), (54, .int .i64 x54), (55, .int .i64 x55)]) H = M32_8 o N X0' κ n x0 x5 x53 x54 x55 H := by
  induction n with
  | zero => intros; rfl
  | succ n ih =>
    intro x0 x5 x53 x54 x55 H
    refine (run_round.trans ?_).trans (M32_8_s ..).symm
    exact M32_7_ok h0 ih x0 x5 x53 x54 x55 H
def A32_9 : An := .b none (.l (some (lvOf [0, 5, 53, 54, 55])) .n)
def A32_10 : An := .s .n (some (lvOf [0, 5, 53, 54, 55])) A32_9
def M32_11 (o : Orc) (N : Nat) (J : V → Int → Heap → Ans) (κ : Kv) (x0 : V) (x4 x5 x6 : Int) (x46 : Bool) (H : Heap) : Ans :=
  o 79 [(.int .u16 x4), (.int .u16 x5)] H fun v45 H46 =>
  asI .i64 v45 fun n47 =>
  o 78 [x0, (.int .i64 n47), (.int .u16 x5)] H46 fun v48 H49 =>
  asT0 v48 (
  J x0 x5 H49)
theorem M32_11_ok {o : Orc} {N : Nat} {κ : Kv} {J : Kt} {J' : V → Int → Heap → Ans} (hJ : ∀ x0 x5 H, J (tmk 0 92 [(0, x0), (5, .int .u16 x5)]) H = J' x0 x5 H) (x0 : V) (x4 x5 x6 : Int) (x46 : Bool) (H : Heap) :
    run Tryz.prog o N (cAt Tryz.f32 [1, 1, 1, 1, 0, 1, 1, 3]) .n (env0 Tryz.prog Tryz.f32 κ) (tmk 0 92 [(0, x0), (4, .int .u16 x4), (5, .int .u16 x5), (6, .int .i64 x6), (46, .bool x46)]) H (kj [0, 5] J) = M32_11 o N J' κ x0 x4 x5 x6 x46 H := by
  obtain rfl := fx3 hJ
  kernel_rfl
def M32_12 (o : Orc) (N : Nat) (J : V → Int → Heap → Ans) (κ : Kv) (x0 : V) (x4 x5 x6 : Int) (x46 : Bool) (H : Heap) : Ans :=
  cond x46 (M32_6 o N (fun x0 x5 x53 x54 x55 H => M32_8 o N J κ N x0 x5 x53 x54 x55 H) κ x0 x4 x5 x6 x46 H) (M32_11 o N J κ x0 x4 x5 x6 x46 H)
theorem M32_12_ok {o : Orc} {N : Nat} {κ : Kv} {J : Kt} {J' : V → Int → Heap → Ans} (hJ : ∀ x0 x5 H, J (tmk 0 92 [(0, x0), (5, .int .u16 x5)]) H = J' x0 x5 H) (x0 : V) (x4 x5 x6 : Int) (x46 : Bool) (H : Heap) :
    run Tryz.prog o N (cAt Tryz.f32 [1, 1, 1, 1, 0, 1, 1]) (.c A32_10 .n) (env0 Tryz.prog Tryz.f32 κ) (tmk 0 92 [(0, x0), (4, .int .u16 x4), (5, .int .u16 x5), (6, .int .i64 x6), (46, .bool x46)]) H (kj [0, 5] J) = M32_12 o N J' κ x0 x4 x5 x6 x46 H := by
  refine (run_cond (op := .tmp 46) (b := x46) (x := (cAt Tryz.f32 [1, 1, 1, 1, 0, 1, 1, 2])) (ax := A32_10) (y := (cAt Tryz.f32 [1, 1, 1, 1, 0, 1, 1, 3])) (ay := .n) (by kernel_rfl) (by kernel_rfl) (by kernel_rfl)).trans (congr (congrArg (cond x46) ?_) ?_)
  · refine (run_seq (x := (cAt Tryz.f32 [1, 1, 1, 1, 0, 1, 1, 2, 0])) (ax := .n) (y := (cAt Tryz.f32 [1, 1, 1, 1, 0, 1, 1, 2, 1])) (ay := A32_9) (l := [0, 5, 53, 54, 55]) (by kernel_rfl) (by kernel_rfl)).trans ?_
    refine M32_6_ok ?_ x0 x4 x5 x6 x46 H
    intro x0 x5 x53 x54 x55 H
    refine (run_block (id := 0) (x := (cAt Tryz.f32 [1, 1, 1, 1, 0, 1, 1, 2, 1, 4])) (ax := (.l (some (lvOf [0, 5, 53, 54, 55])) .n)) (by kernel_rfl) (by kernel_rfl)).trans ?_
    refine (run_loop (x := (cAt Tryz.f32 [1, 1, 1, 1, 0, 1, 1, 2, 1, 4, 4])) (ax := .n) (l := [0, 5, 53, 54, 55]) (by kernel_rfl) (by kernel_rfl) (by kernel_rfl)).trans ?_
    exact M32_8_ok hJ N x0 x5 x53 x54 x55 H
  · exact M32_11_ok hJ x0 x4 x5 x6 x46 H
def A32_13 : An := .s .n (some (lvOf [0, 4, 5, 6, 46])) (.c A32_10 .n)
def A32_14 : An := .s .n (some (lvOf [0, 4, 5, 6, 7])) A32_13
def M32_15 (o : Orc) (N : Nat) (κ : Kv) (x0 : V) (x5 : Int) (H : Heap) : Ans :=
  asP x0 fun p50 o51 =>
  (ldV H p50 ((o51 + 13) + 2)).bind fun v52 =>
  o 75 [v52, (.int .u16 x5)] H fun v53 H54 =>
  asT2 v53 fun v55 v56 =>
  asI .i64 v55 fun n57 =>
  asB v56 fun b58 =>
  cond b58 (
  asP x0 fun p59 o60 =>
  (ldV H54 p59 ((o60 + 13) + 7)).bind fun v61 =>
  o 80 [v61, (.int .i64 n57)] H54 fun v62 H63 =>
  asB v62 fun b64 =>
  cond b64 (
  o 81 [x0] H63 fun v65 H66 =>
  asT0 v65 (
  κ (.tup []) H66)) (
  κ (.tup []) H63)) (
  κ (.tup []) H54)
theorem M32_15_ok {o : Orc} {N : Nat} {κ : Kv} (x0 : V) (x5 : Int) (H : Heap) :
    run Tryz.prog o N (cAt Tryz.f32 [1, 1, 1, 1, 1]) .n (env0 Tryz.prog Tryz.f32 κ) (tmk 0 92 [(0, x0), (5, .int .u16 x5)]) H (env0 Tryz.prog Tryz.f32 κ).ret = M32_15 o N κ x0 x5 H := by
  kernel_rfl
def A32_16 : An := .s .n (some (lvOf [0, 4, 5])) (.s A32_14 (some (lvOf [0, 5])) .n)
def A32_17 : An := .s .n (some (lvOf [0, 1, 4])) (.s .n (some (lvOf [0, 4])) A32_16)
def M32 (o : Orc) (N : Nat) : FnM := fun vs H κ => match vs with
  | [x0, .int .i64 x1] => M32_0 o N (fun x0 x1 H => M32_1 o N (fun x0 x1 x4 H => M32_2 o N (fun x0 x4 H => M32_3 o N (fun x0 x4 x5 H => M32_4 o N (fun x0 x4 x5 x6 x7 H => M32_5 o N (fun x0 x4 x5 x6 x46 H => M32_12 o N (fun x0 x5 H => M32_15 o N κ x0 x5 H) κ x0 x4 x5 x6 x46 H) κ x0 x4 x5 x6 x7 H) κ x0 x4 x5 H) κ x0 x4 H) κ x0 x1 x4 H) κ x0 x1 H) κ x0 x1 H
  | _ => none
theorem M32_run (o : Orc) (N : Nat) (vs : List V) (H : Heap) (κ : Kv) (r) (h : M32 o N vs H κ = some r) : runFn Tryz.prog o N Tryz.f32 (.s .n (some (lvOf [0, 1])) A32_17) vs H κ = some r := by
  unfold M32 at h
  split at h
  · rename_i x0 x1
    refine (runFn_at (t := tmk 0 92 [(0, x0), (1, .int .i64 x1)]) (by kernel_rfl) (by kernel_rfl)).trans (Eq.trans ?_ h)
    refine (run_seq (x := (cAt Tryz.f32 [0])) (ax := .n) (y := (cAt Tryz.f32 [1])) (ay := A32_17) (l := [0, 1]) (by kernel_rfl) (by kernel_rfl)).trans ?_
    refine M32_0_ok ?_ x0 x1 H
    intro x0 x1 H
    refine (run_seq (x := (cAt Tryz.f32 [1, 0])) (ax := .n) (y := (cAt Tryz.f32 [1, 1])) (ay := (.s .n (some (lvOf [0, 4])) A32_16)) (l := [0, 1, 4]) (by kernel_rfl) (by kernel_rfl)).trans ?_
    refine M32_1_ok ?_ x0 x1 H
    intro x0 x1 x4 H
    refine (run_seq (x := (cAt Tryz.f32 [1, 1, 0])) (ax := .n) (y := (cAt Tryz.f32 [1, 1, 1])) (ay := A32_16) (l := [0, 4]) (by kernel_rfl) (by kernel_rfl)).trans ?_
    refine M32_2_ok ?_ x0 x1 x4 H
    intro x0 x4 H
    refine (run_seq (x := (cAt Tryz.f32 [1, 1, 1, 0])) (ax := .n) (y := (cAt Tryz.f32 [1, 1, 1, 1])) (ay := (.s A32_14 (some (lvOf [0, 5])) .n)) (l := [0, 4, 5]) (by kernel_rfl) (by kernel_rfl)).trans ?_
    refine M32_3_ok ?_ x0 x4 H
    intro x0 x4 x5 H
    refine (run_seq (x := (cAt Tryz.f32 [1, 1, 1, 1, 0])) (ax := A32_14) (y := (cAt Tryz.f32 [1, 1, 1, 1, 1])) (ay := .n) (l := [0, 5]) (by kernel_rfl) (by kernel_rfl)).trans ?_
    refine (run_seq (x := (cAt Tryz.f32 [1, 1, 1, 1, 0, 0])) (ax := .n) (y := (cAt Tryz.f32 [1, 1, 1, 1, 0, 1])) (ay := A32_13) (l := [0, 4, 5, 6, 7]) (by kernel_rfl) (by kernel_rfl)).trans ?_
    refine M32_4_ok ?_ x0 x4 x5 H
    intro x0 x4 x5 x6 x7 H
    refine (run_seq (x := (cAt Tryz.f32 [1, 1, 1, 1, 0, 1, 0])) (ax := .n) (y := (cAt Tryz.f32 [1, 1, 1, 1, 0, 1, 1])) (ay := (.c A32_10 .n)) (l := [0, 4, 5, 6, 46]) (by kernel_rfl) (by kernel_rfl)).trans ?_
    refine M32_5_ok ?_ x0 x4 x5 x6 x7 H
    intro x0 x4 x5 x6 x46 H
    refine M32_12_ok ?_ x0 x4 x5 x6 x46 H
    intro x0 x5 H
    exact M32_15_ok x0 x5 H
  · cases h
theorem M32_sound {o : Orc} (ho : ∀ f, FSound Tryz.prog f (o f)) (N : Nat) : FSound Tryz.prog 32 (M32 o N) :=
  FSound.sub (runFn_ok (an := (.s .n (some (lvOf [0, 1])) A32_17)) (fuel := N) hmix ho (by kernel_rfl) (by kernel_rfl)) (M32_run o N)
/-! 33 (*ostinato/node.Node).Drive -/
def M33_0 (o : Orc) (N : Nat) (κ : Kv) (x0 : V) (H : Heap) : Ans :=
  asP x0 fun p1 o2 =>
  (ldB H p1 (o2 + 11)).bind fun b3 =>
  cond (!b3) (
  κ (.int .u8 49) H) (
  asP x0 fun p4 o5 =>
  (ldV H p4 ((o5 + 13) + 1)).bind fun v6 =>
  o 82 [v6] H fun v7 H8 =>
  asI .u8 v7 fun n9 =>
  κ (.int .u8 n9) H8)
theorem M33_0_ok {o : Orc} {N : Nat} {κ : Kv} (x0 : V) (H : Heap) :
    run Tryz.prog o N (cAt Tryz.f33 []) .n (env0 Tryz.prog Tryz.f33 κ) (tmk 0 14 [(0, x0)]) H (env0 Tryz.prog Tryz.f33 κ).ret = M33_0 o N κ x0 H := by
  kernel_rfl
def M33 (o : Orc) (N : Nat) : FnM := fun vs H κ => match vs with
  | [x0] => M33_0 o N κ x0 H
  | _ => none
theorem M33_run (o : Orc) (N : Nat) (vs : List V) (H : Heap) (κ : Kv) (r) (h : M33 o N vs H κ = some r) : runFn Tryz.prog o N Tryz.f33 .n vs H κ = some r := by
  unfold M33 at h
  split at h
  · rename_i x0
    refine (runFn_at (t := tmk 0 14 [(0, x0)]) (by kernel_rfl) (by kernel_rfl)).trans (Eq.trans ?_ h)
    exact M33_0_ok x0 H
  · cases h
theorem M33_sound {o : Orc} (ho : ∀ f, FSound Tryz.prog f (o f)) (N : Nat) : FSound Tryz.prog 33 (M33 o N) :=
  FSound.sub (runFn_ok (an := .n) (fuel := N) hmix ho (by kernel_rfl) (by kernel_rfl)) (M33_run o N)
/-! 34 (*ostinato/node.Node).Sample -/
def M34_0 (o : Orc) (N : Nat) (J : V → Int → Heap → Ans) (κ : Kv) (x0 : V) (x1 : Int) (H : Heap) : Ans :=
  asP x0 fun p1 o2 =>
  (ldB H p1 (o2 + 11)).bind fun b3 =>
  cond (!b3) (
  κ (.tup []) H) (
  J x0 x1 H)
theorem M34_0_ok {o : Orc} {N : Nat} {κ : Kv} {J : Kt} {J' : V → Int → Heap → Ans} (hJ : ∀ x0 x1 H, J (tmk 0 81 [(0, x0), (1, .int .u8 x1)]) H = J' x0 x1 H) (x0 : V) (x1 : Int) (H : Heap) :
    run Tryz.prog o N (cAt Tryz.f34 [4, 0]) .n (env0 Tryz.prog Tryz.f34 κ) (tmk 0 81 [(0, x0), (1, .int .u8 x1)]) H (kj [0, 1] J) = M34_0 o N J' κ x0 x1 H := by
  obtain rfl := fx3 hJ
  kernel_rfl
def M34_1 (o : Orc) (N : Nat) (J : V → Int → Heap → Ans) (κ : Kv) (x0 : V) (x1 : Int) (H : Heap) : Ans :=
  J x0 x1 H
theorem M34_1_ok {o : Orc} {N : Nat} {κ : Kv} {J : Kt} {J' : V → Int → Heap → Ans} (hJ : ∀ x0 x1 H, J (tmk 0 81 [(0, x0), (1, .int .u8 x1)]) H = J' x0 x1 H) (x0 : V) (x1 : Int) (H : Heap) :
    run Tryz.prog o N (cAt Tryz.f34 [4, 1, 0]) .n (env0 Tryz.prog Tryz.f34 κ) (tmk 0 81 [(0, x0), (1, .int .u8 x1)]) H (kj [0, 1] J) = M34_1 o N J' κ x0 x1 H := by
  obtain rfl := fx3 hJ
  kernel_rfl
def M34_2 (o : Orc) (N : Nat) (J : V → V → Int → Int → Heap → Ans) (κ : Kv) (x0 : V) (x1 : Int) (H : Heap) : Ans :=
  asP x0 fun p4 o5 =>
  (ldV H p4 ((o5 + 13) + 1)).bind fun v6 =>
  o 83 [v6, (.int .u8 x1)] H fun v7 H8 =>
  lenS v7 fun n9 =>
  J x0 v7 n9 0 H8
theorem M34_2_ok {o : Orc} {N : Nat} {κ : Kv} {J : Kt} {J' : V → V → Int → Int → Heap → Ans} (hJ : ∀ x0 x21 x22 x23 H, J (tmk 0 81 [(0, x0), (21, x21), (22, .int .i64 x22), (23, .int .i64 x23)]) H = J' x0 x21 x22 x23 H) (x0 : V) (x1 : Int) (H : Heap) :
    run Tryz.prog o N (cAt Tryz.f34 [4, 1, 1, 0]) .n (env0 Tryz.prog Tryz.f34 κ) (tmk 0 81 [(0, x0), (1, .int .u8 x1)]) H (kj [0, 21, 22, 23] J) = M34_2 o N J' κ x0 x1 H := by
  obtain rfl := fx5 hJ
  kernel_rfl
def A34_3 : An := (.s .n none (.s .n none (.s (.b none (.s .n none (.s .n none (.s (.s .n none (.b none (.s .n none (.c (.s (.d [0, 1, 2, 3, 4, 5, 6, 7, 8, 9, 10, 11]) none .n) (.s .n none (.c (.s (.d [0, 1, 2, 3, 4, 5, 6, 7, 8, 9, 10, 11, 12]) none .n) .n)))))) none (.s (.d [0, 1, 2, 3, 4, 5, 6, 7]) none .n))))) none .n)))
def M34_4 (o : Orc) (N : Nat) (J : V → V → Int → Int → Heap → Ans) (κ : Kv) (x0 x21 : V) (x22 x23 : Int) (H : Heap) : Ans :=
  cond (decide (x23 < x22)) (
  idxS 6 x21 x23 fun p10 o11 =>
  ldFlat H p10 [.int .i64, .bool, .int .u32, .bool, .str, .int .i64] o11 fun l12 =>
  newB H (.row [(.int .i64 0), (.bool false), (.int .u32 0), (.bool false), (.str []), (.int .i64 0)]) fun i13 H14 =>
  cond (Nat.beq (List.length l12) 6 && Nat.blt 0 6) (
  (stN H14 i13 0 l12).bind fun H15 =>
  (ldI H15 .i64 i13 0).bind fun n16 =>
  (ldI H15 .i64 i13 0).bind fun n17 =>
  cond (n17 == 6) (
  asP x0 fun p18 o19 =>
  (ldV (Heap.skip H15 12) p18 ((o19 + 13) + 2)).bind fun v20 =>
  asP x0 fun p21 o22 =>
  (ldV (Heap.skip H15 12) p21 ((o22 + 13) + 0)).bind fun v23 =>
  o 73 [v23] (Heap.skip H15 12) fun v24 H25 =>
  asI .u16 v24 fun n26 =>
  (ldV H25 p18 ((o19 + 13) + 2)).bind fun v27 =>
  cond (V.same v20 v27) (
  o 84 [v20, (.int .u16 n26)] H25 fun v28 H29 =>
  asT0 v28 (
  J x0 x21 x22 (IntKind.i64.wrap (x23 + 1)) H29)) none) (
  cond (n17 == 2) (
  cond (n17 == 2) (
  asP x0 fun p30 o31 =>
  ldFlat (Heap.skip H15 13) p30 [.int .i64, .int .i64, .int .i64, .int .i64, .int .i64, .int .i64, .int .i64, .int .u32, .oth, .oth, .oth] (o31 + 0) fun l32 =>
  ldFlat (Heap.skip H15 13) i13 [.bool, .int .u32, .bool, .str] 1 fun l33 =>
  o 85 [(.agg l32), (.agg l33)] (Heap.skip H15 13) fun v34 H35 =>
  asT2 v34 fun v36 v37 =>
  asA v36 fun l38 =>
  asB v37 fun b39 =>
  cond (Nat.beq (List.length l38) 4 && Nat.blt 0 4) (
  (stN (Heap.newAt H35 (H15.next + 10) (.row [(.int .i64 0), (.int .i64 0), (.int .u16 0), (.bool false)])) (H15.next + 10) 0 l38).bind fun H40 =>
  cond b39 (
  ldFlat H40 (H15.next + 10) [.int .i64, .int .i64, .int .u16, .bool] 0 fun l41 =>
  o 86 [x0, (.agg l41), (.bool (n16 == 1))] H40 fun v42 H43 =>
  asT0 v42 (
  J x0 x21 x22 (IntKind.i64.wrap (x23 + 1)) H43)) (
  asP x0 fun p44 o45 =>
  ldFlat (Heap.skip H40 8) p44 [.int .i64, .int .i64, .int .i64, .int .i64, .int .i64, .int .i64, .int .i64, .int .u32, .oth, .oth, .oth] (o45 + 0) fun l46 =>
  ldFlat (Heap.skip H40 8) i13 [.bool, .int .u32, .bool, .str] 1 fun l47 =>
  o 87 [(.agg l46), (.agg l47)] (Heap.skip H40 8) fun v48 H49 =>
  asI .i64 v48 fun n50 =>
  cond (decide (n50 ≥ 0)) (
  ldFlat H49 i13 [.int .i64, .bool, .int .u32, .bool, .str, .int .i64] 0 fun l51 =>
  o 88 [x0, (.int .i64 n50), (.agg l51)] H49 fun v52 H53 =>
  asT0 v52 (
  J x0 x21 x22 (IntKind.i64.wrap (x23 + 1)) H53)) (
  J x0 x21 x22 (IntKind.i64.wrap (x23 + 1)) H49))) none) (
  cond (n17 == 4) (
  cond (n17 == 4) (
  asP x0 fun p54 o55 =>
  ldFlat (Heap.skip H15 8) p54 [.int .i64, .int .i64, .int .i64, .int .i64, .int .i64, .int .i64, .int .i64, .int .u32, .oth, .oth, .oth] (o55 + 0) fun l56 =>
  ldFlat (Heap.skip H15 8) i13 [.bool, .int .u32, .bool, .str] 1 fun l57 =>
  o 87 [(.agg l56), (.agg l57)] (Heap.skip H15 8) fun v58 H59 =>
  asI .i64 v58 fun n60 =>
  cond (decide (n60 ≥ 0)) (
  ldFlat H59 i13 [.int .i64, .bool, .int .u32, .bool, .str, .int .i64] 0 fun l61 =>
  o 88 [x0, (.int .i64 n60), (.agg l61)] H59 fun v62 H63 =>
  asT0 v62 (
  J x0 x21 x22 (IntKind.i64.wrap (x23 + 1)) H63)) (
  J x0 x21 x22 (IntKind.i64.wrap (x23 + 1)) H59)) (
  J x0 x21 x22 (IntKind.i64.wrap (x23 + 1)) H15)) (
  cond (n17 == 3) (
  asP x0 fun p64 o65 =>
  ldFlat (Heap.skip H15 8) p64 [.int .i64, .int .i64, .int .i64, .int .i64, .int .i64, .int .i64, .int .i64, .int .u32, .oth, .oth, .oth] (o65 + 0) fun l66 =>
  ldFlat (Heap.skip H15 8) i13 [.bool, .int .u32, .bool, .str] 1 fun l67 =>
  o 87 [(.agg l66), (.agg l67)] (Heap.skip H15 8) fun v68 H69 =>
  asI .i64 v68 fun n70 =>
  cond (decide (n70 ≥ 0)) (
  ldFlat H69 i13 [.int .i64, .bool, .int .u32, .bool, .str, .int .i64] 0 fun l71 =>
  o 88 [x0, (.int .i64 n70), (.agg l71)] H69 fun v72 H73 =>
  asT0 v72 (
  J x0 x21 x22 (IntKind.i64.wrap (x23 + 1)) H73)) (
  J x0 x21 x22 (IntKind.i64.wrap (x23 + 1)) H69)) (
  J x0 x21 x22 (IntKind.i64.wrap (x23 + 1)) H15)))) (
  cond (n17 == 1) (
  asP x0 fun p74 o75 =>
  ldFlat (Heap.skip H15 13) p74 [.int .i64, .int .i64, .int .i64, .int .i64, .int .i64, .int .i64, .int .i64, .int .u32, .oth, .oth, .oth] (o75 + 0) fun l76 =>
  ldFlat (Heap.skip H15 13) i13 [.bool, .int .u32, .bool, .str] 1 fun l77 =>
  o 85 [(.agg l76), (.agg l77)] (Heap.skip H15 13) fun v78 H79 =>
  asT2 v78 fun v80 v81 =>
  asA v80 fun l82 =>
  asB v81 fun b83 =>
  cond (Nat.beq (List.length l82) 4 && Nat.blt 0 4) (
  (stN (Heap.newAt H79 (H15.next + 10) (.row [(.int .i64 0), (.int .i64 0), (.int .u16 0), (.bool false)])) (H15.next + 10) 0 l82).bind fun H84 =>
  cond b83 (
  ldFlat H84 (H15.next + 10) [.int .i64, .int .i64, .int .u16, .bool] 0 fun l85 =>
  o 86 [x0, (.agg l85), (.bool (n16 == 1))] H84 fun v86 H87 =>
  asT0 v86 (
  J x0 x21 x22 (IntKind.i64.wrap (x23 + 1)) H87)) (
  asP x0 fun p88 o89 =>
  ldFlat (Heap.skip H84 8) p88 [.int .i64, .int .i64, .int .i64, .int .i64, .int .i64, .int .i64, .int .i64, .int .u32, .oth, .oth, .oth] (o89 + 0) fun l90 =>
  ldFlat (Heap.skip H84 8) i13 [.bool, .int .u32, .bool, .str] 1 fun l91 =>
  o 87 [(.agg l90), (.agg l91)] (Heap.skip H84 8) fun v92 H93 =>
  asI .i64 v92 fun n94 =>
  cond (decide (n94 ≥ 0)) (
  ldFlat H93 i13 [.int .i64, .bool, .int .u32, .bool, .str, .int .i64] 0 fun l95 =>
  o 88 [x0, (.int .i64 n94), (.agg l95)] H93 fun v96 H97 =>
  asT0 v96 (
  J x0 x21 x22 (IntKind.i64.wrap (x23 + 1)) H97)) (
  J x0 x21 x22 (IntKind.i64.wrap (x23 + 1)) H93))) none) (
  cond (n17 == 4) (
  cond (n17 == 4) (
  asP x0 fun p98 o99 =>
  ldFlat (Heap.skip H15 8) p98 [.int .i64, .int .i64, .int .i64, .int .i64, .int .i64, .int .i64, .int .i64, .int .u32, .oth, .oth, .oth] (o99 + 0) fun l100 =>
  ldFlat (Heap.skip H15 8) i13 [.bool, .int .u32, .bool, .str] 1 fun l101 =>
  o 87 [(.agg l100), (.agg l101)] (Heap.skip H15 8) fun v102 H103 =>
  asI .i64 v102 fun n104 =>
  cond (decide (n104 ≥ 0)) (
  ldFlat H103 i13 [.int .i64, .bool, .int .u32, .bool, .str, .int .i64] 0 fun l105 =>
  o 88 [x0, (.int .i64 n104), (.agg l105)] H103 fun v106 H107 =>
  asT0 v106 (
  J x0 x21 x22 (IntKind.i64.wrap (x23 + 1)) H107)) (
  J x0 x21 x22 (IntKind.i64.wrap (x23 + 1)) H103)) (
  J x0 x21 x22 (IntKind.i64.wrap (x23 + 1)) H15)) (
  cond (n17 == 3) (
  asP x0 fun p108 o109 =>
  ldFlat (Heap.skip H15 8) p108 [.int .i64, .int .i64, .int .i64, .int .i64, .int .i64, .int .i64, .int .i64, .int .u32, .oth, .oth, .oth] (o109 + 0) fun l110 =>
  ldFlat (Heap.skip H15 8) i13 [.bool, .int .u32, .bool, .str] 1 fun l111 =>
  o 87 [(.agg l110), (.agg l111)] (Heap.skip H15 8) fun v112 H113 =>
  asI .i64 v112 fun n114 =>
  cond (decide (n114 ≥ 0)) (
  ldFlat H113 i13 [.int .i64, .bool, .int .u32, .bool, .str, .int .i64] 0 fun l115 =>
  o 88 [x0, (.int .i64 n114), (.agg l115)] H113 fun v116 H117 =>
  asT0 v116 (
  J x0 x21 x22 (IntKind.i64.wrap (x23 + 1)) H117)) (
  J x0 x21 x22 (IntKind.i64.wrap (x23 + 1)) H113)) (
  J x0 x21 x22 (IntKind.i64.wrap (x23 + 1)) H15)))))) none) (
  κ (.tup []) H)
theorem M34_4_ok {o : Orc} {N : Nat} {κ : Kv} {J : Kt} {J' : V → V → Int → Int → Heap → Ans} (hJ : ∀ x0 x21 x22 x23 H, J (tmk 0 81 [(0, x0), (21, x21), (22, .int .i64 x22), (23, .int .i64 x23)]) H = J' x0 x21 x22 x23 H) (x0 x21 : V) (x22 x23 : Int) (H : Heap) :
    run Tryz.prog o N (cAt Tryz.f34 [4, 1, 1, 1, 4, 4]) A34_3 ((env0 Tryz.prog Tryz.f34 κ).block 0 (env0 Tryz.prog Tryz.f34 κ).ret) (tmk 0 81 [(0, x0), (21, x21), (22, .int .i64 x22), (23, .int .i64 x23)]) H (kj [0, 21, 22, 23] J) = M34_4 o N J' κ x0 x21 x22 x23 H := by
  obtain rfl := fx5 hJ
  kernel_rfl
def M34_5 (o : Orc) (N : Nat) (κ : Kv) (n : Nat) : V → V → Int → Int → Heap → Ans :=
  Nat.rec (motive := fun _ => V → V → Int → Int → Heap → Ans) (fun _ _ _ _ _ => none) (fun _ ih x0 x21 x22 x23 H => M34_4 o N ih κ x0 x21 x22 x23 H) n
theorem M34_5_s (o : Orc) (N : Nat) (κ : Kv) (n : Nat) (x0 x21 : V) (x22 x23 : Int) (H : Heap) : M34_5 o N κ (n + 1) x0 x21 x22 x23 H = M34_4 o N (M34_5 o N κ n) κ x0 x21 x22 x23 H := rfl
theorem M34_5_ok {o : Orc} {N : Nat} {κ : Kv} (n : Nat) : ∀ (x0 x21 : V) (x22 x23 : Int) (H : Heap),
    rounds (fun a H k => run Tryz.prog o N (cAt Tryz.f34 [4, 1, 1, 1, 4, 4]) A34_3 ((env0 Tryz.prog Tryz.f34 κ).block 0 (env0 Tryz.prog Tryz.f34 κ).ret) a H k) (some (lvOf [0, 21, 22, 23])) n (tmk 0 81 [(0, x0), (21, x21), (22, .int .i64 x22), (23, .int .i64 x23)]) H = M34_5 o N κ n x0 x21 x22 x23 H := by
  induction n with
  | zero => intros; rfl
  | succ n ih =>
    intro x0 x21 x22 x23 H
    refine (run_round.trans ?_).trans (M34_5_s ..).symm
    exact M34_4_ok ih x0 x21 x22 x23 H
def A34_6 : An := .b none (.l (some (lvOf [0, 21, 22, 23])) A34_3)
def A34_7 : An := .s .n (some (lvOf [0, 21, 22, 23])) A34_6
def A34_8 : An := .s .n (some (lvOf [0, 1])) (.s .n (some (lvOf [0, 1])) A34_7)
def M34 (o : Orc) (N : Nat) : FnM := fun vs H κ => match vs with
  | [x0, .int .u8 x1] => M34_0 o N (fun x0 x1 H => M34_1 o N (fun x0 x1 H => M34_2 o N (fun x0 x21 x22 x23 H => M34_5 o N κ N x0 x21 x22 x23 H) κ x0 x1 H) κ x0 x1 H) κ x0 x1 H
  | _ => none
theorem M34_run (o : Orc) (N : Nat) (vs : List V) (H : Heap) (κ : Kv) (r) (h : M34 o N vs H κ = some r) : runFn Tryz.prog o N Tryz.f34 A34_8 vs H κ = some r := by
  unfold M34 at h
  split at h
  · rename_i x0 x1
    refine (runFn_at (t := tmk 0 81 [(0, x0), (1, .int .u8 x1)]) (by kernel_rfl) (by kernel_rfl)).trans (Eq.trans ?_ h)
    refine (run_scope (x := (cAt Tryz.f34 [4])) (by kernel_rfl)).trans ?_
    refine (run_seq (x := (cAt Tryz.f34 [4, 0])) (ax := .n) (y := (cAt Tryz.f34 [4, 1])) (ay := (.s .n (some (lvOf [0, 1])) A34_7)) (l := [0, 1]) (by kernel_rfl) (by kernel_rfl)).trans ?_
    refine M34_0_ok ?_ x0 x1 H
    intro x0 x1 H
    refine (run_seq (x := (cAt Tryz.f34 [4, 1, 0])) (ax := .n) (y := (cAt Tryz.f34 [4, 1, 1])) (ay := A34_7) (l := [0, 1]) (by kernel_rfl) (by kernel_rfl)).trans ?_
    refine M34_1_ok ?_ x0 x1 H
    intro x0 x1 H
    refine (run_seq (x := (cAt Tryz.f34 [4, 1, 1, 0])) (ax := .n) (y := (cAt Tryz.f34 [4, 1, 1, 1])) (ay := A34_6) (l := [0, 21, 22, 23]) (by kernel_rfl) (by kernel_rfl)).trans ?_
    refine M34_2_ok ?_ x0 x1 H
    intro x0 x21 x22 x23 H
    refine (run_block (id := 0) (x := (cAt Tryz.f34 [4, 1, 1, 1, 4])) (ax := (.l (some (lvOf [0, 21, 22, 23])) A34_3)) (by kernel_rfl) (by kernel_rfl)).trans ?_
    refine (run_loop (x := (cAt Tryz.f34 [4, 1, 1, 1, 4, 4])) (ax := A34_3) (l := [0, 21, 22, 23]) (by kernel_rfl) (by kernel_rfl) (by kernel_rfl)).trans ?_
    exact M34_5_ok N x0 x21 x22 x23 H
  · cases h
theorem M34_sound {o : Orc} (ho : ∀ f, FSound Tryz.prog f (o f)) (N : Nat) : FSound Tryz.prog 34 (M34 o N) :=
  FSound.sub (runFn_ok (an := A34_8) (fuel := N) hmix ho (by kernel_rfl) (by kernel_rfl)) (M34_run o N)
/-! 46 ostinato/level.Of -/
def M46_0 (o : Orc) (N : Nat) (κ : Kv) (x0 : V) (x1 x2 : Bool) (H : Heap) : Ans :=
  cond x1 (
  κ (.int .i64 3) H) (
  cond x2 (
  κ (.int .i64 3) H) (
  eqP false x0 .nilp fun b1 =>
  cond b1 (
  κ (.int .i64 0) H) (
  o 98 [x0] H fun v2 H3 =>
  o 97 [v2, (.int .i64 7)] H3 fun v4 H5 =>
  asB v4 fun b6 =>
  cond b6 (
  κ (.int .i64 2) H5) (
  o 99 [x0] H5 fun v7 H8 =>
  asI .i64 v7 fun n9 =>
  cond (decide (n9 > 2)) (
  κ (.int .i64 1) H8) (
  κ (.int .i64 0) H8)))))
theorem M46_0_ok {o : Orc} {N : Nat} {κ : Kv} (x0 : V) (x1 x2 : Bool) (H : Heap) :
    run Tryz.prog o N (cAt Tryz.f46 []) .n (env0 Tryz.prog Tryz.f46 κ) (tmk 0 23 [(0, x0), (1, .bool x1), (2, .bool x2)]) H (env0 Tryz.prog Tryz.f46 κ).ret = M46_0 o N κ x0 x1 x2 H := by
  kernel_rfl
def M46 (o : Orc) (N : Nat) : FnM := fun vs H κ => match vs with
  | [x0, .bool x1, .bool x2] => M46_0 o N κ x0 x1 x2 H
  | _ => none
theorem M46_run (o : Orc) (N : Nat) (vs : List V) (H : Heap) (κ : Kv) (r) (h : M46 o N vs H κ = some r) : runFn Tryz.prog o N Tryz.f46 .n vs H κ = some r := by
  unfold M46 at h
  split at h
  · rename_i x0 x1 x2
    refine (runFn_at (t := tmk 0 23 [(0, x0), (1, .bool x1), (2, .bool x2)]) (by kernel_rfl) (by kernel_rfl)).trans (Eq.trans ?_ h)
    exact M46_0_ok x0 x1 x2 H
  · cases h
theorem M46_sound {o : Orc} (ho : ∀ f, FSound Tryz.prog f (o f)) (N : Nat) : FSound Tryz.prog 46 (M46 o N) :=
  FSound.sub (runFn_ok (an := .n) (fuel := N) hmix ho (by kernel_rfl) (by kernel_rfl)) (M46_run o N)
/-! 47 (*ostinato/mac.Mac).Counts -/
def M47_0 (o : Orc) (N : Nat) (κ : Kv) (x0 : V) (H : Heap) : Ans :=
  newB H (.row [(.int .i64 0), (.int .i64 0)]) fun i1 H2 =>
  asP x0 fun p3 o4 =>
  ldFlat H2 p3 [.int .i64, .int .i64] (o4 + 2) fun l5 =>
  cond (Nat.beq (List.length l5) 2 && Nat.blt 0 2) (
  (stN H2 i1 0 l5).bind fun H6 =>
  ldFlat H6 i1 [.int .i64, .int .i64] 0 fun l7 =>
  κ (.agg l7) H6) none
theorem M47_0_ok {o : Orc} {N : Nat} {κ : Kv} (x0 : V) (H : Heap) :
    run Tryz.prog o N (cAt Tryz.f47 []) .n (env0 Tryz.prog Tryz.f47 κ) (tmk 0 7 [(0, x0)]) H (env0 Tryz.prog Tryz.f47 κ).ret = M47_0 o N κ x0 H := by
  kernel_rfl
def M47 (o : Orc) (N : Nat) : FnM := fun vs H κ => match vs with
  | [x0] => M47_0 o N κ x0 H
  | _ => none
theorem M47_run (o : Orc) (N : Nat) (vs : List V) (H : Heap) (κ : Kv) (r) (h : M47 o N vs H κ = some r) : runFn Tryz.prog o N Tryz.f47 .n vs H κ = some r := by
  unfold M47 at h
  split at h
  · rename_i x0
    refine (runFn_at (t := tmk 0 7 [(0, x0)]) (by kernel_rfl) (by kernel_rfl)).trans (Eq.trans ?_ h)
    exact M47_0_ok x0 H
  · cases h
theorem M47_sound {o : Orc} (ho : ∀ f, FSound Tryz.prog f (o f)) (N : Nat) : FSound Tryz.prog 47 (M47 o N) :=
  FSound.sub (runFn_ok (an := .n) (fuel := N) hmix ho (by kernel_rfl) (by kernel_rfl)) (M47_run o N)
/-! 48 (*ostinato/master.Master).State -/
def M48_0 (o : Orc) (N : Nat) (κ : Kv) (x0 : V) (H : Heap) : Ans :=
  asP x0 fun p1 o2 =>
  (ldI H .i64 p1 ((o2 + 1) + 0)).bind fun n3 =>
  κ (.int .i64 n3) H
theorem M48_0_ok {o : Orc} {N : Nat} {κ : Kv} (x0 : V) (H : Heap) :
    run Tryz.prog o N (cAt Tryz.f48 []) .n (env0 Tryz.prog Tryz.f48 κ) (tmk 0 8 [(0, x0)]) H (env0 Tryz.prog Tryz.f48 κ).ret = M48_0 o N κ x0 H := by
  kernel_rfl
def M48 (o : Orc) (N : Nat) : FnM := fun vs H κ => match vs with
  | [x0] => M48_0 o N κ x0 H
  | _ => none
theorem M48_run (o : Orc) (N : Nat) (vs : List V) (H : Heap) (κ : Kv) (r) (h : M48 o N vs H κ = some r) : runFn Tryz.prog o N Tryz.f48 .n vs H κ = some r := by
  unfold M48 at h
  split at h
  · rename_i x0
    refine (runFn_at (t := tmk 0 8 [(0, x0)]) (by kernel_rfl) (by kernel_rfl)).trans (Eq.trans ?_ h)
    exact M48_0_ok x0 H
  · cases h
theorem M48_sound {o : Orc} (ho : ∀ f, FSound Tryz.prog f (o f)) (N : Nat) : FSound Tryz.prog 48 (M48 o N) :=
  FSound.sub (runFn_ok (an := .n) (fuel := N) hmix ho (by kernel_rfl) (by kernel_rfl)) (M48_run o N)
/-! 49 (*ostinato/node.Node).level -/
def A49_0 : An := (.s .n none (.s (.d [0, 1, 2, 3, 4, 5, 6, 7, 8, 9, 10]) none .n))
def M49_1 (o : Orc) (N : Nat) (κ : Kv) (x0 : V) (H : Heap) : Ans :=
  asP x0 fun p1 o2 =>
  (ldV (Heap.skip H 11) p1 ((o2 + 13) + 5)).bind fun v3 =>
  asP x0 fun p4 o5 =>
  (ldB (Heap.skip H 11) p4 (o5 + 22)).bind fun b6 =>
  o 46 [v3, (.bool b6), (.bool false)] (Heap.skip H 11) fun v7 H8 =>
  asI .i64 v7 fun n9 =>
  κ (.int .i64 n9) H8
theorem M49_1_ok {o : Orc} {N : Nat} {κ : Kv} (x0 : V) (H : Heap) :
    run Tryz.prog o N (cAt Tryz.f49 []) A49_0 (env0 Tryz.prog Tryz.f49 κ) (tmk 0 13 [(0, x0)]) H (env0 Tryz.prog Tryz.f49 κ).ret = M49_1 o N κ x0 H := by
  kernel_rfl
def M49 (o : Orc) (N : Nat) : FnM := fun vs H κ => match vs with
  | [x0] => M49_1 o N κ x0 H
  | _ => none
theorem M49_run (o : Orc) (N : Nat) (vs : List V) (H : Heap) (κ : Kv) (r) (h : M49 o N vs H κ = some r) : runFn Tryz.prog o N Tryz.f49 A49_0 vs H κ = some r := by
  unfold M49 at h
  split at h
  · rename_i x0
    refine (runFn_at (t := tmk 0 13 [(0, x0)]) (by kernel_rfl) (by kernel_rfl)).trans (Eq.trans ?_ h)
    exact M49_1_ok x0 H
  · cases h
theorem M49_sound {o : Orc} (ho : ∀ f, FSound Tryz.prog f (o f)) (N : Nat) : FSound Tryz.prog 49 (M49 o N) :=
  FSound.sub (runFn_ok (an := A49_0) (fuel := N) hmix ho (by kernel_rfl) (by kernel_rfl)) (M49_run o N)
/-! 50 (*ostinato/node.Node).leads -/
def A50_0 : An := (.s .n none (.s (.d [0, 1, 2, 3, 4, 5, 6, 7, 8, 9, 10, 12, 13, 14, 15, 11, 16, 17, 18]) none .n))
def M50_1 (o : Orc) (N : Nat) (κ : Kv) (x0 : V) (H : Heap) : Ans :=
  asP x0 fun p1 o2 =>
  (ldI (Heap.skip H 19) .i64 p1 (o2 + 12)).bind fun n3 =>
  cond (decide (n3 ≥ 0)) (
  asP x0 fun p4 o5 =>
  (ldV (Heap.skip H 19) p4 ((o5 + 13) + 6)).bind fun v6 =>
  asP x0 fun p7 o8 =>
  (ldI (Heap.skip H 19) .i64 p7 (o8 + 12)).bind fun n9 =>
  o 100 [v6] (Heap.skip H 19) fun v10 H11 =>
  asI .i64 v10 fun n12 =>
  (ldI H11 .i64 p7 (o8 + 12)).bind fun n13 =>
  cond (decide (n9 = n13)) (
  κ (.bool (n12 == n9)) H11) none) (
  κ (.bool false) (Heap.skip H 19))
theorem M50_1_ok {o : Orc} {N : Nat} {κ : Kv} (x0 : V) (H : Heap) :
    run Tryz.prog o N (cAt Tryz.f50 []) A50_0 (env0 Tryz.prog Tryz.f50 κ) (tmk 0 21 [(0, x0)]) H (env0 Tryz.prog Tryz.f50 κ).ret = M50_1 o N κ x0 H := by
  kernel_rfl
def M50 (o : Orc) (N : Nat) : FnM := fun vs H κ => match vs with
  | [x0] => M50_1 o N κ x0 H
  | _ => none
theorem M50_run (o : Orc) (N : Nat) (vs : List V) (H : Heap) (κ : Kv) (r) (h : M50 o N vs H κ = some r) : runFn Tryz.prog o N Tryz.f50 A50_0 vs H κ = some r := by
  unfold M50 at h
  split at h
  · rename_i x0
    refine (runFn_at (t := tmk 0 21 [(0, x0)]) (by kernel_rfl) (by kernel_rfl)).trans (Eq.trans ?_ h)
    exact M50_1_ok x0 H
  · cases h
theorem M50_sound {o : Orc} (ho : ∀ f, FSound Tryz.prog f (o f)) (N : Nat) : FSound Tryz.prog 50 (M50 o N) :=
  FSound.sub (runFn_ok (an := A50_0) (fuel := N) hmix ho (by kernel_rfl) (by kernel_rfl)) (M50_run o N)
/-! 51 (*ostinato/mark.Mark).Cycle -/
def M51_0 (o : Orc) (N : Nat) (κ : Kv) (x0 : V) (H : Heap) : Ans :=
  asP x0 fun p1 o2 =>
  (ldI H .i64 p1 (o2 + 4)).bind fun n3 =>
  κ (.int .i64 n3) H
theorem M51_0_ok {o : Orc} {N : Nat} {κ : Kv} (x0 : V) (H : Heap) :
    run Tryz.prog o N (cAt Tryz.f51 []) .n (env0 Tryz.prog Tryz.f51 κ) (tmk 0 7 [(0, x0)]) H (env0 Tryz.prog Tryz.f51 κ).ret = M51_0 o N κ x0 H := by
  kernel_rfl
def M51 (o : Orc) (N : Nat) : FnM := fun vs H κ => match vs with
  | [x0] => M51_0 o N κ x0 H
  | _ => none
theorem M51_run (o : Orc) (N : Nat) (vs : List V) (H : Heap) (κ : Kv) (r) (h : M51 o N vs H κ = some r) : runFn Tryz.prog o N Tryz.f51 .n vs H κ = some r := by
  unfold M51 at h
  split at h
  · rename_i x0
    refine (runFn_at (t := tmk 0 7 [(0, x0)]) (by kernel_rfl) (by kernel_rfl)).trans (Eq.trans ?_ h)
    exact M51_0_ok x0 H
  · cases h
theorem M51_sound {o : Orc} (ho : ∀ f, FSound Tryz.prog f (o f)) (N : Nat) : FSound Tryz.prog 51 (M51 o N) :=
  FSound.sub (runFn_ok (an := .n) (fuel := N) hmix ho (by kernel_rfl) (by kernel_rfl)) (M51_run o N)
/-! 52 ostinato/confine.IsOff -/
def M52_0 (o : Orc) (N : Nat) (κ : Kv) (x0 : List V) (H : Heap) : Ans :=
  cond (List.all x0 V.one) (
  newB H (.row x0) fun i1 H2 =>
  (ldI H2 .i64 i1 0).bind fun n3 =>
  κ (.bool (decide (n3 ≥ 256))) H2) none
theorem M52_0_ok {o : Orc} {N : Nat} {κ : Kv} (x0 : List V) (H : Heap) :
    run Tryz.prog o N (cAt Tryz.f52 []) .n (env0 Tryz.prog Tryz.f52 κ) (tmk 0 6 [(0, .agg x0)]) H (env0 Tryz.prog Tryz.f52 κ).ret = M52_0 o N κ x0 H := by
  kernel_rfl
def M52 (o : Orc) (N : Nat) : FnM := fun vs H κ => match vs with
  | [.agg x0] => M52_0 o N κ x0 H
  | _ => none
theorem M52_run (o : Orc) (N : Nat) (vs : List V) (H : Heap) (κ : Kv) (r) (h : M52 o N vs H κ = some r) : runFn Tryz.prog o N Tryz.f52 .n vs H κ = some r := by
  unfold M52 at h
  split at h
  · rename_i x0
    refine (runFn_at (t := tmk 0 6 [(0, .agg x0)]) (by kernel_rfl) (by kernel_rfl)).trans (Eq.trans ?_ h)
    exact M52_0_ok x0 H
  · cases h
theorem M52_sound {o : Orc} (ho : ∀ f, FSound Tryz.prog f (o f)) (N : Nat) : FSound Tryz.prog 52 (M52 o N) :=
  FSound.sub (runFn_ok (an := .n) (fuel := N) hmix ho (by kernel_rfl) (by kernel_rfl)) (M52_run o N)
/-! 57 (*ostinato/node.Node).Mac -/
def M57_0 (o : Orc) (N : Nat) (κ : Kv) (x0 : V) (H : Heap) : Ans :=
  asP x0 fun p1 o2 =>
  (ldV H p1 ((o2 + 13) + 1)).bind fun v3 =>
  κ v3 H
theorem M57_0_ok {o : Orc} {N : Nat} {κ : Kv} (x0 : V) (H : Heap) :
    run Tryz.prog o N (cAt Tryz.f57 []) .n (env0 Tryz.prog Tryz.f57 κ) (tmk 0 8 [(0, x0)]) H (env0 Tryz.prog Tryz.f57 κ).ret = M57_0 o N κ x0 H := by
  kernel_rfl
def M57 (o : Orc) (N : Nat) : FnM := fun vs H κ => match vs with
  | [x0] => M57_0 o N κ x0 H
  | _ => none
theorem M57_run (o : Orc) (N : Nat) (vs : List V) (H : Heap) (κ : Kv) (r) (h : M57 o N vs H κ = some r) : runFn Tryz.prog o N Tryz.f57 .n vs H κ = some r := by
  unfold M57 at h
  split at h
  · rename_i x0
    refine (runFn_at (t := tmk 0 8 [(0, x0)]) (by kernel_rfl) (by kernel_rfl)).trans (Eq.trans ?_ h)
    exact M57_0_ok x0 H
  · cases h
theorem M57_sound {o : Orc} (ho : ∀ f, FSound Tryz.prog f (o f)) (N : Nat) : FSound Tryz.prog 57 (M57 o N) :=
  FSound.sub (runFn_ok (an := .n) (fuel := N) hmix ho (by kernel_rfl) (by kernel_rfl)) (M57_run o N)
/-! 58 ostinato/config.Parse -/
def M58_0 (o : Orc) (N : Nat) (κ : Kv) (x0 : List Nat) (H : Heap) : Ans :=
  newB H (.row [(.int .i64 0), (.int .i64 0), (.int .i64 0), (.int .i64 0), (.int .i64 0), (.int .i64 0), (.int .i64 0), (.int .u32 0), .nils, .nils, .nils]) fun i1 H2 =>
  cond (decide (((List.length x0 : Nat) : Int) > 400)) (
  (stN H2 i1 0 [(.int .i64 0), (.int .i64 0), (.int .i64 0), (.int .i64 0), (.int .i64 0), (.int .i64 0), (.int .i64 0), (.int .u32 0), .nils, .nils, .nils]).bind fun H3 =>
  ldFlat H3 i1 [.int .i64, .int .i64, .int .i64, .int .i64, .int .i64, .int .i64, .int .i64, .int .u32, .oth, .oth, .oth] 0 fun l4 =>
  κ (.tup [(.agg l4), (.int .i64 130)]) H3) (
  newB H2 (.row [(.str x0), (.bool false)]) fun i5 H6 =>
  o 102 [(.ptr i5 0)] H6 fun v7 H8 =>
  asI .i64 v7 fun n9 =>
  newB H8 (.row [(.int .i64 0), (.int .i64 0), (.int .i64 0), (.int .i64 0), (.int .i64 0), (.int .i64 0), (.int .i64 0), (.int .u32 0), .nils, .nils, .nils]) fun i10 H11 =>
  o 102 [(.ptr i5 0)] H11 fun v12 H13 =>
  asI .i64 v12 fun n14 =>
  (stN H13 i10 0 [(.int .i64 n14)]).bind fun H15 =>
  o 102 [(.ptr i5 0)] H15 fun v16 H17 =>
  asI .i64 v16 fun n18 =>
  (stN H17 i10 1 [(.int .i64 n18)]).bind fun H19 =>
  o 102 [(.ptr i5 0)] H19 fun v20 H21 =>
  asI .i64 v20 fun n22 =>
  (stN H21 i10 2 [(.int .i64 n22)]).bind fun H23 =>
  o 103 [(.ptr i5 0)] H23 fun v24 H25 =>
  asI .i64 v24 fun n26 =>
  (stN H25 i10 3 [(.int .i64 n26)]).bind fun H27 =>
  o 102 [(.ptr i5 0)] H27 fun v28 H29 =>
  asI .i64 v28 fun n30 =>
  (stN H29 i10 4 [(.int .i64 n30)]).bind fun H31 =>
  o 102 [(.ptr i5 0)] H31 fun v32 H33 =>
  asI .i64 v32 fun n34 =>
  (stN H33 i10 5 [(.int .i64 n34)]).bind fun H35 =>
  o 103 [(.ptr i5 0)] H35 fun v36 H37 =>
  asI .i64 v36 fun n38 =>
  (stN H37 i10 6 [(.int .i64 n38)]).bind fun H39 =>
  o 103 [(.ptr i5 0)] H39 fun v40 H41 =>
  asI .i64 v40 fun n42 =>
  (stN H41 i10 7 [(.int .u32 (IntKind.u32.wrap n42))]).bind fun H43 =>
  o 104 [(.ptr i5 0), (.ptr i10 0)] H43 fun v44 H45 =>
  asT0 v44 (
  (ldB H45 i5 1).bind fun b46 =>
  cond b46 (
  (stN H45 i1 0 [(.int .i64 0), (.int .i64 0), (.int .i64 0), (.int .i64 0), (.int .i64 0), (.int .i64 0), (.int .i64 0), (.int .u32 0), .nils, .nils, .nils]).bind fun H47 =>
  ldFlat H47 i1 [.int .i64, .int .i64, .int .i64, .int .i64, .int .i64, .int .i64, .int .i64, .int .u32, .oth, .oth, .oth] 0 fun l48 =>
  κ (.tup [(.agg l48), (.int .i64 130)]) H47) (
  ldFlat H45 i10 [.int .i64, .int .i64, .int .i64, .int .i64, .int .i64, .int .i64, .int .i64, .int .u32, .oth, .oth, .oth] 0 fun l49 =>
  o 105 [(.agg l49)] H45 fun v50 H51 =>
  asS v50 fun s52 =>
  cond (!(s52 == x0)) (
  (stN H51 i1 0 [(.int .i64 0), (.int .i64 0), (.int .i64 0), (.int .i64 0), (.int .i64 0), (.int .i64 0), (.int .i64 0), (.int .u32 0), .nils, .nils, .nils]).bind fun H53 =>
  ldFlat H53 i1 [.int .i64, .int .i64, .int .i64, .int .i64, .int .i64, .int .i64, .int .i64, .int .u32, .oth, .oth, .oth] 0 fun l54 =>
  κ (.tup [(.agg l54), (.int .i64 130)]) H53) (
  ldFlat H51 i10 [.int .i64, .int .i64, .int .i64, .int .i64, .int .i64, .int .i64, .int .i64, .int .u32, .oth, .oth, .oth] 0 fun l55 =>
  cond (Nat.beq (List.length l55) 11 && Nat.blt 0 11) (
  (stN H51 i1 0 l55).bind fun H56 =>
  ldFlat H56 i1 [.int .i64, .int .i64, .int .i64, .int .i64, .int .i64, .int .i64, .int .i64, .int .u32, .oth, .oth, .oth] 0 fun l57 =>
  κ (.tup [(.agg l57), (.int .i64 0)]) H56) none))))
theorem M58_0_ok {o : Orc} {N : Nat} {κ : Kv} (x0 : List Nat) (H : Heap) :
    run Tryz.prog o N (cAt Tryz.f58 []) .n (env0 Tryz.prog Tryz.f58 κ) (tmk 0 54 [(0, .str x0)]) H (env0 Tryz.prog Tryz.f58 κ).ret = M58_0 o N κ x0 H := by
  kernel_rfl
def M58 (o : Orc) (N : Nat) : FnM := fun vs H κ => match vs with
  | [.str x0] => M58_0 o N κ x0 H
  | _ => none
theorem M58_run (o : Orc) (N : Nat) (vs : List V) (H : Heap) (κ : Kv) (r) (h : M58 o N vs H κ = some r) : runFn Tryz.prog o N Tryz.f58 .n vs H κ = some r := by
  unfold M58 at h
  split at h
  · rename_i x0
    refine (runFn_at (t := tmk 0 54 [(0, .str x0)]) (by kernel_rfl) (by kernel_rfl)).trans (Eq.trans ?_ h)
    exact M58_0_ok x0 H
  · cases h
theorem M58_sound {o : Orc} (ho : ∀ f, FSound Tryz.prog f (o f)) (N : Nat) : FSound Tryz.prog 58 (M58 o N) :=
  FSound.sub (runFn_ok (an := .n) (fuel := N) hmix ho (by kernel_rfl) (by kernel_rfl)) (M58_run o N)
/-! 59 ostinato/check.Check -/
def M59_0 (o : Orc) (N : Nat) (J : Nat → Heap → Ans) (κ : Kv) (x0 : List V) (H : Heap) : Ans :=
  cond (List.all x0 V.one) (
  newB H (.row x0) fun i1 H2 =>
  J i1 H2) none
theorem M59_0_ok {o : Orc} {N : Nat} {κ : Kv} {J : Kt} {J' : Nat → Heap → Ans} (hJ : ∀ x1 H, J (tmk 0 35 [(1, .ptr x1 0)]) H = J' x1 H) (x0 : List V) (H : Heap) :
    run Tryz.prog o N (cAt Tryz.f59 [0]) .n (env0 Tryz.prog Tryz.f59 κ) (tmk 0 35 [(0, .agg x0)]) H (kj [1] J) = M59_0 o N J' κ x0 H := by
  obtain rfl := fx2 hJ
  kernel_rfl
def A59_1 : An := (.b none (.s .n none (.c .n (.s (.d [0, 1, 2, 3, 4, 5]) none .n))))
def M59_2 (o : Orc) (N : Nat) (J : Nat → Heap → Ans) (κ : Kv) (x1 : Nat) (H : Heap) : Ans :=
  ldFlat H x1 [.int .i64, .int .i64, .int .i64, .int .i64, .int .i64, .int .i64, .int .i64, .int .u32, .oth, .oth, .oth] 0 fun l3 =>
  o 106 [(.agg l3)] H fun v4 H5 =>
  asB v4 fun b6 =>
  cond (!b6) (
  κ (.tup [(.int .i64 0), (.int .i64 120)]) H5) (
  (ldI (Heap.skip H5 6) .i64 x1 3).bind fun n7 =>
  ldFlat (Heap.skip H5 6) x1 [.int .i64, .int .i64, .int .i64, .int .i64, .int .i64, .int .i64, .int .i64, .int .u32, .oth, .oth, .oth] 0 fun l8 =>
  o 107 [(.agg l8)] (Heap.skip H5 6) fun v9 H10 =>
  asI .i64 v9 fun n11 =>
  (ldI H10 .i64 x1 3).bind fun n12 =>
  cond (decide (n7 = n12)) (
  cond (decide (n7 < n11)) (
  κ (.tup [(.int .i64 0), (.int .i64 140)]) H10) (
  J x1 H10)) none)
theorem M59_2_ok {o : Orc} {N : Nat} {κ : Kv} {J : Kt} {J' : Nat → Heap → Ans} (hJ : ∀ x1 H, J (tmk 0 35 [(1, .ptr x1 0)]) H = J' x1 H) (x1 : Nat) (H : Heap) :
    run Tryz.prog o N (cAt Tryz.f59 [1, 0]) A59_1 (env0 Tryz.prog Tryz.f59 κ) (tmk 0 35 [(1, .ptr x1 0)]) H (kj [1] J) = M59_2 o N J' κ x1 H := by
  obtain rfl := fx2 hJ
  kernel_rfl
def M59_3 (o : Orc) (N : Nat) (J : Nat → V → Int → Int → Heap → Ans) (κ : Kv) (x1 : Nat) (H : Heap) : Ans :=
  newB H (.row [(.fn 108 []), (.fn 109 []), (.fn 110 [])]) fun i13 H14 =>
  J x1 (.sl i13 0 3 1 true) ((3 : Nat) : Int) 0 H14
theorem M59_3_ok {o : Orc} {N : Nat} {κ : Kv} {J : Kt} {J' : Nat → V → Int → Int → Heap → Ans} (hJ : ∀ x1 x18 x19 x20 H, J (tmk 0 35 [(1, .ptr x1 0), (18, x18), (19, .int .i64 x19), (20, .int .i64 x20)]) H = J' x1 x18 x19 x20 H) (x1 : Nat) (H : Heap) :
    run Tryz.prog o N (cAt Tryz.f59 [1, 1, 0, 0]) .n (env0 Tryz.prog Tryz.f59 κ) (tmk 0 35 [(1, .ptr x1 0)]) H (kj [1, 18, 19, 20] J) = M59_3 o N J' κ x1 H := by
  obtain rfl := fx5 hJ
  kernel_rfl
def M59_4 (o : Orc) (N : Nat) (X1 : Heap → Ans) (J : Nat → V → Int → Int → Heap → Ans) (κ : Kv) (x1 : Nat) (x18 : V) (x19 x20 : Int) (H : Heap) : Ans :=
  cond (decide (x20 < x19)) (
  idxS 1 x18 x20 fun p15 o16 =>
  (ldV H p15 o16).bind fun v17 =>
  ldFlat H x1 [.int .i64, .int .i64, .int .i64, .int .i64, .int .i64, .int .i64, .int .i64, .int .u32, .oth, .oth, .oth] 0 fun l18 =>
  callV o v17 [(.agg l18)] H fun v19 H20 =>
  asT2 v19 fun v21 v22 =>
  asI .i64 v21 fun n23 =>
  asI .i64 v22 fun n24 =>
  cond (n24 != 0) (
  κ (.tup [(.int .i64 n23), (.int .i64 n24)]) H20) (
  J x1 x18 x19 (IntKind.i64.wrap (x20 + 1)) H20)) (
  X1  H)
theorem M59_4_ok {o : Orc} {N : Nat} {κ : Kv} {X1 J : Kt} {X1' : Heap → Ans} {J' : Nat → V → Int → Int → Heap → Ans} (h1 : ∀  H, X1 (tmk 0 35 []) H = X1' H) (hJ : ∀ x1 x18 x19 x20 H, J (tmk 0 35 [(1, .ptr x1 0), (18, x18), (19, .int .i64 x19), (20, .int .i64 x20)]) H = J' x1 x18 x19 x20 H) (x1 : Nat) (x18 : V) (x19 x20 : Int) (H : Heap) :
    run Tryz.prog o N (cAt Tryz.f59 [1, 1, 0, 1, 4, 4]) .n ((env0 Tryz.prog Tryz.f59 κ).block 1 (kj [] X1)) (tmk 0 35 [(1, .ptr x1 0), (18, x18), (19, .int .i64 x19), (20, .int .i64 x20)]) H (kj [1, 18, 19, 20] J) = M59_4 o N X1' J' κ x1 x18 x19 x20 H := by
  obtain rfl := fx1 h1
  obtain rfl := fx5 hJ
  kernel_rfl
def M59_5 (o : Orc) (N : Nat) (X1 : Heap → Ans) (κ : Kv) (n : Nat) : Nat → V → Int → Int → Heap → Ans :=
  Nat.rec (motive := fun _ => Nat → V → Int → Int → Heap → Ans) (fun _ _ _ _ _ => none) (fun _ ih x1 x18 x19 x20 H => M59_4 o N X1 ih κ x1 x18 x19 x20 H) n
theorem M59_5_s (o : Orc) (N : Nat) (X1 : Heap → Ans) (κ : Kv) (n : Nat) (x1 : Nat) (x18 : V) (x19 x20 : Int) (H : Heap) : M59_5 o N X1 κ (n + 1) x1 x18 x19 x20 H = M59_4 o N X1 (M59_5 o N X1 κ n) κ x1 x18 x19 x20 H := rfl
theorem M59_5_ok {o : Orc} {N : Nat} {κ : Kv} {X1 : Kt} {X1' : Heap → Ans} (h1 : ∀  H, X1 (tmk 0 35 []) H = X1' H) (n : Nat) : ∀ (x1 : Nat) (x18 : V) (x19 x20 : Int) (H : Heap),
    rounds (fun a H k => run Tryz.prog o N (cAt Tryz.f59 [1, 1, 0, 1, 4, 4]) .n ((env0 Tryz.prog Tryz.f59 κ).block 1 (kj [] X1)) a H k) (some (lvOf [1, 18, 19, 20])) n (tmk 0 35 [(1, .ptr x1 0), (18, x18), (19, .int .i64 x19), (20, .int .i64 x20)]) H = M59_5 o N X1' κ n x1 x18 x19 x20 H := by
  induction n with
  | zero => intros; rfl
  | succ n ih =>
    intro x1 x18 x19 x20 H
    refine (run_round.trans ?_).trans (M59_5_s ..).symm
    exact M59_4_ok h1 ih x1 x18 x19 x20 H
def A59_6 : An := .b none (.l (some (lvOf [1, 18, 19, 20])) .n)
def A59_7 : An := .s .n (some (lvOf [1, 18, 19, 20])) A59_6
def M59_8 (o : Orc) (N : Nat) (κ : Kv) (H : Heap) : Ans :=
  κ (.tup [(.int .i64 0), (.int .i64 0)]) H
theorem M59_8_ok {o : Orc} {N : Nat} {κ : Kv} (H : Heap) :
    run Tryz.prog o N (cAt Tryz.f59 [1, 1, 1]) .n (env0 Tryz.prog Tryz.f59 κ) (tmk 0 35 []) H (env0 Tryz.prog Tryz.f59 κ).ret = M59_8 o N κ  H := by
  kernel_rfl
def A59_9 : An := .s A59_1 (some (lvOf [1])) (.s A59_7 (some (lvOf [])) .n)
def M59 (o : Orc) (N : Nat) : FnM := fun vs H κ => match vs with
  | [.agg x0] => M59_0 o N (fun x1 H => M59_2 o N (fun x1 H => M59_3 o N (fun x1 x18 x19 x20 H => M59_5 o N (fun H => M59_8 o N κ  H) κ N x1 x18 x19 x20 H) κ x1 H) κ x1 H) κ x0 H
  | _ => none
theorem M59_run (o : Orc) (N : Nat) (vs : List V) (H : Heap) (κ : Kv) (r) (h : M59 o N vs H κ = some r) : runFn Tryz.prog o N Tryz.f59 (.s .n (some (lvOf [1])) A59_9) vs H κ = some r := by
  unfold M59 at h
  split at h
  · rename_i x0
    refine (runFn_at (t := tmk 0 35 [(0, .agg x0)]) (by kernel_rfl) (by kernel_rfl)).trans (Eq.trans ?_ h)
    refine (run_seq (x := (cAt Tryz.f59 [0])) (ax := .n) (y := (cAt Tryz.f59 [1])) (ay := A59_9) (l := [1]) (by kernel_rfl) (by kernel_rfl)).trans ?_
    refine M59_0_ok ?_ x0 H
    intro x1 H
    refine (run_seq (x := (cAt Tryz.f59 [1, 0])) (ax := A59_1) (y := (cAt Tryz.f59 [1, 1])) (ay := (.s A59_7 (some (lvOf [])) .n)) (l := [1]) (by kernel_rfl) (by kernel_rfl)).trans ?_
    refine M59_2_ok ?_ x1 H
    intro x1 H
    refine (run_seq (x := (cAt Tryz.f59 [1, 1, 0])) (ax := A59_7) (y := (cAt Tryz.f59 [1, 1, 1])) (ay := .n) (l := []) (by kernel_rfl) (by kernel_rfl)).trans ?_
    refine (run_seq (x := (cAt Tryz.f59 [1, 1, 0, 0])) (ax := .n) (y := (cAt Tryz.f59 [1, 1, 0, 1])) (ay := A59_6) (l := [1, 18, 19, 20]) (by kernel_rfl) (by kernel_rfl)).trans ?_
    refine M59_3_ok ?_ x1 H
    intro x1 x18 x19 x20 H
    refine (run_block (id := 1) (x := (cAt Tryz.f59 [1, 1, 0, 1, 4])) (ax := (.l (some (lvOf [1, 18, 19, 20])) .n)) (by kernel_rfl) (by kernel_rfl)).trans ?_
    refine (run_loop (x := (cAt Tryz.f59 [1, 1, 0, 1, 4, 4])) (ax := .n) (l := [1, 18, 19, 20]) (by kernel_rfl) (by kernel_rfl) (by kernel_rfl)).trans ?_
    refine M59_5_ok ?_ N x1 x18 x19 x20 H
    intro H
    exact M59_8_ok  H
  · cases h
theorem M59_sound {o : Orc} (ho : ∀ f, FSound Tryz.prog f (o f)) (N : Nat) : FSound Tryz.prog 59 (M59 o N) :=
  FSound.sub (runFn_ok (an := (.s .n (some (lvOf [1])) A59_9)) (fuel := N) hmix ho (by kernel_rfl) (by kernel_rfl)) (M59_run o N)
/-! 60 ostinato/matrix.Rank -/
def M60_0 (o : Orc) (N : Nat) (κ : Kv) (x0 : List V) (x1 : Int) (H : Heap) : Ans :=
  cond (List.all x0 V.one) (
  newB H (.row x0) fun i1 H2 =>
  (ldV H2 i1 8).bind fun v3 =>
  o 111 [v3, (.int .i64 x1)] H2 fun v4 H5 =>
  asI .i64 v4 fun n6 =>
  κ (.int .i64 n6) H5) none
theorem M60_0_ok {o : Orc} {N : Nat} {κ : Kv} (x0 : List V) (x1 : Int) (H : Heap) :
    run Tryz.prog o N (cAt Tryz.f60 []) .n (env0 Tryz.prog Tryz.f60 κ) (tmk 0 9 [(0, .agg x0), (1, .int .i64 x1)]) H (env0 Tryz.prog Tryz.f60 κ).ret = M60_0 o N κ x0 x1 H := by
  kernel_rfl
def M60 (o : Orc) (N : Nat) : FnM := fun vs H κ => match vs with
  | [.agg x0, .int .i64 x1] => M60_0 o N κ x0 x1 H
  | _ => none
theorem M60_run (o : Orc) (N : Nat) (vs : List V) (H : Heap) (κ : Kv) (r) (h : M60 o N vs H κ = some r) : runFn Tryz.prog o N Tryz.f60 .n vs H κ = some r := by
  unfold M60 at h
  split at h
  · rename_i x0 x1
    refine (runFn_at (t := tmk 0 9 [(0, .agg x0), (1, .int .i64 x1)]) (by kernel_rfl) (by kernel_rfl)).trans (Eq.trans ?_ h)
    exact M60_0_ok x0 x1 H
  · cases h
theorem M60_sound {o : Orc} (ho : ∀ f, FSound Tryz.prog f (o f)) (N : Nat) : FSound Tryz.prog 60 (M60 o N) :=
  FSound.sub (runFn_ok (an := .n) (fuel := N) hmix ho (by kernel_rfl) (by kernel_rfl)) (M60_run o N)
/-! 61 ostinato/clock.New -/
def M61_0 (o : Orc) (N : Nat) (κ : Kv) (x0 : Int) (H : Heap) : Ans :=
  newB H (.row [(.int .i64 (if 64 < (if 1 > x0 then 1 else x0) then 64 else (if 1 > x0 then 1 else x0))), (.int .i64 (IntKind.i64.wrap ((if 64 < (if 1 > x0 then 1 else x0) then 64 else (if 1 > x0 then 1 else x0)) * 256))), (.int .i64 0), (.int .u16 0)]) fun i1 H2 =>
  κ (.ptr i1 0) H2
theorem M61_0_ok {o : Orc} {N : Nat} {κ : Kv} (x0 : Int) (H : Heap) :
    run Tryz.prog o N (cAt Tryz.f61 []) .n (env0 Tryz.prog Tryz.f61 κ) (tmk 0 12 [(0, .int .i64 x0)]) H (env0 Tryz.prog Tryz.f61 κ).ret = M61_0 o N κ x0 H := by
  kernel_rfl
def M61 (o : Orc) (N : Nat) : FnM := fun vs H κ => match vs with
  | [.int .i64 x0] => M61_0 o N κ x0 H
  | _ => none
theorem M61_run (o : Orc) (N : Nat) (vs : List V) (H : Heap) (κ : Kv) (r) (h : M61 o N vs H κ = some r) : runFn Tryz.prog o N Tryz.f61 .n vs H κ = some r := by
  unfold M61 at h
  split at h
  · rename_i x0
    refine (runFn_at (t := tmk 0 12 [(0, .int .i64 x0)]) (by kernel_rfl) (by kernel_rfl)).trans (Eq.trans ?_ h)
    exact M61_0_ok x0 H
  · cases h
theorem M61_sound {o : Orc} (ho : ∀ f, FSound Tryz.prog f (o f)) (N : Nat) : FSound Tryz.prog 61 (M61 o N) :=
  FSound.sub (runFn_ok (an := .n) (fuel := N) hmix ho (by kernel_rfl) (by kernel_rfl)) (M61_run o N)
/-! 62 ostinato/mac.New -/
def M62_0 (o : Orc) (N : Nat) (κ : Kv) (H : Heap) : Ans :=
  newB H (.row [(.int .i64 6), (.int .i64 3), (.int .i64 0), (.int .i64 0), (.bool false), (.bool false), (.int .u32 0), (.bool false), (.str []), (.bool false), (.str []), (.int .i64 0), (.int .i64 0), (.int .u8 0), (.int .i64 0), (.int .u8 0), (.int .u8 0), (.int .u8 0), (.int .u8 0), (.int .u8 0), (.int .u8 0), (.int .u8 0), (.int .u8 0), (.int .u8 0), (.int .u8 0), (.int .u8 0), (.int .u8 0), (.int .u8 0), (.int .u8 0), (.int .u8 0), (.int .u8 0), (.int .u8 0), (.int .u8 0), (.int .u8 0), (.int .u8 0), (.int .u8 0), (.int .u8 0), (.int .u8 0), (.int .u8 0), (.int .u8 0), (.int .u8 0), (.int .u8 0), (.int .u8 0), (.int .u8 0), (.int .u8 0), (.int .u8 0), (.int .u8 0), (.int .u8 0), (.int .u8 0), (.int .u8 0), (.int .u8 0), (.int .u8 0), (.int .u8 0), (.int .u8 0), (.int .u8 0), (.int .u8 0), (.int .u8 0), (.int .u8 0), (.int .u8 0), (.int .u8 0), (.int .u8 0), (.int .u8 0), (.int .u8 0), (.int .u8 0), (.int .u8 0), (.int .u8 0), (.int .u8 0), (.int .u8 0), (.int .u8 0), (.int .u8 0), (.int .u8 0), (.int .u8 0), (.int .u8 0), (.int .u8 0), (.int .u8 0), (.int .u8 0), (.int .u8 0), (.int .u8 0), (.int .u8 0), (.int .u8 0), (.int .u8 0), (.int .u8 0), (.int .u8 0), (.int .u8 0), (.int .u8 0), (.int .u8 0), (.int .u8 0), (.int .u8 0), (.int .u8 0), (.int .u8 0), (.int .u8 0), (.int .u8 0), (.int .u8 0), (.int .u8 0), (.int .u8 0), (.int .u8 0), (.int .u8 0), (.int .u8 0), (.int .u8 0), (.int .u8 0), (.int .u8 0), (.int .u8 0), (.int .u8 0), (.int .u8 0), (.int .u8 0), (.int .u8 0), (.int .u8 0), (.int .u8 0), (.int .u8 0), (.int .u8 0), (.int .u8 0), (.int .u8 0), (.int .u8 0), (.int .u8 0), (.int .u8 0), (.int .u8 0), (.int .u8 0), (.int .u8 0), (.int .u8 0), (.int .u8 0), (.int .u8 0), (.int .u8 0), (.int .u8 0), (.int .u8 0), (.int .u8 0), (.int .u8 0), (.int .u8 0), (.int .u8 0), (.int .u8 0), (.int .u8 0), (.int .u8 0), (.int .u8 0), (.int .u8 0), (.int .u8 0), (.int .u8 0), (.int .u8 0), (.int .u8 0), (.int .u8 0), (.int .u8 0), (.int .u8 0), (.int .u8 0), (.int .u8 0), (.int .u8 0), (.int .i64 0), (.int .i64 0), (.int .u16 0), (.int .i64 0), (.bool false)]) fun i1 H2 =>
  κ (.ptr i1 0) H2
theorem M62_0_ok {o : Orc} {N : Nat} {κ : Kv} (H : Heap) :
    run Tryz.prog o N (cAt Tryz.f62 []) .n (env0 Tryz.prog Tryz.f62 κ) (tmk 0 3 []) H (env0 Tryz.prog Tryz.f62 κ).ret = M62_0 o N κ  H := by
  kernel_rfl
def M62 (o : Orc) (N : Nat) : FnM := fun vs H κ => match vs with
  | [] => M62_0 o N κ  H
  | _ => none
theorem M62_run (o : Orc) (N : Nat) (vs : List V) (H : Heap) (κ : Kv) (r) (h : M62 o N vs H κ = some r) : runFn Tryz.prog o N Tryz.f62 .n vs H κ = some r := by
  unfold M62 at h
  split at h
  · refine (runFn_at (t := tmk 0 3 []) (by kernel_rfl) (by kernel_rfl)).trans (Eq.trans ?_ h)
    exact M62_0_ok  H
  · cases h
theorem M62_sound {o : Orc} (ho : ∀ f, FSound Tryz.prog f (o f)) (N : Nat) : FSound Tryz.prog 62 (M62 o N) :=
  FSound.sub (runFn_ok (an := .n) (fuel := N) hmix ho (by kernel_rfl) (by kernel_rfl)) (M62_run o N)
/-! 63 ostinato/mark.New -/
def M63_0 (o : Orc) (N : Nat) (κ : Kv) (H : Heap) : Ans :=
  newB H (.row [(.int .u16 0), (.int .i64 0), (.int .u16 0), (.int .i64 0), (.int .i64 0)]) fun i1 H2 =>
  κ (.ptr i1 0) H2
theorem M63_0_ok {o : Orc} {N : Nat} {κ : Kv} (H : Heap) :
    run Tryz.prog o N (cAt Tryz.f63 []) .n (env0 Tryz.prog Tryz.f63 κ) (tmk 0 3 []) H (env0 Tryz.prog Tryz.f63 κ).ret = M63_0 o N κ  H := by
  kernel_rfl
def M63 (o : Orc) (N : Nat) : FnM := fun vs H κ => match vs with
  | [] => M63_0 o N κ  H
  | _ => none
theorem M63_run (o : Orc) (N : Nat) (vs : List V) (H : Heap) (κ : Kv) (r) (h : M63 o N vs H κ = some r) : runFn Tryz.prog o N Tryz.f63 .n vs H κ = some r := by
  unfold M63 at h
  split at h
  · refine (runFn_at (t := tmk 0 3 []) (by kernel_rfl) (by kernel_rfl)).trans (Eq.trans ?_ h)
    exact M63_0_ok  H
  · cases h
theorem M63_sound {o : Orc} (ho : ∀ f, FSound Tryz.prog f (o f)) (N : Nat) : FSound Tryz.prog 63 (M63 o N) :=
  FSound.sub (runFn_ok (an := .n) (fuel := N) hmix ho (by kernel_rfl) (by kernel_rfl)) (M63_run o N)
/-! 64 ostinato/global.New -/
def M64_0 (o : Orc) (N : Nat) (κ : Kv) (H : Heap) : Ans :=
  newB H (.row [(.int .i64 0), (.int .u16 0), (.int .u16 0), (.int .i64 0), (.int .u16 0), (.int .u16 0), (.int .i64 0)]) fun i1 H2 =>
  κ (.ptr i1 0) H2
theorem M64_0_ok {o : Orc} {N : Nat} {κ : Kv} (H : Heap) :
    run Tryz.prog o N (cAt Tryz.f64 []) .n (env0 Tryz.prog Tryz.f64 κ) (tmk 0 3 []) H (env0 Tryz.prog Tryz.f64 κ).ret = M64_0 o N κ  H := by
  kernel_rfl
def M64 (o : Orc) (N : Nat) : FnM := fun vs H κ => match vs with
  | [] => M64_0 o N κ  H
  | _ => none
theorem M64_run (o : Orc) (N : Nat) (vs : List V) (H : Heap) (κ : Kv) (r) (h : M64 o N vs H κ = some r) : runFn Tryz.prog o N Tryz.f64 .n vs H κ = some r := by
  unfold M64 at h
  split at h
  · refine (runFn_at (t := tmk 0 3 []) (by kernel_rfl) (by kernel_rfl)).trans (Eq.trans ?_ h)
    exact M64_0_ok  H
  · cases h
theorem M64_sound {o : Orc} (ho : ∀ f, FSound Tryz.prog f (o f)) (N : Nat) : FSound Tryz.prog 64 (M64 o N) :=
  FSound.sub (runFn_ok (an := .n) (fuel := N) hmix ho (by kernel_rfl) (by kernel_rfl)) (M64_run o N)
/-! 65 ostinato/object.New -/
def M65_0 (o : Orc) (N : Nat) (κ : Kv) (x0 : List V) (x1 : Int) (H : Heap) : Ans :=
  cond (List.all x0 V.one) (
  newB H (.row x0) fun i1 H2 =>
  ldFlat H2 i1 [.int .i64, .int .i64, .int .i64, .int .i64, .int .i64, .int .i64, .int .i64, .int .u32, .oth, .oth, .oth] 0 fun l3 =>
  o 112 [(.agg l3)] H2 fun v4 H5 =>
  asA v4 fun l6 =>
  newB H5 (.map []) fun i7 H8 =>
  newB H8 (.map []) fun i9 H10 =>
  o 113 [(.int .i64 4)] H10 fun v11 H12 =>
  (fillV (nth [(0, 11), (11, 1), (12, 1), (13, 1), (14, 1)]) [(.int .i64 0), (.int .i64 0), (.int .i64 0), (.int .i64 0), (.int .i64 0), (.int .i64 0), (.int .i64 0), (.int .u32 0), .nils, .nils, .nils, (.int .i64 0), .nilm, .nilm, .nilp] [(0, (.agg l6)), (1, (.int .i64 x1)), (2, (.map i7)), (3, (.map i9)), (4, v11)]).bind fun l13 =>
  cond (List.all l13 V.one) (
  newB H12 (.row l13) fun i14 H15 =>
  κ (.ptr i14 0) H15) none) none
theorem M65_0_ok {o : Orc} {N : Nat} {κ : Kv} (x0 : List V) (x1 : Int) (H : Heap) :
    run Tryz.prog o N (cAt Tryz.f65 []) .n (env0 Tryz.prog Tryz.f65 κ) (tmk 0 13 [(0, .agg x0), (1, .int .i64 x1)]) H (env0 Tryz.prog Tryz.f65 κ).ret = M65_0 o N κ x0 x1 H := by
  kernel_rfl
def M65 (o : Orc) (N : Nat) : FnM := fun vs H κ => match vs with
  | [.agg x0, .int .i64 x1] => M65_0 o N κ x0 x1 H
  | _ => none
theorem M65_run (o : Orc) (N : Nat) (vs : List V) (H : Heap) (κ : Kv) (r) (h : M65 o N vs H κ = some r) : runFn Tryz.prog o N Tryz.f65 .n vs H κ = some r := by
  unfold M65 at h
  split at h
  · rename_i x0 x1
    refine (runFn_at (t := tmk 0 13 [(0, .agg x0), (1, .int .i64 x1)]) (by kernel_rfl) (by kernel_rfl)).trans (Eq.trans ?_ h)
    exact M65_0_ok x0 x1 H
  · cases h
theorem M65_sound {o : Orc} (ho : ∀ f, FSound Tryz.prog f (o f)) (N : Nat) : FSound Tryz.prog 65 (M65 o N) :=
  FSound.sub (runFn_ok (an := .n) (fuel := N) hmix ho (by kernel_rfl) (by kernel_rfl)) (M65_run o N)
/-! 66 ostinato/status.New -/
def M66_0 (o : Orc) (N : Nat) (κ : Kv) (x0 : Int) (H : Heap) : Ans :=
  cond (decide (0 ≤ (if 12 < (if 0 > x0 then 0 else x0) then 12 else (if 0 > x0 then 0 else x0))) && decide ((if 12 < (if 0 > x0 then 0 else x0) then 12 else (if 0 > x0 then 0 else x0)) ≤ (if 12 < (if 0 > x0 then 0 else x0) then 12 else (if 0 > x0 then 0 else x0))) && decide ((if 12 < (if 0 > x0 then 0 else x0) then 12 else (if 0 > x0 then 0 else x0)) ≤ 4294967296) && Nat.ble 8 1024 && Nat.blt 0 1) (
  newB H (.row (List.flatten (List.replicate (Int.toNat (if 12 < (if 0 > x0 then 0 else x0) then 12 else (if 0 > x0 then 0 else x0))) [(.int .i64 0)]))) fun i1 H2 =>
  newB H2 (.row [(.sl i1 0 (Int.toNat (if 12 < (if 0 > x0 then 0 else x0) then 12 else (if 0 > x0 then 0 else x0))) 1 true)]) fun i3 H4 =>
  κ (.ptr i3 0) H4) none
theorem M66_0_ok {o : Orc} {N : Nat} {κ : Kv} (x0 : Int) (H : Heap) :
    run Tryz.prog o N (cAt Tryz.f66 []) .n (env0 Tryz.prog Tryz.f66 κ) (tmk 0 9 [(0, .int .i64 x0)]) H (env0 Tryz.prog Tryz.f66 κ).ret = M66_0 o N κ x0 H := by
  kernel_rfl
def M66 (o : Orc) (N : Nat) : FnM := fun vs H κ => match vs with
  | [.int .i64 x0] => M66_0 o N κ x0 H
  | _ => none
theorem M66_run (o : Orc) (N : Nat) (vs : List V) (H : Heap) (κ : Kv) (r) (h : M66 o N vs H κ = some r) : runFn Tryz.prog o N Tryz.f66 .n vs H κ = some r := by
  unfold M66 at h
  split at h
  · rename_i x0
    refine (runFn_at (t := tmk 0 9 [(0, .int .i64 x0)]) (by kernel_rfl) (by kernel_rfl)).trans (Eq.trans ?_ h)
    exact M66_0_ok x0 H
  · cases h
theorem M66_sound {o : Orc} (ho : ∀ f, FSound Tryz.prog f (o f)) (N : Nat) : FSound Tryz.prog 66 (M66 o N) :=
  FSound.sub (runFn_ok (an := .n) (fuel := N) hmix ho (by kernel_rfl) (by kernel_rfl)) (M66_run o N)
/-! 67 ostinato/master.New -/
def M67_0 (o : Orc) (N : Nat) (κ : Kv) (x0 : Int) (H : Heap) : Ans :=
  o 114 [] H fun v1 H2 =>
  asA v1 fun l3 =>
  (fillV (nth [(0, 1), (1, 2)]) [(.int .i64 0), (.int .i64 0), (.int .i64 0)] [(0, (.int .i64 (if -1 > x0 then -1 else x0))), (1, (.agg l3))]).bind fun l4 =>
  cond (List.all l4 V.one) (
  newB H2 (.row l4) fun i5 H6 =>
  κ (.ptr i5 0) H6) none
theorem M67_0_ok {o : Orc} {N : Nat} {κ : Kv} (x0 : Int) (H : Heap) :
    run Tryz.prog o N (cAt Tryz.f67 []) .n (env0 Tryz.prog Tryz.f67 κ) (tmk 0 8 [(0, .int .i64 x0)]) H (env0 Tryz.prog Tryz.f67 κ).ret = M67_0 o N κ x0 H := by
  kernel_rfl
def M67 (o : Orc) (N : Nat) : FnM := fun vs H κ => match vs with
  | [.int .i64 x0] => M67_0 o N κ x0 H
  | _ => none
theorem M67_run (o : Orc) (N : Nat) (vs : List V) (H : Heap) (κ : Kv) (r) (h : M67 o N vs H κ = some r) : runFn Tryz.prog o N Tryz.f67 .n vs H κ = some r := by
  unfold M67 at h
  split at h
  · rename_i x0
    refine (runFn_at (t := tmk 0 8 [(0, .int .i64 x0)]) (by kernel_rfl) (by kernel_rfl)).trans (Eq.trans ?_ h)
    exact M67_0_ok x0 H
  · cases h
theorem M67_sound {o : Orc} (ho : ∀ f, FSound Tryz.prog f (o f)) (N : Nat) : FSound Tryz.prog 67 (M67 o N) :=
  FSound.sub (runFn_ok (an := .n) (fuel := N) hmix ho (by kernel_rfl) (by kernel_rfl)) (M67_run o N)
/-! 68 ostinato/sched.New -/
def M68_0 (o : Orc) (N : Nat) (κ : Kv) (x0 : List V) (x1 : Int) (H : Heap) : Ans :=
  cond (List.all x0 V.one) (
  newB H (.row x0) fun i1 H2 =>
  ldFlat H2 i1 [.int .i64, .int .i64, .int .i64, .int .i64, .int .i64, .int .i64, .int .i64, .int .u32, .oth, .oth, .oth] 0 fun l3 =>
  o 115 [(.agg l3), (.int .i64 x1)] H2 fun v4 H5 =>
  (fillV (nth [(0, 1), (1, 1), (2, 1), (3, 6), (9, 1)]) [.nils, (.int .i64 0), (.int .i64 0), (.int .i64 0), (.int .i64 0), (.int .i64 0), (.int .i64 0), (.int .i64 0), (.int .i64 0), (.bool false)] [(0, v4), (2, (.int .i64 (-1)))]).bind fun l6 =>
  cond (List.all l6 V.one) (
  newB H5 (.row l6) fun i7 H8 =>
  κ (.ptr i7 0) H8) none) none
theorem M68_0_ok {o : Orc} {N : Nat} {κ : Kv} (x0 : List V) (x1 : Int) (H : Heap) :
    run Tryz.prog o N (cAt Tryz.f68 []) .n (env0 Tryz.prog Tryz.f68 κ) (tmk 0 10 [(0, .agg x0), (1, .int .i64 x1)]) H (env0 Tryz.prog Tryz.f68 κ).ret = M68_0 o N κ x0 x1 H := by
  kernel_rfl
def M68 (o : Orc) (N : Nat) : FnM := fun vs H κ => match vs with
  | [.agg x0, .int .i64 x1] => M68_0 o N κ x0 x1 H
  | _ => none
theorem M68_run (o : Orc) (N : Nat) (vs : List V) (H : Heap) (κ : Kv) (r) (h : M68 o N vs H κ = some r) : runFn Tryz.prog o N Tryz.f68 .n vs H κ = some r := by
  unfold M68 at h
  split at h
  · rename_i x0 x1
    refine (runFn_at (t := tmk 0 10 [(0, .agg x0), (1, .int .i64 x1)]) (by kernel_rfl) (by kernel_rfl)).trans (Eq.trans ?_ h)
    exact M68_0_ok x0 x1 H
  · cases h
theorem M68_sound {o : Orc} (ho : ∀ f, FSound Tryz.prog f (o f)) (N : Nat) : FSound Tryz.prog 68 (M68 o N) :=
  FSound.sub (runFn_ok (an := .n) (fuel := N) hmix ho (by kernel_rfl) (by kernel_rfl)) (M68_run o N)
/-! 69 ostinato/ostinatoref12.Is -/
def M69_0 (o : Orc) (N : Nat) (J : Nat → Heap → Ans) (κ : Kv) (x0 : List V) (H : Heap) : Ans :=
  cond (List.all x0 V.one) (
  newB H (.row x0) fun i1 H2 =>
  J i1 H2) none
theorem M69_0_ok {o : Orc} {N : Nat} {κ : Kv} {J : Kt} {J' : Nat → Heap → Ans} (hJ : ∀ x1 H, J (tmk 0 185 [(1, .ptr x1 0)]) H = J' x1 H) (x0 : List V) (H : Heap) :
    run Tryz.prog o N (cAt Tryz.f69 [0]) .n (env0 Tryz.prog Tryz.f69 κ) (tmk 0 185 [(0, .agg x0)]) H (kj [1] J) = M69_0 o N J' κ x0 H := by
  obtain rfl := fx2 hJ
  kernel_rfl
def M69_1 (o : Orc) (N : Nat) (J : Nat → Bool → Heap → Ans) (κ : Kv) (x1 : Nat) (H : Heap) : Ans :=
  (ldI H .i64 x1 0).bind fun n3 =>
  o 116 [(.int .i64 n3), (.int .i64 1), (.int .i64 2)] H fun v4 H5 =>
  asB v4 fun b6 =>
  cond (!b6) (
  J x1 true H5) (
  (ldI H5 .i64 x1 1).bind fun n7 =>
  o 116 [(.int .i64 n7), (.int .i64 1), (.int .i64 8)] H5 fun v8 H9 =>
  asB v8 fun b10 =>
  cond (!b10) (
  J x1 true H9) (
  (ldI H9 .i64 x1 2).bind fun n11 =>
  o 117 [(.int .i64 n11), (.int .i64 8)] H9 fun v12 H13 =>
  asB v12 fun b14 =>
  cond (!b14) (
  J x1 true H13) (
  (ldI H13 .i64 x1 3).bind fun n15 =>
  o 116 [(.int .i64 n15), (.int .i64 1), (.int .i64 4000)] H13 fun v16 H17 =>
  asB v16 fun b18 =>
  cond (!b18) (
  J x1 true H17) (
  (ldI H17 .i64 x1 4).bind fun n19 =>
  o 116 [(.int .i64 n19), (.int .i64 1), (.int .i64 16)] H17 fun v20 H21 =>
  asB v20 fun b22 =>
  cond (!b22) (
  J x1 true H21) (
  (ldI H21 .i64 x1 5).bind fun n23 =>
  o 116 [(.int .i64 n23), (.int .i64 1), (.int .i64 64)] H21 fun v24 H25 =>
  asB v24 fun b26 =>
  cond (!b26) (
  J x1 true H25) (
  (ldI H25 .i64 x1 6).bind fun n27 =>
  o 116 [(.int .i64 n27), (.int .i64 0), (.int .i64 8000)] H25 fun v28 H29 =>
  asB v28 fun b30 =>
  J x1 (!b30) H29))))))
theorem M69_1_ok {o : Orc} {N : Nat} {κ : Kv} {J : Kt} {J' : Nat → Bool → Heap → Ans} (hJ : ∀ x1 x46 H, J (tmk 0 185 [(1, .ptr x1 0), (46, .bool x46)]) H = J' x1 x46 H) (x1 : Nat) (H : Heap) :
    run Tryz.prog o N (cAt Tryz.f69 [1, 0, 0]) .n (env0 Tryz.prog Tryz.f69 κ) (tmk 0 185 [(1, .ptr x1 0)]) H (kj [1, 46] J) = M69_1 o N J' κ x1 H := by
  obtain rfl := fx3 hJ
  kernel_rfl
def M69_2 (o : Orc) (N : Nat) (J : Nat → Heap → Ans) (κ : Kv) (x1 : Nat) (x46 : Bool) (H : Heap) : Ans :=
  cond x46 (
  κ (.bool false) H) (
  J x1 H)
theorem M69_2_ok {o : Orc} {N : Nat} {κ : Kv} {J : Kt} {J' : Nat → Heap → Ans} (hJ : ∀ x1 H, J (tmk 0 185 [(1, .ptr x1 0)]) H = J' x1 H) (x1 : Nat) (x46 : Bool) (H : Heap) :
    run Tryz.prog o N (cAt Tryz.f69 [1, 0, 1]) .n (env0 Tryz.prog Tryz.f69 κ) (tmk 0 185 [(1, .ptr x1 0), (46, .bool x46)]) H (kj [1] J) = M69_2 o N J' κ x1 x46 H := by
  obtain rfl := fx2 hJ
  kernel_rfl
def M69_3 (o : Orc) (N : Nat) (J : Nat → Bool → Heap → Ans) (κ : Kv) (x1 : Nat) (H : Heap) : Ans :=
  (ldI H .u32 x1 7).bind fun n31 =>
  cond (decide (n31 ≥ 2048)) (
  J x1 true H) (
  (ldI H .u32 x1 7).bind fun n32 =>
  cond ((Int.tmod n32 8) != 0) (
  J x1 true H) (
  (ldV H x1 8).bind fun v33 =>
  lenS v33 fun n34 =>
  o 116 [(.int .i64 n34), (.int .i64 1), (.int .i64 4)] H fun v35 H36 =>
  asB v35 fun b37 =>
  cond (!b37) (
  J x1 true H36) (
  (ldV H36 x1 9).bind fun v38 =>
  lenS v38 fun n39 =>
  cond (decide (n39 > 12)) (
  J x1 true H36) (
  (ldV H36 x1 10).bind fun v40 =>
  lenS v40 fun n41 =>
  J x1 (decide (n41 > 16)) H36))))
theorem M69_3_ok {o : Orc} {N : Nat} {κ : Kv} {J : Kt} {J' : Nat → Bool → Heap → Ans} (hJ : ∀ x1 x74 H, J (tmk 0 185 [(1, .ptr x1 0), (74, .bool x74)]) H = J' x1 x74 H) (x1 : Nat) (H : Heap) :
    run Tryz.prog o N (cAt Tryz.f69 [1, 1, 0, 0]) .n (env0 Tryz.prog Tryz.f69 κ) (tmk 0 185 [(1, .ptr x1 0)]) H (kj [1, 74] J) = M69_3 o N J' κ x1 H := by
  obtain rfl := fx3 hJ
  kernel_rfl
def M69_4 (o : Orc) (N : Nat) (J : Nat → Heap → Ans) (κ : Kv) (x1 : Nat) (x74 : Bool) (H : Heap) : Ans :=
  cond x74 (
  κ (.bool false) H) (
  J x1 H)
theorem M69_4_ok {o : Orc} {N : Nat} {κ : Kv} {J : Kt} {J' : Nat → Heap → Ans} (hJ : ∀ x1 H, J (tmk 0 185 [(1, .ptr x1 0)]) H = J' x1 H) (x1 : Nat) (x74 : Bool) (H : Heap) :
    run Tryz.prog o N (cAt Tryz.f69 [1, 1, 0, 1]) .n (env0 Tryz.prog Tryz.f69 κ) (tmk 0 185 [(1, .ptr x1 0), (74, .bool x74)]) H (kj [1] J) = M69_4 o N J' κ x1 x74 H := by
  obtain rfl := fx2 hJ
  kernel_rfl
def M69_5 (o : Orc) (N : Nat) (J : Nat → Int → Heap → Ans) (κ : Kv) (x1 : Nat) (H : Heap) : Ans :=
  J x1 0 H
theorem M69_5_ok {o : Orc} {N : Nat} {κ : Kv} {J : Kt} {J' : Nat → Int → Heap → Ans} (hJ : ∀ x1 x3 H, J (tmk 0 185 [(1, .ptr x1 0), (3, .int .i64 x3)]) H = J' x1 x3 H) (x1 : Nat) (H : Heap) :
    run Tryz.prog o N (cAt Tryz.f69 [1, 1, 1, 0, 0]) .n (env0 Tryz.prog Tryz.f69 κ) (tmk 0 185 [(1, .ptr x1 0)]) H (kj [1, 3] J) = M69_5 o N J' κ x1 H := by
  obtain rfl := fx3 hJ
  kernel_rfl
def M69_6 (o : Orc) (N : Nat) (X0 : Nat → Heap → Ans) (J : Nat → Int → Heap → Ans) (κ : Kv) (x1 : Nat) (x3 : Int) (H : Heap) : Ans :=
  (ldV H x1 8).bind fun v42 =>
  lenS v42 fun n43 =>
  cond (decide (x3 < n43)) (
  (ldV H x1 8).bind fun v44 =>
  idxS 1 v44 x3 fun p45 o46 =>
  (ldI H .i64 p45 o46).bind fun n47 =>
  o 116 [(.int .i64 n47), (.int .i64 0), (.int .i64 99)] H fun v48 H49 =>
  asB v48 fun b50 =>
  cond (!b50) (
  κ (.bool false) H49) (
  J x1 (IntKind.i64.wrap (x3 + 1)) H49)) (
  X0 x1 H)
theorem M69_6_ok {o : Orc} {N : Nat} {κ : Kv} {X0 J : Kt} {X0' : Nat → Heap → Ans} {J' : Nat → Int → Heap → Ans} (h0 : ∀ x1 H, X0 (tmk 0 185 [(1, .ptr x1 0)]) H = X0' x1 H) (hJ : ∀ x1 x3 H, J (tmk 0 185 [(1, .ptr x1 0), (3, .int .i64 x3)]) H = J' x1 x3 H) (x1 : Nat) (x3 : Int) (H : Heap) :
    run Tryz.prog o N (cAt Tryz.f69 [1, 1, 1, 0, 1, 4, 4]) .n ((env0 Tryz.prog Tryz.f69 κ).block 0 (kj [1] X0)) (tmk 0 185 [(1, .ptr x1 0), (3, .int .i64 x3)]) H (kj [1, 3] J) = M69_6 o N X0' J' κ x1 x3 H := by
  obtain rfl := fx2 h0
  obtain rfl := fx3 hJ
  kernel_rfl
def M69_7 (o : Orc) (N : Nat) (X0 : Nat → Heap → Ans) (κ : Kv) (n : Nat) : Nat → Int → Heap → Ans :=
  Nat.rec (motive := fun _ => Nat → Int → Heap → Ans) (fun _ _ _ => none) (fun _ ih x1 x3 H => M69_6 o N X0 ih κ x1 x3 H) n
theorem M69_7_s (o : Orc) (N : Nat) (X0 : Nat → Heap → Ans) (κ : Kv) (n : Nat) (x1 : Nat) (x3 : Int) (H : Heap) : M69_7 o N X0 κ (n + 1) x1 x3 H = M69_6 o N X0 (M69_7 o N X0 κ n) κ x1 x3 H := rfl
theorem M69_7_ok {o : Orc} {N : Nat} {κ : Kv} {X0 : Kt} {X0' : Nat → Heap → Ans} (h0 : ∀ x1 H, X0 (tmk 0 185 [(1, .ptr x1 0)]) H = X0' x1 H) (n : Nat) : ∀ (x1 : Nat) (x3 : Int) (H : Heap),
    rounds (fun a H k => run Tryz.prog o N (cAt Tryz.f69 [1, 1, 1, 0, 1, 4, 4]) .n ((env0 Tryz.prog Tryz.f69 κ).block 0 (kj [1] X0)) a H k) (some (lvOf [1, 3])) n (tmk 0 185 [(1, .ptr x1 0), (3, .int .i64 x3)]) H = M69_7 o N X0' κ n x1 x3 H := by
  induction n with
  | zero => intros; rfl
  | succ n ih =>
    intro x1 x3 H
    refine (run_round.trans ?_).trans (M69_7_s ..).symm
    exact M69_6_ok h0 ih x1 x3 H
def A69_8 : An := .s .n (some (lvOf [1, 3])) (.b none (.l (some (lvOf [1, 3])) .n))
def M69_9 (o : Orc) (N : Nat) (J : Nat → Int → Heap → Ans) (κ : Kv) (x1 : Nat) (H : Heap) : Ans :=
  J x1 0 H
theorem M69_9_ok {o : Orc} {N : Nat} {κ : Kv} {J : Kt} {J' : Nat → Int → Heap → Ans} (hJ : ∀ x1 x4 H, J (tmk 0 185 [(1, .ptr x1 0), (4, .int .i64 x4)]) H = J' x1 x4 H) (x1 : Nat) (H : Heap) :
    run Tryz.prog o N (cAt Tryz.f69 [1, 1, 1, 1, 0, 0]) .n (env0 Tryz.prog Tryz.f69 κ) (tmk 0 185 [(1, .ptr x1 0)]) H (kj [1, 4] J) = M69_9 o N J' κ x1 H := by
  obtain rfl := fx3 hJ
  kernel_rfl
def M69_10 (o : Orc) (N : Nat) (X2 : Nat → Heap → Ans) (J : Nat → Int → Heap → Ans) (κ : Kv) (x1 : Nat) (x4 : Int) (H : Heap) : Ans :=
  (ldV H x1 9).bind fun v51 =>
  lenS v51 fun n52 =>
  cond (decide (x4 < n52)) (
  (ldV H x1 9).bind fun v53 =>
  idxS 3 v53 x4 fun p54 o55 =>
  (ldI H .u32 p54 (o55 + 0)).bind fun n56 =>
  cond (decide (n56 ≥ 2048)) (
  κ (.bool false) H) (
  (ldV H x1 9).bind fun v57 =>
  idxS 3 v57 x4 fun p58 o59 =>
  (ldI H .i64 p58 (o59 + 1)).bind fun n60 =>
  o 116 [(.int .i64 n60), (.int .i64 0), (.int .i64 99)] H fun v61 H62 =>
  asB v61 fun b63 =>
  cond (!b63) (
  κ (.bool false) H62) (
  J x1 (IntKind.i64.wrap (x4 + 1)) H62))) (
  X2 x1 H)
theorem M69_10_ok {o : Orc} {N : Nat} {κ : Kv} {X2 J : Kt} {X2' : Nat → Heap → Ans} {J' : Nat → Int → Heap → Ans} (h2 : ∀ x1 H, X2 (tmk 0 185 [(1, .ptr x1 0)]) H = X2' x1 H) (hJ : ∀ x1 x4 H, J (tmk 0 185 [(1, .ptr x1 0), (4, .int .i64 x4)]) H = J' x1 x4 H) (x1 : Nat) (x4 : Int) (H : Heap) :
    run Tryz.prog o N (cAt Tryz.f69 [1, 1, 1, 1, 0, 1, 4, 4]) .n ((env0 Tryz.prog Tryz.f69 κ).block 2 (kj [1] X2)) (tmk 0 185 [(1, .ptr x1 0), (4, .int .i64 x4)]) H (kj [1, 4] J) = M69_10 o N X2' J' κ x1 x4 H := by
  obtain rfl := fx2 h2
  obtain rfl := fx3 hJ
  kernel_rfl
def M69_11 (o : Orc) (N : Nat) (X2 : Nat → Heap → Ans) (κ : Kv) (n : Nat) : Nat → Int → Heap → Ans :=
  Nat.rec (motive := fun _ => Nat → Int → Heap → Ans) (fun _ _ _ => none) (fun _ ih x1 x4 H => M69_10 o N X2 ih κ x1 x4 H) n
theorem M69_11_s (o : Orc) (N : Nat) (X2 : Nat → Heap → Ans) (κ : Kv) (n : Nat) (x1 : Nat) (x4 : Int) (H : Heap) : M69_11 o N X2 κ (n + 1) x1 x4 H = M69_10 o N X2 (M69_11 o N X2 κ n) κ x1 x4 H := rfl
theorem M69_11_ok {o : Orc} {N : Nat} {κ : Kv} {X2 : Kt} {X2' : Nat → Heap → Ans} (h2 : ∀ x1 H, X2 (tmk 0 185 [(1, .ptr x1 0)]) H = X2' x1 H) (n : Nat) : ∀ (x1 : Nat) (x4 : Int) (H : Heap),
    rounds (fun a H k => run Tryz.prog o N (cAt Tryz.f69 [1, 1, 1, 1, 0, 1, 4, 4]) .n ((env0 Tryz.prog Tryz.f69 κ).block 2 (kj [1] X2)) a H k) (some (lvOf [1, 4])) n (tmk 0 185 [(1, .ptr x1 0), (4, .int .i64 x4)]) H = M69_11 o N X2' κ n x1 x4 H := by
  induction n with
  | zero => intros; rfl
  | succ n ih =>
    intro x1 x4 H
    refine (run_round.trans ?_).trans (M69_11_s ..).symm
    exact M69_10_ok h2 ih x1 x4 H
def A69_12 : An := .s .n (some (lvOf [1, 4])) (.b none (.l (some (lvOf [1, 4])) .n))
def M69_13 (o : Orc) (N : Nat) (J : Nat → Int → Heap → Ans) (κ : Kv) (x1 : Nat) (H : Heap) : Ans :=
  J x1 0 H
theorem M69_13_ok {o : Orc} {N : Nat} {κ : Kv} {J : Kt} {J' : Nat → Int → Heap → Ans} (hJ : ∀ x1 x5 H, J (tmk 0 185 [(1, .ptr x1 0), (5, .int .i64 x5)]) H = J' x1 x5 H) (x1 : Nat) (H : Heap) :
    run Tryz.prog o N (cAt Tryz.f69 [1, 1, 1, 1, 1, 0, 0]) .n (env0 Tryz.prog Tryz.f69 κ) (tmk 0 185 [(1, .ptr x1 0)]) H (kj [1, 5] J) = M69_13 o N J' κ x1 H := by
  obtain rfl := fx3 hJ
  kernel_rfl
def M69_14 (o : Orc) (N : Nat) (X4 : Heap → Ans) (J : Nat → Int → Heap → Ans) (κ : Kv) (x1 : Nat) (x5 : Int) (H : Heap) : Ans :=
  (ldV H x1 10).bind fun v64 =>
  lenS v64 fun n65 =>
  cond (decide (x5 < n65)) (
  J x1 x5 H) (
  X4  H)
theorem M69_14_ok {o : Orc} {N : Nat} {κ : Kv} {X4 J : Kt} {X4' : Heap → Ans} {J' : Nat → Int → Heap → Ans} (h4 : ∀  H, X4 (tmk 0 185 []) H = X4' H) (hJ : ∀ x1 x5 H, J (tmk 0 185 [(1, .ptr x1 0), (5, .int .i64 x5)]) H = J' x1 x5 H) (x1 : Nat) (x5 : Int) (H : Heap) :
    run Tryz.prog o N (cAt Tryz.f69 [1, 1, 1, 1, 1, 0, 1, 4, 4, 0]) .n ((env0 Tryz.prog Tryz.f69 κ).block 4 (kj [] X4)) (tmk 0 185 [(1, .ptr x1 0), (5, .int .i64 x5)]) H (kj [1, 5] J) = M69_14 o N X4' J' κ x1 x5 H := by
  obtain rfl := fx1 h4
  obtain rfl := fx3 hJ
  kernel_rfl
def M69_15 (o : Orc) (N : Nat) (J : Nat → Int → Nat → Heap → Ans) (κ : Kv) (x1 : Nat) (x5 : Int) (H : Heap) : Ans :=
  (ldV H x1 10).bind fun v66 =>
  idxS 6 v66 x5 fun p67 o68 =>
  ldFlat H p67 [.int .i64, .int .i64, .int .i64, .int .i64, .int .i64, .int .i64] o68 fun l69 =>
  newB H (.row [(.int .i64 0), (.int .i64 0), (.int .i64 0), (.int .i64 0), (.int .i64 0), (.int .i64 0)]) fun i70 H71 =>
  cond (Nat.beq (List.length l69) 6 && Nat.blt 0 6) (
  (stN H71 i70 0 l69).bind fun H72 =>
  J x1 x5 i70 H72) none
theorem M69_15_ok {o : Orc} {N : Nat} {κ : Kv} {X4 X5 J : Kt} {J' : Nat → Int → Nat → Heap → Ans} (hJ : ∀ x1 x5 x6 H, J (tmk 0 185 [(1, .ptr x1 0), (5, .int .i64 x5), (6, .ptr x6 0)]) H = J' x1 x5 x6 H) (x1 : Nat) (x5 : Int) (H : Heap) :
    run Tryz.prog o N (cAt Tryz.f69 [1, 1, 1, 1, 1, 0, 1, 4, 4, 1, 0, 4, 0]) .n (((env0 Tryz.prog Tryz.f69 κ).block 4 (kj [] X4)).block 5 (kj [1, 5] X5)) (tmk 0 185 [(1, .ptr x1 0), (5, .int .i64 x5)]) H (kj [1, 5, 6] J) = M69_15 o N J' κ x1 x5 H := by
  obtain rfl := fx4 hJ
  kernel_rfl
def M69_16 (o : Orc) (N : Nat) (J : Nat → Int → Bool → Heap → Ans) (κ : Kv) (x1 : Nat) (x5 : Int) (x6 : Nat) (H : Heap) : Ans :=
  (ldI H .i64 x6 0).bind fun n73 =>
  o 116 [(.int .i64 n73), (.int .i64 1), (.int .i64 3)] H fun v74 H75 =>
  asB v74 fun b76 =>
  cond (!b76) (
  J x1 x5 true H75) (
  (ldI H75 .i64 x6 1).bind fun n77 =>
  (ldI H75 .i64 x1 3).bind fun n78 =>
  o 116 [(.int .i64 n77), (.int .i64 0), (.int .i64 n78)] H75 fun v79 H80 =>
  asB v79 fun b81 =>
  cond (!b81) (
  J x1 x5 true H80) (
  (ldI H80 .i64 x6 2).bind fun n82 =>
  (ldI H80 .i64 x1 3).bind fun n83 =>
  o 116 [(.int .i64 n82), (.int .i64 0), (.int .i64 n83)] H80 fun v84 H85 =>
  asB v84 fun b86 =>
  cond (!b86) (
  J x1 x5 true H85) (
  (ldI H85 .i64 x6 1).bind fun n87 =>
  (ldI H85 .i64 x6 2).bind fun n88 =>
  cond (decide (n87 ≥ n88)) (
  J x1 x5 true H85) (
  (ldI H85 .i64 x6 4).bind fun n89 =>
  (ldI H85 .i64 x1 2).bind fun n90 =>
  o 117 [(.int .i64 n89), (.int .i64 n90)] H85 fun v91 H92 =>
  asB v91 fun b93 =>
  cond (!b93) (
  J x1 x5 true H92) (
  (ldI H92 .i64 x6 3).bind fun n94 =>
  (ldI H92 .i64 x6 4).bind fun n95 =>
  o 116 [(.int .i64 n94), (.int .i64 0), (.int .i64 (IntKind.i64.wrap (n95 - 1)))] H92 fun v96 H97 =>
  asB v96 fun b98 =>
  cond (!b98) (
  J x1 x5 true H97) (
  (ldI H97 .i64 x6 5).bind fun n99 =>
  o 116 [(.int .i64 n99), (.int .i64 0), (.int .i64 99)] H97 fun v100 H101 =>
  asB v100 fun b102 =>
  cond (!b102) (
  J x1 x5 true H101) (
  (ldI H101 .i64 x6 5).bind fun n103 =>
  cond (n103 != 0) (
  (ldI H101 .i64 x6 0).bind fun n104 =>
  J x1 x5 (n104 != 1) H101) (
  J x1 x5 false H101))))))))
theorem M69_16_ok {o : Orc} {N : Nat} {κ : Kv} {X4 X5 J : Kt} {J' : Nat → Int → Bool → Heap → Ans} (hJ : ∀ x1 x5 x184 H, J (tmk 0 185 [(1, .ptr x1 0), (5, .int .i64 x5), (184, .bool x184)]) H = J' x1 x5 x184 H) (x1 : Nat) (x5 : Int) (x6 : Nat) (H : Heap) :
    run Tryz.prog o N (cAt Tryz.f69 [1, 1, 1, 1, 1, 0, 1, 4, 4, 1, 0, 4, 1, 0]) .n (((env0 Tryz.prog Tryz.f69 κ).block 4 (kj [] X4)).block 5 (kj [1, 5] X5)) (tmk 0 185 [(1, .ptr x1 0), (5, .int .i64 x5), (6, .ptr x6 0)]) H (kj [1, 5, 184] J) = M69_16 o N J' κ x1 x5 x6 H := by
  obtain rfl := fx4 hJ
  kernel_rfl
def M69_17 (o : Orc) (N : Nat) (J : Nat → Int → Heap → Ans) (κ : Kv) (x1 : Nat) (x5 : Int) (x184 : Bool) (H : Heap) : Ans :=
  cond x184 (
  κ (.bool false) H) (
  J x1 x5 H)
theorem M69_17_ok {o : Orc} {N : Nat} {κ : Kv} {X4 X5 J : Kt} {J' : Nat → Int → Heap → Ans} (hJ : ∀ x1 x5 H, J (tmk 0 185 [(1, .ptr x1 0), (5, .int .i64 x5)]) H = J' x1 x5 H) (x1 : Nat) (x5 : Int) (x184 : Bool) (H : Heap) :
    run Tryz.prog o N (cAt Tryz.f69 [1, 1, 1, 1, 1, 0, 1, 4, 4, 1, 0, 4, 1, 1]) .n (((env0 Tryz.prog Tryz.f69 κ).block 4 (kj [] X4)).block 5 (kj [1, 5] X5)) (tmk 0 185 [(1, .ptr x1 0), (5, .int .i64 x5), (184, .bool x184)]) H (kj [1, 5] J) = M69_17 o N J' κ x1 x5 x184 H := by
  obtain rfl := fx3 hJ
  kernel_rfl
def A69_18 : An := .s .n (some (lvOf [1, 5, 6])) (.s .n (some (lvOf [1, 5, 184])) .n)
def M69_19 (o : Orc) (N : Nat) (J : Nat → Int → Heap → Ans) (κ : Kv) (x1 : Nat) (x5 : Int) (H : Heap) : Ans :=
  J x1 (IntKind.i64.wrap (x5 + 1)) H
theorem M69_19_ok {o : Orc} {N : Nat} {κ : Kv} {X4 J : Kt} {J' : Nat → Int → Heap → Ans} (hJ : ∀ x1 x5 H, J (tmk 0 185 [(1, .ptr x1 0), (5, .int .i64 x5)]) H = J' x1 x5 H) (x1 : Nat) (x5 : Int) (H : Heap) :
    run Tryz.prog o N (cAt Tryz.f69 [1, 1, 1, 1, 1, 0, 1, 4, 4, 1, 1]) .n ((env0 Tryz.prog Tryz.f69 κ).block 4 (kj [] X4)) (tmk 0 185 [(1, .ptr x1 0), (5, .int .i64 x5)]) H (kj [1, 5] J) = M69_19 o N J' κ x1 x5 H := by
  obtain rfl := fx3 hJ
  kernel_rfl
def A69_20 : An := .s (.b none A69_18) (some (lvOf [1, 5])) .n
def A69_21 : An := .l (some (lvOf [1, 5])) (.s .n (some (lvOf [1, 5])) A69_20)
def M69_22 (o : Orc) (N : Nat) (X4 : Heap → Ans) (κ : Kv) (n : Nat) : Nat → Int → Heap → Ans :=
  Nat.rec (motive := fun _ => Nat → Int → Heap → Ans) (fun _ _ _ => none) (fun _ ih x1 x5 H => M69_14 o N X4 (fun x1 x5 H => M69_15 o N (fun x1 x5 x6 H => M69_16 o N (fun x1 x5 x184 H => M69_17 o N (fun x1 x5 H => M69_19 o N ih κ x1 x5 H) κ x1 x5 x184 H) κ x1 x5 x6 H) κ x1 x5 H) κ x1 x5 H) n
theorem M69_22_s (o : Orc) (N : Nat) (X4 : Heap → Ans) (κ : Kv) (n : Nat) (x1 : Nat) (x5 : Int) (H : Heap) : M69_22 o N X4 κ (n + 1) x1 x5 H = M69_14 o N X4 (fun x1 x5 H => M69_15 o N (fun x1 x5 x6 H => M69_16 o N (fun x1 x5 x184 H => M69_17 o N (fun x1 x5 H => M69_19 o N (M69_22 o N X4 κ n) κ x1 x5 H) κ x1 x5 x184 H) κ x1 x5 x6 H) κ x1 x5 H) κ x1 x5 H := rfl
theorem M69_22_ok {o : Orc} {N : Nat} {κ : Kv} {X4 : Kt} {X4' : Heap → Ans} (h4 : ∀  H, X4 (tmk 0 185 []) H = X4' H) (n : Nat) : ∀ (x1 : Nat) (x5 : Int) (H : Heap),
    rounds (fun a H k => run Tryz.prog o N (cAt Tryz.f69 [1, 1, 1, 1, 1, 0, 1, 4, 4]) (.s .n (some (lvOf [1, 5])) A69_20) ((env0 Tryz.prog Tryz.f69 κ).block 4 (kj [] X4)) a H k) (some (lvOf [1, 5])) n (tmk 0 185 [(1, .ptr x1 0), (5, .int .i64 x5)]) H = M69_22 o N X4' κ n x1 x5 H := by
  induction n with
  | zero => intros; rfl
  | succ n ih =>
    intro x1 x5 H
    refine (run_round.trans ?_).trans (M69_22_s ..).symm
    refine (run_seq (x := (cAt Tryz.f69 [1, 1, 1, 1, 1, 0, 1, 4, 4, 0])) (ax := .n) (y := (cAt Tryz.f69 [1, 1, 1, 1, 1, 0, 1, 4, 4, 1])) (ay := A69_20) (l := [1, 5]) (by kernel_rfl) (by kernel_rfl)).trans ?_
    refine M69_14_ok h4 ?_ x1 x5 H
    intro x1 x5 H
    refine (run_seq (x := (cAt Tryz.f69 [1, 1, 1, 1, 1, 0, 1, 4, 4, 1, 0])) (ax := (.b none A69_18)) (y := (cAt Tryz.f69 [1, 1, 1, 1, 1, 0, 1, 4, 4, 1, 1])) (ay := .n) (l := [1, 5]) (by kernel_rfl) (by kernel_rfl)).trans ?_
    refine (run_block (id := 5) (x := (cAt Tryz.f69 [1, 1, 1, 1, 1, 0, 1, 4, 4, 1, 0, 4])) (ax := A69_18) (by kernel_rfl) (by kernel_rfl)).trans ?_
    refine (run_seq (x := (cAt Tryz.f69 [1, 1, 1, 1, 1, 0, 1, 4, 4, 1, 0, 4, 0])) (ax := .n) (y := (cAt Tryz.f69 [1, 1, 1, 1, 1, 0, 1, 4, 4, 1, 0, 4, 1])) (ay := (.s .n (some (lvOf [1, 5, 184])) .n)) (l := [1, 5, 6]) (by kernel_rfl) (by kernel_rfl)).trans ?_
    refine M69_15_ok ?_ x1 x5 H
    intro x1 x5 x6 H
    refine (run_seq (x := (cAt Tryz.f69 [1, 1, 1, 1, 1, 0, 1, 4, 4, 1, 0, 4, 1, 0])) (ax := .n) (y := (cAt Tryz.f69 [1, 1, 1, 1, 1, 0, 1, 4, 4, 1, 0, 4, 1, 1])) (ay := .n) (l := [1, 5, 184]) (by kernel_rfl) (by kernel_rfl)).trans ?_
    refine M69_16_ok ?_ x1 x5 x6 H
    intro x1 x5 x184 H
    refine M69_17_ok ?_ x1 x5 x184 H
    intro x1 x5 H
    exact M69_19_ok ih x1 x5 H
def A69_23 : An := .s .n (some (lvOf [1, 5])) (.b none A69_21)
def M69_24 (o : Orc) (N : Nat) (κ : Kv) (H : Heap) : Ans :=
  κ (.bool true) H
theorem M69_24_ok {o : Orc} {N : Nat} {κ : Kv} (H : Heap) :
    run Tryz.prog o N (cAt Tryz.f69 [1, 1, 1, 1, 1, 1]) .n (env0 Tryz.prog Tryz.f69 κ) (tmk 0 185 []) H (env0 Tryz.prog Tryz.f69 κ).ret = M69_24 o N κ  H := by
  kernel_rfl
def A69_25 : An := .s A69_12 (some (lvOf [1])) (.s A69_23 (some (lvOf [])) .n)
def A69_26 : An := .s (.s .n (some (lvOf [1, 74])) .n) (some (lvOf [1])) (.s A69_8 (some (lvOf [1])) A69_25)
def M69_27 (o : Orc) (N : Nat) (κ : Kv) (x1 : Nat) (H : Heap) : Ans :=
  M69_3 o N (fun x1 x74 H => M69_4 o N (fun x1 H => M69_5 o N (fun x1 x3 H => M69_7 o N (fun x1 H => M69_9 o N (fun x1 x4 H => M69_11 o N (fun x1 H => M69_13 o N (fun x1 x5 H => M69_22 o N (fun H => M69_24 o N κ  H) κ N x1 x5 H) κ x1 H) κ N x1 x4 H) κ x1 H) κ N x1 x3 H) κ x1 H) κ x1 x74 H) κ x1 H
theorem M69_27_ok {o : Orc} {N : Nat} {κ : Kv} (x1 : Nat) (H : Heap) :
    run Tryz.prog o N (cAt Tryz.f69 [1, 1]) A69_26 (env0 Tryz.prog Tryz.f69 κ) (tmk 0 185 [(1, .ptr x1 0)]) H (env0 Tryz.prog Tryz.f69 κ).ret = M69_27 o N κ x1 H := by
  refine (run_seq (x := (cAt Tryz.f69 [1, 1, 0])) (ax := (.s .n (some (lvOf [1, 74])) .n)) (y := (cAt Tryz.f69 [1, 1, 1])) (ay := (.s A69_8 (some (lvOf [1])) A69_25)) (l := [1]) (by kernel_rfl) (by kernel_rfl)).trans ?_
  refine (run_seq (x := (cAt Tryz.f69 [1, 1, 0, 0])) (ax := .n) (y := (cAt Tryz.f69 [1, 1, 0, 1])) (ay := .n) (l := [1, 74]) (by kernel_rfl) (by kernel_rfl)).trans ?_
  refine M69_3_ok ?_ x1 H
  intro x1 x74 H
  refine M69_4_ok ?_ x1 x74 H
  intro x1 H
  refine (run_seq (x := (cAt Tryz.f69 [1, 1, 1, 0])) (ax := A69_8) (y := (cAt Tryz.f69 [1, 1, 1, 1])) (ay := A69_25) (l := [1]) (by kernel_rfl) (by kernel_rfl)).trans ?_
  refine (run_seq (x := (cAt Tryz.f69 [1, 1, 1, 0, 0])) (ax := .n) (y := (cAt Tryz.f69 [1, 1, 1, 0, 1])) (ay := (.b none (.l (some (lvOf [1, 3])) .n))) (l := [1, 3]) (by kernel_rfl) (by kernel_rfl)).trans ?_
  refine M69_5_ok ?_ x1 H
  intro x1 x3 H
  refine (run_block (id := 0) (x := (cAt Tryz.f69 [1, 1, 1, 0, 1, 4])) (ax := (.l (some (lvOf [1, 3])) .n)) (by kernel_rfl) (by kernel_rfl)).trans ?_
  refine (run_loop (x := (cAt Tryz.f69 [1, 1, 1, 0, 1, 4, 4])) (ax := .n) (l := [1, 3]) (by kernel_rfl) (by kernel_rfl) (by kernel_rfl)).trans ?_
  refine M69_7_ok ?_ N x1 x3 H
  intro x1 H
  refine (run_seq (x := (cAt Tryz.f69 [1, 1, 1, 1, 0])) (ax := A69_12) (y := (cAt Tryz.f69 [1, 1, 1, 1, 1])) (ay := (.s A69_23 (some (lvOf [])) .n)) (l := [1]) (by kernel_rfl) (by kernel_rfl)).trans ?_
  refine (run_seq (x := (cAt Tryz.f69 [1, 1, 1, 1, 0, 0])) (ax := .n) (y := (cAt Tryz.f69 [1, 1, 1, 1, 0, 1])) (ay := (.b none (.l (some (lvOf [1, 4])) .n))) (l := [1, 4]) (by kernel_rfl) (by kernel_rfl)).trans ?_
  refine M69_9_ok ?_ x1 H
  intro x1 x4 H
  refine (run_block (id := 2) (x := (cAt Tryz.f69 [1, 1, 1, 1, 0, 1, 4])) (ax := (.l (some (lvOf [1, 4])) .n)) (by kernel_rfl) (by kernel_rfl)).trans ?_
  refine (run_loop (x := (cAt Tryz.f69 [1, 1, 1, 1, 0, 1, 4, 4])) (ax := .n) (l := [1, 4]) (by kernel_rfl) (by kernel_rfl) (by kernel_rfl)).trans ?_
  refine M69_11_ok ?_ N x1 x4 H
  intro x1 H
  refine (run_seq (x := (cAt Tryz.f69 [1, 1, 1, 1, 1, 0])) (ax := A69_23) (y := (cAt Tryz.f69 [1, 1, 1, 1, 1, 1])) (ay := .n) (l := []) (by kernel_rfl) (by kernel_rfl)).trans ?_
  refine (run_seq (x := (cAt Tryz.f69 [1, 1, 1, 1, 1, 0, 0])) (ax := .n) (y := (cAt Tryz.f69 [1, 1, 1, 1, 1, 0, 1])) (ay := (.b none A69_21)) (l := [1, 5]) (by kernel_rfl) (by kernel_rfl)).trans ?_
  refine M69_13_ok ?_ x1 H
  intro x1 x5 H
  refine (run_block (id := 4) (x := (cAt Tryz.f69 [1, 1, 1, 1, 1, 0, 1, 4])) (ax := A69_21) (by kernel_rfl) (by kernel_rfl)).trans ?_
  refine (run_loop (x := (cAt Tryz.f69 [1, 1, 1, 1, 1, 0, 1, 4, 4])) (ax := (.s .n (some (lvOf [1, 5])) A69_20)) (l := [1, 5]) (by kernel_rfl) (by kernel_rfl) (by kernel_rfl)).trans ?_
  refine M69_22_ok ?_ N x1 x5 H
  intro H
  exact M69_24_ok  H
def A69_28 : An := .s (.s .n (some (lvOf [1, 46])) .n) (some (lvOf [1])) A69_26
def M69 (o : Orc) (N : Nat) : FnM := fun vs H κ => match vs with
  | [.agg x0] => M69_0 o N (fun x1 H => M69_1 o N (fun x1 x46 H => M69_2 o N (fun x1 H => M69_27 o N κ x1 H) κ x1 x46 H) κ x1 H) κ x0 H
  | _ => none
theorem M69_run (o : Orc) (N : Nat) (vs : List V) (H : Heap) (κ : Kv) (r) (h : M69 o N vs H κ = some r) : runFn Tryz.prog o N Tryz.f69 (.s .n (some (lvOf [1])) A69_28) vs H κ = some r := by
  unfold M69 at h
  split at h
  · rename_i x0
    refine (runFn_at (t := tmk 0 185 [(0, .agg x0)]) (by kernel_rfl) (by kernel_rfl)).trans (Eq.trans ?_ h)
    refine (run_seq (x := (cAt Tryz.f69 [0])) (ax := .n) (y := (cAt Tryz.f69 [1])) (ay := A69_28) (l := [1]) (by kernel_rfl) (by kernel_rfl)).trans ?_
    refine M69_0_ok ?_ x0 H
    intro x1 H
    refine (run_seq (x := (cAt Tryz.f69 [1, 0])) (ax := (.s .n (some (lvOf [1, 46])) .n)) (y := (cAt Tryz.f69 [1, 1])) (ay := A69_26) (l := [1]) (by kernel_rfl) (by kernel_rfl)).trans ?_
    refine (run_seq (x := (cAt Tryz.f69 [1, 0, 0])) (ax := .n) (y := (cAt Tryz.f69 [1, 0, 1])) (ay := .n) (l := [1, 46]) (by kernel_rfl) (by kernel_rfl)).trans ?_
    refine M69_1_ok ?_ x1 H
    intro x1 x46 H
    refine M69_2_ok ?_ x1 x46 H
    intro x1 H
    exact M69_27_ok x1 H
  · cases h
theorem M69_sound {o : Orc} (ho : ∀ f, FSound Tryz.prog f (o f)) (N : Nat) : FSound Tryz.prog 69 (M69 o N) :=
  FSound.sub (runFn_ok (an := (.s .n (some (lvOf [1])) A69_28)) (fuel := N) hmix ho (by kernel_rfl) (by kernel_rfl)) (M69_run o N)
/-! 70 ostinato/ostinatoref12.two -/
def M70_0 (o : Orc) (N : Nat) (κ : Kv) (x0 : V) (x1 : Int) (H : Heap) : Ans :=
  newB H (.row [(.int .u8 (IntKind.u8.wrap (Int.fdiv x1 (2 ^ (min (Int.toNat 8) (IntKind.bits .i64)))))), (.int .u8 (IntKind.u8.wrap x1))]) fun i1 H2 =>
  appV H2 x0 (.sl i1 0 2 1 true) 1 fun v3 H4 =>
  κ v3 H4
theorem M70_0_ok {o : Orc} {N : Nat} {κ : Kv} (x0 : V) (x1 : Int) (H : Heap) :
    run Tryz.prog o N (cAt Tryz.f70 []) .n (env0 Tryz.prog Tryz.f70 κ) (tmk 0 13 [(0, x0), (1, .int .i64 x1)]) H (env0 Tryz.prog Tryz.f70 κ).ret = M70_0 o N κ x0 x1 H := by
  kernel_rfl
def M70 (o : Orc) (N : Nat) : FnM := fun vs H κ => match vs with
  | [x0, .int .i64 x1] => M70_0 o N κ x0 x1 H
  | _ => none
theorem M70_run (o : Orc) (N : Nat) (vs : List V) (H : Heap) (κ : Kv) (r) (h : M70 o N vs H κ = some r) : runFn Tryz.prog o N Tryz.f70 .n vs H κ = some r := by
  unfold M70 at h
  split at h
  · rename_i x0 x1
    refine (runFn_at (t := tmk 0 13 [(0, x0), (1, .int .i64 x1)]) (by kernel_rfl) (by kernel_rfl)).trans (Eq.trans ?_ h)
    exact M70_0_ok x0 x1 H
  · cases h
theorem M70_sound {o : Orc} (ho : ∀ f, FSound Tryz.prog f (o f)) (N : Nat) : FSound Tryz.prog 70 (M70 o N) :=
  FSound.sub (runFn_ok (an := .n) (fuel := N) hmix ho (by kernel_rfl) (by kernel_rfl)) (M70_run o N)
/-! 72 (*ostinato/object.Objects).Send -/
def A72_0 : An := (.s .n none (.s .n none (.s (.b none (.s (.d [0, 1, 2, 3, 4, 5, 6, 7, 8, 9, 10, 11]) none .n)) none .n)))
def M72_1 (o : Orc) (N : Nat) (κ : Kv) (x0 : V) (x1 : Int) (x2 : List Nat) (H : Heap) : Ans :=
  o 118 [x0, (.int .i64 x1)] H fun v1 H2 =>
  asT2 v1 fun v3 v4 =>
  asA v3 fun l5 =>
  asB v4 fun b6 =>
  newB H2 (.row [(.int .u32 0), (.int .i64 0), (.bool false)]) fun i7 H8 =>
  cond (Nat.beq (List.length l5) 3 && Nat.blt 0 3) (
  (stN H8 i7 0 l5).bind fun H9 =>
  cond (!b6) (
  κ (.int .i64 145) (Heap.skip H9 12)) (
  (ldI (Heap.skip H9 12) .i64 i7 1).bind fun n10 =>
  asP x0 fun p11 o12 =>
  (ldI (Heap.skip H9 12) .i64 p11 (o12 + 11)).bind fun n13 =>
  cond (n10 != n13) (
  κ (.int .i64 145) (Heap.skip H9 12)) (
  cond (decide (((List.length x2 : Nat) : Int) > 8)) (
  κ (.int .i64 12) (Heap.skip H9 12)) (
  (ldB (Heap.skip H9 12) i7 2).bind fun b14 =>
  cond b14 (
  asP x0 fun p15 o16 =>
  (ldV (Heap.skip H9 12) p15 (o16 + 14)).bind fun v17 =>
  o 119 [v17, (.int .i64 x1), (.str x2)] (Heap.skip H9 12) fun v18 H19 =>
  asI .i64 v18 fun n20 =>
  κ (.int .i64 n20) H19) (
  asP x0 fun p21 o22 =>
  (ldV (Heap.skip H9 12) p21 (o22 + 12)).bind fun v23 =>
  asM v23 fun p24 =>
  putM (Heap.skip H9 12) p24 (.int .i64 x1) (.str x2) fun H25 =>
  κ (.int .i64 0) H25))))) none
theorem M72_1_ok {o : Orc} {N : Nat} {κ : Kv} (x0 : V) (x1 : Int) (x2 : List Nat) (H : Heap) :
    run Tryz.prog o N (cAt Tryz.f72 []) A72_0 (env0 Tryz.prog Tryz.f72 κ) (tmk 0 47 [(0, x0), (1, .int .i64 x1), (2, .str x2)]) H (env0 Tryz.prog Tryz.f72 κ).ret = M72_1 o N κ x0 x1 x2 H := by
  kernel_rfl
def M72 (o : Orc) (N : Nat) : FnM := fun vs H κ => match vs with
  | [x0, .int .i64 x1, .str x2] => M72_1 o N κ x0 x1 x2 H
  | _ => none
theorem M72_run (o : Orc) (N : Nat) (vs : List V) (H : Heap) (κ : Kv) (r) (h : M72 o N vs H κ = some r) : runFn Tryz.prog o N Tryz.f72 A72_0 vs H κ = some r := by
  unfold M72 at h
  split at h
  · rename_i x0 x1 x2
    refine (runFn_at (t := tmk 0 47 [(0, x0), (1, .int .i64 x1), (2, .str x2)]) (by kernel_rfl) (by kernel_rfl)).trans (Eq.trans ?_ h)
    exact M72_1_ok x0 x1 x2 H
  · cases h
theorem M72_sound {o : Orc} (ho : ∀ f, FSound Tryz.prog f (o f)) (N : Nat) : FSound Tryz.prog 72 (M72 o N) :=
  FSound.sub (runFn_ok (an := A72_0) (fuel := N) hmix ho (by kernel_rfl) (by kernel_rfl)) (M72_run o N)
/-! 73 (*ostinato/clock.Clock).Time -/
def M73_0 (o : Orc) (N : Nat) (κ : Kv) (x0 : V) (H : Heap) : Ans :=
  asP x0 fun p1 o2 =>
  (ldI H .u16 p1 (o2 + 3)).bind fun n3 =>
  κ (.int .u16 n3) H
theorem M73_0_ok {o : Orc} {N : Nat} {κ : Kv} (x0 : V) (H : Heap) :
    run Tryz.prog o N (cAt Tryz.f73 []) .n (env0 Tryz.prog Tryz.f73 κ) (tmk 0 7 [(0, x0)]) H (env0 Tryz.prog Tryz.f73 κ).ret = M73_0 o N κ x0 H := by
  kernel_rfl
def M73 (o : Orc) (N : Nat) : FnM := fun vs H κ => match vs with
  | [x0] => M73_0 o N κ x0 H
  | _ => none
theorem M73_run (o : Orc) (N : Nat) (vs : List V) (H : Heap) (κ : Kv) (r) (h : M73 o N vs H κ = some r) : runFn Tryz.prog o N Tryz.f73 .n vs H κ = some r := by
  unfold M73 at h
  split at h
  · rename_i x0
    refine (runFn_at (t := tmk 0 7 [(0, x0)]) (by kernel_rfl) (by kernel_rfl)).trans (Eq.trans ?_ h)
    exact M73_0_ok x0 H
  · cases h
theorem M73_sound {o : Orc} (ho : ∀ f, FSound Tryz.prog f (o f)) (N : Nat) : FSound Tryz.prog 73 (M73 o N) :=
  FSound.sub (runFn_ok (an := .n) (fuel := N) hmix ho (by kernel_rfl) (by kernel_rfl)) (M73_run o N)
/-! 74 (*ostinato/clock.Clock).Tick -/
def M74_0 (o : Orc) (N : Nat) (J : V → Heap → Ans) (κ : Kv) (x0 : V) (x1 : Int) (H : Heap) : Ans :=
  asP x0 fun p1 o2 =>
  (ldI H .i64 p1 (o2 + 2)).bind fun n3 =>
  asP x0 fun p4 o5 =>
  (stN H p4 (o5 + 2) [(.int .i64 (IntKind.i64.wrap (n3 + (IntKind.i64.wrap ((if 8 < (if 0 > x1 then 0 else x1) then 8 else (if 0 > x1 then 0 else x1)) * 256)))))]).bind fun H6 =>
  J x0 H6
theorem M74_0_ok {o : Orc} {N : Nat} {κ : Kv} {J : Kt} {J' : V → Heap → Ans} (hJ : ∀ x0 H, J (tmk 0 42 [(0, x0)]) H = J' x0 H) (x0 : V) (x1 : Int) (H : Heap) :
    run Tryz.prog o N (cAt Tryz.f74 [0]) .n (env0 Tryz.prog Tryz.f74 κ) (tmk 0 42 [(0, x0), (1, .int .i64 x1)]) H (kj [0] J) = M74_0 o N J' κ x0 x1 H := by
  obtain rfl := fx2 hJ
  kernel_rfl
def A74_1 : An := (.s (.s (.d [0, 1, 2, 3, 4, 5, 6, 7, 8]) none .n) none (.b none (.s (.d [0, 1, 2, 3, 4, 5, 6, 7, 8, 9, 10, 11]) none .n)))
def M74_2 (o : Orc) (N : Nat) (J : V → Heap → Ans) (κ : Kv) (x0 : V) (H : Heap) : Ans :=
  asP x0 fun p7 o8 =>
  (ldI (Heap.skip H 9) .i64 p7 (o8 + 2)).bind fun n9 =>
  asP x0 fun p10 o11 =>
  (ldI (Heap.skip H 9) .i64 p10 (o11 + 1)).bind fun n12 =>
  cond (decide (n9 ≥ n12)) (
  asP x0 fun p13 o14 =>
  (ldI (Heap.skip (Heap.skip H 9) 12) .i64 p13 (o14 + 2)).bind fun n15 =>
  asP x0 fun p16 o17 =>
  (ldI (Heap.skip (Heap.skip H 9) 12) .i64 p16 (o17 + 1)).bind fun n18 =>
  asP x0 fun p19 o20 =>
  (stN (Heap.skip (Heap.skip H 9) 12) p19 (o20 + 2) [(.int .i64 (IntKind.i64.wrap (n15 - n18)))]).bind fun H21 =>
  asP x0 fun p22 o23 =>
  (ldI H21 .u16 p22 (o23 + 3)).bind fun n24 =>
  asP x0 fun p25 o26 =>
  (stN H21 p25 (o26 + 3) [(.int .u16 (IntKind.u16.wrap (n24 + 1)))]).bind fun H27 =>
  J x0 H27) (
  κ (.tup []) (Heap.skip H 9))
theorem M74_2_ok {o : Orc} {N : Nat} {κ : Kv} {J : Kt} {J' : V → Heap → Ans} (hJ : ∀ x0 H, J (tmk 0 42 [(0, x0)]) H = J' x0 H) (x0 : V) (H : Heap) :
    run Tryz.prog o N (cAt Tryz.f74 [1, 4, 4]) A74_1 ((env0 Tryz.prog Tryz.f74 κ).block 0 (env0 Tryz.prog Tryz.f74 κ).ret) (tmk 0 42 [(0, x0)]) H (kj [0] J) = M74_2 o N J' κ x0 H := by
  obtain rfl := fx2 hJ
  kernel_rfl
def M74_3 (o : Orc) (N : Nat) (κ : Kv) (n : Nat) : V → Heap → Ans :=
  Nat.rec (motive := fun _ => V → Heap → Ans) (fun _ _ => none) (fun _ ih x0 H => M74_2 o N ih κ x0 H) n
theorem M74_3_s (o : Orc) (N : Nat) (κ : Kv) (n : Nat) (x0 : V) (H : Heap) : M74_3 o N κ (n + 1) x0 H = M74_2 o N (M74_3 o N κ n) κ x0 H := rfl
theorem M74_3_ok {o : Orc} {N : Nat} {κ : Kv} (n : Nat) : ∀ (x0 : V) (H : Heap),
    rounds (fun a H k => run Tryz.prog o N (cAt Tryz.f74 [1, 4, 4]) A74_1 ((env0 Tryz.prog Tryz.f74 κ).block 0 (env0 Tryz.prog Tryz.f74 κ).ret) a H k) (some (lvOf [0])) n (tmk 0 42 [(0, x0)]) H = M74_3 o N κ n x0 H := by
  induction n with
  | zero => intros; rfl
  | succ n ih =>
    intro x0 H
    refine (run_round.trans ?_).trans (M74_3_s ..).symm
    exact M74_2_ok ih x0 H
def A74_4 : An := .s .n (some (lvOf [0])) (.b none (.l (some (lvOf [0])) A74_1))
def M74 (o : Orc) (N : Nat) : FnM := fun vs H κ => match vs with
  | [x0, .int .i64 x1] => M74_0 o N (fun x0 H => M74_3 o N κ N x0 H) κ x0 x1 H
  | _ => none
theorem M74_run (o : Orc) (N : Nat) (vs : List V) (H : Heap) (κ : Kv) (r) (h : M74 o N vs H κ = some r) : runFn Tryz.prog o N Tryz.f74 A74_4 vs H κ = some r := by
  unfold M74 at h
  split at h
  · rename_i x0 x1
    refine (runFn_at (t := tmk 0 42 [(0, x0), (1, .int .i64 x1)]) (by kernel_rfl) (by kernel_rfl)).trans (Eq.trans ?_ h)
    refine (run_seq (x := (cAt Tryz.f74 [0])) (ax := .n) (y := (cAt Tryz.f74 [1])) (ay := (.b none (.l (some (lvOf [0])) A74_1))) (l := [0]) (by kernel_rfl) (by kernel_rfl)).trans ?_
    refine M74_0_ok ?_ x0 x1 H
    intro x0 H
    refine (run_block (id := 0) (x := (cAt Tryz.f74 [1, 4])) (ax := (.l (some (lvOf [0])) A74_1)) (by kernel_rfl) (by kernel_rfl)).trans ?_
    refine (run_loop (x := (cAt Tryz.f74 [1, 4, 4])) (ax := A74_1) (l := [0]) (by kernel_rfl) (by kernel_rfl) (by kernel_rfl)).trans ?_
    exact M74_3_ok N x0 H
  · cases h
theorem M74_sound {o : Orc} (ho : ∀ f, FSound Tryz.prog f (o f)) (N : Nat) : FSound Tryz.prog 74 (M74 o N) :=
  FSound.sub (runFn_ok (an := A74_4) (fuel := N) hmix ho (by kernel_rfl) (by kernel_rfl)) (M74_run o N)
/-! 75 (*ostinato/mark.Mark).At -/
def M75_0 (o : Orc) (N : Nat) (κ : Kv) (x0 : V) (x1 : Int) (H : Heap) : Ans :=
  asP x0 fun p1 o2 =>
  (ldI H .i64 p1 ((o2 + 2) + 1)).bind fun n3 =>
  cond (n3 == 0) (
  κ (.tup [(.int .i64 0), (.bool false)]) H) (
  asP x0 fun p4 o5 =>
  cond (decide (0 ≤ 0) && decide (0 < (1 : Nat)) && Nat.blt 0 1) (
  (ldI H .u16 p4 (((o5 + 2) + 0) + Int.toNat 0 * 1)).bind fun n6 =>
  o 79 [(.int .u16 n6), (.int .u16 x1)] H fun v7 H8 =>
  asI .i64 v7 fun n9 =>
  κ (.tup [(.int .i64 n9), (.bool true)]) H8) none)
theorem M75_0_ok {o : Orc} {N : Nat} {κ : Kv} (x0 : V) (x1 : Int) (H : Heap) :
    run Tryz.prog o N (cAt Tryz.f75 []) .n (env0 Tryz.prog Tryz.f75 κ) (tmk 0 20 [(0, x0), (1, .int .u16 x1)]) H (env0 Tryz.prog Tryz.f75 κ).ret = M75_0 o N κ x0 x1 H := by
  kernel_rfl
def M75 (o : Orc) (N : Nat) : FnM := fun vs H κ => match vs with
  | [x0, .int .u16 x1] => M75_0 o N κ x0 x1 H
  | _ => none
theorem M75_run (o : Orc) (N : Nat) (vs : List V) (H : Heap) (κ : Kv) (r) (h : M75 o N vs H κ = some r) : runFn Tryz.prog o N Tryz.f75 .n vs H κ = some r := by
  unfold M75 at h
  split at h
  · rename_i x0 x1
    refine (runFn_at (t := tmk 0 20 [(0, x0), (1, .int .u16 x1)]) (by kernel_rfl) (by kernel_rfl)).trans (Eq.trans ?_ h)
    exact M75_0_ok x0 x1 H
  · cases h
theorem M75_sound {o : Orc} (ho : ∀ f, FSound Tryz.prog f (o f)) (N : Nat) : FSound Tryz.prog 75 (M75 o N) :=
  FSound.sub (runFn_ok (an := .n) (fuel := N) hmix ho (by kernel_rfl) (by kernel_rfl)) (M75_run o N)
/-! 76 (*ostinato/sched.Sched).Now -/
def M76_0 (o : Orc) (N : Nat) (J : V → Int → Heap → Ans) (κ : Kv) (x0 : V) (x1 : Int) (H : Heap) : Ans :=
  J x0 x1 H
theorem M76_0_ok {o : Orc} {N : Nat} {κ : Kv} {J : Kt} {J' : V → Int → Heap → Ans} (hJ : ∀ x0 x1 H, J (tmk 0 55 [(0, x0), (1, .int .i64 x1)]) H = J' x0 x1 H) (x0 : V) (x1 : Int) (H : Heap) :
    run Tryz.prog o N (cAt Tryz.f76 [0]) .n (env0 Tryz.prog Tryz.f76 κ) (tmk 0 55 [(0, x0), (1, .int .i64 x1)]) H (kj [0, 1] J) = M76_0 o N J' κ x0 x1 H := by
  obtain rfl := fx3 hJ
  kernel_rfl
def M76_1 (o : Orc) (N : Nat) (J : V → Int → Heap → Ans) (κ : Kv) (x0 : V) (x1 : Int) (H : Heap) : Ans :=
  asP x0 fun p1 o2 =>
  (ldI H .i64 p1 (o2 + 2)).bind fun n3 =>
  cond (decide (x1 < n3)) (
  κ .nils H) (
  J x0 x1 H)
theorem M76_1_ok {o : Orc} {N : Nat} {κ : Kv} {J : Kt} {J' : V → Int → Heap → Ans} (hJ : ∀ x0 x1 H, J (tmk 0 55 [(0, x0), (1, .int .i64 x1)]) H = J' x0 x1 H) (x0 : V) (x1 : Int) (H : Heap) :
    run Tryz.prog o N (cAt Tryz.f76 [1, 4, 0]) .n (env0 Tryz.prog Tryz.f76 κ) (tmk 0 55 [(0, x0), (1, .int .i64 x1)]) H (kj [0, 1] J) = M76_1 o N J' κ x0 x1 H := by
  obtain rfl := fx3 hJ
  kernel_rfl
def A76_2 : An := (.d [0, 1, 2, 3, 4, 5, 6, 7, 8, 9, 10, 11, 12, 13, 14])
def M76_3 (o : Orc) (N : Nat) (J : V → Int → V → Heap → Ans) (κ : Kv) (x0 : V) (x1 : Int) (H : Heap) : Ans :=
  asP x0 fun p4 o5 =>
  (ldV (Heap.skip H 15) p4 (o5 + 0)).bind fun v6 =>
  asP x0 fun p7 o8 =>
  (ldI (Heap.skip H 15) .i64 p7 (o8 + 1)).bind fun n9 =>
  asP x0 fun p10 o11 =>
  (ldI (Heap.skip H 15) .i64 p10 (o11 + 2)).bind fun n12 =>
  o 120 [v6, (.int .i64 n9), (.int .i64 n12), (.int .i64 x1)] (Heap.skip H 15) fun v13 H14 =>
  J x0 x1 v13 H14
theorem M76_3_ok {o : Orc} {N : Nat} {κ : Kv} {J : Kt} {J' : V → Int → V → Heap → Ans} (hJ : ∀ x0 x1 x5 H, J (tmk 0 55 [(0, x0), (1, .int .i64 x1), (5, x5)]) H = J' x0 x1 x5 H) (x0 : V) (x1 : Int) (H : Heap) :
    run Tryz.prog o N (cAt Tryz.f76 [1, 4, 1, 0]) A76_2 (env0 Tryz.prog Tryz.f76 κ) (tmk 0 55 [(0, x0), (1, .int .i64 x1)]) H (kj [0, 1, 5] J) = M76_3 o N J' κ x0 x1 H := by
  obtain rfl := fx4 hJ
  kernel_rfl
def M76_4 (o : Orc) (N : Nat) (J : V → V → Heap → Ans) (κ : Kv) (x0 : V) (x1 : Int) (x5 : V) (H : Heap) : Ans :=
  asP x0 fun p15 o16 =>
  (stN H p15 (o16 + 2) [(.int .i64 x1)]).bind fun H17 =>
  J x0 x5 H17
theorem M76_4_ok {o : Orc} {N : Nat} {κ : Kv} {J : Kt} {J' : V → V → Heap → Ans} (hJ : ∀ x0 x5 H, J (tmk 0 55 [(0, x0), (5, x5)]) H = J' x0 x5 H) (x0 : V) (x1 : Int) (x5 : V) (H : Heap) :
    run Tryz.prog o N (cAt Tryz.f76 [1, 4, 1, 1, 0]) .n (env0 Tryz.prog Tryz.f76 κ) (tmk 0 55 [(0, x0), (1, .int .i64 x1), (5, x5)]) H (kj [0, 5] J) = M76_4 o N J' κ x0 x1 x5 H := by
  obtain rfl := fx3 hJ
  kernel_rfl
def M76_5 (o : Orc) (N : Nat) (J : V → V → Heap → Ans) (κ : Kv) (x0 x5 : V) (H : Heap) : Ans :=
  J x0 x5 H
theorem M76_5_ok {o : Orc} {N : Nat} {κ : Kv} {J : Kt} {J' : V → V → Heap → Ans} (hJ : ∀ x0 x5 H, J (tmk 0 55 [(0, x0), (5, x5)]) H = J' x0 x5 H) (x0 x5 : V) (H : Heap) :
    run Tryz.prog o N (cAt Tryz.f76 [1, 4, 1, 1, 1, 0]) .n (env0 Tryz.prog Tryz.f76 κ) (tmk 0 55 [(0, x0), (5, x5)]) H (kj [0, 5] J) = M76_5 o N J' κ x0 x5 H := by
  obtain rfl := fx3 hJ
  kernel_rfl
def M76_6 (o : Orc) (N : Nat) (J : V → V → V → Int → Int → Heap → Ans) (κ : Kv) (x0 x5 : V) (H : Heap) : Ans :=
  lenS x5 fun n18 =>
  J x0 x5 x5 n18 0 H
theorem M76_6_ok {o : Orc} {N : Nat} {κ : Kv} {J : Kt} {J' : V → V → V → Int → Int → Heap → Ans} (hJ : ∀ x0 x5 x32 x33 x34 H, J (tmk 0 55 [(0, x0), (5, x5), (32, x32), (33, .int .i64 x33), (34, .int .i64 x34)]) H = J' x0 x5 x32 x33 x34 H) (x0 x5 : V) (H : Heap) :
    run Tryz.prog o N (cAt Tryz.f76 [1, 4, 1, 1, 1, 1, 0, 0]) .n (env0 Tryz.prog Tryz.f76 κ) (tmk 0 55 [(0, x0), (5, x5)]) H (kj [0, 5, 32, 33, 34] J) = M76_6 o N J' κ x0 x5 H := by
  obtain rfl := fx6 hJ
  kernel_rfl
def M76_7 (o : Orc) (N : Nat) (X0 : V → Heap → Ans) (J : V → V → V → Int → Int → Heap → Ans) (κ : Kv) (x0 x5 x32 : V) (x33 x34 : Int) (H : Heap) : Ans :=
  cond (decide (x34 < x33)) (
  idxS 6 x32 x34 fun p19 o20 =>
  ldFlat H p19 [.int .i64, .int .i64, .int .i64, .int .i64, .int .i64, .int .i64] o20 fun l21 =>
  newB H (.row [(.int .i64 0), (.int .i64 0), (.int .i64 0), (.int .i64 0), (.int .i64 0), (.int .i64 0)]) fun i22 H23 =>
  cond (Nat.beq (List.length l21) 6 && Nat.blt 0 6) (
  (stN H23 i22 0 l21).bind fun H24 =>
  (ldI H24 .i64 i22 0).bind fun n25 =>
  cond (n25 != 1) (
  (ldI H24 .i64 i22 0).bind fun n26 =>
  cond (n26 != 2) (
  J x0 x5 x32 x33 (IntKind.i64.wrap (x34 + 1)) H24) (
  ldFlat H24 i22 [.int .i64, .int .i64, .int .i64, .int .i64, .int .i64, .int .i64] 0 fun l27 =>
  asP x0 fun p28 o29 =>
  cond (Nat.beq (List.length l27) 6 && Nat.blt 0 6) (
  (stN H24 p28 (o29 + 3) l27).bind fun H30 =>
  asP x0 fun p31 o32 =>
  (stN H30 p31 (o32 + 9) [(.bool true)]).bind fun H33 =>
  J x0 x5 x32 x33 (IntKind.i64.wrap (x34 + 1)) H33) none)) (
  ldFlat H24 i22 [.int .i64, .int .i64, .int .i64, .int .i64, .int .i64, .int .i64] 0 fun l34 =>
  asP x0 fun p35 o36 =>
  cond (Nat.beq (List.length l34) 6 && Nat.blt 0 6) (
  (stN H24 p35 (o36 + 3) l34).bind fun H37 =>
  asP x0 fun p38 o39 =>
  (stN H37 p38 (o39 + 9) [(.bool true)]).bind fun H40 =>
  J x0 x5 x32 x33 (IntKind.i64.wrap (x34 + 1)) H40) none)) none) (
  X0 x5 H)
theorem M76_7_ok {o : Orc} {N : Nat} {κ : Kv} {X0 J : Kt} {X0' : V → Heap → Ans} {J' : V → V → V → Int → Int → Heap → Ans} (h0 : ∀ x5 H, X0 (tmk 0 55 [(5, x5)]) H = X0' x5 H) (hJ : ∀ x0 x5 x32 x33 x34 H, J (tmk 0 55 [(0, x0), (5, x5), (32, x32), (33, .int .i64 x33), (34, .int .i64 x34)]) H = J' x0 x5 x32 x33 x34 H) (x0 x5 x32 : V) (x33 x34 : Int) (H : Heap) :
    run Tryz.prog o N (cAt Tryz.f76 [1, 4, 1, 1, 1, 1, 0, 1, 4, 4]) .n ((env0 Tryz.prog Tryz.f76 κ).block 0 (kj [5] X0)) (tmk 0 55 [(0, x0), (5, x5), (32, x32), (33, .int .i64 x33), (34, .int .i64 x34)]) H (kj [0, 5, 32, 33, 34] J) = M76_7 o N X0' J' κ x0 x5 x32 x33 x34 H := by
  obtain rfl := fx2 h0
  obtain rfl := fx6 hJ
  kernel_rfl
def M76_8 (o : Orc) (N : Nat) (X0 : V → Heap → Ans) (κ : Kv) (n : Nat) : V → V → V → Int → Int → Heap → Ans :=
  Nat.rec (motive := fun _ => V → V → V → Int → Int → Heap → Ans) (fun _ _ _ _ _ _ => none) (fun _ ih x0 x5 x32 x33 x34 H => M76_7 o N X0 ih κ x0 x5 x32 x33 x34 H) n
theorem M76_8_s (o : Orc) (N : Nat) (X0 : V → Heap → Ans) (κ : Kv) (n : Nat) (x0 x5 x32 : V) (x33 x34 : Int) (H : Heap) : M76_8 o N X0 κ (n + 1) x0 x5 x32 x33 x34 H = M76_7 o N X0 (M76_8 o N X0 κ n) κ x0 x5 x32 x33 x34 H := rfl
theorem M76_8_ok {o : Orc} {N : Nat} {κ : Kv} {X0 : Kt} {X0' : V → Heap → Ans} (h0 : ∀ x5 H, X0 (tmk 0 55 [(5, x5)]) H = X0' x5 H) (n : Nat) : ∀ (x0 x5 x32 : V) (x33 x34 : Int) (H : Heap),
    rounds (fun a H k => run Tryz.prog o N (cAt Tryz.f76 [1, 4, 1, 1, 1, 1, 0, 1, 4, 4]) .n ((env0 Tryz.prog Tryz.f76 κ).block 0 (kj [5] X0)) a H k) (some (lvOf [0, 5, 32, 33, 34])) n (tmk 0 55 [(0, x0), (5, x5), (32, x32), (33, .int .i64 x33), (34, .int .i64 x34)]) H = M76_8 o N X0' κ n x0 x5 x32 x33 x34 H := by
  induction n with
  | zero => intros; rfl
  | succ n ih =>
    intro x0 x5 x32 x33 x34 H
    refine (run_round.trans ?_).trans (M76_8_s ..).symm
    exact M76_7_ok h0 ih x0 x5 x32 x33 x34 H
def A76_9 : An := .b none (.l (some (lvOf [0, 5, 32, 33, 34])) .n)
def A76_10 : An := .s .n (some (lvOf [0, 5, 32, 33, 34])) A76_9
def M76_11 (o : Orc) (N : Nat) (κ : Kv) (x5 : V) (H : Heap) : Ans :=
  κ x5 H
theorem M76_11_ok {o : Orc} {N : Nat} {κ : Kv} (x5 : V) (H : Heap) :
    run Tryz.prog o N (cAt Tryz.f76 [1, 4, 1, 1, 1, 1, 1]) .n (env0 Tryz.prog Tryz.f76 κ) (tmk 0 55 [(5, x5)]) H (env0 Tryz.prog Tryz.f76 κ).ret = M76_11 o N κ x5 H := by
  kernel_rfl
def A76_12 : An := .s .n (some (lvOf [0, 5])) (.s A76_10 (some (lvOf [5])) .n)
def A76_13 : An := .s A76_2 (some (lvOf [0, 1, 5])) (.s .n (some (lvOf [0, 5])) A76_12)
def A76_14 : An := .s .n (some (lvOf [0, 1])) (.s .n (some (lvOf [0, 1])) A76_13)
def M76 (o : Orc) (N : Nat) : FnM := fun vs H κ => match vs with
  | [x0, .int .i64 x1] => M76_0 o N (fun x0 x1 H => M76_1 o N (fun x0 x1 H => M76_3 o N (fun x0 x1 x5 H => M76_4 o N (fun x0 x5 H => M76_5 o N (fun x0 x5 H => M76_6 o N (fun x0 x5 x32 x33 x34 H => M76_8 o N (fun x5 H => M76_11 o N κ x5 H) κ N x0 x5 x32 x33 x34 H) κ x0 x5 H) κ x0 x5 H) κ x0 x1 x5 H) κ x0 x1 H) κ x0 x1 H) κ x0 x1 H
  | _ => none
theorem M76_run (o : Orc) (N : Nat) (vs : List V) (H : Heap) (κ : Kv) (r) (h : M76 o N vs H κ = some r) : runFn Tryz.prog o N Tryz.f76 A76_14 vs H κ = some r := by
  unfold M76 at h
  split at h
  · rename_i x0 x1
    refine (runFn_at (t := tmk 0 55 [(0, x0), (1, .int .i64 x1)]) (by kernel_rfl) (by kernel_rfl)).trans (Eq.trans ?_ h)
    refine (run_seq (x := (cAt Tryz.f76 [0])) (ax := .n) (y := (cAt Tryz.f76 [1])) (ay := (.s .n (some (lvOf [0, 1])) A76_13)) (l := [0, 1]) (by kernel_rfl) (by kernel_rfl)).trans ?_
    refine M76_0_ok ?_ x0 x1 H
    intro x0 x1 H
    refine (run_scope (x := (cAt Tryz.f76 [1, 4])) (by kernel_rfl)).trans ?_
    refine (run_seq (x := (cAt Tryz.f76 [1, 4, 0])) (ax := .n) (y := (cAt Tryz.f76 [1, 4, 1])) (ay := A76_13) (l := [0, 1]) (by kernel_rfl) (by kernel_rfl)).trans ?_
    refine M76_1_ok ?_ x0 x1 H
    intro x0 x1 H
    refine (run_seq (x := (cAt Tryz.f76 [1, 4, 1, 0])) (ax := A76_2) (y := (cAt Tryz.f76 [1, 4, 1, 1])) (ay := (.s .n (some (lvOf [0, 5])) A76_12)) (l := [0, 1, 5]) (by kernel_rfl) (by kernel_rfl)).trans ?_
    refine M76_3_ok ?_ x0 x1 H
    intro x0 x1 x5 H
    refine (run_seq (x := (cAt Tryz.f76 [1, 4, 1, 1, 0])) (ax := .n) (y := (cAt Tryz.f76 [1, 4, 1, 1, 1])) (ay := A76_12) (l := [0, 5]) (by kernel_rfl) (by kernel_rfl)).trans ?_
    refine M76_4_ok ?_ x0 x1 x5 H
    intro x0 x5 H
    refine (run_seq (x := (cAt Tryz.f76 [1, 4, 1, 1, 1, 0])) (ax := .n) (y := (cAt Tryz.f76 [1, 4, 1, 1, 1, 1])) (ay := (.s A76_10 (some (lvOf [5])) .n)) (l := [0, 5]) (by kernel_rfl) (by kernel_rfl)).trans ?_
    refine M76_5_ok ?_ x0 x5 H
    intro x0 x5 H
    refine (run_seq (x := (cAt Tryz.f76 [1, 4, 1, 1, 1, 1, 0])) (ax := A76_10) (y := (cAt Tryz.f76 [1, 4, 1, 1, 1, 1, 1])) (ay := .n) (l := [5]) (by kernel_rfl) (by kernel_rfl)).trans ?_
    refine (run_seq (x := (cAt Tryz.f76 [1, 4, 1, 1, 1, 1, 0, 0])) (ax := .n) (y := (cAt Tryz.f76 [1, 4, 1, 1, 1, 1, 0, 1])) (ay := A76_9) (l := [0, 5, 32, 33, 34]) (by kernel_rfl) (by kernel_rfl)).trans ?_
    refine M76_6_ok ?_ x0 x5 H
    intro x0 x5 x32 x33 x34 H
    refine (run_block (id := 0) (x := (cAt Tryz.f76 [1, 4, 1, 1, 1, 1, 0, 1, 4])) (ax := (.l (some (lvOf [0, 5, 32, 33, 34])) .n)) (by kernel_rfl) (by kernel_rfl)).trans ?_
    refine (run_loop (x := (cAt Tryz.f76 [1, 4, 1, 1, 1, 1, 0, 1, 4, 4])) (ax := .n) (l := [0, 5, 32, 33, 34]) (by kernel_rfl) (by kernel_rfl) (by kernel_rfl)).trans ?_
    refine M76_8_ok ?_ N x0 x5 x32 x33 x34 H
    intro x5 H
    exact M76_11_ok x5 H
  · cases h
theorem M76_sound {o : Orc} (ho : ∀ f, FSound Tryz.prog f (o f)) (N : Nat) : FSound Tryz.prog 76 (M76 o N) :=
  FSound.sub (runFn_ok (an := A76_14) (fuel := N) hmix ho (by kernel_rfl) (by kernel_rfl)) (M76_run o N)
/-! 77 (*ostinato/node.Node).does -/
def A77_0 : An := (.s .n none (.s .n none (.b none (.s .n none (.c (.s (.d [0, 1, 2, 3, 4, 5, 6, 7, 8, 9, 10, 11, 12]) none (.s .n none (.c (.s (.d [0, 1, 2, 3, 4, 5, 6, 7]) none .n) .n))) .n)))))
def M77_1 (o : Orc) (N : Nat) (κ : Kv) (x0 : V) (x1 : List V) (x2 : Int) (H : Heap) : Ans :=
  cond (List.all x1 V.one) (
  newB H (.row x1) fun i1 H2 =>
  (ldI H2 .i64 i1 0).bind fun n3 =>
  cond (n3 == 1) (
  asP x0 fun p4 o5 =>
  (ldV (Heap.skip H2 13) p4 ((o5 + 13) + 4)).bind fun v6 =>
  (ldI (Heap.skip H2 13) .i64 i1 4).bind fun n7 =>
  o 121 [v6, (.int .i64 n7)] (Heap.skip H2 13) fun v8 H9 =>
  asT2 v8 fun v10 v11 =>
  asS v10 fun s12 =>
  asB v11 fun b13 =>
  cond (!b13) (
  asP x0 fun p14 o15 =>
  (ldV (Heap.skip H9 8) p14 ((o15 + 13) + 5)).bind fun v16 =>
  (ldI (Heap.skip H9 8) .i64 i1 4).bind fun n17 =>
  o 124 [v16, (.int .i64 n17)] (Heap.skip H9 8) fun v18 H19 =>
  asT0 v18 (
  asP x0 fun p20 o21 =>
  (ldV H19 p20 ((o21 + 13) + 7)).bind fun v22 =>
  o 125 [v22] H19 fun v23 H24 =>
  asT0 v23 (
  κ (.tup []) H24))) (
  o 49 [x0] H9 fun v25 H26 =>
  asI .i64 v25 fun n27 =>
  o 122 [(.int .i64 n27)] H26 fun v28 H29 =>
  asB v28 fun b30 =>
  cond (!b30) (
  asP x0 fun p31 o32 =>
  (ldV (Heap.skip H29 8) p31 ((o32 + 13) + 5)).bind fun v33 =>
  (ldI (Heap.skip H29 8) .i64 i1 4).bind fun n34 =>
  o 124 [v33, (.int .i64 n34)] (Heap.skip H29 8) fun v35 H36 =>
  asT0 v35 (
  asP x0 fun p37 o38 =>
  (ldV H36 p37 ((o38 + 13) + 7)).bind fun v39 =>
  o 125 [v39] H36 fun v40 H41 =>
  asT0 v40 (
  κ (.tup []) H41))) (
  (ldI H29 .i64 i1 4).bind fun n42 =>
  o 123 [x0, (.int .i64 n42), (.str s12)] H29 fun v43 H44 =>
  asB v43 fun b45 =>
  cond (!b45) (
  asP x0 fun p46 o47 =>
  (ldV (Heap.skip H44 8) p46 ((o47 + 13) + 5)).bind fun v48 =>
  (ldI (Heap.skip H44 8) .i64 i1 4).bind fun n49 =>
  o 124 [v48, (.int .i64 n49)] (Heap.skip H44 8) fun v50 H51 =>
  asT0 v50 (
  asP x0 fun p52 o53 =>
  (ldV H51 p52 ((o53 + 13) + 7)).bind fun v54 =>
  o 125 [v54] H51 fun v55 H56 =>
  asT0 v55 (
  κ (.tup []) H56))) (
  κ (.tup []) H44)))) (
  cond (n3 == 2) (
  asP x0 fun p57 o58 =>
  (ldV H2 p57 ((o58 + 13) + 4)).bind fun v59 =>
  o 126 [v59] H2 fun v60 H61 =>
  asT2 v60 fun v62 v63 =>
  asA v62 fun l64 =>
  asB v63 fun b65 =>
  newB H61 (.row [(.int .i64 0), (.str [])]) fun i66 H67 =>
  cond (Nat.beq (List.length l64) 2 && Nat.blt 0 2) (
  (stN H67 i66 0 l64).bind fun H68 =>
  cond (!b65) (
  asP x0 fun p69 o70 =>
  (ldV H68 p69 ((o70 + 13) + 7)).bind fun v71 =>
  o 125 [v71] H68 fun v72 H73 =>
  asT0 v72 (
  κ (.tup []) H73)) (
  o 49 [x0] H68 fun v74 H75 =>
  asI .i64 v74 fun n76 =>
  o 127 [(.int .i64 n76)] H75 fun v77 H78 =>
  asB v77 fun b79 =>
  cond (!b79) (
  asP x0 fun p80 o81 =>
  (ldV H78 p80 ((o81 + 13) + 7)).bind fun v82 =>
  o 125 [v82] H78 fun v83 H84 =>
  asT0 v83 (
  κ (.tup []) H84)) (
  (ldI H78 .i64 i66 0).bind fun n85 =>
  (ldS H78 i66 1).bind fun s86 =>
  o 123 [x0, (.int .i64 n85), (.str s86)] H78 fun v87 H88 =>
  asB v87 fun b89 =>
  cond (!b89) (
  asP x0 fun p90 o91 =>
  (ldV H88 p90 ((o91 + 13) + 7)).bind fun v92 =>
  o 125 [v92] H88 fun v93 H94 =>
  asT0 v93 (
  κ (.tup []) H94)) (
  κ (.tup []) H88)))) none) (
  cond (n3 == 3) (
  (ldI H2 .i64 i1 4).bind fun n95 =>
  o 128 [x0, (.int .i64 n95)] H2 fun v96 H97 =>
  asT0 v96 (
  κ (.tup []) H97)) (
  cond (n3 == 4) (
  asP x0 fun p98 o99 =>
  (ldV H2 p98 ((o99 + 13) + 6)).bind fun v100 =>
  o 129 [v100] H2 fun v101 H102 =>
  asB v101 fun b103 =>
  (ldI H102 .i64 i1 4).bind fun n104 =>
  cond (n104 == 1) (
  asP x0 fun p105 o106 =>
  (ldV H102 p105 ((o106 + 13) + 6)).bind fun v107 =>
  o 130 [v107] H102 fun v108 H109 =>
  asB v108 fun b110 =>
  cond b110 (
  o 49 [x0] H109 fun v111 H112 =>
  asI .i64 v111 fun n113 =>
  o 122 [(.int .i64 n113)] H112 fun v114 H115 =>
  asB v114 fun b116 =>
  cond b116 (
  o 131 [x0, (.int .u16 x2)] H115 fun v117 H118 =>
  asT0 v117 (
  κ (.tup []) H118)) (
  κ (.tup []) H115)) (
  κ (.tup []) H109)) (
  cond b103 (
  o 49 [x0] H102 fun v119 H120 =>
  asI .i64 v119 fun n121 =>
  o 122 [(.int .i64 n121)] H120 fun v122 H123 =>
  asB v122 fun b124 =>
  cond b124 (
  o 131 [x0, (.int .u16 x2)] H123 fun v125 H126 =>
  asT0 v125 (
  κ (.tup []) H126)) (
  κ (.tup []) H123)) (
  κ (.tup []) H102))) (
  cond (n3 == 5) (
  o 132 [x0] H2 fun v127 H128 =>
  asT0 v127 (
  κ (.tup []) H128)) (
  κ (.tup []) H2)))))) none
theorem M77_1_ok {o : Orc} {N : Nat} {κ : Kv} (x0 : V) (x1 : List V) (x2 : Int) (H : Heap) :
    run Tryz.prog o N (cAt Tryz.f77 []) A77_0 (env0 Tryz.prog Tryz.f77 κ) (tmk 0 126 [(0, x0), (1, .agg x1), (2, .int .u16 x2)]) H (env0 Tryz.prog Tryz.f77 κ).ret = M77_1 o N κ x0 x1 x2 H := by
  kernel_rfl
def M77 (o : Orc) (N : Nat) : FnM := fun vs H κ => match vs with
  | [x0, .agg x1, .int .u16 x2] => M77_1 o N κ x0 x1 x2 H
  | _ => none
theorem M77_run (o : Orc) (N : Nat) (vs : List V) (H : Heap) (κ : Kv) (r) (h : M77 o N vs H κ = some r) : runFn Tryz.prog o N Tryz.f77 A77_0 vs H κ = some r := by
  unfold M77 at h
  split at h
  · rename_i x0 x1 x2
    refine (runFn_at (t := tmk 0 126 [(0, x0), (1, .agg x1), (2, .int .u16 x2)]) (by kernel_rfl) (by kernel_rfl)).trans (Eq.trans ?_ h)
    exact M77_1_ok x0 x1 x2 H
  · cases h
theorem M77_sound {o : Orc} (ho : ∀ f, FSound Tryz.prog f (o f)) (N : Nat) : FSound Tryz.prog 77 (M77 o N) :=
  FSound.sub (runFn_ok (an := A77_0) (fuel := N) hmix ho (by kernel_rfl) (by kernel_rfl)) (M77_run o N)
/-! 78 (*ostinato/node.Node).waits -/
def A78_0 : An := (.s .n none (.s (.s (.d [0, 1, 2, 3, 4, 5, 6, 7, 8, 9, 10, 11, 12, 13, 14, 15, 16, 17, 18, 19, 20, 21, 22, 23, 24, 25, 26, 27, 28, 29, 30, 31, 32, 33, 34, 35, 36, 37, 38, 39, 40]) none .n) none .n))
def M78_1 (o : Orc) (N : Nat) (κ : Kv) (x0 : V) (x1 x2 : Int) (H : Heap) : Ans :=
  asP x0 fun p1 o2 =>
  (ldI H .i64 p1 (o2 + 21)).bind fun n3 =>
  asP x0 fun p4 o5 =>
  (stN H p4 (o5 + 21) [(.int .i64 (IntKind.i64.wrap (n3 + x1)))]).bind fun H6 =>
  asP x0 fun p7 o8 =>
  (ldI (Heap.skip H6 41) .i64 p7 (o8 + 21)).bind fun n9 =>
  asP x0 fun p10 o11 =>
  (ldI (Heap.skip H6 41) .i64 p10 ((o11 + 0) + 6)).bind fun n12 =>
  asP x0 fun p13 o14 =>
  (ldI (Heap.skip H6 41) .i64 p13 (o14 + 12)).bind fun n15 =>
  asP x0 fun p16 o17 =>
  ldFlat (Heap.skip H6 41) p16 [.int .i64, .int .i64, .int .i64, .int .i64, .int .i64, .int .i64, .int .i64, .int .u32, .oth, .oth, .oth] (o17 + 0) fun l18 =>
  o 107 [(.agg l18)] (Heap.skip H6 41) fun v19 H20 =>
  asI .i64 v19 fun n21 =>
  (ldI H20 .i64 p13 (o14 + 12)).bind fun n22 =>
  cond (decide (n15 = n22)) (
  (ldI H20 .i64 p10 ((o11 + 0) + 6)).bind fun n23 =>
  cond (decide (n12 = n23)) (
  (ldI H20 .i64 p7 (o8 + 21)).bind fun n24 =>
  cond (decide (n9 = n24)) (
  cond (decide (n9 < (IntKind.i64.wrap (n12 + (IntKind.i64.wrap ((IntKind.i64.wrap (n15 + 1)) * n21)))))) (
  κ (.tup []) H20) (
  asP x0 fun p25 o26 =>
  (ldV H20 p25 ((o26 + 13) + 6)).bind fun v27 =>
  o 130 [v27] H20 fun v28 H29 =>
  asB v28 fun b30 =>
  cond (!b30) (
  κ (.tup []) H29) (
  asP x0 fun p31 o32 =>
  (ldV H29 p31 ((o32 + 13) + 5)).bind fun v33 =>
  o 46 [v33, (.bool false), (.bool false)] H29 fun v34 H35 =>
  asI .i64 v34 fun n36 =>
  o 122 [(.int .i64 n36)] H35 fun v37 H38 =>
  asB v37 fun b39 =>
  cond (!b39) (
  κ (.tup []) H38) (
  o 131 [x0, (.int .u16 x2)] H38 fun v40 H41 =>
  asT0 v40 (
  asP x0 fun p42 o43 =>
  (stN H41 p42 (o43 + 21) [(.int .i64 0)]).bind fun H44 =>
  κ (.tup []) H44))))) none) none) none
theorem M78_1_ok {o : Orc} {N : Nat} {κ : Kv} (x0 : V) (x1 x2 : Int) (H : Heap) :
    run Tryz.prog o N (cAt Tryz.f78 []) A78_0 (env0 Tryz.prog Tryz.f78 κ) (tmk 0 61 [(0, x0), (1, .int .i64 x1), (2, .int .u16 x2)]) H (env0 Tryz.prog Tryz.f78 κ).ret = M78_1 o N κ x0 x1 x2 H := by
  kernel_rfl
def M78 (o : Orc) (N : Nat) : FnM := fun vs H κ => match vs with
  | [x0, .int .i64 x1, .int .u16 x2] => M78_1 o N κ x0 x1 x2 H
  | _ => none
theorem M78_run (o : Orc) (N : Nat) (vs : List V) (H : Heap) (κ : Kv) (r) (h : M78 o N vs H κ = some r) : runFn Tryz.prog o N Tryz.f78 A78_0 vs H κ = some r := by
  unfold M78 at h
  split at h
  · rename_i x0 x1 x2
    refine (runFn_at (t := tmk 0 61 [(0, x0), (1, .int .i64 x1), (2, .int .u16 x2)]) (by kernel_rfl) (by kernel_rfl)).trans (Eq.trans ?_ h)
    exact M78_1_ok x0 x1 x2 H
  · cases h
theorem M78_sound {o : Orc} (ho : ∀ f, FSound Tryz.prog f (o f)) (N : Nat) : FSound Tryz.prog 78 (M78 o N) :=
  FSound.sub (runFn_ok (an := A78_0) (fuel := N) hmix ho (by kernel_rfl) (by kernel_rfl)) (M78_run o N)
/-! 79 ostinato/clock.Since -/
def M79_0 (o : Orc) (N : Nat) (κ : Kv) (x0 x1 : Int) (H : Heap) : Ans :=
  κ (.int .i64 (IntKind.i64.wrap (IntKind.u16.wrap (x1 - x0)))) H
theorem M79_0_ok {o : Orc} {N : Nat} {κ : Kv} (x0 x1 : Int) (H : Heap) :
    run Tryz.prog o N (cAt Tryz.f79 []) .n (env0 Tryz.prog Tryz.f79 κ) (tmk 0 9 [(0, .int .u16 x0), (1, .int .u16 x1)]) H (env0 Tryz.prog Tryz.f79 κ).ret = M79_0 o N κ x0 x1 H := by
  kernel_rfl
def M79 (o : Orc) (N : Nat) : FnM := fun vs H κ => match vs with
  | [.int .u16 x0, .int .u16 x1] => M79_0 o N κ x0 x1 H
  | _ => none
theorem M79_run (o : Orc) (N : Nat) (vs : List V) (H : Heap) (κ : Kv) (r) (h : M79 o N vs H κ = some r) : runFn Tryz.prog o N Tryz.f79 .n vs H κ = some r := by
  unfold M79 at h
  split at h
  · rename_i x0 x1
    refine (runFn_at (t := tmk 0 9 [(0, .int .u16 x0), (1, .int .u16 x1)]) (by kernel_rfl) (by kernel_rfl)).trans (Eq.trans ?_ h)
    exact M79_0_ok x0 x1 H
  · cases h
theorem M79_sound {o : Orc} (ho : ∀ f, FSound Tryz.prog f (o f)) (N : Nat) : FSound Tryz.prog 79 (M79 o N) :=
  FSound.sub (runFn_ok (an := .n) (fuel := N) hmix ho (by kernel_rfl) (by kernel_rfl)) (M79_run o N)
/-! 80 (*ostinato/sched.Sched).Over -/
def M80_0 (o : Orc) (N : Nat) (κ : Kv) (x0 : V) (x1 : Int) (H : Heap) : Ans :=
  asP x0 fun p1 o2 =>
  (ldB H p1 (o2 + 9)).bind fun b3 =>
  cond b3 (
  asP x0 fun p4 o5 =>
  (ldI H .i64 p4 ((o5 + 3) + 5)).bind fun n6 =>
  κ (.bool (decide (x1 > n6))) H) (
  κ (.bool false) H)
theorem M80_0_ok {o : Orc} {N : Nat} {κ : Kv} (x0 : V) (x1 : Int) (H : Heap) :
    run Tryz.prog o N (cAt Tryz.f80 []) .n (env0 Tryz.prog Tryz.f80 κ) (tmk 0 18 [(0, x0), (1, .int .i64 x1)]) H (env0 Tryz.prog Tryz.f80 κ).ret = M80_0 o N κ x0 x1 H := by
  kernel_rfl
def M80 (o : Orc) (N : Nat) : FnM := fun vs H κ => match vs with
  | [x0, .int .i64 x1] => M80_0 o N κ x0 x1 H
  | _ => none
theorem M80_run (o : Orc) (N : Nat) (vs : List V) (H : Heap) (κ : Kv) (r) (h : M80 o N vs H κ = some r) : runFn Tryz.prog o N Tryz.f80 .n vs H κ = some r := by
  unfold M80 at h
  split at h
  · rename_i x0 x1
    refine (runFn_at (t := tmk 0 18 [(0, x0), (1, .int .i64 x1)]) (by kernel_rfl) (by kernel_rfl)).trans (Eq.trans ?_ h)
    exact M80_0_ok x0 x1 H
  · cases h
theorem M80_sound {o : Orc} (ho : ∀ f, FSound Tryz.prog f (o f)) (N : Nat) : FSound Tryz.prog 80 (M80 o N) :=
  FSound.sub (runFn_ok (an := .n) (fuel := N) hmix ho (by kernel_rfl) (by kernel_rfl)) (M80_run o N)
/-! 81 (*ostinato/node.Node).closes -/
def A81_0 : An := (.s .n none (.s (.s .n none (.c (.d [0, 1, 2, 3, 4, 5, 6, 7]) .n)) none .n))
def M81_1 (o : Orc) (N : Nat) (κ : Kv) (x0 : V) (H : Heap) : Ans :=
  asP x0 fun p1 o2 =>
  (ldV H p1 ((o2 + 13) + 7)).bind fun v3 =>
  o 133 [v3] H fun v4 H5 =>
  asT2 v4 fun v6 v7 =>
  asA v6 fun l8 =>
  asB v7 fun b9 =>
  newB H5 (.row [(.int .i64 0), (.int .i64 0), (.int .i64 0), (.int .i64 0), (.int .i64 0), (.int .i64 0)]) fun i10 H11 =>
  cond (Nat.beq (List.length l8) 6 && Nat.blt 0 6) (
  (stN H11 i10 0 l8).bind fun H12 =>
  asP x0 fun p13 o14 =>
  (ldV H12 p13 ((o14 + 13) + 1)).bind fun v15 =>
  o 134 [v15] H12 fun v16 H17 =>
  asB v16 fun b18 =>
  cond b18 (
  (ldI H17 .i64 i10 0).bind fun n19 =>
  cond (n19 == 1) (
  asP x0 fun p20 o21 =>
  (ldV (Heap.skip H17 8) p20 ((o21 + 13) + 5)).bind fun v22 =>
  (ldI (Heap.skip H17 8) .i64 i10 4).bind fun n23 =>
  o 124 [v22, (.int .i64 n23)] (Heap.skip H17 8) fun v24 H25 =>
  asT0 v24 (
  asP x0 fun p26 o27 =>
  (ldV H25 p26 ((o27 + 13) + 7)).bind fun v28 =>
  o 125 [v28] H25 fun v29 H30 =>
  asT0 v29 (
  κ (.tup []) H30))) (
  asP x0 fun p31 o32 =>
  (ldV H17 p31 ((o32 + 13) + 7)).bind fun v33 =>
  o 125 [v33] H17 fun v34 H35 =>
  asT0 v34 (
  κ (.tup []) H35))) (
  asP x0 fun p36 o37 =>
  (ldV H17 p36 ((o37 + 13) + 7)).bind fun v38 =>
  o 125 [v38] H17 fun v39 H40 =>
  asT0 v39 (
  κ (.tup []) H40))) none
theorem M81_1_ok {o : Orc} {N : Nat} {κ : Kv} (x0 : V) (H : Heap) :
    run Tryz.prog o N (cAt Tryz.f81 []) A81_0 (env0 Tryz.prog Tryz.f81 κ) (tmk 0 38 [(0, x0)]) H (env0 Tryz.prog Tryz.f81 κ).ret = M81_1 o N κ x0 H := by
  kernel_rfl
def M81 (o : Orc) (N : Nat) : FnM := fun vs H κ => match vs with
  | [x0] => M81_1 o N κ x0 H
  | _ => none
theorem M81_run (o : Orc) (N : Nat) (vs : List V) (H : Heap) (κ : Kv) (r) (h : M81 o N vs H κ = some r) : runFn Tryz.prog o N Tryz.f81 A81_0 vs H κ = some r := by
  unfold M81 at h
  split at h
  · rename_i x0
    refine (runFn_at (t := tmk 0 38 [(0, x0)]) (by kernel_rfl) (by kernel_rfl)).trans (Eq.trans ?_ h)
    exact M81_1_ok x0 H
  · cases h
theorem M81_sound {o : Orc} (ho : ∀ f, FSound Tryz.prog f (o f)) (N : Nat) : FSound Tryz.prog 81 (M81 o N) :=
  FSound.sub (runFn_ok (an := A81_0) (fuel := N) hmix ho (by kernel_rfl) (by kernel_rfl)) (M81_run o N)
/-! 82 (*ostinato/mac.Mac).Drive -/
def A82_0 : An := (.s .n none (.s .n none (.s (.s .n none (.b none (.s .n none (.c .n (.s .n none (.c (.s (.s .n none (.c (.s (.d [0, 1, 2, 3, 4, 5, 6, 7, 8, 9, 10, 11]) none .n) .n)) none .n) .n)))))) none .n)))
def M82_1 (o : Orc) (N : Nat) (κ : Kv) (x0 : V) (H : Heap) : Ans :=
  asP x0 fun p1 o2 =>
  (ldI H .i64 p1 (o2 + 0)).bind fun n3 =>
  cond (n3 == 0) (
  asP x0 fun p4 o5 =>
  (ldB H p4 (o5 + 4)).bind fun b6 =>
  cond b6 (
  κ (.int .u8 48) H) (
  κ (.int .u8 49) H)) (
  cond (n3 == 1) (
  asP x0 fun p7 o8 =>
  (ldB H p7 ((o8 + 9) + 0)).bind fun b9 =>
  cond b9 (
  asP x0 fun p10 o11 =>
  (ldS (Heap.skip H 12) p10 ((o11 + 9) + 1)).bind fun s12 =>
  asP x0 fun p13 o14 =>
  (ldI (Heap.skip H 12) .i64 p13 ((o14 + 9) + 3)).bind fun n15 =>
  cond (decide (0 ≤ n15)) (
  (nth s12 (Int.toNat n15)).bind fun c16 =>
  κ (.int .u8 (Int.ofNat c16)) (Heap.skip H 12)) none) (
  asP x0 fun p17 o18 =>
  o 135 [(.ptr p17 (o18 + 13))] H fun v19 H20 =>
  asB v19 fun b21 =>
  cond b21 (
  asP x0 fun p22 o23 =>
  o 136 [(.ptr p22 (o23 + 13))] H20 fun v24 H25 =>
  asB v24 fun b26 =>
  cond b26 (
  κ (.int .u8 48) H25) (
  κ (.int .u8 49) H25)) (
  κ (.int .u8 49) H20))) (
  cond (n3 == 3) (
  asP x0 fun p27 o28 =>
  ldFlat H p27 [.int .i64, .int .i64] (o28 + 2) fun l29 =>
  o 137 [(.agg l29)] H fun v30 H31 =>
  asB v30 fun b32 =>
  cond (!b32) (
  κ (.int .u8 48) H31) (
  κ (.int .u8 49) H31)) (
  κ (.int .u8 49) H)))
theorem M82_1_ok {o : Orc} {N : Nat} {κ : Kv} (x0 : V) (H : Heap) :
    run Tryz.prog o N (cAt Tryz.f82 []) A82_0 (env0 Tryz.prog Tryz.f82 κ) (tmk 0 51 [(0, x0)]) H (env0 Tryz.prog Tryz.f82 κ).ret = M82_1 o N κ x0 H := by
  kernel_rfl
def M82 (o : Orc) (N : Nat) : FnM := fun vs H κ => match vs with
  | [x0] => M82_1 o N κ x0 H
  | _ => none
theorem M82_run (o : Orc) (N : Nat) (vs : List V) (H : Heap) (κ : Kv) (r) (h : M82 o N vs H κ = some r) : runFn Tryz.prog o N Tryz.f82 A82_0 vs H κ = some r := by
  unfold M82 at h
  split at h
  · rename_i x0
    refine (runFn_at (t := tmk 0 51 [(0, x0)]) (by kernel_rfl) (by kernel_rfl)).trans (Eq.trans ?_ h)
    exact M82_1_ok x0 H
  · cases h
theorem M82_sound {o : Orc} (ho : ∀ f, FSound Tryz.prog f (o f)) (N : Nat) : FSound Tryz.prog 82 (M82 o N) :=
  FSound.sub (runFn_ok (an := A82_0) (fuel := N) hmix ho (by kernel_rfl) (by kernel_rfl)) (M82_run o N)
/-! 83 (*ostinato/mac.Mac).Sample -/
def M83_0 (o : Orc) (N : Nat) (κ : Kv) (x0 : V) (x1 : Int) (H : Heap) : Ans :=
  cond (x1 != 48) (
  asP x0 fun p1 o2 =>
  (ldI H .i64 p1 (o2 + 0)).bind fun n3 =>
  cond (n3 == 0) (
  cond (49 == 48) (
  asP x0 fun p4 o5 =>
  (ldB H p4 (o5 + 4)).bind fun b6 =>
  o 138 [x0, (.bool b6)] H fun v7 H8 =>
  κ v7 H8) (
  κ .nils H)) (
  cond (n3 == 1) (
  asP x0 fun p9 o10 =>
  (ldB H p9 ((o10 + 9) + 0)).bind fun b11 =>
  cond b11 (
  o 139 [x0, (.int .u8 49)] H fun v12 H13 =>
  κ v12 H13) (
  o 140 [x0, (.int .u8 49)] H fun v14 H15 =>
  κ v14 H15)) (
  cond (n3 == 2) (
  o 141 [x0] H fun v16 H17 =>
  asT0 v16 (
  κ .nils H17)) (
  cond (n3 == 3) (
  o 142 [x0, (.int .i64 4), (.int .i64 0)] H fun v18 H19 =>
  asT0 v18 (
  κ .nils H19)) (
  cond (n3 == 4) (
  cond (49 == 49) (
  asP x0 fun p20 o21 =>
  (stN H p20 (o21 + 0) [(.int .i64 5)]).bind fun H22 =>
  asP x0 fun p23 o24 =>
  (stN H22 p23 (o24 + 1) [(.int .i64 7)]).bind fun H25 =>
  κ .nils H25) (
  κ .nils H)) (
  cond (n3 == 5) (
  cond (49 == 48) (
  asP x0 fun p26 o27 =>
  (stN H p26 (o27 + 1) [(.int .i64 7)]).bind fun H28 =>
  κ .nils H28) (
  o 142 [x0, (.int .i64 6), (.int .i64 3)] H fun v29 H30 =>
  asT0 v29 (
  κ .nils H30))) (
  cond (n3 == 6) (
  cond (49 == 48) (
  o 138 [x0, (.bool false)] H fun v31 H32 =>
  κ v31 H32) (
  o 142 [x0, (.int .i64 0), (.int .i64 0)] H fun v33 H34 =>
  asT0 v33 (
  κ .nils H34))) (
  κ .nils H)))))))) (
  asP x0 fun p35 o36 =>
  (ldI H .i64 p35 (o36 + 0)).bind fun n37 =>
  cond (n37 == 0) (
  cond (x1 == 48) (
  asP x0 fun p38 o39 =>
  (ldB H p38 (o39 + 4)).bind fun b40 =>
  o 138 [x0, (.bool b40)] H fun v41 H42 =>
  κ v41 H42) (
  κ .nils H)) (
  cond (n37 == 1) (
  asP x0 fun p43 o44 =>
  (ldB H p43 ((o44 + 9) + 0)).bind fun b45 =>
  cond b45 (
  o 139 [x0, (.int .u8 x1)] H fun v46 H47 =>
  κ v46 H47) (
  o 140 [x0, (.int .u8 x1)] H fun v48 H49 =>
  κ v48 H49)) (
  cond (n37 == 2) (
  o 141 [x0] H fun v50 H51 =>
  asT0 v50 (
  κ .nils H51)) (
  cond (n37 == 3) (
  o 142 [x0, (.int .i64 4), (.int .i64 0)] H fun v52 H53 =>
  asT0 v52 (
  κ .nils H53)) (
  cond (n37 == 4) (
  cond (x1 == 49) (
  asP x0 fun p54 o55 =>
  (stN H p54 (o55 + 0) [(.int .i64 5)]).bind fun H56 =>
  asP x0 fun p57 o58 =>
  (stN H56 p57 (o58 + 1) [(.int .i64 7)]).bind fun H59 =>
  κ .nils H59) (
  κ .nils H)) (
  cond (n37 == 5) (
  cond (x1 == 48) (
  asP x0 fun p60 o61 =>
  (stN H p60 (o61 + 1) [(.int .i64 7)]).bind fun H62 =>
  κ .nils H62) (
  o 142 [x0, (.int .i64 6), (.int .i64 3)] H fun v63 H64 =>
  asT0 v63 (
  κ .nils H64))) (
  cond (n37 == 6) (
  cond (x1 == 48) (
  o 138 [x0, (.bool false)] H fun v65 H66 =>
  κ v65 H66) (
  o 142 [x0, (.int .i64 0), (.int .i64 0)] H fun v67 H68 =>
  asT0 v67 (
  κ .nils H68))) (
  κ .nils H))))))))
theorem M83_0_ok {o : Orc} {N : Nat} {κ : Kv} (x0 : V) (x1 : Int) (H : Heap) :
    run Tryz.prog o N (cAt Tryz.f83 []) .n (env0 Tryz.prog Tryz.f83 κ) (tmk 0 69 [(0, x0), (1, .int .u8 x1)]) H (env0 Tryz.prog Tryz.f83 κ).ret = M83_0 o N κ x0 x1 H := by
  kernel_rfl
def M83 (o : Orc) (N : Nat) : FnM := fun vs H κ => match vs with
  | [x0, .int .u8 x1] => M83_0 o N κ x0 x1 H
  | _ => none
theorem M83_run (o : Orc) (N : Nat) (vs : List V) (H : Heap) (κ : Kv) (r) (h : M83 o N vs H κ = some r) : runFn Tryz.prog o N Tryz.f83 .n vs H κ = some r := by
  unfold M83 at h
  split at h
  · rename_i x0 x1
    refine (runFn_at (t := tmk 0 69 [(0, x0), (1, .int .u8 x1)]) (by kernel_rfl) (by kernel_rfl)).trans (Eq.trans ?_ h)
    exact M83_0_ok x0 x1 H
  · cases h
theorem M83_sound {o : Orc} (ho : ∀ f, FSound Tryz.prog f (o f)) (N : Nat) : FSound Tryz.prog 83 (M83 o N) :=
  FSound.sub (runFn_ok (an := .n) (fuel := N) hmix ho (by kernel_rfl) (by kernel_rfl)) (M83_run o N)
/-! 84 (*ostinato/mark.Mark).Start -/
def M84_0 (o : Orc) (N : Nat) (κ : Kv) (x0 : V) (x1 : Int) (H : Heap) : Ans :=
  asP x0 fun p1 o2 =>
  o 143 [(.ptr p1 (o2 + 0)), (.int .u16 x1)] H fun v3 H4 =>
  asT0 v3 (
  κ (.tup []) H4)
theorem M84_0_ok {o : Orc} {N : Nat} {κ : Kv} (x0 : V) (x1 : Int) (H : Heap) :
    run Tryz.prog o N (cAt Tryz.f84 []) .n (env0 Tryz.prog Tryz.f84 κ) (tmk 0 9 [(0, x0), (1, .int .u16 x1)]) H (env0 Tryz.prog Tryz.f84 κ).ret = M84_0 o N κ x0 x1 H := by
  kernel_rfl
def M84 (o : Orc) (N : Nat) : FnM := fun vs H κ => match vs with
  | [x0, .int .u16 x1] => M84_0 o N κ x0 x1 H
  | _ => none
theorem M84_run (o : Orc) (N : Nat) (vs : List V) (H : Heap) (κ : Kv) (r) (h : M84 o N vs H κ = some r) : runFn Tryz.prog o N Tryz.f84 .n vs H κ = some r := by
  unfold M84 at h
  split at h
  · rename_i x0 x1
    refine (runFn_at (t := tmk 0 9 [(0, x0), (1, .int .u16 x1)]) (by kernel_rfl) (by kernel_rfl)).trans (Eq.trans ?_ h)
    exact M84_0_ok x0 x1 H
  · cases h
theorem M84_sound {o : Orc} (ho : ∀ f, FSound Tryz.prog f (o f)) (N : Nat) : FSound Tryz.prog 84 (M84 o N) :=
  FSound.sub (runFn_ok (an := .n) (fuel := N) hmix ho (by kernel_rfl) (by kernel_rfl)) (M84_run o N)
/-! 85 ostinato/refmsg.Parse -/
def A85_0 : An := (.s .n none (.s .n none (.s (.d [0, 1, 2, 3, 4, 5, 6, 7, 8, 9, 10, 11, 12]) none (.s (.s .n none (.c (.s .n none (.d [0, 1, 2, 3, 4, 5, 6, 7, 8, 9, 10, 11])) .n)) none .n))))
def M85_1 (o : Orc) (N : Nat) (κ : Kv) (x0 x1 : List V) (H : Heap) : Ans :=
  cond (List.all x0 V.one) (
  newB H (.row x0) fun i1 H2 =>
  cond (List.all x1 V.one) (
  newB H2 (.row x1) fun i3 H4 =>
  newB H4 (.row [(.int .i64 0), (.int .i64 0), (.int .u16 0), (.bool false)]) fun i5 H6 =>
  (ldS H6 i3 3).bind fun s7 =>
  cond (((List.length s7 : Nat) : Int) == 0) (
  (stN H6 i5 0 [(.int .i64 0), (.int .i64 0), (.int .u16 0), (.bool false)]).bind fun H8 =>
  ldFlat H8 i5 [.int .i64, .int .i64, .int .u16, .bool] 0 fun l9 =>
  κ (.tup [(.agg l9), (.bool false)]) H8) (
  (ldI H6 .u32 i3 1).bind fun n10 =>
  (ldI H6 .u32 i1 7).bind fun n11 =>
  cond (decide (n10 < n11)) (
  (stN H6 i5 0 [(.int .i64 0), (.int .i64 0), (.int .u16 0), (.bool false)]).bind fun H12 =>
  ldFlat H12 i5 [.int .i64, .int .i64, .int .u16, .bool] 0 fun l13 =>
  κ (.tup [(.agg l13), (.bool false)]) H12) (
  (ldI H6 .u32 i3 1).bind fun n14 =>
  (ldI H6 .u32 i1 7).bind fun n15 =>
  (ldV H6 i1 8).bind fun v16 =>
  lenS v16 fun n17 =>
  cond (decide ((IntKind.u32.wrap (n14 - n15)) ≥ (IntKind.u32.wrap n17))) (
  (stN H6 i5 0 [(.int .i64 0), (.int .i64 0), (.int .u16 0), (.bool false)]).bind fun H18 =>
  ldFlat H18 i5 [.int .i64, .int .i64, .int .u16, .bool] 0 fun l19 =>
  κ (.tup [(.agg l19), (.bool false)]) H18) (
  (ldI (Heap.skip H6 13) .u32 i3 1).bind fun n20 =>
  (ldI (Heap.skip H6 13) .u32 i1 7).bind fun n21 =>
  (ldS (Heap.skip H6 13) i3 3).bind fun s22 =>
  (nth s22 (Int.toNat 0)).bind fun c23 =>
  (stN (Heap.newAt (Heap.skip H6 13) (H6.next + 11) (.row [(.int .i64 0), (.int .i64 0), (.int .u16 0), (.bool false)])) (H6.next + 11) 0 [(.int .i64 (IntKind.i64.wrap (IntKind.u32.wrap (n20 - n21)))), (.int .i64 (IntKind.i64.wrap (Int.ofNat c23))), (.int .u16 0), (.bool false)]).bind fun H24 =>
  (ldI H24 .i64 i1 0).bind fun n25 =>
  cond (n25 == 2) (
  (ldS H24 i3 3).bind fun s26 =>
  cond (((List.length s26 : Nat) : Int) == 4) (
  (ldS H24 i3 3).bind fun s27 =>
  (nth s27 (Int.toNat 1)).bind fun c28 =>
  (stN H24 (H6.next + 11) 3 [(.bool ((Int.ofNat c28) == 1))]).bind fun H29 =>
  (ldS (Heap.skip H29 12) i3 3).bind fun s30 =>
  (nth s30 (Int.toNat 2)).bind fun c31 =>
  (ldS (Heap.skip H29 12) i3 3).bind fun s32 =>
  (nth s32 (Int.toNat 3)).bind fun c33 =>
  (stN (Heap.skip H29 12) (H6.next + 11) 2 [(.int .u16 (IntKind.u16.wrap (Int.ofNat ((BitVec.ofInt (IntKind.bits .u16) (IntKind.u16.wrap ((IntKind.u16.wrap (Int.ofNat c31)) * 2 ^ (min (Int.toNat 8) (IntKind.bits .u16))))) ||| (BitVec.ofInt (IntKind.bits .u16) (IntKind.u16.wrap (Int.ofNat c33)))).toNat)))]).bind fun H34 =>
  ldFlat H34 i1 [.int .i64, .int .i64, .int .i64, .int .i64, .int .i64, .int .i64, .int .i64, .int .u32, .oth, .oth, .oth] 0 fun l35 =>
  (ldI H34 .i64 (H6.next + 11) 0).bind fun n36 =>
  (ldI H34 .i64 (H6.next + 11) 1).bind fun n37 =>
  (ldI H34 .u16 (H6.next + 11) 2).bind fun n38 =>
  (ldB H34 (H6.next + 11) 3).bind fun b39 =>
  o 144 [(.agg l35), (.int .i64 n36), (.int .i64 n37), (.int .u16 n38), (.bool b39)] H34 fun v40 H41 =>
  asT2 v40 fun v42 v43 =>
  asA v42 fun l44 =>
  asB v43 fun b45 =>
  newB H41 (.row [(.bool false), (.int .u32 0), (.bool false), (.str [])]) fun i46 H47 =>
  cond (Nat.beq (List.length l44) 4 && Nat.blt 0 4) (
  (stN H47 i46 0 l44).bind fun H48 =>
  cond (!b45) (
  (stN H48 i5 0 [(.int .i64 0), (.int .i64 0), (.int .u16 0), (.bool false)]).bind fun H49 =>
  ldFlat H49 i5 [.int .i64, .int .i64, .int .u16, .bool] 0 fun l50 =>
  κ (.tup [(.agg l50), (.bool false)]) H49) (
  ldFlat H48 i46 [.bool, .int .u32, .bool, .str] 0 fun l51 =>
  ldFlat H48 i3 [.bool, .int .u32, .bool, .str] 0 fun l52 =>
  (eqFlat [.bool, .int .u32, .bool, .str] l51 l52).bind fun b53 =>
  cond (!b53) (
  (stN H48 i5 0 [(.int .i64 0), (.int .i64 0), (.int .u16 0), (.bool false)]).bind fun H54 =>
  ldFlat H54 i5 [.int .i64, .int .i64, .int .u16, .bool] 0 fun l55 =>
  κ (.tup [(.agg l55), (.bool false)]) H54) (
  ldFlat H48 (H6.next + 11) [.int .i64, .int .i64, .int .u16, .bool] 0 fun l56 =>
  cond (Nat.beq (List.length l56) 4 && Nat.blt 0 4) (
  (stN H48 i5 0 l56).bind fun H57 =>
  ldFlat H57 i5 [.int .i64, .int .i64, .int .u16, .bool] 0 fun l58 =>
  κ (.tup [(.agg l58), (.bool true)]) H57) none))) none) (
  ldFlat H24 i1 [.int .i64, .int .i64, .int .i64, .int .i64, .int .i64, .int .i64, .int .i64, .int .u32, .oth, .oth, .oth] 0 fun l59 =>
  (ldI H24 .i64 (H6.next + 11) 0).bind fun n60 =>
  (ldI H24 .i64 (H6.next + 11) 1).bind fun n61 =>
  (ldI H24 .u16 (H6.next + 11) 2).bind fun n62 =>
  (ldB H24 (H6.next + 11) 3).bind fun b63 =>
  o 144 [(.agg l59), (.int .i64 n60), (.int .i64 n61), (.int .u16 n62), (.bool b63)] H24 fun v64 H65 =>
  asT2 v64 fun v66 v67 =>
  asA v66 fun l68 =>
  asB v67 fun b69 =>
  newB H65 (.row [(.bool false), (.int .u32 0), (.bool false), (.str [])]) fun i70 H71 =>
  cond (Nat.beq (List.length l68) 4 && Nat.blt 0 4) (
  (stN H71 i70 0 l68).bind fun H72 =>
  cond (!b69) (
  (stN H72 i5 0 [(.int .i64 0), (.int .i64 0), (.int .u16 0), (.bool false)]).bind fun H73 =>
  ldFlat H73 i5 [.int .i64, .int .i64, .int .u16, .bool] 0 fun l74 =>
  κ (.tup [(.agg l74), (.bool false)]) H73) (
  ldFlat H72 i70 [.bool, .int .u32, .bool, .str] 0 fun l75 =>
  ldFlat H72 i3 [.bool, .int .u32, .bool, .str] 0 fun l76 =>
  (eqFlat [.bool, .int .u32, .bool, .str] l75 l76).bind fun b77 =>
  cond (!b77) (
  (stN H72 i5 0 [(.int .i64 0), (.int .i64 0), (.int .u16 0), (.bool false)]).bind fun H78 =>
  ldFlat H78 i5 [.int .i64, .int .i64, .int .u16, .bool] 0 fun l79 =>
  κ (.tup [(.agg l79), (.bool false)]) H78) (
  ldFlat H72 (H6.next + 11) [.int .i64, .int .i64, .int .u16, .bool] 0 fun l80 =>
  cond (Nat.beq (List.length l80) 4 && Nat.blt 0 4) (
  (stN H72 i5 0 l80).bind fun H81 =>
  ldFlat H81 i5 [.int .i64, .int .i64, .int .u16, .bool] 0 fun l82 =>
  κ (.tup [(.agg l82), (.bool true)]) H81) none))) none)) (
  ldFlat H24 i1 [.int .i64, .int .i64, .int .i64, .int .i64, .int .i64, .int .i64, .int .i64, .int .u32, .oth, .oth, .oth] 0 fun l83 =>
  (ldI H24 .i64 (H6.next + 11) 0).bind fun n84 =>
  (ldI H24 .i64 (H6.next + 11) 1).bind fun n85 =>
  (ldI H24 .u16 (H6.next + 11) 2).bind fun n86 =>
  (ldB H24 (H6.next + 11) 3).bind fun b87 =>
  o 144 [(.agg l83), (.int .i64 n84), (.int .i64 n85), (.int .u16 n86), (.bool b87)] H24 fun v88 H89 =>
  asT2 v88 fun v90 v91 =>
  asA v90 fun l92 =>
  asB v91 fun b93 =>
  newB H89 (.row [(.bool false), (.int .u32 0), (.bool false), (.str [])]) fun i94 H95 =>
  cond (Nat.beq (List.length l92) 4 && Nat.blt 0 4) (
  (stN H95 i94 0 l92).bind fun H96 =>
  cond (!b93) (
  (stN H96 i5 0 [(.int .i64 0), (.int .i64 0), (.int .u16 0), (.bool false)]).bind fun H97 =>
  ldFlat H97 i5 [.int .i64, .int .i64, .int .u16, .bool] 0 fun l98 =>
  κ (.tup [(.agg l98), (.bool false)]) H97) (
  ldFlat H96 i94 [.bool, .int .u32, .bool, .str] 0 fun l99 =>
  ldFlat H96 i3 [.bool, .int .u32, .bool, .str] 0 fun l100 =>
  (eqFlat [.bool, .int .u32, .bool, .str] l99 l100).bind fun b101 =>
  cond (!b101) (
  (stN H96 i5 0 [(.int .i64 0), (.int .i64 0), (.int .u16 0), (.bool false)]).bind fun H102 =>
  ldFlat H102 i5 [.int .i64, .int .i64, .int .u16, .bool] 0 fun l103 =>
  κ (.tup [(.agg l103), (.bool false)]) H102) (
  ldFlat H96 (H6.next + 11) [.int .i64, .int .i64, .int .u16, .bool] 0 fun l104 =>
  cond (Nat.beq (List.length l104) 4 && Nat.blt 0 4) (
  (stN H96 i5 0 l104).bind fun H105 =>
  ldFlat H105 i5 [.int .i64, .int .i64, .int .u16, .bool] 0 fun l106 =>
  κ (.tup [(.agg l106), (.bool true)]) H105) none))) none))))) none) none
theorem M85_1_ok {o : Orc} {N : Nat} {κ : Kv} (x0 x1 : List V) (H : Heap) :
    run Tryz.prog o N (cAt Tryz.f85 []) A85_0 (env0 Tryz.prog Tryz.f85 κ) (tmk 0 91 [(0, .agg x0), (1, .agg x1)]) H (env0 Tryz.prog Tryz.f85 κ).ret = M85_1 o N κ x0 x1 H := by
  kernel_rfl
def M85 (o : Orc) (N : Nat) : FnM := fun vs H κ => match vs with
  | [.agg x0, .agg x1] => M85_1 o N κ x0 x1 H
  | _ => none
theorem M85_run (o : Orc) (N : Nat) (vs : List V) (H : Heap) (κ : Kv) (r) (h : M85 o N vs H κ = some r) : runFn Tryz.prog o N Tryz.f85 A85_0 vs H κ = some r := by
  unfold M85 at h
  split at h
  · rename_i x0 x1
    refine (runFn_at (t := tmk 0 91 [(0, .agg x0), (1, .agg x1)]) (by kernel_rfl) (by kernel_rfl)).trans (Eq.trans ?_ h)
    exact M85_1_ok x0 x1 H
  · cases h
theorem M85_sound {o : Orc} (ho : ∀ f, FSound Tryz.prog f (o f)) (N : Nat) : FSound Tryz.prog 85 (M85 o N) :=
  FSound.sub (runFn_ok (an := A85_0) (fuel := N) hmix ho (by kernel_rfl) (by kernel_rfl)) (M85_run o N)
/-! 86 (*ostinato/node.Node).beat -/
def M86_0 (o : Orc) (N : Nat) (J : V → Bool → Nat → Heap → Ans) (κ : Kv) (x0 : V) (x1 : List V) (x2 : Bool) (H : Heap) : Ans :=
  cond (List.all x1 V.one) (
  newB H (.row x1) fun i1 H2 =>
  J x0 x2 i1 H2) none
theorem M86_0_ok {o : Orc} {N : Nat} {κ : Kv} {J : Kt} {J' : V → Bool → Nat → Heap → Ans} (hJ : ∀ x0 x2 x4 H, J (tmk 0 137 [(0, x0), (2, .bool x2), (4, .ptr x4 0)]) H = J' x0 x2 x4 H) (x0 : V) (x1 : List V) (x2 : Bool) (H : Heap) :
    run Tryz.prog o N (cAt Tryz.f86 [0]) .n (env0 Tryz.prog Tryz.f86 κ) (tmk 0 137 [(0, x0), (1, .agg x1), (2, .bool x2)]) H (kj [0, 2, 4] J) = M86_0 o N J' κ x0 x1 x2 H := by
  obtain rfl := fx4 hJ
  kernel_rfl
def M86_1 (o : Orc) (N : Nat) (J : V → Bool → Nat → Heap → Ans) (κ : Kv) (x0 : V) (x2 : Bool) (x4 : Nat) (H : Heap) : Ans :=
  asP x0 fun p3 o4 =>
  (ldV H p3 ((o4 + 13) + 1)).bind fun v5 =>
  o 134 [v5] H fun v6 H7 =>
  asB v6 fun b8 =>
  J x0 x2 x4 H7
theorem M86_1_ok {o : Orc} {N : Nat} {κ : Kv} {J : Kt} {J' : V → Bool → Nat → Heap → Ans} (hJ : ∀ x0 x2 x4 H, J (tmk 0 137 [(0, x0), (2, .bool x2), (4, .ptr x4 0)]) H = J' x0 x2 x4 H) (x0 : V) (x2 : Bool) (x4 : Nat) (H : Heap) :
    run Tryz.prog o N (cAt Tryz.f86 [1, 0]) .n (env0 Tryz.prog Tryz.f86 κ) (tmk 0 137 [(0, x0), (2, .bool x2), (4, .ptr x4 0)]) H (kj [0, 2, 4] J) = M86_1 o N J' κ x0 x2 x4 H := by
  obtain rfl := fx4 hJ
  kernel_rfl
def M86_2 (o : Orc) (N : Nat) (J : V → Bool → Nat → Heap → Ans) (κ : Kv) (x0 : V) (x2 : Bool) (x4 : Nat) (H : Heap) : Ans :=
  asP x0 fun p9 o10 =>
  (ldV (Heap.skip H 8) p9 ((o10 + 13) + 2)).bind fun v11 =>
  (ldI (Heap.skip H 8) .i64 x4 1).bind fun n12 =>
  o 145 [v11, (.int .i64 n12)] (Heap.skip H 8) fun v13 H14 =>
  asT0 v13 (
  J x0 x2 x4 H14)
theorem M86_2_ok {o : Orc} {N : Nat} {κ : Kv} {J : Kt} {J' : V → Bool → Nat → Heap → Ans} (hJ : ∀ x0 x2 x4 H, J (tmk 0 137 [(0, x0), (2, .bool x2), (4, .ptr x4 0)]) H = J' x0 x2 x4 H) (x0 : V) (x2 : Bool) (x4 : Nat) (H : Heap) :
    run Tryz.prog o N (cAt Tryz.f86 [1, 1, 0]) (.d [0, 1, 2, 3, 4, 5, 6, 7]) (env0 Tryz.prog Tryz.f86 κ) (tmk 0 137 [(0, x0), (2, .bool x2), (4, .ptr x4 0)]) H (kj [0, 2, 4] J) = M86_2 o N J' κ x0 x2 x4 H := by
  obtain rfl := fx4 hJ
  kernel_rfl
def M86_3 (o : Orc) (N : Nat) (J : V → Bool → Nat → Heap → Ans) (κ : Kv) (x0 : V) (x2 : Bool) (x4 : Nat) (H : Heap) : Ans :=
  asP x0 fun p15 o16 =>
  (ldV (Heap.skip H 8) p15 ((o16 + 13) + 7)).bind fun v17 =>
  (ldI (Heap.skip H 8) .i64 x4 1).bind fun n18 =>
  o 146 [v17, (.int .i64 n18)] (Heap.skip H 8) fun v19 H20 =>
  asT0 v19 (
  J x0 x2 x4 H20)
theorem M86_3_ok {o : Orc} {N : Nat} {κ : Kv} {J : Kt} {J' : V → Bool → Nat → Heap → Ans} (hJ : ∀ x0 x2 x4 H, J (tmk 0 137 [(0, x0), (2, .bool x2), (4, .ptr x4 0)]) H = J' x0 x2 x4 H) (x0 : V) (x2 : Bool) (x4 : Nat) (H : Heap) :
    run Tryz.prog o N (cAt Tryz.f86 [1, 1, 1, 0]) (.d [0, 1, 2, 3, 4, 5, 6, 7]) (env0 Tryz.prog Tryz.f86 κ) (tmk 0 137 [(0, x0), (2, .bool x2), (4, .ptr x4 0)]) H (kj [0, 2, 4] J) = M86_3 o N J' κ x0 x2 x4 H := by
  obtain rfl := fx4 hJ
  kernel_rfl
def M86_4 (o : Orc) (N : Nat) (J : V → Bool → Nat → Int → Heap → Ans) (κ : Kv) (x0 : V) (x2 : Bool) (x4 : Nat) (H : Heap) : Ans :=
  asP x0 fun p21 o22 =>
  (ldV H p21 ((o22 + 13) + 2)).bind fun v23 =>
  o 147 [v23] H fun v24 H25 =>
  asT2 v24 fun v26 v27 =>
  asI .u16 v26 fun n28 =>
  asB v27 fun b29 =>
  J x0 x2 x4 n28 H25
theorem M86_4_ok {o : Orc} {N : Nat} {κ : Kv} {J : Kt} {J' : V → Bool → Nat → Int → Heap → Ans} (hJ : ∀ x0 x2 x4 x6 H, J (tmk 0 137 [(0, x0), (2, .bool x2), (4, .ptr x4 0), (6, .int .u16 x6)]) H = J' x0 x2 x4 x6 H) (x0 : V) (x2 : Bool) (x4 : Nat) (H : Heap) :
    run Tryz.prog o N (cAt Tryz.f86 [1, 1, 1, 1, 0]) .n (env0 Tryz.prog Tryz.f86 κ) (tmk 0 137 [(0, x0), (2, .bool x2), (4, .ptr x4 0)]) H (kj [0, 2, 4, 6] J) = M86_4 o N J' κ x0 x2 x4 H := by
  obtain rfl := fx5 hJ
  kernel_rfl
def M86_5 (o : Orc) (N : Nat) (J : V → Bool → Nat → Int → Int → Heap → Ans) (κ : Kv) (x0 : V) (x2 : Bool) (x4 : Nat) (x6 : Int) (H : Heap) : Ans :=
  (ldI H .u16 x4 2).bind fun n30 =>
  J x0 x2 x4 x6 n30 H
theorem M86_5_ok {o : Orc} {N : Nat} {κ : Kv} {J : Kt} {J' : V → Bool → Nat → Int → Int → Heap → Ans} (hJ : ∀ x0 x2 x4 x6 x8 H, J (tmk 0 137 [(0, x0), (2, .bool x2), (4, .ptr x4 0), (6, .int .u16 x6), (8, .int .u16 x8)]) H = J' x0 x2 x4 x6 x8 H) (x0 : V) (x2 : Bool) (x4 : Nat) (x6 : Int) (H : Heap) :
    run Tryz.prog o N (cAt Tryz.f86 [1, 1, 1, 1, 1, 0]) .n (env0 Tryz.prog Tryz.f86 κ) (tmk 0 137 [(0, x0), (2, .bool x2), (4, .ptr x4 0), (6, .int .u16 x6)]) H (kj [0, 2, 4, 6, 8] J) = M86_5 o N J' κ x0 x2 x4 x6 H := by
  obtain rfl := fx6 hJ
  kernel_rfl
def M86_6 (o : Orc) (N : Nat) (J : V → Bool → Nat → Int → Int → Heap → Ans) (κ : Kv) (x0 : V) (x2 : Bool) (x4 : Nat) (x6 x8 : Int) (H : Heap) : Ans :=
  asP x0 fun p31 o32 =>
  (ldI H .i64 p31 ((o32 + 0) + 0)).bind fun n33 =>
  cond (n33 == 1) (
  asP x0 fun p34 o35 =>
  (ldV H p34 ((o35 + 13) + 3)).bind fun v36 =>
  o 94 [v36, (.int .u16 x6)] H fun v37 H38 =>
  asI .u16 v37 fun n39 =>
  J x0 x2 x4 x6 n39 H38) (
  J x0 x2 x4 x6 x8 H)
theorem M86_6_ok {o : Orc} {N : Nat} {κ : Kv} {J : Kt} {J' : V → Bool → Nat → Int → Int → Heap → Ans} (hJ : ∀ x0 x2 x4 x6 x8 H, J (tmk 0 137 [(0, x0), (2, .bool x2), (4, .ptr x4 0), (6, .int .u16 x6), (8, .int .u16 x8)]) H = J' x0 x2 x4 x6 x8 H) (x0 : V) (x2 : Bool) (x4 : Nat) (x6 x8 : Int) (H : Heap) :
    run Tryz.prog o N (cAt Tryz.f86 [1, 1, 1, 1, 1, 1, 0]) .n (env0 Tryz.prog Tryz.f86 κ) (tmk 0 137 [(0, x0), (2, .bool x2), (4, .ptr x4 0), (6, .int .u16 x6), (8, .int .u16 x8)]) H (kj [0, 2, 4, 6, 8] J) = M86_6 o N J' κ x0 x2 x4 x6 x8 H := by
  obtain rfl := fx6 hJ
  kernel_rfl
def A86_7 : An := (.s (.d [0, 1, 2, 3, 4, 5, 6, 7, 8, 9, 10, 11]) none (.s (.s (.d [0, 1, 2, 3, 4, 5, 6, 7, 8, 9, 10, 11, 12, 13, 14, 15]) none .n) none (.s (.s .n none (.c .n (.d [0, 1, 2, 3, 4, 5, 6, 7]))) none .n)))
def M86_8 (o : Orc) (N : Nat) (κ : Kv) (x0 : V) (x2 : Bool) (x4 : Nat) (x6 x8 : Int) (H : Heap) : Ans :=
  asP x0 fun p40 o41 =>
  (ldV (Heap.skip H 12) p40 ((o41 + 13) + 3)).bind fun v42 =>
  (ldI (Heap.skip H 12) .i64 x4 0).bind fun n43 =>
  (ldB (Heap.skip H 12) x4 3).bind fun b44 =>
  o 148 [v42, (.int .i64 n43), (.int .u16 x8), (.int .u16 x6), (.bool b44)] (Heap.skip H 12) fun v45 H46 =>
  asT0 v45 (
  asP x0 fun p47 o48 =>
  (ldV (Heap.skip H46 16) p47 ((o48 + 13) + 3)).bind fun v49 =>
  o 149 [v49] (Heap.skip H46 16) fun v50 H51 =>
  asI .i64 v50 fun n52 =>
  cond (decide (n52 ≥ 3)) (
  (ldI H51 .i64 x4 0).bind fun n53 =>
  asP x0 fun p54 o55 =>
  (ldI H51 .i64 p54 (o55 + 12)).bind fun n56 =>
  cond (n53 != n56) (
  asP x0 fun p57 o58 =>
  (ldV H51 p57 ((o58 + 13) + 0)).bind fun v59 =>
  o 150 [v59] H51 fun v60 H61 =>
  asT2 v60 fun v62 v63 =>
  asI .i64 v62 fun n64 =>
  asI .i64 v63 fun n65 =>
  asP x0 fun p66 o67 =>
  (ldV H61 p66 ((o67 + 13) + 3)).bind fun v68 =>
  o 151 [v68, (.int .i64 n64)] H61 fun v69 H70 =>
  asT2 v69 fun v71 v72 =>
  asI .i64 v71 fun n73 =>
  asB v72 fun b74 =>
  asP x0 fun p75 o76 =>
  (ldV H70 p75 ((o76 + 13) + 0)).bind fun v77 =>
  o 152 [v77, (.int .i64 n73), (.int .i64 n65)] H70 fun v78 H79 =>
  asB v78 fun b80 =>
  cond x2 (
  asP x0 fun p81 o82 =>
  (ldV H79 p81 ((o82 + 13) + 6)).bind fun v83 =>
  o 153 [v83] H79 fun v84 H85 =>
  asT0 v84 (
  asP x0 fun p86 o87 =>
  (stN H85 p86 (o87 + 22) [(.bool false)]).bind fun H88 =>
  asP x0 fun p89 o90 =>
  (stN H88 p89 (o90 + 21) [(.int .i64 0)]).bind fun H91 =>
  asP x0 fun p92 o93 =>
  (stN H91 p92 (o93 + 23) [(.bool false), (.bool false), (.bool false), (.bool false), (.bool false), (.bool false), (.bool false), (.bool false), (.bool false), (.bool false), (.bool false), (.bool false)]).bind fun H94 =>
  κ (.tup []) H94)) (
  asP x0 fun p95 o96 =>
  (ldV (Heap.skip H79 8) p95 ((o96 + 13) + 6)).bind fun v97 =>
  (ldI (Heap.skip H79 8) .i64 x4 0).bind fun n98 =>
  o 154 [v97, (.int .i64 n98)] (Heap.skip H79 8) fun v99 H100 =>
  asT0 v99 (
  asP x0 fun p101 o102 =>
  (stN H100 p101 (o102 + 22) [(.bool false)]).bind fun H103 =>
  asP x0 fun p104 o105 =>
  (stN H103 p104 (o105 + 21) [(.int .i64 0)]).bind fun H106 =>
  asP x0 fun p107 o108 =>
  (stN H106 p107 (o108 + 23) [(.bool false), (.bool false), (.bool false), (.bool false), (.bool false), (.bool false), (.bool false), (.bool false), (.bool false), (.bool false), (.bool false), (.bool false)]).bind fun H109 =>
  κ (.tup []) H109))) (
  cond x2 (
  asP x0 fun p110 o111 =>
  (ldV H51 p110 ((o111 + 13) + 6)).bind fun v112 =>
  o 153 [v112] H51 fun v113 H114 =>
  asT0 v113 (
  asP x0 fun p115 o116 =>
  (stN H114 p115 (o116 + 22) [(.bool false)]).bind fun H117 =>
  asP x0 fun p118 o119 =>
  (stN H117 p118 (o119 + 21) [(.int .i64 0)]).bind fun H120 =>
  asP x0 fun p121 o122 =>
  (stN H120 p121 (o122 + 23) [(.bool false), (.bool false), (.bool false), (.bool false), (.bool false), (.bool false), (.bool false), (.bool false), (.bool false), (.bool false), (.bool false), (.bool false)]).bind fun H123 =>
  κ (.tup []) H123)) (
  asP x0 fun p124 o125 =>
  (ldV (Heap.skip H51 8) p124 ((o125 + 13) + 6)).bind fun v126 =>
  (ldI (Heap.skip H51 8) .i64 x4 0).bind fun n127 =>
  o 154 [v126, (.int .i64 n127)] (Heap.skip H51 8) fun v128 H129 =>
  asT0 v128 (
  asP x0 fun p130 o131 =>
  (stN H129 p130 (o131 + 22) [(.bool false)]).bind fun H132 =>
  asP x0 fun p133 o134 =>
  (stN H132 p133 (o134 + 21) [(.int .i64 0)]).bind fun H135 =>
  asP x0 fun p136 o137 =>
  (stN H135 p136 (o137 + 23) [(.bool false), (.bool false), (.bool false), (.bool false), (.bool false), (.bool false), (.bool false), (.bool false), (.bool false), (.bool false), (.bool false), (.bool false)]).bind fun H138 =>
  κ (.tup []) H138)))) (
  cond x2 (
  asP x0 fun p139 o140 =>
  (ldV H51 p139 ((o140 + 13) + 6)).bind fun v141 =>
  o 153 [v141] H51 fun v142 H143 =>
  asT0 v142 (
  asP x0 fun p144 o145 =>
  (stN H143 p144 (o145 + 22) [(.bool false)]).bind fun H146 =>
  asP x0 fun p147 o148 =>
  (stN H146 p147 (o148 + 21) [(.int .i64 0)]).bind fun H149 =>
  asP x0 fun p150 o151 =>
  (stN H149 p150 (o151 + 23) [(.bool false), (.bool false), (.bool false), (.bool false), (.bool false), (.bool false), (.bool false), (.bool false), (.bool false), (.bool false), (.bool false), (.bool false)]).bind fun H152 =>
  κ (.tup []) H152)) (
  asP x0 fun p153 o154 =>
  (ldV (Heap.skip H51 8) p153 ((o154 + 13) + 6)).bind fun v155 =>
  (ldI (Heap.skip H51 8) .i64 x4 0).bind fun n156 =>
  o 154 [v155, (.int .i64 n156)] (Heap.skip H51 8) fun v157 H158 =>
  asT0 v157 (
  asP x0 fun p159 o160 =>
  (stN H158 p159 (o160 + 22) [(.bool false)]).bind fun H161 =>
  asP x0 fun p162 o163 =>
  (stN H161 p162 (o163 + 21) [(.int .i64 0)]).bind fun H164 =>
  asP x0 fun p165 o166 =>
  (stN H164 p165 (o166 + 23) [(.bool false), (.bool false), (.bool false), (.bool false), (.bool false), (.bool false), (.bool false), (.bool false), (.bool false), (.bool false), (.bool false), (.bool false)]).bind fun H167 =>
  κ (.tup []) H167))))
theorem M86_8_ok {o : Orc} {N : Nat} {κ : Kv} (x0 : V) (x2 : Bool) (x4 : Nat) (x6 x8 : Int) (H : Heap) :
    run Tryz.prog o N (cAt Tryz.f86 [1, 1, 1, 1, 1, 1, 1]) A86_7 (env0 Tryz.prog Tryz.f86 κ) (tmk 0 137 [(0, x0), (2, .bool x2), (4, .ptr x4 0), (6, .int .u16 x6), (8, .int .u16 x8)]) H (env0 Tryz.prog Tryz.f86 κ).ret = M86_8 o N κ x0 x2 x4 x6 x8 H := by
  kernel_rfl
def A86_9 : An := .s .n (some (lvOf [0, 2, 4, 6, 8])) A86_7
def A86_10 : An := .s .n (some (lvOf [0, 2, 4, 6, 8])) A86_9
def A86_11 : An := .s (.d [0, 1, 2, 3, 4, 5, 6, 7]) (some (lvOf [0, 2, 4])) (.s .n (some (lvOf [0, 2, 4, 6])) A86_10)
def A86_12 : An := .s (.d [0, 1, 2, 3, 4, 5, 6, 7]) (some (lvOf [0, 2, 4])) A86_11
def A86_13 : An := .s .n (some (lvOf [0, 2, 4])) (.s .n (some (lvOf [0, 2, 4])) A86_12)
def M86 (o : Orc) (N : Nat) : FnM := fun vs H κ => match vs with
  | [x0, .agg x1, .bool x2] => M86_0 o N (fun x0 x2 x4 H => M86_1 o N (fun x0 x2 x4 H => M86_2 o N (fun x0 x2 x4 H => M86_3 o N (fun x0 x2 x4 H => M86_4 o N (fun x0 x2 x4 x6 H => M86_5 o N (fun x0 x2 x4 x6 x8 H => M86_6 o N (fun x0 x2 x4 x6 x8 H => M86_8 o N κ x0 x2 x4 x6 x8 H) κ x0 x2 x4 x6 x8 H) κ x0 x2 x4 x6 H) κ x0 x2 x4 H) κ x0 x2 x4 H) κ x0 x2 x4 H) κ x0 x2 x4 H) κ x0 x1 x2 H
  | _ => none
theorem M86_run (o : Orc) (N : Nat) (vs : List V) (H : Heap) (κ : Kv) (r) (h : M86 o N vs H κ = some r) : runFn Tryz.prog o N Tryz.f86 A86_13 vs H κ = some r := by
  unfold M86 at h
  split at h
  · rename_i x0 x1 x2
    refine (runFn_at (t := tmk 0 137 [(0, x0), (1, .agg x1), (2, .bool x2)]) (by kernel_rfl) (by kernel_rfl)).trans (Eq.trans ?_ h)
    refine (run_seq (x := (cAt Tryz.f86 [0])) (ax := .n) (y := (cAt Tryz.f86 [1])) (ay := (.s .n (some (lvOf [0, 2, 4])) A86_12)) (l := [0, 2, 4]) (by kernel_rfl) (by kernel_rfl)).trans ?_
    refine M86_0_ok ?_ x0 x1 x2 H
    intro x0 x2 x4 H
    refine (run_seq (x := (cAt Tryz.f86 [1, 0])) (ax := .n) (y := (cAt Tryz.f86 [1, 1])) (ay := A86_12) (l := [0, 2, 4]) (by kernel_rfl) (by kernel_rfl)).trans ?_
    refine M86_1_ok ?_ x0 x2 x4 H
    intro x0 x2 x4 H
    refine (run_seq (x := (cAt Tryz.f86 [1, 1, 0])) (ax := (.d [0, 1, 2, 3, 4, 5, 6, 7])) (y := (cAt Tryz.f86 [1, 1, 1])) (ay := A86_11) (l := [0, 2, 4]) (by kernel_rfl) (by kernel_rfl)).trans ?_
    refine M86_2_ok ?_ x0 x2 x4 H
    intro x0 x2 x4 H
    refine (run_seq (x := (cAt Tryz.f86 [1, 1, 1, 0])) (ax := (.d [0, 1, 2, 3, 4, 5, 6, 7])) (y := (cAt Tryz.f86 [1, 1, 1, 1])) (ay := (.s .n (some (lvOf [0, 2, 4, 6])) A86_10)) (l := [0, 2, 4]) (by kernel_rfl) (by kernel_rfl)).trans ?_
    refine M86_3_ok ?_ x0 x2 x4 H
    intro x0 x2 x4 H
    refine (run_seq (x := (cAt Tryz.f86 [1, 1, 1, 1, 0])) (ax := .n) (y := (cAt Tryz.f86 [1, 1, 1, 1, 1])) (ay := A86_10) (l := [0, 2, 4, 6]) (by kernel_rfl) (by kernel_rfl)).trans ?_
    refine M86_4_ok ?_ x0 x2 x4 H
    intro x0 x2 x4 x6 H
    refine (run_seq (x := (cAt Tryz.f86 [1, 1, 1, 1, 1, 0])) (ax := .n) (y := (cAt Tryz.f86 [1, 1, 1, 1, 1, 1])) (ay := A86_9) (l := [0, 2, 4, 6, 8]) (by kernel_rfl) (by kernel_rfl)).trans ?_
    refine M86_5_ok ?_ x0 x2 x4 x6 H
    intro x0 x2 x4 x6 x8 H
    refine (run_seq (x := (cAt Tryz.f86 [1, 1, 1, 1, 1, 1, 0])) (ax := .n) (y := (cAt Tryz.f86 [1, 1, 1, 1, 1, 1, 1])) (ay := A86_7) (l := [0, 2, 4, 6, 8]) (by kernel_rfl) (by kernel_rfl)).trans ?_
    refine M86_6_ok ?_ x0 x2 x4 x6 x8 H
    intro x0 x2 x4 x6 x8 H
    exact M86_8_ok x0 x2 x4 x6 x8 H
  · cases h
theorem M86_sound {o : Orc} (ho : ∀ f, FSound Tryz.prog f (o f)) (N : Nat) : FSound Tryz.prog 86 (M86 o N) :=
  FSound.sub (runFn_ok (an := A86_13) (fuel := N) hmix ho (by kernel_rfl) (by kernel_rfl)) (M86_run o N)
/-! 87 ostinato/matrix.Find -/
def M87_0 (o : Orc) (N : Nat) (κ : Kv) (x0 x1 : List V) (H : Heap) : Ans :=
  cond (List.all x0 V.one) (
  newB H (.row x0) fun i1 H2 =>
  cond (List.all x1 V.one) (
  newB H2 (.row x1) fun i3 H4 =>
  (ldB H4 i3 0).bind fun b5 =>
  cond b5 (
  κ (.int .i64 (-1)) H4) (
  (ldB H4 i3 2).bind fun b6 =>
  cond b6 (
  κ (.int .i64 (-1)) H4) (
  (ldV H4 i1 9).bind fun v7 =>
  o 155 [v7, (.fn 156 [(.ptr i3 0)])] H4 fun v8 H9 =>
  asI .i64 v8 fun n10 =>
  κ (.int .i64 n10) H9))) none) none
theorem M87_0_ok {o : Orc} {N : Nat} {κ : Kv} (x0 x1 : List V) (H : Heap) :
    run Tryz.prog o N (cAt Tryz.f87 []) .n (env0 Tryz.prog Tryz.f87 κ) (tmk 0 15 [(0, .agg x0), (1, .agg x1)]) H (env0 Tryz.prog Tryz.f87 κ).ret = M87_0 o N κ x0 x1 H := by
  kernel_rfl
def M87 (o : Orc) (N : Nat) : FnM := fun vs H κ => match vs with
  | [.agg x0, .agg x1] => M87_0 o N κ x0 x1 H
  | _ => none
theorem M87_run (o : Orc) (N : Nat) (vs : List V) (H : Heap) (κ : Kv) (r) (h : M87 o N vs H κ = some r) : runFn Tryz.prog o N Tryz.f87 .n vs H κ = some r := by
  unfold M87 at h
  split at h
  · rename_i x0 x1
    refine (runFn_at (t := tmk 0 15 [(0, .agg x0), (1, .agg x1)]) (by kernel_rfl) (by kernel_rfl)).trans (Eq.trans ?_ h)
    exact M87_0_ok x0 x1 H
  · cases h
theorem M87_sound {o : Orc} (ho : ∀ f, FSound Tryz.prog f (o f)) (N : Nat) : FSound Tryz.prog 87 (M87 o N) :=
  FSound.sub (runFn_ok (an := .n) (fuel := N) hmix ho (by kernel_rfl) (by kernel_rfl)) (M87_run o N)
/-! 88 (*ostinato/node.Node).message -/
def A88_0 : An := (.s .n none (.s (.s .n none (.b none (.s .n none (.c (.s (.d [0, 1, 2, 3, 4, 5, 6, 7, 8, 9]) none (.s .n none (.s (.s .n none (.c (.d [0, 1, 2, 3, 4, 5, 6, 7, 8, 9, 10, 11, 12, 13, 14, 15]) .n)) none .n))) .n)))) none .n))
def M88_1 (o : Orc) (N : Nat) (κ : Kv) (x0 : V) (x1 : Int) (x2 : List V) (H : Heap) : Ans :=
  cond (List.all x2 V.one) (
  newB H (.row x2) fun i1 H2 =>
  (ldI H2 .i64 i1 0).bind fun n3 =>
  cond (n3 == 2) (
  asP x0 fun p4 o5 =>
  (ldV (Heap.skip H2 10) p4 ((o5 + 13) + 4)).bind fun v6 =>
  (ldS (Heap.skip H2 10) i1 4).bind fun s7 =>
  o 157 [v6, (.int .i64 x1), (.str s7)] (Heap.skip H2 10) fun v8 H9 =>
  asT0 v8 (
  asP x0 fun p10 o11 =>
  cond (decide (0 ≤ x1) && decide (x1 < (12 : Nat)) && Nat.blt 0 1) (
  (stN H9 p10 ((o11 + 23) + Int.toNat x1 * 1) [(.bool true)]).bind fun H12 =>
  o 158 [x0] H12 fun v13 H14 =>
  asB v13 fun b15 =>
  cond b15 (
  asP x0 fun p16 o17 =>
  (ldV (Heap.skip H14 16) p16 (o17 + 35)).bind fun v18 =>
  (ldS (Heap.skip H14 16) i1 4).bind fun s19 =>
  appV (Heap.newAt (Heap.skip H14 16) (H14.next + 10) (.row [(.int .i64 x1), (.str s19)])) v18 (.sl (H14.next + 10) 0 1 2 true) 2 fun v20 H21 =>
  o 159 [v20] H21 fun v22 H23 =>
  asP x0 fun p24 o25 =>
  cond (Nat.beq (List.length (V.cells v22)) 1 && Nat.blt 0 1) (
  (stN H23 p24 (o25 + 35) (V.cells v22)).bind fun H26 =>
  κ (.tup []) H26) none) (
  κ (.tup []) H14)) none)) (
  cond (n3 == 1) (
  asP x0 fun p27 o28 =>
  (ldV H2 p27 ((o28 + 13) + 4)).bind fun v29 =>
  o 160 [v29, (.int .i64 x1)] H2 fun v30 H31 =>
  asT0 v30 (
  asP x0 fun p32 o33 =>
  (ldV H31 p32 ((o33 + 13) + 5)).bind fun v34 =>
  o 161 [v34, (.int .i64 x1)] H31 fun v35 H36 =>
  asT0 v35 (
  asP x0 fun p37 o38 =>
  (ldV H36 p37 (o38 + 36)).bind fun v39 =>
  newB H36 (.row [(.int .i64 x1)]) fun i40 H41 =>
  appV H41 v39 (.sl i40 0 1 1 true) 1 fun v42 H43 =>
  o 162 [v42] H43 fun v44 H45 =>
  asP x0 fun p46 o47 =>
  cond (Nat.beq (List.length (V.cells v44)) 1 && Nat.blt 0 1) (
  (stN H45 p46 (o47 + 36) (V.cells v44)).bind fun H48 =>
  asP x0 fun p49 o50 =>
  (ldV H48 p49 ((o50 + 13) + 7)).bind fun v51 =>
  o 125 [v51] H48 fun v52 H53 =>
  asT0 v52 (
  κ (.tup []) H53)) none))) (
  asP x0 fun p54 o55 =>
  (ldV H2 p54 ((o55 + 13) + 7)).bind fun v56 =>
  o 133 [v56] H2 fun v57 H58 =>
  asT2 v57 fun v59 v60 =>
  asA v59 fun l61 =>
  asB v60 fun b62 =>
  newB H58 (.row [(.int .i64 0), (.int .i64 0), (.int .i64 0), (.int .i64 0), (.int .i64 0), (.int .i64 0)]) fun i63 H64 =>
  cond (Nat.beq (List.length l61) 6 && Nat.blt 0 6) (
  (stN H64 i63 0 l61).bind fun H65 =>
  cond b62 (
  (ldI H65 .i64 i63 0).bind fun n66 =>
  cond (n66 == 1) (
  asP x0 fun p67 o68 =>
  (ldV H65 p67 ((o68 + 13) + 5)).bind fun v69 =>
  o 124 [v69, (.int .i64 x1)] H65 fun v70 H71 =>
  asT0 v70 (
  asP x0 fun p72 o73 =>
  (ldV H71 p72 ((o73 + 13) + 7)).bind fun v74 =>
  o 125 [v74] H71 fun v75 H76 =>
  asT0 v75 (
  κ (.tup []) H76))) (
  asP x0 fun p77 o78 =>
  (ldV H65 p77 ((o78 + 13) + 7)).bind fun v79 =>
  o 125 [v79] H65 fun v80 H81 =>
  asT0 v80 (
  κ (.tup []) H81))) (
  asP x0 fun p82 o83 =>
  (ldV H65 p82 ((o83 + 13) + 7)).bind fun v84 =>
  o 125 [v84] H65 fun v85 H86 =>
  asT0 v85 (
  κ (.tup []) H86))) none))) none
theorem M88_1_ok {o : Orc} {N : Nat} {κ : Kv} (x0 : V) (x1 : Int) (x2 : List V) (H : Heap) :
    run Tryz.prog o N (cAt Tryz.f88 []) A88_0 (env0 Tryz.prog Tryz.f88 κ) (tmk 0 99 [(0, x0), (1, .int .i64 x1), (2, .agg x2)]) H (env0 Tryz.prog Tryz.f88 κ).ret = M88_1 o N κ x0 x1 x2 H := by
  kernel_rfl
def M88 (o : Orc) (N : Nat) : FnM := fun vs H κ => match vs with
  | [x0, .int .i64 x1, .agg x2] => M88_1 o N κ x0 x1 x2 H
  | _ => none
theorem M88_run (o : Orc) (N : Nat) (vs : List V) (H : Heap) (κ : Kv) (r) (h : M88 o N vs H κ = some r) : runFn Tryz.prog o N Tryz.f88 A88_0 vs H κ = some r := by
  unfold M88 at h
  split at h
  · rename_i x0 x1 x2
    refine (runFn_at (t := tmk 0 99 [(0, x0), (1, .int .i64 x1), (2, .agg x2)]) (by kernel_rfl) (by kernel_rfl)).trans (Eq.trans ?_ h)
    exact M88_1_ok x0 x1 x2 H
  · cases h
theorem M88_sound {o : Orc} (ho : ∀ f, FSound Tryz.prog f (o f)) (N : Nat) : FSound Tryz.prog 88 (M88 o N) :=
  FSound.sub (runFn_ok (an := A88_0) (fuel := N) hmix ho (by kernel_rfl) (by kernel_rfl)) (M88_run o N)
/-! 94 (*ostinato/global.Global).At -/
def A94_0 : An := (.s .n none (.s .n none (.s (.d [0, 1, 2, 3, 4, 5, 6, 7, 8, 9, 10, 11, 12, 13, 14, 15]) none .n)))
def M94_1 (o : Orc) (N : Nat) (κ : Kv) (x0 : V) (x1 : Int) (H : Heap) : Ans :=
  asP x0 fun p1 o2 =>
  (ldI H .i64 p1 (o2 + 6)).bind fun n3 =>
  cond (n3 == 0) (
  κ (.int .u16 x1) H) (
  asP x0 fun p4 o5 =>
  cond (decide (0 ≤ 0) && decide (0 < (2 : Nat)) && Nat.blt 0 3) (
  (ldI (Heap.skip H 16) .u16 p4 (((o5 + 0) + Int.toNat 0 * 3) + 1)).bind fun n6 =>
  asP x0 fun p7 o8 =>
  cond (decide (0 ≤ 0) && decide (0 < (2 : Nat)) && Nat.blt 0 3) (
  (ldI (Heap.skip H 16) .u16 p7 (((o8 + 0) + Int.toNat 0 * 3) + 2)).bind fun n9 =>
  κ (.int .u16 (IntKind.u16.wrap (x1 + (IntKind.u16.wrap (n6 - n9))))) (Heap.skip H 16)) none) none)
theorem M94_1_ok {o : Orc} {N : Nat} {κ : Kv} (x0 : V) (x1 : Int) (H : Heap) :
    run Tryz.prog o N (cAt Tryz.f94 []) A94_0 (env0 Tryz.prog Tryz.f94 κ) (tmk 0 26 [(0, x0), (1, .int .u16 x1)]) H (env0 Tryz.prog Tryz.f94 κ).ret = M94_1 o N κ x0 x1 H := by
  kernel_rfl
def M94 (o : Orc) (N : Nat) : FnM := fun vs H κ => match vs with
  | [x0, .int .u16 x1] => M94_1 o N κ x0 x1 H
  | _ => none
theorem M94_run (o : Orc) (N : Nat) (vs : List V) (H : Heap) (κ : Kv) (r) (h : M94 o N vs H κ = some r) : runFn Tryz.prog o N Tryz.f94 A94_0 vs H κ = some r := by
  unfold M94 at h
  split at h
  · rename_i x0 x1
    refine (runFn_at (t := tmk 0 26 [(0, x0), (1, .int .u16 x1)]) (by kernel_rfl) (by kernel_rfl)).trans (Eq.trans ?_ h)
    exact M94_1_ok x0 x1 H
  · cases h
theorem M94_sound {o : Orc} (ho : ∀ f, FSound Tryz.prog f (o f)) (N : Nat) : FSound Tryz.prog 94 (M94 o N) :=
  FSound.sub (runFn_ok (an := A94_0) (fuel := N) hmix ho (by kernel_rfl) (by kernel_rfl)) (M94_run o N)
/-! 97 slices.Contains[[]int,int] -/
def M97_0 (o : Orc) (N : Nat) (κ : Kv) (x0 : V) (x1 : Int) (H : Heap) : Ans :=
  o 111 [x0, (.int .i64 x1)] H fun v1 H2 =>
  asI .i64 v1 fun n3 =>
  κ (.bool (decide (n3 ≥ 0))) H2
theorem M97_0_ok {o : Orc} {N : Nat} {κ : Kv} (x0 : V) (x1 : Int) (H : Heap) :
    run Tryz.prog o N (cAt Tryz.f97 []) .n (env0 Tryz.prog Tryz.f97 κ) (tmk 0 9 [(0, x0), (1, .int .i64 x1)]) H (env0 Tryz.prog Tryz.f97 κ).ret = M97_0 o N κ x0 x1 H := by
  kernel_rfl
def M97 (o : Orc) (N : Nat) : FnM := fun vs H κ => match vs with
  | [x0, .int .i64 x1] => M97_0 o N κ x0 x1 H
  | _ => none
theorem M97_run (o : Orc) (N : Nat) (vs : List V) (H : Heap) (κ : Kv) (r) (h : M97 o N vs H κ = some r) : runFn Tryz.prog o N Tryz.f97 .n vs H κ = some r := by
  unfold M97 at h
  split at h
  · rename_i x0 x1
    refine (runFn_at (t := tmk 0 9 [(0, x0), (1, .int .i64 x1)]) (by kernel_rfl) (by kernel_rfl)).trans (Eq.trans ?_ h)
    exact M97_0_ok x0 x1 H
  · cases h
theorem M97_sound {o : Orc} (ho : ∀ f, FSound Tryz.prog f (o f)) (N : Nat) : FSound Tryz.prog 97 (M97 o N) :=
  FSound.sub (runFn_ok (an := .n) (fuel := N) hmix ho (by kernel_rfl) (by kernel_rfl)) (M97_run o N)
/-! 98 (*ostinato/status.Table).All -/
def M98_0 (o : Orc) (N : Nat) (κ : Kv) (x0 : V) (H : Heap) : Ans :=
  asP x0 fun p1 o2 =>
  (ldV H p1 (o2 + 0)).bind fun v3 =>
  lenS v3 fun n4 =>
  cond (decide (0 ≤ n4) && decide (n4 ≤ n4) && decide (n4 ≤ 4294967296) && Nat.ble 8 1024 && Nat.blt 0 1) (
  newB H (.row (List.flatten (List.replicate (Int.toNat n4) [(.int .i64 0)]))) fun i5 H6 =>
  asP x0 fun p7 o8 =>
  (ldV H6 p7 (o8 + 0)).bind fun v9 =>
  cpyV H6 (.sl i5 0 (Int.toNat n4) 1 true) v9 1 fun n10 H11 =>
  κ (.sl i5 0 (Int.toNat n4) 1 true) H11) none
theorem M98_0_ok {o : Orc} {N : Nat} {κ : Kv} (x0 : V) (H : Heap) :
    run Tryz.prog o N (cAt Tryz.f98 []) .n (env0 Tryz.prog Tryz.f98 κ) (tmk 0 17 [(0, x0)]) H (env0 Tryz.prog Tryz.f98 κ).ret = M98_0 o N κ x0 H := by
  kernel_rfl
def M98 (o : Orc) (N : Nat) : FnM := fun vs H κ => match vs with
  | [x0] => M98_0 o N κ x0 H
  | _ => none
theorem M98_run (o : Orc) (N : Nat) (vs : List V) (H : Heap) (κ : Kv) (r) (h : M98 o N vs H κ = some r) : runFn Tryz.prog o N Tryz.f98 .n vs H κ = some r := by
  unfold M98 at h
  split at h
  · rename_i x0
    refine (runFn_at (t := tmk 0 17 [(0, x0)]) (by kernel_rfl) (by kernel_rfl)).trans (Eq.trans ?_ h)
    exact M98_0_ok x0 H
  · cases h
theorem M98_sound {o : Orc} (ho : ∀ f, FSound Tryz.prog f (o f)) (N : Nat) : FSound Tryz.prog 98 (M98 o N) :=
  FSound.sub (runFn_ok (an := .n) (fuel := N) hmix ho (by kernel_rfl) (by kernel_rfl)) (M98_run o N)
/-! 99 (*ostinato/status.Table).Spread -/
def A99_0 : An := (.s .n none (.s .n none (.s (.d [0, 1, 2, 3, 5, 6, 7, 8, 4, 9, 10, 11]) none .n)))
def M99_1 (o : Orc) (N : Nat) (κ : Kv) (x0 : V) (H : Heap) : Ans :=
  asP x0 fun p1 o2 =>
  (ldV H p1 (o2 + 0)).bind fun v3 =>
  lenS v3 fun n4 =>
  cond (n4 == 0) (
  κ (.int .i64 0) H) (
  asP x0 fun p5 o6 =>
  (ldV (Heap.skip H 12) p5 (o6 + 0)).bind fun v7 =>
  asP x0 fun p8 o9 =>
  (ldV (Heap.skip H 12) p8 (o9 + 0)).bind fun v10 =>
  o 168 [v7] (Heap.skip H 12) fun v11 H12 =>
  asI .i64 v11 fun n13 =>
  (ldV H12 p8 (o9 + 0)).bind fun v14 =>
  cond (V.same v10 v14) (
  o 169 [v10] H12 fun v15 H16 =>
  asI .i64 v15 fun n17 =>
  κ (.int .i64 (IntKind.i64.wrap (n13 - n17))) H16) none)
theorem M99_1_ok {o : Orc} {N : Nat} {κ : Kv} (x0 : V) (H : Heap) :
    run Tryz.prog o N (cAt Tryz.f99 []) A99_0 (env0 Tryz.prog Tryz.f99 κ) (tmk 0 20 [(0, x0)]) H (env0 Tryz.prog Tryz.f99 κ).ret = M99_1 o N κ x0 H := by
  kernel_rfl
def M99 (o : Orc) (N : Nat) : FnM := fun vs H κ => match vs with
  | [x0] => M99_1 o N κ x0 H
  | _ => none
theorem M99_run (o : Orc) (N : Nat) (vs : List V) (H : Heap) (κ : Kv) (r) (h : M99 o N vs H κ = some r) : runFn Tryz.prog o N Tryz.f99 A99_0 vs H κ = some r := by
  unfold M99 at h
  split at h
  · rename_i x0
    refine (runFn_at (t := tmk 0 20 [(0, x0)]) (by kernel_rfl) (by kernel_rfl)).trans (Eq.trans ?_ h)
    exact M99_1_ok x0 H
  · cases h
theorem M99_sound {o : Orc} (ho : ∀ f, FSound Tryz.prog f (o f)) (N : Nat) : FSound Tryz.prog 99 (M99 o N) :=
  FSound.sub (runFn_ok (an := A99_0) (fuel := N) hmix ho (by kernel_rfl) (by kernel_rfl)) (M99_run o N)
/-! 100 (*ostinato/master.Master).Leader -/
def M100_0 (o : Orc) (N : Nat) (κ : Kv) (x0 : V) (H : Heap) : Ans :=
  asP x0 fun p1 o2 =>
  (ldI H .i64 p1 ((o2 + 1) + 1)).bind fun n3 =>
  κ (.int .i64 n3) H
theorem M100_0_ok {o : Orc} {N : Nat} {κ : Kv} (x0 : V) (H : Heap) :
    run Tryz.prog o N (cAt Tryz.f100 []) .n (env0 Tryz.prog Tryz.f100 κ) (tmk 0 8 [(0, x0)]) H (env0 Tryz.prog Tryz.f100 κ).ret = M100_0 o N κ x0 H := by
  kernel_rfl
def M100 (o : Orc) (N : Nat) : FnM := fun vs H κ => match vs with
  | [x0] => M100_0 o N κ x0 H
  | _ => none
theorem M100_run (o : Orc) (N : Nat) (vs : List V) (H : Heap) (κ : Kv) (r) (h : M100 o N vs H κ = some r) : runFn Tryz.prog o N Tryz.f100 .n vs H κ = some r := by
  unfold M100 at h
  split at h
  · rename_i x0
    refine (runFn_at (t := tmk 0 8 [(0, x0)]) (by kernel_rfl) (by kernel_rfl)).trans (Eq.trans ?_ h)
    exact M100_0_ok x0 H
  · cases h
theorem M100_sound {o : Orc} (ho : ∀ f, FSound Tryz.prog f (o f)) (N : Nat) : FSound Tryz.prog 100 (M100 o N) :=
  FSound.sub (runFn_ok (an := .n) (fuel := N) hmix ho (by kernel_rfl) (by kernel_rfl)) (M100_run o N)
/-! 102 (*ostinato/config.reader).one -/
def M102_0 (o : Orc) (N : Nat) (κ : Kv) (x0 : V) (H : Heap) : Ans :=
  asP x0 fun p1 o2 =>
  (ldS H p1 (o2 + 0)).bind fun s3 =>
  cond (s3 == []) (
  asP x0 fun p4 o5 =>
  (stN H p4 (o5 + 1) [(.bool true)]).bind fun H6 =>
  κ (.int .i64 0) H6) (
  asP x0 fun p7 o8 =>
  (ldS H p7 (o8 + 0)).bind fun s9 =>
  (nth s9 (Int.toNat 0)).bind fun c10 =>
  asP x0 fun p11 o12 =>
  (ldS H p11 (o12 + 0)).bind fun s13 =>
  bounds (List.length s13) (some (.int .i64 1)) none fun l14 u15 =>
  asP x0 fun p16 o17 =>
  (stN H p16 (o17 + 0) [(.str (List.take (u15 - l14) (List.drop l14 s13)))]).bind fun H18 =>
  κ (.int .i64 (IntKind.i64.wrap (Int.ofNat c10))) H18)
theorem M102_0_ok {o : Orc} {N : Nat} {κ : Kv} (x0 : V) (H : Heap) :
    run Tryz.prog o N (cAt Tryz.f102 []) .n (env0 Tryz.prog Tryz.f102 κ) (tmk 0 27 [(0, x0)]) H (env0 Tryz.prog Tryz.f102 κ).ret = M102_0 o N κ x0 H := by
  kernel_rfl
def M102 (o : Orc) (N : Nat) : FnM := fun vs H κ => match vs with
  | [x0] => M102_0 o N κ x0 H
  | _ => none
theorem M102_run (o : Orc) (N : Nat) (vs : List V) (H : Heap) (κ : Kv) (r) (h : M102 o N vs H κ = some r) : runFn Tryz.prog o N Tryz.f102 .n vs H κ = some r := by
  unfold M102 at h
  split at h
  · rename_i x0
    refine (runFn_at (t := tmk 0 27 [(0, x0)]) (by kernel_rfl) (by kernel_rfl)).trans (Eq.trans ?_ h)
    exact M102_0_ok x0 H
  · cases h
theorem M102_sound {o : Orc} (ho : ∀ f, FSound Tryz.prog f (o f)) (N : Nat) : FSound Tryz.prog 102 (M102 o N) :=
  FSound.sub (runFn_ok (an := .n) (fuel := N) hmix ho (by kernel_rfl) (by kernel_rfl)) (M102_run o N)
/-! 103 (*ostinato/config.reader).two -/
def M103_0 (o : Orc) (N : Nat) (κ : Kv) (x0 : V) (H : Heap) : Ans :=
  o 102 [x0] H fun v1 H2 =>
  asI .i64 v1 fun n3 =>
  o 102 [x0] H2 fun v4 H5 =>
  asI .i64 v4 fun n6 =>
  κ (.int .i64 (IntKind.i64.wrap (Int.ofNat ((BitVec.ofInt (IntKind.bits .i64) (IntKind.i64.wrap (n3 * 2 ^ (min (Int.toNat 8) (IntKind.bits .i64))))) ||| (BitVec.ofInt (IntKind.bits .i64) n6)).toNat))) H5
theorem M103_0_ok {o : Orc} {N : Nat} {κ : Kv} (x0 : V) (H : Heap) :
    run Tryz.prog o N (cAt Tryz.f103 []) .n (env0 Tryz.prog Tryz.f103 κ) (tmk 0 11 [(0, x0)]) H (env0 Tryz.prog Tryz.f103 κ).ret = M103_0 o N κ x0 H := by
  kernel_rfl
def M103 (o : Orc) (N : Nat) : FnM := fun vs H κ => match vs with
  | [x0] => M103_0 o N κ x0 H
  | _ => none
theorem M103_run (o : Orc) (N : Nat) (vs : List V) (H : Heap) (κ : Kv) (r) (h : M103 o N vs H κ = some r) : runFn Tryz.prog o N Tryz.f103 .n vs H κ = some r := by
  unfold M103 at h
  split at h
  · rename_i x0
    refine (runFn_at (t := tmk 0 11 [(0, x0)]) (by kernel_rfl) (by kernel_rfl)).trans (Eq.trans ?_ h)
    exact M103_0_ok x0 H
  · cases h
theorem M103_sound {o : Orc} (ho : ∀ f, FSound Tryz.prog f (o f)) (N : Nat) : FSound Tryz.prog 103 (M103 o N) :=
  FSound.sub (runFn_ok (an := .n) (fuel := N) hmix ho (by kernel_rfl) (by kernel_rfl)) (M103_run o N)
/-! 104 (*ostinato/config.reader).lists -/
def M104_0 (o : Orc) (N : Nat) (J : V → V → Heap → Ans) (κ : Kv) (x0 x1 : V) (H : Heap) : Ans :=
  J x0 x1 H
theorem M104_0_ok {o : Orc} {N : Nat} {κ : Kv} {J : Kt} {J' : V → V → Heap → Ans} (hJ : ∀ x0 x1 H, J (tmk 0 87 [(0, x0), (1, x1)]) H = J' x0 x1 H) (x0 x1 : V) (H : Heap) :
    run Tryz.prog o N (cAt Tryz.f104 [4, 0]) .n (env0 Tryz.prog Tryz.f104 κ) (tmk 0 87 [(0, x0), (1, x1)]) H (kj [0, 1] J) = M104_0 o N J' κ x0 x1 H := by
  obtain rfl := fx3 hJ
  kernel_rfl
def M104_1 (o : Orc) (N : Nat) (J : V → V → Int → Heap → Ans) (κ : Kv) (x0 x1 : V) (H : Heap) : Ans :=
  J x0 x1 0 H
theorem M104_1_ok {o : Orc} {N : Nat} {κ : Kv} {J : Kt} {J' : V → V → Int → Heap → Ans} (hJ : ∀ x0 x1 x8 H, J (tmk 0 87 [(0, x0), (1, x1), (8, .int .i64 x8)]) H = J' x0 x1 x8 H) (x0 x1 : V) (H : Heap) :
    run Tryz.prog o N (cAt Tryz.f104 [4, 1, 0]) .n (env0 Tryz.prog Tryz.f104 κ) (tmk 0 87 [(0, x0), (1, x1)]) H (kj [0, 1, 8] J) = M104_1 o N J' κ x0 x1 H := by
  obtain rfl := fx4 hJ
  kernel_rfl
def M104_2 (o : Orc) (N : Nat) (J : V → V → Int → Bool → Heap → Ans) (κ : Kv) (x0 x1 : V) (x8 : Int) (H : Heap) : Ans :=
  J x0 x1 x8 (decide (x8 < 3)) H
theorem M104_2_ok {o : Orc} {N : Nat} {κ : Kv} {J : Kt} {J' : V → V → Int → Bool → Heap → Ans} (hJ : ∀ x0 x1 x8 x9 H, J (tmk 0 87 [(0, x0), (1, x1), (8, .int .i64 x8), (9, .bool x9)]) H = J' x0 x1 x8 x9 H) (x0 x1 : V) (x8 : Int) (H : Heap) :
    run Tryz.prog o N (cAt Tryz.f104 [4, 1, 1, 4, 4, 0]) .n ((env0 Tryz.prog Tryz.f104 κ).block 0 (env0 Tryz.prog Tryz.f104 κ).ret) (tmk 0 87 [(0, x0), (1, x1), (8, .int .i64 x8)]) H (kj [0, 1, 8, 9] J) = M104_2 o N J' κ x0 x1 x8 H := by
  obtain rfl := fx5 hJ
  kernel_rfl
def M104_3 (o : Orc) (N : Nat) (J : V → V → Int → Heap → Ans) (κ : Kv) (x0 x1 : V) (x8 : Int) (x9 : Bool) (H : Heap) : Ans :=
  cond x9 (
  J x0 x1 x8 H) (
  κ (.tup []) H)
theorem M104_3_ok {o : Orc} {N : Nat} {κ : Kv} {J : Kt} {J' : V → V → Int → Heap → Ans} (hJ : ∀ x0 x1 x8 H, J (tmk 0 87 [(0, x0), (1, x1), (8, .int .i64 x8)]) H = J' x0 x1 x8 H) (x0 x1 : V) (x8 : Int) (x9 : Bool) (H : Heap) :
    run Tryz.prog o N (cAt Tryz.f104 [4, 1, 1, 4, 4, 1, 0]) .n ((env0 Tryz.prog Tryz.f104 κ).block 0 (env0 Tryz.prog Tryz.f104 κ).ret) (tmk 0 87 [(0, x0), (1, x1), (8, .int .i64 x8), (9, .bool x9)]) H (kj [0, 1, 8] J) = M104_3 o N J' κ x0 x1 x8 x9 H := by
  obtain rfl := fx4 hJ
  kernel_rfl
def M104_4 (o : Orc) (N : Nat) (J : V → V → Int → Int → Heap → Ans) (κ : Kv) (x0 x1 : V) (x8 : Int) (H : Heap) : Ans :=
  J x0 x1 x8 x8 H
theorem M104_4_ok {o : Orc} {N : Nat} {κ : Kv} {X1 J : Kt} {J' : V → V → Int → Int → Heap → Ans} (hJ : ∀ x0 x1 x4 x8 H, J (tmk 0 87 [(0, x0), (1, x1), (4, .int .i64 x4), (8, .int .i64 x8)]) H = J' x0 x1 x4 x8 H) (x0 x1 : V) (x8 : Int) (H : Heap) :
    run Tryz.prog o N (cAt Tryz.f104 [4, 1, 1, 4, 4, 1, 1, 0, 4, 0]) .n (((env0 Tryz.prog Tryz.f104 κ).block 0 (env0 Tryz.prog Tryz.f104 κ).ret).block 1 (kj [0, 1, 8] X1)) (tmk 0 87 [(0, x0), (1, x1), (8, .int .i64 x8)]) H (kj [0, 1, 4, 8] J) = M104_4 o N J' κ x0 x1 x8 H := by
  obtain rfl := fx5 hJ
  kernel_rfl
def M104_5 (o : Orc) (N : Nat) (J : V → V → Int → Int → Int → Heap → Ans) (κ : Kv) (x0 x1 : V) (x4 x8 : Int) (H : Heap) : Ans :=
  o 102 [x0] H fun v1 H2 =>
  asI .i64 v1 fun n3 =>
  J x0 x1 x4 n3 x8 H2
theorem M104_5_ok {o : Orc} {N : Nat} {κ : Kv} {X1 J : Kt} {J' : V → V → Int → Int → Int → Heap → Ans} (hJ : ∀ x0 x1 x4 x5 x8 H, J (tmk 0 87 [(0, x0), (1, x1), (4, .int .i64 x4), (5, .int .i64 x5), (8, .int .i64 x8)]) H = J' x0 x1 x4 x5 x8 H) (x0 x1 : V) (x4 x8 : Int) (H : Heap) :
    run Tryz.prog o N (cAt Tryz.f104 [4, 1, 1, 4, 4, 1, 1, 0, 4, 1, 0]) .n (((env0 Tryz.prog Tryz.f104 κ).block 0 (env0 Tryz.prog Tryz.f104 κ).ret).block 1 (kj [0, 1, 8] X1)) (tmk 0 87 [(0, x0), (1, x1), (4, .int .i64 x4), (8, .int .i64 x8)]) H (kj [0, 1, 4, 5, 8] J) = M104_5 o N J' κ x0 x1 x4 x8 H := by
  obtain rfl := fx6 hJ
  kernel_rfl
def A104_6 : An := (.s .n none (.s (.b none (.s .n none (.s .n none (.b none (.s .n none (.c (.d [0, 1, 2, 3, 4, 5, 6, 7, 8, 9, 10, 11]) (.s .n none (.c (.s .n none (.s .n none (.s .n none (.s .n none (.d [0, 1, 2, 3, 4, 5, 6, 7, 8, 9, 10]))))) (.s .n none (.s .n none (.s .n none (.s .n none (.s .n none (.s .n none (.s .n none (.d [0, 1, 2, 3, 4, 5, 6, 7, 8, 9, 10])))))))))))))))) none .n))
def M104_7 (o : Orc) (N : Nat) (X2 : V → V → Int → Heap → Ans) (J : V → V → Int → Int → Int → Heap → Ans) (κ : Kv) (x0 x1 : V) (x4 x5 x8 : Int) (H : Heap) : Ans :=
  cond (decide (x5 > 0)) (
  asP x0 fun p4 o5 =>
  (ldB H p4 (o5 + 1)).bind fun b6 =>
  cond b6 (
  κ (.tup []) H) (
  cond (x4 == 0) (
  asP x1 fun p7 o8 =>
  (ldV (Heap.skip H 12) p7 (o8 + 8)).bind fun v9 =>
  o 102 [x0] (Heap.skip H 12) fun v10 H11 =>
  asI .i64 v10 fun n12 =>
  (ldV H11 p7 (o8 + 8)).bind fun v13 =>
  cond (V.same v9 v13) (
  appV (Heap.newAt H11 (H.next + 7) (.row [(.int .i64 n12)])) v9 (.sl (H.next + 7) 0 1 1 true) 1 fun v14 H15 =>
  asP x1 fun p16 o17 =>
  cond (Nat.beq (List.length (V.cells v14)) 1 && Nat.blt 0 1) (
  (stN H15 p16 (o17 + 8) (V.cells v14)).bind fun H18 =>
  J x0 x1 x4 (IntKind.i64.wrap (x5 - 1)) x8 H18) none) none) (
  cond (x4 == 1) (
  newB H (.row [(.int .u32 0), (.int .i64 0), (.bool false)]) fun i19 H20 =>
  o 103 [x0] H20 fun v21 H22 =>
  asI .i64 v21 fun n23 =>
  (stN H22 i19 0 [(.int .u32 (IntKind.u32.wrap n23))]).bind fun H24 =>
  o 102 [x0] H24 fun v25 H26 =>
  asI .i64 v25 fun n27 =>
  (stN H26 i19 1 [(.int .i64 n27)]).bind fun H28 =>
  o 102 [x0] H28 fun v29 H30 =>
  asI .i64 v29 fun n31 =>
  (stN H30 i19 2 [(.bool (n31 == 1))]).bind fun H32 =>
  asP x1 fun p33 o34 =>
  (ldV (Heap.skip H32 11) p33 (o34 + 9)).bind fun v35 =>
  ldFlat (Heap.skip H32 11) i19 [.int .u32, .int .i64, .bool] 0 fun l36 =>
  (fillV (fun i => some (i * 3, 3)) [(.int .u32 0), (.int .i64 0), (.bool false)] [(0, (.agg l36))]).bind fun l37 =>
  appV (Heap.newAt (Heap.skip H32 11) (H32.next + 6) (.row l37)) v35 (.sl (H32.next + 6) 0 1 3 true) 3 fun v38 H39 =>
  asP x1 fun p40 o41 =>
  cond (Nat.beq (List.length (V.cells v38)) 1 && Nat.blt 0 1) (
  (stN H39 p40 (o41 + 9) (V.cells v38)).bind fun H42 =>
  J x0 x1 x4 (IntKind.i64.wrap (x5 - 1)) x8 H42) none) (
  newB H (.row [(.int .i64 0), (.int .i64 0), (.int .i64 0), (.int .i64 0), (.int .i64 0), (.int .i64 0)]) fun i43 H44 =>
  o 102 [x0] H44 fun v45 H46 =>
  asI .i64 v45 fun n47 =>
  (stN H46 i43 0 [(.int .i64 n47)]).bind fun H48 =>
  o 103 [x0] H48 fun v49 H50 =>
  asI .i64 v49 fun n51 =>
  (stN H50 i43 1 [(.int .i64 n51)]).bind fun H52 =>
  o 103 [x0] H52 fun v53 H54 =>
  asI .i64 v53 fun n55 =>
  (stN H54 i43 2 [(.int .i64 n55)]).bind fun H56 =>
  o 102 [x0] H56 fun v57 H58 =>
  asI .i64 v57 fun n59 =>
  (stN H58 i43 3 [(.int .i64 n59)]).bind fun H60 =>
  o 102 [x0] H60 fun v61 H62 =>
  asI .i64 v61 fun n63 =>
  (stN H62 i43 4 [(.int .i64 n63)]).bind fun H64 =>
  o 102 [x0] H64 fun v65 H66 =>
  asI .i64 v65 fun n67 =>
  (stN H66 i43 5 [(.int .i64 n67)]).bind fun H68 =>
  asP x1 fun p69 o70 =>
  (ldV (Heap.skip H68 11) p69 (o70 + 10)).bind fun v71 =>
  ldFlat (Heap.skip H68 11) i43 [.int .i64, .int .i64, .int .i64, .int .i64, .int .i64, .int .i64] 0 fun l72 =>
  (fillV (fun i => some (i * 6, 6)) [(.int .i64 0), (.int .i64 0), (.int .i64 0), (.int .i64 0), (.int .i64 0), (.int .i64 0)] [(0, (.agg l72))]).bind fun l73 =>
  appV (Heap.newAt (Heap.skip H68 11) (H68.next + 6) (.row l73)) v71 (.sl (H68.next + 6) 0 1 6 true) 6 fun v74 H75 =>
  asP x1 fun p76 o77 =>
  cond (Nat.beq (List.length (V.cells v74)) 1 && Nat.blt 0 1) (
  (stN H75 p76 (o77 + 10) (V.cells v74)).bind fun H78 =>
  J x0 x1 x4 (IntKind.i64.wrap (x5 - 1)) x8 H78) none)))) (
  X2 x0 x1 x8 H)
theorem M104_7_ok {o : Orc} {N : Nat} {κ : Kv} {X1 X2 J : Kt} {X2' : V → V → Int → Heap → Ans} {J' : V → V → Int → Int → Int → Heap → Ans} (h2 : ∀ x0 x1 x8 H, X2 (tmk 0 87 [(0, x0), (1, x1), (8, .int .i64 x8)]) H = X2' x0 x1 x8 H) (hJ : ∀ x0 x1 x4 x5 x8 H, J (tmk 0 87 [(0, x0), (1, x1), (4, .int .i64 x4), (5, .int .i64 x5), (8, .int .i64 x8)]) H = J' x0 x1 x4 x5 x8 H) (x0 x1 : V) (x4 x5 x8 : Int) (H : Heap) :
    run Tryz.prog o N (cAt Tryz.f104 [4, 1, 1, 4, 4, 1, 1, 0, 4, 1, 1, 4, 4]) A104_6 ((((env0 Tryz.prog Tryz.f104 κ).block 0 (env0 Tryz.prog Tryz.f104 κ).ret).block 1 (kj [0, 1, 8] X1)).block 2 (kj [0, 1, 8] X2)) (tmk 0 87 [(0, x0), (1, x1), (4, .int .i64 x4), (5, .int .i64 x5), (8, .int .i64 x8)]) H (kj [0, 1, 4, 5, 8] J) = M104_7 o N X2' J' κ x0 x1 x4 x5 x8 H := by
  obtain rfl := fx4 h2
  obtain rfl := fx6 hJ
  kernel_rfl
def M104_8 (o : Orc) (N : Nat) (X2 : V → V → Int → Heap → Ans) (κ : Kv) (n : Nat) : V → V → Int → Int → Int → Heap → Ans :=
  Nat.rec (motive := fun _ => V → V → Int → Int → Int → Heap → Ans) (fun _ _ _ _ _ _ => none) (fun _ ih x0 x1 x4 x5 x8 H => M104_7 o N X2 ih κ x0 x1 x4 x5 x8 H) n
theorem M104_8_s (o : Orc) (N : Nat) (X2 : V → V → Int → Heap → Ans) (κ : Kv) (n : Nat) (x0 x1 : V) (x4 x5 x8 : Int) (H : Heap) : M104_8 o N X2 κ (n + 1) x0 x1 x4 x5 x8 H = M104_7 o N X2 (M104_8 o N X2 κ n) κ x0 x1 x4 x5 x8 H := rfl
theorem M104_8_ok {o : Orc} {N : Nat} {κ : Kv} {X1 X2 : Kt} {X2' : V → V → Int → Heap → Ans} (h2 : ∀ x0 x1 x8 H, X2 (tmk 0 87 [(0, x0), (1, x1), (8, .int .i64 x8)]) H = X2' x0 x1 x8 H) (n : Nat) : ∀ (x0 x1 : V) (x4 x5 x8 : Int) (H : Heap),
    rounds (fun a H k => run Tryz.prog o N (cAt Tryz.f104 [4, 1, 1, 4, 4, 1, 1, 0, 4, 1, 1, 4, 4]) A104_6 ((((env0 Tryz.prog Tryz.f104 κ).block 0 (env0 Tryz.prog Tryz.f104 κ).ret).block 1 (kj [0, 1, 8] X1)).block 2 (kj [0, 1, 8] X2)) a H k) (some (lvOf [0, 1, 4, 5, 8])) n (tmk 0 87 [(0, x0), (1, x1), (4, .int .i64 x4), (5, .int .i64 x5), (8, .int .i64 x8)]) H = M104_8 o N X2' κ n x0 x1 x4 x5 x8 H := by
  induction n with
  | zero => intros; rfl
  | succ n ih =>
    intro x0 x1 x4 x5 x8 H
    refine (run_round.trans ?_).trans (M104_8_s ..).symm
    exact M104_7_ok h2 ih x0 x1 x4 x5 x8 H
def A104_9 : An := .b none (.l (some (lvOf [0, 1, 4, 5, 8])) A104_6)
def A104_10 : An := .s .n (some (lvOf [0, 1, 4, 5, 8])) A104_9
def A104_11 : An := .s .n (some (lvOf [0, 1, 4, 8])) A104_10
def M104_12 (o : Orc) (N : Nat) (J : V → V → Int → Heap → Ans) (κ : Kv) (x0 x1 : V) (x8 : Int) (H : Heap) : Ans :=
  J x0 x1 (IntKind.i64.wrap (x8 + 1)) H
theorem M104_12_ok {o : Orc} {N : Nat} {κ : Kv} {J : Kt} {J' : V → V → Int → Heap → Ans} (hJ : ∀ x0 x1 x8 H, J (tmk 0 87 [(0, x0), (1, x1), (8, .int .i64 x8)]) H = J' x0 x1 x8 H) (x0 x1 : V) (x8 : Int) (H : Heap) :
    run Tryz.prog o N (cAt Tryz.f104 [4, 1, 1, 4, 4, 1, 1, 1]) .n ((env0 Tryz.prog Tryz.f104 κ).block 0 (env0 Tryz.prog Tryz.f104 κ).ret) (tmk 0 87 [(0, x0), (1, x1), (8, .int .i64 x8)]) H (kj [0, 1, 8] J) = M104_12 o N J' κ x0 x1 x8 H := by
  obtain rfl := fx4 hJ
  kernel_rfl
def A104_13 : An := .s (.b none A104_11) (some (lvOf [0, 1, 8])) .n
def A104_14 : An := .s .n (some (lvOf [0, 1, 8, 9])) (.s .n (some (lvOf [0, 1, 8])) A104_13)
def M104_15 (o : Orc) (N : Nat) (κ : Kv) (n : Nat) : V → V → Int → Heap → Ans :=
  Nat.rec (motive := fun _ => V → V → Int → Heap → Ans) (fun _ _ _ _ => none) (fun _ ih x0 x1 x8 H => M104_2 o N (fun x0 x1 x8 x9 H => M104_3 o N (fun x0 x1 x8 H => M104_4 o N (fun x0 x1 x4 x8 H => M104_5 o N (fun x0 x1 x4 x5 x8 H => M104_8 o N (fun x0 x1 x8 H => M104_12 o N ih κ x0 x1 x8 H) κ N x0 x1 x4 x5 x8 H) κ x0 x1 x4 x8 H) κ x0 x1 x8 H) κ x0 x1 x8 x9 H) κ x0 x1 x8 H) n
theorem M104_15_s (o : Orc) (N : Nat) (κ : Kv) (n : Nat) (x0 x1 : V) (x8 : Int) (H : Heap) : M104_15 o N κ (n + 1) x0 x1 x8 H = M104_2 o N (fun x0 x1 x8 x9 H => M104_3 o N (fun x0 x1 x8 H => M104_4 o N (fun x0 x1 x4 x8 H => M104_5 o N (fun x0 x1 x4 x5 x8 H => M104_8 o N (fun x0 x1 x8 H => M104_12 o N (M104_15 o N κ n) κ x0 x1 x8 H) κ N x0 x1 x4 x5 x8 H) κ x0 x1 x4 x8 H) κ x0 x1 x8 H) κ x0 x1 x8 x9 H) κ x0 x1 x8 H := rfl
theorem M104_15_ok {o : Orc} {N : Nat} {κ : Kv} (n : Nat) : ∀ (x0 x1 : V) (x8 : Int) (H : Heap),
    rounds (fun a H k => run Tryz.prog o N (cAt Tryz.f104 [4, 1, 1, 4, 4]) A104_14 ((env0 Tryz.prog Tryz.f104 κ).block 0 (env0 Tryz.prog Tryz.f104 κ).ret) a H k) (some (lvOf [0, 1, 8])) n (tmk 0 87 [(0, x0), (1, x1), (8, .int .i64 x8)]) H = M104_15 o N κ n x0 x1 x8 H := by
  induction n with
  | zero => intros; rfl
  | succ n ih =>
    intro x0 x1 x8 H
    refine (run_round.trans ?_).trans (M104_15_s ..).symm
    refine (run_seq (x := (cAt Tryz.f104 [4, 1, 1, 4, 4, 0])) (ax := .n) (y := (cAt Tryz.f104 [4, 1, 1, 4, 4, 1])) (ay := (.s .n (some (lvOf [0, 1, 8])) A104_13)) (l := [0, 1, 8, 9]) (by kernel_rfl) (by kernel_rfl)).trans ?_
    refine M104_2_ok ?_ x0 x1 x8 H
    intro x0 x1 x8 x9 H
    refine (run_seq (x := (cAt Tryz.f104 [4, 1, 1, 4, 4, 1, 0])) (ax := .n) (y := (cAt Tryz.f104 [4, 1, 1, 4, 4, 1, 1])) (ay := A104_13) (l := [0, 1, 8]) (by kernel_rfl) (by kernel_rfl)).trans ?_
    refine M104_3_ok ?_ x0 x1 x8 x9 H
    intro x0 x1 x8 H
    refine (run_seq (x := (cAt Tryz.f104 [4, 1, 1, 4, 4, 1, 1, 0])) (ax := (.b none A104_11)) (y := (cAt Tryz.f104 [4, 1, 1, 4, 4, 1, 1, 1])) (ay := .n) (l := [0, 1, 8]) (by kernel_rfl) (by kernel_rfl)).trans ?_
    refine (run_block (id := 1) (x := (cAt Tryz.f104 [4, 1, 1, 4, 4, 1, 1, 0, 4])) (ax := A104_11) (by kernel_rfl) (by kernel_rfl)).trans ?_
    refine (run_seq (x := (cAt Tryz.f104 [4, 1, 1, 4, 4, 1, 1, 0, 4, 0])) (ax := .n) (y := (cAt Tryz.f104 [4, 1, 1, 4, 4, 1, 1, 0, 4, 1])) (ay := A104_10) (l := [0, 1, 4, 8]) (by kernel_rfl) (by kernel_rfl)).trans ?_
    refine M104_4_ok ?_ x0 x1 x8 H
    intro x0 x1 x4 x8 H
    refine (run_seq (x := (cAt Tryz.f104 [4, 1, 1, 4, 4, 1, 1, 0, 4, 1, 0])) (ax := .n) (y := (cAt Tryz.f104 [4, 1, 1, 4, 4, 1, 1, 0, 4, 1, 1])) (ay := A104_9) (l := [0, 1, 4, 5, 8]) (by kernel_rfl) (by kernel_rfl)).trans ?_
    refine M104_5_ok ?_ x0 x1 x4 x8 H
    intro x0 x1 x4 x5 x8 H
    refine (run_block (id := 2) (x := (cAt Tryz.f104 [4, 1, 1, 4, 4, 1, 1, 0, 4, 1, 1, 4])) (ax := (.l (some (lvOf [0, 1, 4, 5, 8])) A104_6)) (by kernel_rfl) (by kernel_rfl)).trans ?_
    refine (run_loop (x := (cAt Tryz.f104 [4, 1, 1, 4, 4, 1, 1, 0, 4, 1, 1, 4, 4])) (ax := A104_6) (l := [0, 1, 4, 5, 8]) (by kernel_rfl) (by kernel_rfl) (by kernel_rfl)).trans ?_
    refine M104_8_ok ?_ N x0 x1 x4 x5 x8 H
    intro x0 x1 x8 H
    exact M104_12_ok ih x0 x1 x8 H
def A104_16 : An := .b none (.l (some (lvOf [0, 1, 8])) A104_14)
def A104_17 : An := .s .n (some (lvOf [0, 1])) (.s .n (some (lvOf [0, 1, 8])) A104_16)
def M104 (o : Orc) (N : Nat) : FnM := fun vs H κ => match vs with
  | [x0, x1] => M104_0 o N (fun x0 x1 H => M104_1 o N (fun x0 x1 x8 H => M104_15 o N κ N x0 x1 x8 H) κ x0 x1 H) κ x0 x1 H
  | _ => none
theorem M104_run (o : Orc) (N : Nat) (vs : List V) (H : Heap) (κ : Kv) (r) (h : M104 o N vs H κ = some r) : runFn Tryz.prog o N Tryz.f104 A104_17 vs H κ = some r := by
  unfold M104 at h
  split at h
  · rename_i x0 x1
    refine (runFn_at (t := tmk 0 87 [(0, x0), (1, x1)]) (by kernel_rfl) (by kernel_rfl)).trans (Eq.trans ?_ h)
    refine (run_scope (x := (cAt Tryz.f104 [4])) (by kernel_rfl)).trans ?_
    refine (run_seq (x := (cAt Tryz.f104 [4, 0])) (ax := .n) (y := (cAt Tryz.f104 [4, 1])) (ay := (.s .n (some (lvOf [0, 1, 8])) A104_16)) (l := [0, 1]) (by kernel_rfl) (by kernel_rfl)).trans ?_
    refine M104_0_ok ?_ x0 x1 H
    intro x0 x1 H
    refine (run_seq (x := (cAt Tryz.f104 [4, 1, 0])) (ax := .n) (y := (cAt Tryz.f104 [4, 1, 1])) (ay := A104_16) (l := [0, 1, 8]) (by kernel_rfl) (by kernel_rfl)).trans ?_
    refine M104_1_ok ?_ x0 x1 H
    intro x0 x1 x8 H
    refine (run_block (id := 0) (x := (cAt Tryz.f104 [4, 1, 1, 4])) (ax := (.l (some (lvOf [0, 1, 8])) A104_14)) (by kernel_rfl) (by kernel_rfl)).trans ?_
    refine (run_loop (x := (cAt Tryz.f104 [4, 1, 1, 4, 4])) (ax := A104_14) (l := [0, 1, 8]) (by kernel_rfl) (by kernel_rfl) (by kernel_rfl)).trans ?_
    exact M104_15_ok N x0 x1 x8 H
  · cases h
theorem M104_sound {o : Orc} (ho : ∀ f, FSound Tryz.prog f (o f)) (N : Nat) : FSound Tryz.prog 104 (M104 o N) :=
  FSound.sub (runFn_ok (an := A104_17) (fuel := N) hmix ho (by kernel_rfl) (by kernel_rfl)) (M104_run o N)
/-! 105 ostinato/config.Print -/
def M105_0 (o : Orc) (N : Nat) (J : Nat → Heap → Ans) (κ : Kv) (x0 : List V) (H : Heap) : Ans :=
  cond (List.all x0 V.one) (
  newB H (.row x0) fun i1 H2 =>
  J i1 H2) none
theorem M105_0_ok {o : Orc} {N : Nat} {κ : Kv} {J : Kt} {J' : Nat → Heap → Ans} (hJ : ∀ x1 H, J (tmk 0 109 [(1, .ptr x1 0)]) H = J' x1 H) (x0 : List V) (H : Heap) :
    run Tryz.prog o N (cAt Tryz.f105 [0]) .n (env0 Tryz.prog Tryz.f105 κ) (tmk 0 109 [(0, .agg x0)]) H (kj [1] J) = M105_0 o N J' κ x0 H := by
  obtain rfl := fx2 hJ
  kernel_rfl
def M105_1 (o : Orc) (N : Nat) (J : Nat → Heap → Ans) (κ : Kv) (x1 : Nat) (H : Heap) : Ans :=
  ldFlat H x1 [.int .i64, .int .i64, .int .i64, .int .i64, .int .i64, .int .i64, .int .i64, .int .u32, .oth, .oth, .oth] 0 fun l3 =>
  o 106 [(.agg l3)] H fun v4 H5 =>
  asB v4 fun b6 =>
  cond (!b6) (
  κ (.str []) H5) (
  J x1 H5)
theorem M105_1_ok {o : Orc} {N : Nat} {κ : Kv} {J : Kt} {J' : Nat → Heap → Ans} (hJ : ∀ x1 H, J (tmk 0 109 [(1, .ptr x1 0)]) H = J' x1 H) (x1 : Nat) (H : Heap) :
    run Tryz.prog o N (cAt Tryz.f105 [1, 0]) .n (env0 Tryz.prog Tryz.f105 κ) (tmk 0 109 [(1, .ptr x1 0)]) H (kj [1] J) = M105_1 o N J' κ x1 H := by
  obtain rfl := fx2 hJ
  kernel_rfl
def M105_2 (o : Orc) (N : Nat) (J : Nat → Nat → Heap → Ans) (κ : Kv) (x1 : Nat) (H : Heap) : Ans :=
  newB H (.row [(.int .u8 79)]) fun i7 H8 =>
  newB H8 (.row [.nils]) fun i9 H10 =>
  (stN H10 i9 0 [(.sl i7 0 1 1 true)]).bind fun H11 =>
  J x1 i9 H11
theorem M105_2_ok {o : Orc} {N : Nat} {κ : Kv} {J : Kt} {J' : Nat → Nat → Heap → Ans} (hJ : ∀ x1 x3 H, J (tmk 0 109 [(1, .ptr x1 0), (3, .ptr x3 0)]) H = J' x1 x3 H) (x1 : Nat) (H : Heap) :
    run Tryz.prog o N (cAt Tryz.f105 [1, 1, 0]) .n (env0 Tryz.prog Tryz.f105 κ) (tmk 0 109 [(1, .ptr x1 0)]) H (kj [1, 3] J) = M105_2 o N J' κ x1 H := by
  obtain rfl := fx3 hJ
  kernel_rfl
def M105_3 (o : Orc) (N : Nat) (J : Nat → Nat → Heap → Ans) (κ : Kv) (x1 x3 : Nat) (H : Heap) : Ans :=
  (ldI H .i64 x1 0).bind fun n12 =>
  o 171 [(.ptr x3 0), (.int .i64 n12)] H fun v13 H14 =>
  asT0 v13 (
  J x1 x3 H14)
theorem M105_3_ok {o : Orc} {N : Nat} {κ : Kv} {J : Kt} {J' : Nat → Nat → Heap → Ans} (hJ : ∀ x1 x3 H, J (tmk 0 109 [(1, .ptr x1 0), (3, .ptr x3 0)]) H = J' x1 x3 H) (x1 x3 : Nat) (H : Heap) :
    run Tryz.prog o N (cAt Tryz.f105 [1, 1, 1, 0]) .n (env0 Tryz.prog Tryz.f105 κ) (tmk 0 109 [(1, .ptr x1 0), (3, .ptr x3 0)]) H (kj [1, 3] J) = M105_3 o N J' κ x1 x3 H := by
  obtain rfl := fx3 hJ
  kernel_rfl
def M105_4 (o : Orc) (N : Nat) (J : Nat → Nat → Heap → Ans) (κ : Kv) (x1 x3 : Nat) (H : Heap) : Ans :=
  (ldI H .i64 x1 1).bind fun n15 =>
  o 171 [(.ptr x3 0), (.int .i64 n15)] H fun v16 H17 =>
  asT0 v16 (
  J x1 x3 H17)
theorem M105_4_ok {o : Orc} {N : Nat} {κ : Kv} {J : Kt} {J' : Nat → Nat → Heap → Ans} (hJ : ∀ x1 x3 H, J (tmk 0 109 [(1, .ptr x1 0), (3, .ptr x3 0)]) H = J' x1 x3 H) (x1 x3 : Nat) (H : Heap) :
    run Tryz.prog o N (cAt Tryz.f105 [1, 1, 1, 1, 0]) .n (env0 Tryz.prog Tryz.f105 κ) (tmk 0 109 [(1, .ptr x1 0), (3, .ptr x3 0)]) H (kj [1, 3] J) = M105_4 o N J' κ x1 x3 H := by
  obtain rfl := fx3 hJ
  kernel_rfl
def M105_5 (o : Orc) (N : Nat) (J : Nat → Nat → Heap → Ans) (κ : Kv) (x1 x3 : Nat) (H : Heap) : Ans :=
  (ldI H .i64 x1 2).bind fun n18 =>
  o 171 [(.ptr x3 0), (.int .i64 n18)] H fun v19 H20 =>
  asT0 v19 (
  J x1 x3 H20)
theorem M105_5_ok {o : Orc} {N : Nat} {κ : Kv} {J : Kt} {J' : Nat → Nat → Heap → Ans} (hJ : ∀ x1 x3 H, J (tmk 0 109 [(1, .ptr x1 0), (3, .ptr x3 0)]) H = J' x1 x3 H) (x1 x3 : Nat) (H : Heap) :
    run Tryz.prog o N (cAt Tryz.f105 [1, 1, 1, 1, 1, 0]) .n (env0 Tryz.prog Tryz.f105 κ) (tmk 0 109 [(1, .ptr x1 0), (3, .ptr x3 0)]) H (kj [1, 3] J) = M105_5 o N J' κ x1 x3 H := by
  obtain rfl := fx3 hJ
  kernel_rfl
def M105_6 (o : Orc) (N : Nat) (J : Nat → Nat → Heap → Ans) (κ : Kv) (x1 x3 : Nat) (H : Heap) : Ans :=
  (ldI H .i64 x1 3).bind fun n21 =>
  o 172 [(.ptr x3 0), (.int .i64 n21)] H fun v22 H23 =>
  asT0 v22 (
  J x1 x3 H23)
theorem M105_6_ok {o : Orc} {N : Nat} {κ : Kv} {J : Kt} {J' : Nat → Nat → Heap → Ans} (hJ : ∀ x1 x3 H, J (tmk 0 109 [(1, .ptr x1 0), (3, .ptr x3 0)]) H = J' x1 x3 H) (x1 x3 : Nat) (H : Heap) :
    run Tryz.prog o N (cAt Tryz.f105 [1, 1, 1, 1, 1, 1, 0]) .n (env0 Tryz.prog Tryz.f105 κ) (tmk 0 109 [(1, .ptr x1 0), (3, .ptr x3 0)]) H (kj [1, 3] J) = M105_6 o N J' κ x1 x3 H := by
  obtain rfl := fx3 hJ
  kernel_rfl
def M105_7 (o : Orc) (N : Nat) (J : Nat → Nat → Heap → Ans) (κ : Kv) (x1 x3 : Nat) (H : Heap) : Ans :=
  (ldI H .i64 x1 4).bind fun n24 =>
  o 171 [(.ptr x3 0), (.int .i64 n24)] H fun v25 H26 =>
  asT0 v25 (
  J x1 x3 H26)
theorem M105_7_ok {o : Orc} {N : Nat} {κ : Kv} {J : Kt} {J' : Nat → Nat → Heap → Ans} (hJ : ∀ x1 x3 H, J (tmk 0 109 [(1, .ptr x1 0), (3, .ptr x3 0)]) H = J' x1 x3 H) (x1 x3 : Nat) (H : Heap) :
    run Tryz.prog o N (cAt Tryz.f105 [1, 1, 1, 1, 1, 1, 1, 0]) .n (env0 Tryz.prog Tryz.f105 κ) (tmk 0 109 [(1, .ptr x1 0), (3, .ptr x3 0)]) H (kj [1, 3] J) = M105_7 o N J' κ x1 x3 H := by
  obtain rfl := fx3 hJ
  kernel_rfl
def M105_8 (o : Orc) (N : Nat) (J : Nat → Nat → Heap → Ans) (κ : Kv) (x1 x3 : Nat) (H : Heap) : Ans :=
  (ldI H .i64 x1 5).bind fun n27 =>
  o 171 [(.ptr x3 0), (.int .i64 n27)] H fun v28 H29 =>
  asT0 v28 (
  J x1 x3 H29)
theorem M105_8_ok {o : Orc} {N : Nat} {κ : Kv} {J : Kt} {J' : Nat → Nat → Heap → Ans} (hJ : ∀ x1 x3 H, J (tmk 0 109 [(1, .ptr x1 0), (3, .ptr x3 0)]) H = J' x1 x3 H) (x1 x3 : Nat) (H : Heap) :
    run Tryz.prog o N (cAt Tryz.f105 [1, 1, 1, 1, 1, 1, 1, 1, 0]) .n (env0 Tryz.prog Tryz.f105 κ) (tmk 0 109 [(1, .ptr x1 0), (3, .ptr x3 0)]) H (kj [1, 3] J) = M105_8 o N J' κ x1 x3 H := by
  obtain rfl := fx3 hJ
  kernel_rfl
def M105_9 (o : Orc) (N : Nat) (J : Nat → Nat → Heap → Ans) (κ : Kv) (x1 x3 : Nat) (H : Heap) : Ans :=
  (ldI H .i64 x1 6).bind fun n30 =>
  o 172 [(.ptr x3 0), (.int .i64 n30)] H fun v31 H32 =>
  asT0 v31 (
  J x1 x3 H32)
theorem M105_9_ok {o : Orc} {N : Nat} {κ : Kv} {J : Kt} {J' : Nat → Nat → Heap → Ans} (hJ : ∀ x1 x3 H, J (tmk 0 109 [(1, .ptr x1 0), (3, .ptr x3 0)]) H = J' x1 x3 H) (x1 x3 : Nat) (H : Heap) :
    run Tryz.prog o N (cAt Tryz.f105 [1, 1, 1, 1, 1, 1, 1, 1, 1, 0]) .n (env0 Tryz.prog Tryz.f105 κ) (tmk 0 109 [(1, .ptr x1 0), (3, .ptr x3 0)]) H (kj [1, 3] J) = M105_9 o N J' κ x1 x3 H := by
  obtain rfl := fx3 hJ
  kernel_rfl
def M105_10 (o : Orc) (N : Nat) (J : Nat → Nat → Heap → Ans) (κ : Kv) (x1 x3 : Nat) (H : Heap) : Ans :=
  (ldI H .u32 x1 7).bind fun n33 =>
  o 172 [(.ptr x3 0), (.int .i64 (IntKind.i64.wrap n33))] H fun v34 H35 =>
  asT0 v34 (
  J x1 x3 H35)
theorem M105_10_ok {o : Orc} {N : Nat} {κ : Kv} {J : Kt} {J' : Nat → Nat → Heap → Ans} (hJ : ∀ x1 x3 H, J (tmk 0 109 [(1, .ptr x1 0), (3, .ptr x3 0)]) H = J' x1 x3 H) (x1 x3 : Nat) (H : Heap) :
    run Tryz.prog o N (cAt Tryz.f105 [1, 1, 1, 1, 1, 1, 1, 1, 1, 1, 0]) .n (env0 Tryz.prog Tryz.f105 κ) (tmk 0 109 [(1, .ptr x1 0), (3, .ptr x3 0)]) H (kj [1, 3] J) = M105_10 o N J' κ x1 x3 H := by
  obtain rfl := fx3 hJ
  kernel_rfl
def M105_11 (o : Orc) (N : Nat) (J : Nat → Nat → Heap → Ans) (κ : Kv) (x1 x3 : Nat) (H : Heap) : Ans :=
  (ldV H x1 8).bind fun v36 =>
  lenS v36 fun n37 =>
  o 171 [(.ptr x3 0), (.int .i64 n37)] H fun v38 H39 =>
  asT0 v38 (
  J x1 x3 H39)
theorem M105_11_ok {o : Orc} {N : Nat} {κ : Kv} {J : Kt} {J' : Nat → Nat → Heap → Ans} (hJ : ∀ x1 x3 H, J (tmk 0 109 [(1, .ptr x1 0), (3, .ptr x3 0)]) H = J' x1 x3 H) (x1 x3 : Nat) (H : Heap) :
    run Tryz.prog o N (cAt Tryz.f105 [1, 1, 1, 1, 1, 1, 1, 1, 1, 1, 1, 0]) .n (env0 Tryz.prog Tryz.f105 κ) (tmk 0 109 [(1, .ptr x1 0), (3, .ptr x3 0)]) H (kj [1, 3] J) = M105_11 o N J' κ x1 x3 H := by
  obtain rfl := fx3 hJ
  kernel_rfl
def M105_12 (o : Orc) (N : Nat) (J : Nat → Nat → V → Int → Int → Heap → Ans) (κ : Kv) (x1 x3 : Nat) (H : Heap) : Ans :=
  (ldV H x1 8).bind fun v40 =>
  lenS v40 fun n41 =>
  J x1 x3 v40 n41 0 H
theorem M105_12_ok {o : Orc} {N : Nat} {κ : Kv} {J : Kt} {J' : Nat → Nat → V → Int → Int → Heap → Ans} (hJ : ∀ x1 x3 x45 x46 x47 H, J (tmk 0 109 [(1, .ptr x1 0), (3, .ptr x3 0), (45, x45), (46, .int .i64 x46), (47, .int .i64 x47)]) H = J' x1 x3 x45 x46 x47 H) (x1 x3 : Nat) (H : Heap) :
    run Tryz.prog o N (cAt Tryz.f105 [1, 1, 1, 1, 1, 1, 1, 1, 1, 1, 1, 1, 0, 0]) .n (env0 Tryz.prog Tryz.f105 κ) (tmk 0 109 [(1, .ptr x1 0), (3, .ptr x3 0)]) H (kj [1, 3, 45, 46, 47] J) = M105_12 o N J' κ x1 x3 H := by
  obtain rfl := fx6 hJ
  kernel_rfl
def M105_13 (o : Orc) (N : Nat) (X0 : Nat → Nat → Heap → Ans) (J : Nat → Nat → V → Int → Int → Heap → Ans) (κ : Kv) (x1 x3 : Nat) (x45 : V) (x46 x47 : Int) (H : Heap) : Ans :=
  cond (decide (x47 < x46)) (
  idxS 1 x45 x47 fun p42 o43 =>
  (ldI H .i64 p42 o43).bind fun n44 =>
  o 171 [(.ptr x3 0), (.int .i64 n44)] H fun v45 H46 =>
  asT0 v45 (
  J x1 x3 x45 x46 (IntKind.i64.wrap (x47 + 1)) H46)) (
  X0 x1 x3 H)
theorem M105_13_ok {o : Orc} {N : Nat} {κ : Kv} {X0 J : Kt} {X0' : Nat → Nat → Heap → Ans} {J' : Nat → Nat → V → Int → Int → Heap → Ans} (h0 : ∀ x1 x3 H, X0 (tmk 0 109 [(1, .ptr x1 0), (3, .ptr x3 0)]) H = X0' x1 x3 H) (hJ : ∀ x1 x3 x45 x46 x47 H, J (tmk 0 109 [(1, .ptr x1 0), (3, .ptr x3 0), (45, x45), (46, .int .i64 x46), (47, .int .i64 x47)]) H = J' x1 x3 x45 x46 x47 H) (x1 x3 : Nat) (x45 : V) (x46 x47 : Int) (H : Heap) :
    run Tryz.prog o N (cAt Tryz.f105 [1, 1, 1, 1, 1, 1, 1, 1, 1, 1, 1, 1, 0, 1, 4, 4]) .n ((env0 Tryz.prog Tryz.f105 κ).block 0 (kj [1, 3] X0)) (tmk 0 109 [(1, .ptr x1 0), (3, .ptr x3 0), (45, x45), (46, .int .i64 x46), (47, .int .i64 x47)]) H (kj [1, 3, 45, 46, 47] J) = M105_13 o N X0' J' κ x1 x3 x45 x46 x47 H := by
  obtain rfl := fx3 h0
  obtain rfl := fx6 hJ
  kernel_rfl
def M105_14 (o : Orc) (N : Nat) (X0 : Nat → Nat → Heap → Ans) (κ : Kv) (n : Nat) : Nat → Nat → V → Int → Int → Heap → Ans :=
  Nat.rec (motive := fun _ => Nat → Nat → V → Int → Int → Heap → Ans) (fun _ _ _ _ _ _ => none) (fun _ ih x1 x3 x45 x46 x47 H => M105_13 o N X0 ih κ x1 x3 x45 x46 x47 H) n
theorem M105_14_s (o : Orc) (N : Nat) (X0 : Nat → Nat → Heap → Ans) (κ : Kv) (n : Nat) (x1 x3 : Nat) (x45 : V) (x46 x47 : Int) (H : Heap) : M105_14 o N X0 κ (n + 1) x1 x3 x45 x46 x47 H = M105_13 o N X0 (M105_14 o N X0 κ n) κ x1 x3 x45 x46 x47 H := rfl
theorem M105_14_ok {o : Orc} {N : Nat} {κ : Kv} {X0 : Kt} {X0' : Nat → Nat → Heap → Ans} (h0 : ∀ x1 x3 H, X0 (tmk 0 109 [(1, .ptr x1 0), (3, .ptr x3 0)]) H = X0' x1 x3 H) (n : Nat) : ∀ (x1 x3 : Nat) (x45 : V) (x46 x47 : Int) (H : Heap),
    rounds (fun a H k => run Tryz.prog o N (cAt Tryz.f105 [1, 1, 1, 1, 1, 1, 1, 1, 1, 1, 1, 1, 0, 1, 4, 4]) .n ((env0 Tryz.prog Tryz.f105 κ).block 0 (kj [1, 3] X0)) a H k) (some (lvOf [1, 3, 45, 46, 47])) n (tmk 0 109 [(1, .ptr x1 0), (3, .ptr x3 0), (45, x45), (46, .int .i64 x46), (47, .int .i64 x47)]) H = M105_14 o N X0' κ n x1 x3 x45 x46 x47 H := by
  induction n with
  | zero => intros; rfl
  | succ n ih =>
    intro x1 x3 x45 x46 x47 H
    refine (run_round.trans ?_).trans (M105_14_s ..).symm
    exact M105_13_ok h0 ih x1 x3 x45 x46 x47 H
def A105_15 : An := .b none (.l (some (lvOf [1, 3, 45, 46, 47])) .n)
def A105_16 : An := .s .n (some (lvOf [1, 3, 45, 46, 47])) A105_15
def M105_17 (o : Orc) (N : Nat) (J : Nat → Nat → Heap → Ans) (κ : Kv) (x1 x3 : Nat) (H : Heap) : Ans :=
  (ldV H x1 9).bind fun v47 =>
  lenS v47 fun n48 =>
  o 171 [(.ptr x3 0), (.int .i64 n48)] H fun v49 H50 =>
  asT0 v49 (
  J x1 x3 H50)
theorem M105_17_ok {o : Orc} {N : Nat} {κ : Kv} {J : Kt} {J' : Nat → Nat → Heap → Ans} (hJ : ∀ x1 x3 H, J (tmk 0 109 [(1, .ptr x1 0), (3, .ptr x3 0)]) H = J' x1 x3 H) (x1 x3 : Nat) (H : Heap) :
    run Tryz.prog o N (cAt Tryz.f105 [1, 1, 1, 1, 1, 1, 1, 1, 1, 1, 1, 1, 1, 0]) .n (env0 Tryz.prog Tryz.f105 κ) (tmk 0 109 [(1, .ptr x1 0), (3, .ptr x3 0)]) H (kj [1, 3] J) = M105_17 o N J' κ x1 x3 H := by
  obtain rfl := fx3 hJ
  kernel_rfl
def M105_18 (o : Orc) (N : Nat) (J : Nat → Nat → V → Int → Int → Heap → Ans) (κ : Kv) (x1 x3 : Nat) (H : Heap) : Ans :=
  (ldV H x1 9).bind fun v51 =>
  lenS v51 fun n52 =>
  J x1 x3 v51 n52 0 H
theorem M105_18_ok {o : Orc} {N : Nat} {κ : Kv} {J : Kt} {J' : Nat → Nat → V → Int → Int → Heap → Ans} (hJ : ∀ x1 x3 x59 x60 x61 H, J (tmk 0 109 [(1, .ptr x1 0), (3, .ptr x3 0), (59, x59), (60, .int .i64 x60), (61, .int .i64 x61)]) H = J' x1 x3 x59 x60 x61 H) (x1 x3 : Nat) (H : Heap) :
    run Tryz.prog o N (cAt Tryz.f105 [1, 1, 1, 1, 1, 1, 1, 1, 1, 1, 1, 1, 1, 1, 0, 0]) .n (env0 Tryz.prog Tryz.f105 κ) (tmk 0 109 [(1, .ptr x1 0), (3, .ptr x3 0)]) H (kj [1, 3, 59, 60, 61] J) = M105_18 o N J' κ x1 x3 H := by
  obtain rfl := fx6 hJ
  kernel_rfl
def M105_19 (o : Orc) (N : Nat) (X2 : Nat → Nat → Heap → Ans) (J : Nat → Nat → V → Int → Int → Heap → Ans) (κ : Kv) (x1 x3 : Nat) (x59 : V) (x60 x61 : Int) (H : Heap) : Ans :=
  cond (decide (x61 < x60)) (
  idxS 3 x59 x61 fun p53 o54 =>
  ldFlat H p53 [.int .u32, .int .i64, .bool] o54 fun l55 =>
  newB H (.row [(.int .u32 0), (.int .i64 0), (.bool false)]) fun i56 H57 =>
  cond (Nat.beq (List.length l55) 3 && Nat.blt 0 3) (
  (stN H57 i56 0 l55).bind fun H58 =>
  (ldI H58 .u32 i56 0).bind fun n59 =>
  o 172 [(.ptr x3 0), (.int .i64 (IntKind.i64.wrap n59))] H58 fun v60 H61 =>
  asT0 v60 (
  (ldI H61 .i64 i56 1).bind fun n62 =>
  o 171 [(.ptr x3 0), (.int .i64 n62)] H61 fun v63 H64 =>
  asT0 v63 (
  (ldB H64 i56 2).bind fun b65 =>
  cond b65 (
  o 171 [(.ptr x3 0), (.int .i64 1)] H64 fun v66 H67 =>
  asT0 v66 (
  J x1 x3 x59 x60 (IntKind.i64.wrap (x61 + 1)) H67)) (
  o 171 [(.ptr x3 0), (.int .i64 0)] H64 fun v68 H69 =>
  asT0 v68 (
  J x1 x3 x59 x60 (IntKind.i64.wrap (x61 + 1)) H69))))) none) (
  X2 x1 x3 H)
theorem M105_19_ok {o : Orc} {N : Nat} {κ : Kv} {X2 J : Kt} {X2' : Nat → Nat → Heap → Ans} {J' : Nat → Nat → V → Int → Int → Heap → Ans} (h2 : ∀ x1 x3 H, X2 (tmk 0 109 [(1, .ptr x1 0), (3, .ptr x3 0)]) H = X2' x1 x3 H) (hJ : ∀ x1 x3 x59 x60 x61 H, J (tmk 0 109 [(1, .ptr x1 0), (3, .ptr x3 0), (59, x59), (60, .int .i64 x60), (61, .int .i64 x61)]) H = J' x1 x3 x59 x60 x61 H) (x1 x3 : Nat) (x59 : V) (x60 x61 : Int) (H : Heap) :
    run Tryz.prog o N (cAt Tryz.f105 [1, 1, 1, 1, 1, 1, 1, 1, 1, 1, 1, 1, 1, 1, 0, 1, 4, 4]) .n ((env0 Tryz.prog Tryz.f105 κ).block 2 (kj [1, 3] X2)) (tmk 0 109 [(1, .ptr x1 0), (3, .ptr x3 0), (59, x59), (60, .int .i64 x60), (61, .int .i64 x61)]) H (kj [1, 3, 59, 60, 61] J) = M105_19 o N X2' J' κ x1 x3 x59 x60 x61 H := by
  obtain rfl := fx3 h2
  obtain rfl := fx6 hJ
  kernel_rfl
def M105_20 (o : Orc) (N : Nat) (X2 : Nat → Nat → Heap → Ans) (κ : Kv) (n : Nat) : Nat → Nat → V → Int → Int → Heap → Ans :=
  Nat.rec (motive := fun _ => Nat → Nat → V → Int → Int → Heap → Ans) (fun _ _ _ _ _ _ => none) (fun _ ih x1 x3 x59 x60 x61 H => M105_19 o N X2 ih κ x1 x3 x59 x60 x61 H) n
theorem M105_20_s (o : Orc) (N : Nat) (X2 : Nat → Nat → Heap → Ans) (κ : Kv) (n : Nat) (x1 x3 : Nat) (x59 : V) (x60 x61 : Int) (H : Heap) : M105_20 o N X2 κ (n + 1) x1 x3 x59 x60 x61 H = M105_19 o N X2 (M105_20 o N X2 κ n) κ x1 x3 x59 x60 x61 H := rfl
theorem M105_20_ok {o : Orc} {N : Nat} {κ : Kv} {X2 : Kt} {X2' : Nat → Nat → Heap → Ans} (h2 : ∀ x1 x3 H, X2 (tmk 0 109 [(1, .ptr x1 0), (3, .ptr x3 0)]) H = X2' x1 x3 H) (n : Nat) : ∀ (x1 x3 : Nat) (x59 : V) (x60 x61 : Int) (H : Heap),
    rounds (fun a H k => run Tryz.prog o N (cAt Tryz.f105 [1, 1, 1, 1, 1, 1, 1, 1, 1, 1, 1, 1, 1, 1, 0, 1, 4, 4]) .n ((env0 Tryz.prog Tryz.f105 κ).block 2 (kj [1, 3] X2)) a H k) (some (lvOf [1, 3, 59, 60, 61])) n (tmk 0 109 [(1, .ptr x1 0), (3, .ptr x3 0), (59, x59), (60, .int .i64 x60), (61, .int .i64 x61)]) H = M105_20 o N X2' κ n x1 x3 x59 x60 x61 H := by
  induction n with
  | zero => intros; rfl
  | succ n ih =>
    intro x1 x3 x59 x60 x61 H
    refine (run_round.trans ?_).trans (M105_20_s ..).symm
    exact M105_19_ok h2 ih x1 x3 x59 x60 x61 H
def A105_21 : An := .b none (.l (some (lvOf [1, 3, 59, 60, 61])) .n)
def A105_22 : An := .s .n (some (lvOf [1, 3, 59, 60, 61])) A105_21
def M105_23 (o : Orc) (N : Nat) (J : Nat → Nat → Heap → Ans) (κ : Kv) (x1 x3 : Nat) (H : Heap) : Ans :=
  (ldV H x1 10).bind fun v70 =>
  lenS v70 fun n71 =>
  o 171 [(.ptr x3 0), (.int .i64 n71)] H fun v72 H73 =>
  asT0 v72 (
  J x1 x3 H73)
theorem M105_23_ok {o : Orc} {N : Nat} {κ : Kv} {J : Kt} {J' : Nat → Nat → Heap → Ans} (hJ : ∀ x1 x3 H, J (tmk 0 109 [(1, .ptr x1 0), (3, .ptr x3 0)]) H = J' x1 x3 H) (x1 x3 : Nat) (H : Heap) :
    run Tryz.prog o N (cAt Tryz.f105 [1, 1, 1, 1, 1, 1, 1, 1, 1, 1, 1, 1, 1, 1, 1, 0]) .n (env0 Tryz.prog Tryz.f105 κ) (tmk 0 109 [(1, .ptr x1 0), (3, .ptr x3 0)]) H (kj [1, 3] J) = M105_23 o N J' κ x1 x3 H := by
  obtain rfl := fx3 hJ
  kernel_rfl
def M105_24 (o : Orc) (N : Nat) (J : Nat → V → Int → Int → Heap → Ans) (κ : Kv) (x1 x3 : Nat) (H : Heap) : Ans :=
  (ldV H x1 10).bind fun v74 =>
  lenS v74 fun n75 =>
  J x3 v74 n75 0 H
theorem M105_24_ok {o : Orc} {N : Nat} {κ : Kv} {J : Kt} {J' : Nat → V → Int → Int → Heap → Ans} (hJ : ∀ x3 x82 x83 x84 H, J (tmk 0 109 [(3, .ptr x3 0), (82, x82), (83, .int .i64 x83), (84, .int .i64 x84)]) H = J' x3 x82 x83 x84 H) (x1 x3 : Nat) (H : Heap) :
    run Tryz.prog o N (cAt Tryz.f105 [1, 1, 1, 1, 1, 1, 1, 1, 1, 1, 1, 1, 1, 1, 1, 1, 0, 0]) .n (env0 Tryz.prog Tryz.f105 κ) (tmk 0 109 [(1, .ptr x1 0), (3, .ptr x3 0)]) H (kj [3, 82, 83, 84] J) = M105_24 o N J' κ x1 x3 H := by
  obtain rfl := fx5 hJ
  kernel_rfl
def M105_25 (o : Orc) (N : Nat) (X4 : Nat → Heap → Ans) (J : Nat → V → Int → Int → Heap → Ans) (κ : Kv) (x3 : Nat) (x82 : V) (x83 x84 : Int) (H : Heap) : Ans :=
  cond (decide (x84 < x83)) (
  idxS 6 x82 x84 fun p76 o77 =>
  ldFlat H p76 [.int .i64, .int .i64, .int .i64, .int .i64, .int .i64, .int .i64] o77 fun l78 =>
  newB H (.row [(.int .i64 0), (.int .i64 0), (.int .i64 0), (.int .i64 0), (.int .i64 0), (.int .i64 0)]) fun i79 H80 =>
  cond (Nat.beq (List.length l78) 6 && Nat.blt 0 6) (
  (stN H80 i79 0 l78).bind fun H81 =>
  (ldI H81 .i64 i79 0).bind fun n82 =>
  o 171 [(.ptr x3 0), (.int .i64 n82)] H81 fun v83 H84 =>
  asT0 v83 (
  (ldI H84 .i64 i79 1).bind fun n85 =>
  o 172 [(.ptr x3 0), (.int .i64 n85)] H84 fun v86 H87 =>
  asT0 v86 (
  (ldI H87 .i64 i79 2).bind fun n88 =>
  o 172 [(.ptr x3 0), (.int .i64 n88)] H87 fun v89 H90 =>
  asT0 v89 (
  (ldI H90 .i64 i79 3).bind fun n91 =>
  o 171 [(.ptr x3 0), (.int .i64 n91)] H90 fun v92 H93 =>
  asT0 v92 (
  (ldI H93 .i64 i79 4).bind fun n94 =>
  o 171 [(.ptr x3 0), (.int .i64 n94)] H93 fun v95 H96 =>
  asT0 v95 (
  (ldI H96 .i64 i79 5).bind fun n97 =>
  o 171 [(.ptr x3 0), (.int .i64 n97)] H96 fun v98 H99 =>
  asT0 v98 (
  J x3 x82 x83 (IntKind.i64.wrap (x84 + 1)) H99))))))) none) (
  X4 x3 H)
theorem M105_25_ok {o : Orc} {N : Nat} {κ : Kv} {X4 J : Kt} {X4' : Nat → Heap → Ans} {J' : Nat → V → Int → Int → Heap → Ans} (h4 : ∀ x3 H, X4 (tmk 0 109 [(3, .ptr x3 0)]) H = X4' x3 H) (hJ : ∀ x3 x82 x83 x84 H, J (tmk 0 109 [(3, .ptr x3 0), (82, x82), (83, .int .i64 x83), (84, .int .i64 x84)]) H = J' x3 x82 x83 x84 H) (x3 : Nat) (x82 : V) (x83 x84 : Int) (H : Heap) :
    run Tryz.prog o N (cAt Tryz.f105 [1, 1, 1, 1, 1, 1, 1, 1, 1, 1, 1, 1, 1, 1, 1, 1, 0, 1, 4, 4]) .n ((env0 Tryz.prog Tryz.f105 κ).block 4 (kj [3] X4)) (tmk 0 109 [(3, .ptr x3 0), (82, x82), (83, .int .i64 x83), (84, .int .i64 x84)]) H (kj [3, 82, 83, 84] J) = M105_25 o N X4' J' κ x3 x82 x83 x84 H := by
  obtain rfl := fx2 h4
  obtain rfl := fx5 hJ
  kernel_rfl
def M105_26 (o : Orc) (N : Nat) (X4 : Nat → Heap → Ans) (κ : Kv) (n : Nat) : Nat → V → Int → Int → Heap → Ans :=
  Nat.rec (motive := fun _ => Nat → V → Int → Int → Heap → Ans) (fun _ _ _ _ _ => none) (fun _ ih x3 x82 x83 x84 H => M105_25 o N X4 ih κ x3 x82 x83 x84 H) n
theorem M105_26_s (o : Orc) (N : Nat) (X4 : Nat → Heap → Ans) (κ : Kv) (n : Nat) (x3 : Nat) (x82 : V) (x83 x84 : Int) (H : Heap) : M105_26 o N X4 κ (n + 1) x3 x82 x83 x84 H = M105_25 o N X4 (M105_26 o N X4 κ n) κ x3 x82 x83 x84 H := rfl
theorem M105_26_ok {o : Orc} {N : Nat} {κ : Kv} {X4 : Kt} {X4' : Nat → Heap → Ans} (h4 : ∀ x3 H, X4 (tmk 0 109 [(3, .ptr x3 0)]) H = X4' x3 H) (n : Nat) : ∀ (x3 : Nat) (x82 : V) (x83 x84 : Int) (H : Heap),
    rounds (fun a H k => run Tryz.prog o N (cAt Tryz.f105 [1, 1, 1, 1, 1, 1, 1, 1, 1, 1, 1, 1, 1, 1, 1, 1, 0, 1, 4, 4]) .n ((env0 Tryz.prog Tryz.f105 κ).block 4 (kj [3] X4)) a H k) (some (lvOf [3, 82, 83, 84])) n (tmk 0 109 [(3, .ptr x3 0), (82, x82), (83, .int .i64 x83), (84, .int .i64 x84)]) H = M105_26 o N X4' κ n x3 x82 x83 x84 H := by
  induction n with
  | zero => intros; rfl
  | succ n ih =>
    intro x3 x82 x83 x84 H
    refine (run_round.trans ?_).trans (M105_26_s ..).symm
    exact M105_25_ok h4 ih x3 x82 x83 x84 H
def A105_27 : An := .b none (.l (some (lvOf [3, 82, 83, 84])) .n)
def A105_28 : An := .s .n (some (lvOf [3, 82, 83, 84])) A105_27
def M105_29 (o : Orc) (N : Nat) (κ : Kv) (x3 : Nat) (H : Heap) : Ans :=
  (ldV H x3 0).bind fun v100 =>
  bytesV H v100 fun s101 =>
  κ (.str s101) H
theorem M105_29_ok {o : Orc} {N : Nat} {κ : Kv} (x3 : Nat) (H : Heap) :
    run Tryz.prog o N (cAt Tryz.f105 [1, 1, 1, 1, 1, 1, 1, 1, 1, 1, 1, 1, 1, 1, 1, 1, 1]) .n (env0 Tryz.prog Tryz.f105 κ) (tmk 0 109 [(3, .ptr x3 0)]) H (env0 Tryz.prog Tryz.f105 κ).ret = M105_29 o N κ x3 H := by
  kernel_rfl
def A105_30 : An := .s .n (some (lvOf [1, 3])) (.s A105_28 (some (lvOf [3])) .n)
def A105_31 : An := .s .n (some (lvOf [1, 3])) (.s A105_22 (some (lvOf [1, 3])) A105_30)
def M105_32 (o : Orc) (N : Nat) (κ : Kv) (x1 x3 : Nat) (H : Heap) : Ans :=
  M105_12 o N (fun x1 x3 x45 x46 x47 H => M105_14 o N (fun x1 x3 H => M105_17 o N (fun x1 x3 H => M105_18 o N (fun x1 x3 x59 x60 x61 H => M105_20 o N (fun x1 x3 H => M105_23 o N (fun x1 x3 H => M105_24 o N (fun x3 x82 x83 x84 H => M105_26 o N (fun x3 H => M105_29 o N κ x3 H) κ N x3 x82 x83 x84 H) κ x1 x3 H) κ x1 x3 H) κ N x1 x3 x59 x60 x61 H) κ x1 x3 H) κ x1 x3 H) κ N x1 x3 x45 x46 x47 H) κ x1 x3 H
theorem M105_32_ok {o : Orc} {N : Nat} {κ : Kv} (x1 x3 : Nat) (H : Heap) :
    run Tryz.prog o N (cAt Tryz.f105 [1, 1, 1, 1, 1, 1, 1, 1, 1, 1, 1, 1]) (.s A105_16 (some (lvOf [1, 3])) A105_31) (env0 Tryz.prog Tryz.f105 κ) (tmk 0 109 [(1, .ptr x1 0), (3, .ptr x3 0)]) H (env0 Tryz.prog Tryz.f105 κ).ret = M105_32 o N κ x1 x3 H := by
  refine (run_seq (x := (cAt Tryz.f105 [1, 1, 1, 1, 1, 1, 1, 1, 1, 1, 1, 1, 0])) (ax := A105_16) (y := (cAt Tryz.f105 [1, 1, 1, 1, 1, 1, 1, 1, 1, 1, 1, 1, 1])) (ay := A105_31) (l := [1, 3]) (by kernel_rfl) (by kernel_rfl)).trans ?_
  refine (run_seq (x := (cAt Tryz.f105 [1, 1, 1, 1, 1, 1, 1, 1, 1, 1, 1, 1, 0, 0])) (ax := .n) (y := (cAt Tryz.f105 [1, 1, 1, 1, 1, 1, 1, 1, 1, 1, 1, 1, 0, 1])) (ay := A105_15) (l := [1, 3, 45, 46, 47]) (by kernel_rfl) (by kernel_rfl)).trans ?_
  refine M105_12_ok ?_ x1 x3 H
  intro x1 x3 x45 x46 x47 H
  refine (run_block (id := 0) (x := (cAt Tryz.f105 [1, 1, 1, 1, 1, 1, 1, 1, 1, 1, 1, 1, 0, 1, 4])) (ax := (.l (some (lvOf [1, 3, 45, 46, 47])) .n)) (by kernel_rfl) (by kernel_rfl)).trans ?_
  refine (run_loop (x := (cAt Tryz.f105 [1, 1, 1, 1, 1, 1, 1, 1, 1, 1, 1, 1, 0, 1, 4, 4])) (ax := .n) (l := [1, 3, 45, 46, 47]) (by kernel_rfl) (by kernel_rfl) (by kernel_rfl)).trans ?_
  refine M105_14_ok ?_ N x1 x3 x45 x46 x47 H
  intro x1 x3 H
  refine (run_seq (x := (cAt Tryz.f105 [1, 1, 1, 1, 1, 1, 1, 1, 1, 1, 1, 1, 1, 0])) (ax := .n) (y := (cAt Tryz.f105 [1, 1, 1, 1, 1, 1, 1, 1, 1, 1, 1, 1, 1, 1])) (ay := (.s A105_22 (some (lvOf [1, 3])) A105_30)) (l := [1, 3]) (by kernel_rfl) (by kernel_rfl)).trans ?_
  refine M105_17_ok ?_ x1 x3 H
  intro x1 x3 H
  refine (run_seq (x := (cAt Tryz.f105 [1, 1, 1, 1, 1, 1, 1, 1, 1, 1, 1, 1, 1, 1, 0])) (ax := A105_22) (y := (cAt Tryz.f105 [1, 1, 1, 1, 1, 1, 1, 1, 1, 1, 1, 1, 1, 1, 1])) (ay := A105_30) (l := [1, 3]) (by kernel_rfl) (by kernel_rfl)).trans ?_
  refine (run_seq (x := (cAt Tryz.f105 [1, 1, 1, 1, 1, 1, 1, 1, 1, 1, 1, 1, 1, 1, 0, 0])) (ax := .n) (y := (cAt Tryz.f105 [1, 1, 1, 1, 1, 1, 1, 1, 1, 1, 1, 1, 1, 1, 0, 1])) (ay := A105_21) (l := [1, 3, 59, 60, 61]) (by kernel_rfl) (by kernel_rfl)).trans ?_
  refine M105_18_ok ?_ x1 x3 H
  intro x1 x3 x59 x60 x61 H
  refine (run_block (id := 2) (x := (cAt Tryz.f105 [1, 1, 1, 1, 1, 1, 1, 1, 1, 1, 1, 1, 1, 1, 0, 1, 4])) (ax := (.l (some (lvOf [1, 3, 59, 60, 61])) .n)) (by kernel_rfl) (by kernel_rfl)).trans ?_
  refine (run_loop (x := (cAt Tryz.f105 [1, 1, 1, 1, 1, 1, 1, 1, 1, 1, 1, 1, 1, 1, 0, 1, 4, 4])) (ax := .n) (l := [1, 3, 59, 60, 61]) (by kernel_rfl) (by kernel_rfl) (by kernel_rfl)).trans ?_
  refine M105_20_ok ?_ N x1 x3 x59 x60 x61 H
  intro x1 x3 H
  refine (run_seq (x := (cAt Tryz.f105 [1, 1, 1, 1, 1, 1, 1, 1, 1, 1, 1, 1, 1, 1, 1, 0])) (ax := .n) (y := (cAt Tryz.f105 [1, 1, 1, 1, 1, 1, 1, 1, 1, 1, 1, 1, 1, 1, 1, 1])) (ay := (.s A105_28 (some (lvOf [3])) .n)) (l := [1, 3]) (by kernel_rfl) (by kernel_rfl)).trans ?_
  refine M105_23_ok ?_ x1 x3 H
  intro x1 x3 H
  refine (run_seq (x := (cAt Tryz.f105 [1, 1, 1, 1, 1, 1, 1, 1, 1, 1, 1, 1, 1, 1, 1, 1, 0])) (ax := A105_28) (y := (cAt Tryz.f105 [1, 1, 1, 1, 1, 1, 1, 1, 1, 1, 1, 1, 1, 1, 1, 1, 1])) (ay := .n) (l := [3]) (by kernel_rfl) (by kernel_rfl)).trans ?_
  refine (run_seq (x := (cAt Tryz.f105 [1, 1, 1, 1, 1, 1, 1, 1, 1, 1, 1, 1, 1, 1, 1, 1, 0, 0])) (ax := .n) (y := (cAt Tryz.f105 [1, 1, 1, 1, 1, 1, 1, 1, 1, 1, 1, 1, 1, 1, 1, 1, 0, 1])) (ay := A105_27) (l := [3, 82, 83, 84]) (by kernel_rfl) (by kernel_rfl)).trans ?_
  refine M105_24_ok ?_ x1 x3 H
  intro x3 x82 x83 x84 H
  refine (run_block (id := 4) (x := (cAt Tryz.f105 [1, 1, 1, 1, 1, 1, 1, 1, 1, 1, 1, 1, 1, 1, 1, 1, 0, 1, 4])) (ax := (.l (some (lvOf [3, 82, 83, 84])) .n)) (by kernel_rfl) (by kernel_rfl)).trans ?_
  refine (run_loop (x := (cAt Tryz.f105 [1, 1, 1, 1, 1, 1, 1, 1, 1, 1, 1, 1, 1, 1, 1, 1, 0, 1, 4, 4])) (ax := .n) (l := [3, 82, 83, 84]) (by kernel_rfl) (by kernel_rfl) (by kernel_rfl)).trans ?_
  refine M105_26_ok ?_ N x3 x82 x83 x84 H
  intro x3 H
  exact M105_29_ok x3 H
def A105_33 : An := .s .n (some (lvOf [1, 3])) (.s A105_16 (some (lvOf [1, 3])) A105_31)
def A105_34 : An := .s .n (some (lvOf [1, 3])) (.s .n (some (lvOf [1, 3])) A105_33)
def A105_35 : An := .s .n (some (lvOf [1, 3])) (.s .n (some (lvOf [1, 3])) A105_34)
def A105_36 : An := .s .n (some (lvOf [1, 3])) (.s .n (some (lvOf [1, 3])) A105_35)
def A105_37 : An := .s .n (some (lvOf [1, 3])) (.s .n (some (lvOf [1, 3])) A105_36)
def M105_38 (o : Orc) (N : Nat) (κ : Kv) (x1 : Nat) (H : Heap) : Ans :=
  M105_2 o N (fun x1 x3 H => M105_3 o N (fun x1 x3 H => M105_4 o N (fun x1 x3 H => M105_5 o N (fun x1 x3 H => M105_6 o N (fun x1 x3 H => M105_7 o N (fun x1 x3 H => M105_8 o N (fun x1 x3 H => M105_9 o N (fun x1 x3 H => M105_10 o N (fun x1 x3 H => M105_11 o N (fun x1 x3 H => M105_32 o N κ x1 x3 H) κ x1 x3 H) κ x1 x3 H) κ x1 x3 H) κ x1 x3 H) κ x1 x3 H) κ x1 x3 H) κ x1 x3 H) κ x1 x3 H) κ x1 x3 H) κ x1 H
theorem M105_38_ok {o : Orc} {N : Nat} {κ : Kv} (x1 : Nat) (H : Heap) :
    run Tryz.prog o N (cAt Tryz.f105 [1, 1]) (.s .n (some (lvOf [1, 3])) A105_37) (env0 Tryz.prog Tryz.f105 κ) (tmk 0 109 [(1, .ptr x1 0)]) H (env0 Tryz.prog Tryz.f105 κ).ret = M105_38 o N κ x1 H := by
  refine (run_seq (x := (cAt Tryz.f105 [1, 1, 0])) (ax := .n) (y := (cAt Tryz.f105 [1, 1, 1])) (ay := A105_37) (l := [1, 3]) (by kernel_rfl) (by kernel_rfl)).trans ?_
  refine M105_2_ok ?_ x1 H
  intro x1 x3 H
  refine (run_seq (x := (cAt Tryz.f105 [1, 1, 1, 0])) (ax := .n) (y := (cAt Tryz.f105 [1, 1, 1, 1])) (ay := (.s .n (some (lvOf [1, 3])) A105_36)) (l := [1, 3]) (by kernel_rfl) (by kernel_rfl)).trans ?_
  refine M105_3_ok ?_ x1 x3 H
  intro x1 x3 H
  refine (run_seq (x := (cAt Tryz.f105 [1, 1, 1, 1, 0])) (ax := .n) (y := (cAt Tryz.f105 [1, 1, 1, 1, 1])) (ay := A105_36) (l := [1, 3]) (by kernel_rfl) (by kernel_rfl)).trans ?_
  refine M105_4_ok ?_ x1 x3 H
  intro x1 x3 H
  refine (run_seq (x := (cAt Tryz.f105 [1, 1, 1, 1, 1, 0])) (ax := .n) (y := (cAt Tryz.f105 [1, 1, 1, 1, 1, 1])) (ay := (.s .n (some (lvOf [1, 3])) A105_35)) (l := [1, 3]) (by kernel_rfl) (by kernel_rfl)).trans ?_
  refine M105_5_ok ?_ x1 x3 H
  intro x1 x3 H
  refine (run_seq (x := (cAt Tryz.f105 [1, 1, 1, 1, 1, 1, 0])) (ax := .n) (y := (cAt Tryz.f105 [1, 1, 1, 1, 1, 1, 1])) (ay := A105_35) (l := [1, 3]) (by kernel_rfl) (by kernel_rfl)).trans ?_
  refine M105_6_ok ?_ x1 x3 H
  intro x1 x3 H
  refine (run_seq (x := (cAt Tryz.f105 [1, 1, 1, 1, 1, 1, 1, 0])) (ax := .n) (y := (cAt Tryz.f105 [1, 1, 1, 1, 1, 1, 1, 1])) (ay := (.s .n (some (lvOf [1, 3])) A105_34)) (l := [1, 3]) (by kernel_rfl) (by kernel_rfl)).trans ?_
  refine M105_7_ok ?_ x1 x3 H
  intro x1 x3 H
  refine (run_seq (x := (cAt Tryz.f105 [1, 1, 1, 1, 1, 1, 1, 1, 0])) (ax := .n) (y := (cAt Tryz.f105 [1, 1, 1, 1, 1, 1, 1, 1, 1])) (ay := A105_34) (l := [1, 3]) (by kernel_rfl) (by kernel_rfl)).trans ?_
  refine M105_8_ok ?_ x1 x3 H
  intro x1 x3 H
  refine (run_seq (x := (cAt Tryz.f105 [1, 1, 1, 1, 1, 1, 1, 1, 1, 0])) (ax := .n) (y := (cAt Tryz.f105 [1, 1, 1, 1, 1, 1, 1, 1, 1, 1])) (ay := (.s .n (some (lvOf [1, 3])) A105_33)) (l := [1, 3]) (by kernel_rfl) (by kernel_rfl)).trans ?_
  refine M105_9_ok ?_ x1 x3 H
  intro x1 x3 H
  refine (run_seq (x := (cAt Tryz.f105 [1, 1, 1, 1, 1, 1, 1, 1, 1, 1, 0])) (ax := .n) (y := (cAt Tryz.f105 [1, 1, 1, 1, 1, 1, 1, 1, 1, 1, 1])) (ay := A105_33) (l := [1, 3]) (by kernel_rfl) (by kernel_rfl)).trans ?_
  refine M105_10_ok ?_ x1 x3 H
  intro x1 x3 H
  refine (run_seq (x := (cAt Tryz.f105 [1, 1, 1, 1, 1, 1, 1, 1, 1, 1, 1, 0])) (ax := .n) (y := (cAt Tryz.f105 [1, 1, 1, 1, 1, 1, 1, 1, 1, 1, 1, 1])) (ay := (.s A105_16 (some (lvOf [1, 3])) A105_31)) (l := [1, 3]) (by kernel_rfl) (by kernel_rfl)).trans ?_
  refine M105_11_ok ?_ x1 x3 H
  intro x1 x3 H
  exact M105_32_ok x1 x3 H
def A105_39 : An := .s .n (some (lvOf [1])) (.s .n (some (lvOf [1, 3])) A105_37)
def M105 (o : Orc) (N : Nat) : FnM := fun vs H κ => match vs with
  | [.agg x0] => M105_0 o N (fun x1 H => M105_1 o N (fun x1 H => M105_38 o N κ x1 H) κ x1 H) κ x0 H
  | _ => none
theorem M105_run (o : Orc) (N : Nat) (vs : List V) (H : Heap) (κ : Kv) (r) (h : M105 o N vs H κ = some r) : runFn Tryz.prog o N Tryz.f105 (.s .n (some (lvOf [1])) A105_39) vs H κ = some r := by
  unfold M105 at h
  split at h
  · rename_i x0
    refine (runFn_at (t := tmk 0 109 [(0, .agg x0)]) (by kernel_rfl) (by kernel_rfl)).trans (Eq.trans ?_ h)
    refine (run_seq (x := (cAt Tryz.f105 [0])) (ax := .n) (y := (cAt Tryz.f105 [1])) (ay := A105_39) (l := [1]) (by kernel_rfl) (by kernel_rfl)).trans ?_
    refine M105_0_ok ?_ x0 H
    intro x1 H
    refine (run_seq (x := (cAt Tryz.f105 [1, 0])) (ax := .n) (y := (cAt Tryz.f105 [1, 1])) (ay := (.s .n (some (lvOf [1, 3])) A105_37)) (l := [1]) (by kernel_rfl) (by kernel_rfl)).trans ?_
    refine M105_1_ok ?_ x1 H
    intro x1 H
    exact M105_38_ok x1 H
  · cases h
theorem M105_sound {o : Orc} (ho : ∀ f, FSound Tryz.prog f (o f)) (N : Nat) : FSound Tryz.prog 105 (M105 o N) :=
  FSound.sub (runFn_ok (an := (.s .n (some (lvOf [1])) A105_39)) (fuel := N) hmix ho (by kernel_rfl) (by kernel_rfl)) (M105_run o N)
/-! 106 ostinato/matrix.Is -/
def M106_0 (o : Orc) (N : Nat) (κ : Kv) (x0 : List V) (H : Heap) : Ans :=
  cond (List.all x0 V.one) (
  newB H (.row x0) fun i1 H2 =>
  ldFlat H2 i1 [.int .i64, .int .i64, .int .i64, .int .i64, .int .i64, .int .i64, .int .i64, .int .u32, .oth, .oth, .oth] 0 fun l3 =>
  o 173 [(.agg l3)] H2 fun v4 H5 =>
  asB v4 fun b6 =>
  cond (!b6) (
  κ (.bool false) H5) (
  (ldV H5 i1 8).bind fun v7 =>
  lenS v7 fun n8 =>
  o 174 [(.int .i64 n8), (.int .i64 1), (.int .i64 4)] H5 fun v9 H10 =>
  asB v9 fun b11 =>
  cond (!b11) (
  κ (.bool false) H10) (
  (ldV H10 i1 9).bind fun v12 =>
  lenS v12 fun n13 =>
  cond (decide (n13 > 12)) (
  κ (.bool false) H10) (
  (ldV H10 i1 10).bind fun v14 =>
  lenS v14 fun n15 =>
  cond (decide (n15 > 16)) (
  κ (.bool false) H10) (
  newB H10 (.row [.nilf]) fun i16 H17 =>
  (stN H17 i16 0 [(.fn 175 [])]).bind fun H18 =>
  (ldV H18 i1 8).bind fun v19 =>
  (ldV H18 i16 0).bind fun v20 =>
  o 179 [v19, v20] H18 fun v21 H22 =>
  asB v21 fun b23 =>
  cond (!b23) (
  (ldV H22 i1 9).bind fun v24 =>
  o 180 [v24, (.fn 176 [(.ptr i16 0)])] H22 fun v25 H26 =>
  asB v25 fun b27 =>
  cond (!b27) (
  (ldV H26 i1 10).bind fun v28 =>
  o 181 [v28, (.fn 177 [(.ptr i1 0)])] H26 fun v29 H30 =>
  asB v29 fun b31 =>
  κ (.bool (!b31)) H30) (
  κ (.bool false) H26)) (
  κ (.bool false) H22)))))) none
theorem M106_0_ok {o : Orc} {N : Nat} {κ : Kv} (x0 : List V) (H : Heap) :
    run Tryz.prog o N (cAt Tryz.f106 []) .n (env0 Tryz.prog Tryz.f106 κ) (tmk 0 49 [(0, .agg x0)]) H (env0 Tryz.prog Tryz.f106 κ).ret = M106_0 o N κ x0 H := by
  kernel_rfl
def M106 (o : Orc) (N : Nat) : FnM := fun vs H κ => match vs with
  | [.agg x0] => M106_0 o N κ x0 H
  | _ => none
theorem M106_run (o : Orc) (N : Nat) (vs : List V) (H : Heap) (κ : Kv) (r) (h : M106 o N vs H κ = some r) : runFn Tryz.prog o N Tryz.f106 .n vs H κ = some r := by
  unfold M106 at h
  split at h
  · rename_i x0
    refine (runFn_at (t := tmk 0 49 [(0, .agg x0)]) (by kernel_rfl) (by kernel_rfl)).trans (Eq.trans ?_ h)
    exact M106_0_ok x0 H
  · cases h
theorem M106_sound {o : Orc} (ho : ∀ f, FSound Tryz.prog f (o f)) (N : Nat) : FSound Tryz.prog 106 (M106 o N) :=
  FSound.sub (runFn_ok (an := .n) (fuel := N) hmix ho (by kernel_rfl) (by kernel_rfl)) (M106_run o N)
/-! 107 ostinato/check.Step -/
def A107_0 : An := (.s .n none (.s .n none (.s (.d [0, 2, 3, 1, 4, 5]) none .n)))
def M107_1 (o : Orc) (N : Nat) (κ : Kv) (x0 : List V) (H : Heap) : Ans :=
  cond (List.all x0 V.one) (
  newB H (.row x0) fun i1 H2 =>
  ldFlat H2 i1 [.int .i64, .int .i64, .int .i64, .int .i64, .int .i64, .int .i64, .int .i64, .int .u32, .oth, .oth, .oth] 0 fun l3 =>
  o 106 [(.agg l3)] H2 fun v4 H5 =>
  asB v4 fun b6 =>
  cond (!b6) (
  κ (.int .i64 0) H5) (
  ldFlat (Heap.skip H5 6) i1 [.int .i64, .int .i64, .int .i64, .int .i64, .int .i64, .int .i64, .int .i64, .int .u32, .oth, .oth, .oth] 0 fun l7 =>
  (ldI (Heap.skip H5 6) .i64 i1 4).bind fun n8 =>
  o 182 [(.agg l7), (.int .i64 140)] (Heap.skip H5 6) fun v9 H10 =>
  asI .i64 v9 fun n11 =>
  (ldI H10 .i64 i1 4).bind fun n12 =>
  cond (decide (n8 = n12)) (
  κ (.int .i64 (IntKind.i64.wrap (n11 + n8))) H10) none)) none
theorem M107_1_ok {o : Orc} {N : Nat} {κ : Kv} (x0 : List V) (H : Heap) :
    run Tryz.prog o N (cAt Tryz.f107 []) A107_0 (env0 Tryz.prog Tryz.f107 κ) (tmk 0 11 [(0, .agg x0)]) H (env0 Tryz.prog Tryz.f107 κ).ret = M107_1 o N κ x0 H := by
  kernel_rfl
def M107 (o : Orc) (N : Nat) : FnM := fun vs H κ => match vs with
  | [.agg x0] => M107_1 o N κ x0 H
  | _ => none
theorem M107_run (o : Orc) (N : Nat) (vs : List V) (H : Heap) (κ : Kv) (r) (h : M107 o N vs H κ = some r) : runFn Tryz.prog o N Tryz.f107 A107_0 vs H κ = some r := by
  unfold M107 at h
  split at h
  · rename_i x0
    refine (runFn_at (t := tmk 0 11 [(0, .agg x0)]) (by kernel_rfl) (by kernel_rfl)).trans (Eq.trans ?_ h)
    exact M107_1_ok x0 H
  · cases h
theorem M107_sound {o : Orc} (ho : ∀ f, FSound Tryz.prog f (o f)) (N : Nat) : FSound Tryz.prog 107 (M107 o N) :=
  FSound.sub (runFn_ok (an := A107_0) (fuel := N) hmix ho (by kernel_rfl) (by kernel_rfl)) (M107_run o N)
/-! 108 ostinato/check.who -/
def M108_0 (o : Orc) (N : Nat) (κ : Kv) (x0 : List V) (H : Heap) : Ans :=
  cond (List.all x0 V.one) (
  newB H (.row x0) fun i1 H2 =>
  (ldV H2 i1 8).bind fun v3 =>
  o 183 [v3, (.fn 184 [(.ptr i1 0)])] H2 fun v4 H5 =>
  asI .i64 v4 fun n6 =>
  cond (decide (n6 ≥ 0)) (
  κ (.tup [(.int .i64 n6), (.int .i64 141)]) H5) (
  (ldV H5 i1 9).bind fun v7 =>
  o 155 [v7, (.fn 185 [(.ptr i1 0)])] H5 fun v8 H9 =>
  asI .i64 v8 fun n10 =>
  cond (decide (n10 ≥ 0)) (
  κ (.tup [(.int .i64 n10), (.int .i64 141)]) H9) (
  κ (.tup [(.int .i64 0), (.int .i64 0)]) H9))) none
theorem M108_0_ok {o : Orc} {N : Nat} {κ : Kv} (x0 : List V) (H : Heap) :
    run Tryz.prog o N (cAt Tryz.f108 []) .n (env0 Tryz.prog Tryz.f108 κ) (tmk 0 20 [(0, .agg x0)]) H (env0 Tryz.prog Tryz.f108 κ).ret = M108_0 o N κ x0 H := by
  kernel_rfl
def M108 (o : Orc) (N : Nat) : FnM := fun vs H κ => match vs with
  | [.agg x0] => M108_0 o N κ x0 H
  | _ => none
theorem M108_run (o : Orc) (N : Nat) (vs : List V) (H : Heap) (κ : Kv) (r) (h : M108 o N vs H κ = some r) : runFn Tryz.prog o N Tryz.f108 .n vs H κ = some r := by
  unfold M108 at h
  split at h
  · rename_i x0
    refine (runFn_at (t := tmk 0 20 [(0, .agg x0)]) (by kernel_rfl) (by kernel_rfl)).trans (Eq.trans ?_ h)
    exact M108_0_ok x0 H
  · cases h
theorem M108_sound {o : Orc} (ho : ∀ f, FSound Tryz.prog f (o f)) (N : Nat) : FSound Tryz.prog 108 (M108 o N) :=
  FSound.sub (runFn_ok (an := .n) (fuel := N) hmix ho (by kernel_rfl) (by kernel_rfl)) (M108_run o N)
end Go.Proofs.YtfcmdgdjifoecaaGreat.K
