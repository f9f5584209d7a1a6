/- Printed: runs of functions. -/
import Derived.Test.YtfcmdgdjifoecaaGreatK20
set_option linter.unusedVariables false
set_option maxRecDepth 100000
noncomputable section
namespace Go.Proofs.YtfcmdgdjifoecaaGreat.K
open Go
/-! 109 ostinato/check.twice -/
def M109_0 (o : Orc) (N : Nat) (J : Nat → Heap → Ans) (κ : Kv) (x0 : List V) (H : Heap) : Ans :=
  cond (List.all x0 V.one) (
  newB H (.row x0) fun i1 H2 =>
  J i1 H2) none
theorem M109_0_ok {o : Orc} {N : Nat} {κ : Kv} {J : Kt} {J' : Nat → Heap → Ans} (hJ : ∀ x1 H, J (tmk 0 55 [(1, .ptr x1 0)]) H = J' x1 H) (x0 : List V) (H : Heap) :
    run Tryz.prog o N (cAt Tryz.f109 [0]) .n (env0 Tryz.prog Tryz.f109 κ) (tmk 0 55 [(0, .agg x0)]) H (kj [1] J) = M109_0 o N J' κ x0 H := by
  obtain rfl := fx2 hJ
  kernel_rfl
def M109_1 (o : Orc) (N : Nat) (J : Nat → V → Int → Int → Heap → Ans) (κ : Kv) (x1 : Nat) (H : Heap) : Ans :=
  (ldV H x1 8).bind fun v3 =>
  lenS v3 fun n4 =>
  J x1 v3 n4 0 H
theorem M109_1_ok {o : Orc} {N : Nat} {κ : Kv} {J : Kt} {J' : Nat → V → Int → Int → Heap → Ans} (hJ : ∀ x1 x9 x10 x11 H, J (tmk 0 55 [(1, .ptr x1 0), (9, x9), (10, .int .i64 x10), (11, .int .i64 x11)]) H = J' x1 x9 x10 x11 H) (x1 : Nat) (H : Heap) :
    run Tryz.prog o N (cAt Tryz.f109 [1, 0, 0]) .n (env0 Tryz.prog Tryz.f109 κ) (tmk 0 55 [(1, .ptr x1 0)]) H (kj [1, 9, 10, 11] J) = M109_1 o N J' κ x1 H := by
  obtain rfl := fx5 hJ
  kernel_rfl
def M109_2 (o : Orc) (N : Nat) (X0 : Nat → Heap → Ans) (J : Nat → V → Int → Int → Heap → Ans) (κ : Kv) (x1 : Nat) (x9 : V) (x10 x11 : Int) (H : Heap) : Ans :=
  cond (decide (x11 < x10)) (
  idxS 1 x9 x11 fun p5 o6 =>
  (ldI H .i64 p5 o6).bind fun n7 =>
  (ldV H x1 8).bind fun v8 =>
  slS 1 v8 none (some (.int .i64 x11)) fun v9 =>
  o 97 [v9, (.int .i64 n7)] H fun v10 H11 =>
  asB v10 fun b12 =>
  cond b12 (
  κ (.tup [(.int .i64 x11), (.int .i64 142)]) H11) (
  J x1 x9 x10 (IntKind.i64.wrap (x11 + 1)) H11)) (
  X0 x1 H)
theorem M109_2_ok {o : Orc} {N : Nat} {κ : Kv} {X0 J : Kt} {X0' : Nat → Heap → Ans} {J' : Nat → V → Int → Int → Heap → Ans} (h0 : ∀ x1 H, X0 (tmk 0 55 [(1, .ptr x1 0)]) H = X0' x1 H) (hJ : ∀ x1 x9 x10 x11 H, J (tmk 0 55 [(1, .ptr x1 0), (9, x9), (10, .int .i64 x10), (11, .int .i64 x11)]) H = J' x1 x9 x10 x11 H) (x1 : Nat) (x9 : V) (x10 x11 : Int) (H : Heap) :
    run Tryz.prog o N (cAt Tryz.f109 [1, 0, 1, 4, 4]) .n ((env0 Tryz.prog Tryz.f109 κ).block 0 (kj [1] X0)) (tmk 0 55 [(1, .ptr x1 0), (9, x9), (10, .int .i64 x10), (11, .int .i64 x11)]) H (kj [1, 9, 10, 11] J) = M109_2 o N X0' J' κ x1 x9 x10 x11 H := by
  obtain rfl := fx2 h0
  obtain rfl := fx5 hJ
  kernel_rfl
def M109_3 (o : Orc) (N : Nat) (X0 : Nat → Heap → Ans) (κ : Kv) (n : Nat) : Nat → V → Int → Int → Heap → Ans :=
  Nat.rec (motive := fun _ => Nat → V → Int → Int → Heap → Ans) (fun _ _ _ _ _ => none) (fun _ ih x1 x9 x10 x11 H => M109_2 o N X0 ih κ x1 x9 x10 x11 H) n
theorem M109_3_s (o : Orc) (N : Nat) (X0 : Nat → Heap → Ans) (κ : Kv) (n : Nat) (x1 : Nat) (x9 : V) (x10 x11 : Int) (H : Heap) : M109_3 o N X0 κ (n + 1) x1 x9 x10 x11 H = M109_2 o N X0 (M109_3 o N X0 κ n) κ x1 x9 x10 x11 H := rfl
theorem M109_3_ok {o : Orc} {N : Nat} {κ : Kv} {X0 : Kt} {X0' : Nat → Heap → Ans} (h0 : ∀ x1 H, X0 (tmk 0 55 [(1, .ptr x1 0)]) H = X0' x1 H) (n : Nat) : ∀ (x1 : Nat) (x9 : V) (x10 x11 : Int) (H : Heap),
    rounds (fun a H k => run Tryz.prog o N (cAt Tryz.f109 [1, 0, 1, 4, 4]) .n ((env0 Tryz.prog Tryz.f109 κ).block 0 (kj [1] X0)) a H k) (some (lvOf [1, 9, 10, 11])) n (tmk 0 55 [(1, .ptr x1 0), (9, x9), (10, .int .i64 x10), (11, .int .i64 x11)]) H = M109_3 o N X0' κ n x1 x9 x10 x11 H := by
  induction n with
  | zero => intros; rfl
  | succ n ih =>
    intro x1 x9 x10 x11 H
    refine (run_round.trans ?_).trans (M109_3_s ..).symm
    exact M109_2_ok h0 ih x1 x9 x10 x11 H
def A109_4 : An := .b none (.l (some (lvOf [1, 9, 10, 11])) .n)
def A109_5 : An := .s .n (some (lvOf [1, 9, 10, 11])) A109_4
def M109_6 (o : Orc) (N : Nat) (J : Nat → V → Int → Int → Heap → Ans) (κ : Kv) (x1 : Nat) (H : Heap) : Ans :=
  (ldV H x1 9).bind fun v13 =>
  lenS v13 fun n14 =>
  J x1 v13 n14 0 H
theorem M109_6_ok {o : Orc} {N : Nat} {κ : Kv} {J : Kt} {J' : Nat → V → Int → Int → Heap → Ans} (hJ : ∀ x1 x25 x26 x27 H, J (tmk 0 55 [(1, .ptr x1 0), (25, x25), (26, .int .i64 x26), (27, .int .i64 x27)]) H = J' x1 x25 x26 x27 H) (x1 : Nat) (H : Heap) :
    run Tryz.prog o N (cAt Tryz.f109 [1, 1, 0, 0]) .n (env0 Tryz.prog Tryz.f109 κ) (tmk 0 55 [(1, .ptr x1 0)]) H (kj [1, 25, 26, 27] J) = M109_6 o N J' κ x1 H := by
  obtain rfl := fx5 hJ
  kernel_rfl
def M109_7 (o : Orc) (N : Nat) (X2 : Heap → Ans) (J : Nat → V → Int → Int → Heap → Ans) (κ : Kv) (x1 : Nat) (x25 : V) (x26 x27 : Int) (H : Heap) : Ans :=
  cond (decide (x27 < x26)) (
  idxS 3 x25 x27 fun p15 o16 =>
  ldFlat H p15 [.int .u32, .int .i64, .bool] o16 fun l17 =>
  newB H (.row [(.int .u32 0), (.int .i64 0), (.bool false)]) fun i18 H19 =>
  cond (Nat.beq (List.length l17) 3 && Nat.blt 0 3) (
  (stN H19 i18 0 l17).bind fun H20 =>
  (ldI H20 .u32 i18 0).bind fun n21 =>
  (ldI H20 .u32 x1 7).bind fun n22 =>
  cond (decide (n21 ≥ n22)) (
  (ldI H20 .u32 i18 0).bind fun n23 =>
  (ldI H20 .u32 x1 7).bind fun n24 =>
  cond (decide ((IntKind.u32.wrap (n23 - n24)) < 8)) (
  κ (.tup [(.int .i64 x27), (.int .i64 142)]) H20) (
  (ldV H20 x1 9).bind fun v25 =>
  slS 3 v25 none (some (.int .i64 x27)) fun v26 =>
  o 180 [v26, (.fn 186 [(.ptr i18 0)])] H20 fun v27 H28 =>
  asB v27 fun b29 =>
  cond b29 (
  κ (.tup [(.int .i64 x27), (.int .i64 142)]) H28) (
  J x1 x25 x26 (IntKind.i64.wrap (x27 + 1)) H28))) (
  (ldV H20 x1 9).bind fun v30 =>
  slS 3 v30 none (some (.int .i64 x27)) fun v31 =>
  o 180 [v31, (.fn 186 [(.ptr i18 0)])] H20 fun v32 H33 =>
  asB v32 fun b34 =>
  cond b34 (
  κ (.tup [(.int .i64 x27), (.int .i64 142)]) H33) (
  J x1 x25 x26 (IntKind.i64.wrap (x27 + 1)) H33))) none) (
  X2  H)
theorem M109_7_ok {o : Orc} {N : Nat} {κ : Kv} {X2 J : Kt} {X2' : Heap → Ans} {J' : Nat → V → Int → Int → Heap → Ans} (h2 : ∀  H, X2 (tmk 0 55 []) H = X2' H) (hJ : ∀ x1 x25 x26 x27 H, J (tmk 0 55 [(1, .ptr x1 0), (25, x25), (26, .int .i64 x26), (27, .int .i64 x27)]) H = J' x1 x25 x26 x27 H) (x1 : Nat) (x25 : V) (x26 x27 : Int) (H : Heap) :
    run Tryz.prog o N (cAt Tryz.f109 [1, 1, 0, 1, 4, 4]) .n ((env0 Tryz.prog Tryz.f109 κ).block 2 (kj [] X2)) (tmk 0 55 [(1, .ptr x1 0), (25, x25), (26, .int .i64 x26), (27, .int .i64 x27)]) H (kj [1, 25, 26, 27] J) = M109_7 o N X2' J' κ x1 x25 x26 x27 H := by
  obtain rfl := fx1 h2
  obtain rfl := fx5 hJ
  kernel_rfl
def M109_8 (o : Orc) (N : Nat) (X2 : Heap → Ans) (κ : Kv) (n : Nat) : Nat → V → Int → Int → Heap → Ans :=
  Nat.rec (motive := fun _ => Nat → V → Int → Int → Heap → Ans) (fun _ _ _ _ _ => none) (fun _ ih x1 x25 x26 x27 H => M109_7 o N X2 ih κ x1 x25 x26 x27 H) n
theorem M109_8_s (o : Orc) (N : Nat) (X2 : Heap → Ans) (κ : Kv) (n : Nat) (x1 : Nat) (x25 : V) (x26 x27 : Int) (H : Heap) : M109_8 o N X2 κ (n + 1) x1 x25 x26 x27 H = M109_7 o N X2 (M109_8 o N X2 κ n) κ x1 x25 x26 x27 H := rfl
theorem M109_8_ok {o : Orc} {N : Nat} {κ : Kv} {X2 : Kt} {X2' : Heap → Ans} (h2 : ∀  H, X2 (tmk 0 55 []) H = X2' H) (n : Nat) : ∀ (x1 : Nat) (x25 : V) (x26 x27 : Int) (H : Heap),
    rounds (fun a H k => run Tryz.prog o N (cAt Tryz.f109 [1, 1, 0, 1, 4, 4]) .n ((env0 Tryz.prog Tryz.f109 κ).block 2 (kj [] X2)) a H k) (some (lvOf [1, 25, 26, 27])) n (tmk 0 55 [(1, .ptr x1 0), (25, x25), (26, .int .i64 x26), (27, .int .i64 x27)]) H = M109_8 o N X2' κ n x1 x25 x26 x27 H := by
  induction n with
  | zero => intros; rfl
  | succ n ih =>
    intro x1 x25 x26 x27 H
    refine (run_round.trans ?_).trans (M109_8_s ..).symm
    exact M109_7_ok h2 ih x1 x25 x26 x27 H
def A109_9 : An := .b none (.l (some (lvOf [1, 25, 26, 27])) .n)
def A109_10 : An := .s .n (some (lvOf [1, 25, 26, 27])) A109_9
def M109_11 (o : Orc) (N : Nat) (κ : Kv) (H : Heap) : Ans :=
  κ (.tup [(.int .i64 0), (.int .i64 0)]) H
theorem M109_11_ok {o : Orc} {N : Nat} {κ : Kv} (H : Heap) :
    run Tryz.prog o N (cAt Tryz.f109 [1, 1, 1]) .n (env0 Tryz.prog Tryz.f109 κ) (tmk 0 55 []) H (env0 Tryz.prog Tryz.f109 κ).ret = M109_11 o N κ  H := by
  kernel_rfl
def A109_12 : An := .s A109_5 (some (lvOf [1])) (.s A109_10 (some (lvOf [])) .n)
def M109 (o : Orc) (N : Nat) : FnM := fun vs H κ => match vs with
  | [.agg x0] => M109_0 o N (fun x1 H => M109_1 o N (fun x1 x9 x10 x11 H => M109_3 o N (fun x1 H => M109_6 o N (fun x1 x25 x26 x27 H => M109_8 o N (fun H => M109_11 o N κ  H) κ N x1 x25 x26 x27 H) κ x1 H) κ N x1 x9 x10 x11 H) κ x1 H) κ x0 H
  | _ => none
theorem M109_run (o : Orc) (N : Nat) (vs : List V) (H : Heap) (κ : Kv) (r) (h : M109 o N vs H κ = some r) : runFn Tryz.prog o N Tryz.f109 (.s .n (some (lvOf [1])) A109_12) vs H κ = some r := by
  unfold M109 at h
  split at h
  · rename_i x0
    refine (runFn_at (t := tmk 0 55 [(0, .agg x0)]) (by kernel_rfl) (by kernel_rfl)).trans (Eq.trans ?_ h)
    refine (run_seq (x := (cAt Tryz.f109 [0])) (ax := .n) (y := (cAt Tryz.f109 [1])) (ay := A109_12) (l := [1]) (by kernel_rfl) (by kernel_rfl)).trans ?_
    refine M109_0_ok ?_ x0 H
    intro x1 H
    refine (run_seq (x := (cAt Tryz.f109 [1, 0])) (ax := A109_5) (y := (cAt Tryz.f109 [1, 1])) (ay := (.s A109_10 (some (lvOf [])) .n)) (l := [1]) (by kernel_rfl) (by kernel_rfl)).trans ?_
    refine (run_seq (x := (cAt Tryz.f109 [1, 0, 0])) (ax := .n) (y := (cAt Tryz.f109 [1, 0, 1])) (ay := A109_4) (l := [1, 9, 10, 11]) (by kernel_rfl) (by kernel_rfl)).trans ?_
    refine M109_1_ok ?_ x1 H
    intro x1 x9 x10 x11 H
    refine (run_block (id := 0) (x := (cAt Tryz.f109 [1, 0, 1, 4])) (ax := (.l (some (lvOf [1, 9, 10, 11])) .n)) (by kernel_rfl) (by kernel_rfl)).trans ?_
    refine (run_loop (x := (cAt Tryz.f109 [1, 0, 1, 4, 4])) (ax := .n) (l := [1, 9, 10, 11]) (by kernel_rfl) (by kernel_rfl) (by kernel_rfl)).trans ?_
    refine M109_3_ok ?_ N x1 x9 x10 x11 H
    intro x1 H
    refine (run_seq (x := (cAt Tryz.f109 [1, 1, 0])) (ax := A109_10) (y := (cAt Tryz.f109 [1, 1, 1])) (ay := .n) (l := []) (by kernel_rfl) (by kernel_rfl)).trans ?_
    refine (run_seq (x := (cAt Tryz.f109 [1, 1, 0, 0])) (ax := .n) (y := (cAt Tryz.f109 [1, 1, 0, 1])) (ay := A109_9) (l := [1, 25, 26, 27]) (by kernel_rfl) (by kernel_rfl)).trans ?_
    refine M109_6_ok ?_ x1 H
    intro x1 x25 x26 x27 H
    refine (run_block (id := 2) (x := (cAt Tryz.f109 [1, 1, 0, 1, 4])) (ax := (.l (some (lvOf [1, 25, 26, 27])) .n)) (by kernel_rfl) (by kernel_rfl)).trans ?_
    refine (run_loop (x := (cAt Tryz.f109 [1, 1, 0, 1, 4, 4])) (ax := .n) (l := [1, 25, 26, 27]) (by kernel_rfl) (by kernel_rfl) (by kernel_rfl)).trans ?_
    refine M109_8_ok ?_ N x1 x25 x26 x27 H
    intro H
    exact M109_11_ok  H
  · cases h
theorem M109_sound {o : Orc} (ho : ∀ f, FSound Tryz.prog f (o f)) (N : Nat) : FSound Tryz.prog 109 (M109 o N) :=
  FSound.sub (runFn_ok (an := (.s .n (some (lvOf [1])) A109_12)) (fuel := N) hmix ho (by kernel_rfl) (by kernel_rfl)) (M109_run o N)
/-! 110 ostinato/check.windows -/
def M110_0 (o : Orc) (N : Nat) (J : Nat → Heap → Ans) (κ : Kv) (x0 : List V) (H : Heap) : Ans :=
  cond (List.all x0 V.one) (
  newB H (.row x0) fun i1 H2 =>
  J i1 H2) none
theorem M110_0_ok {o : Orc} {N : Nat} {κ : Kv} {J : Kt} {J' : Nat → Heap → Ans} (hJ : ∀ x1 H, J (tmk 0 74 [(1, .ptr x1 0)]) H = J' x1 H) (x0 : List V) (H : Heap) :
    run Tryz.prog o N (cAt Tryz.f110 [0]) .n (env0 Tryz.prog Tryz.f110 κ) (tmk 0 74 [(0, .agg x0)]) H (kj [1] J) = M110_0 o N J' κ x0 H := by
  obtain rfl := fx2 hJ
  kernel_rfl
def M110_1 (o : Orc) (N : Nat) (J : Nat → Int → Heap → Ans) (κ : Kv) (x1 : Nat) (H : Heap) : Ans :=
  ldFlat H x1 [.int .i64, .int .i64, .int .i64, .int .i64, .int .i64, .int .i64, .int .i64, .int .u32, .oth, .oth, .oth] 0 fun l3 =>
  o 107 [(.agg l3)] H fun v4 H5 =>
  asI .i64 v4 fun n6 =>
  J x1 n6 H5
theorem M110_1_ok {o : Orc} {N : Nat} {κ : Kv} {J : Kt} {J' : Nat → Int → Heap → Ans} (hJ : ∀ x1 x4 H, J (tmk 0 74 [(1, .ptr x1 0), (4, .int .i64 x4)]) H = J' x1 x4 H) (x1 : Nat) (H : Heap) :
    run Tryz.prog o N (cAt Tryz.f110 [1, 4, 0]) .n (env0 Tryz.prog Tryz.f110 κ) (tmk 0 74 [(1, .ptr x1 0)]) H (kj [1, 4] J) = M110_1 o N J' κ x1 H := by
  obtain rfl := fx3 hJ
  kernel_rfl
def M110_2 (o : Orc) (N : Nat) (J : Nat → Int → Heap → Ans) (κ : Kv) (x1 : Nat) (x4 : Int) (H : Heap) : Ans :=
  J x1 x4 H
theorem M110_2_ok {o : Orc} {N : Nat} {κ : Kv} {J : Kt} {J' : Nat → Int → Heap → Ans} (hJ : ∀ x1 x4 H, J (tmk 0 74 [(1, .ptr x1 0), (4, .int .i64 x4)]) H = J' x1 x4 H) (x1 : Nat) (x4 : Int) (H : Heap) :
    run Tryz.prog o N (cAt Tryz.f110 [1, 4, 1, 0]) .n (env0 Tryz.prog Tryz.f110 κ) (tmk 0 74 [(1, .ptr x1 0), (4, .int .i64 x4)]) H (kj [1, 4] J) = M110_2 o N J' κ x1 x4 H := by
  obtain rfl := fx3 hJ
  kernel_rfl
def M110_3 (o : Orc) (N : Nat) (J : Nat → Int → V → Int → Int → Heap → Ans) (κ : Kv) (x1 : Nat) (x4 : Int) (H : Heap) : Ans :=
  (ldV H x1 10).bind fun v7 =>
  lenS v7 fun n8 =>
  J x1 x4 v7 n8 0 H
theorem M110_3_ok {o : Orc} {N : Nat} {κ : Kv} {J : Kt} {J' : Nat → Int → V → Int → Int → Heap → Ans} (hJ : ∀ x1 x4 x12 x13 x14 H, J (tmk 0 74 [(1, .ptr x1 0), (4, .int .i64 x4), (12, x12), (13, .int .i64 x13), (14, .int .i64 x14)]) H = J' x1 x4 x12 x13 x14 H) (x1 : Nat) (x4 : Int) (H : Heap) :
    run Tryz.prog o N (cAt Tryz.f110 [1, 4, 1, 1, 0, 0]) .n (env0 Tryz.prog Tryz.f110 κ) (tmk 0 74 [(1, .ptr x1 0), (4, .int .i64 x4)]) H (kj [1, 4, 12, 13, 14] J) = M110_3 o N J' κ x1 x4 H := by
  obtain rfl := fx6 hJ
  kernel_rfl
def M110_4 (o : Orc) (N : Nat) (J : Nat → Int → V → Int → Int → Bool → Heap → Ans) (κ : Kv) (x1 : Nat) (x4 : Int) (x12 : V) (x13 x14 : Int) (H : Heap) : Ans :=
  J x1 x4 x12 x13 x14 (decide (x14 < x13)) H
theorem M110_4_ok {o : Orc} {N : Nat} {κ : Kv} {X0 J : Kt} {J' : Nat → Int → V → Int → Int → Bool → Heap → Ans} (hJ : ∀ x1 x4 x12 x13 x14 x15 H, J (tmk 0 74 [(1, .ptr x1 0), (4, .int .i64 x4), (12, x12), (13, .int .i64 x13), (14, .int .i64 x14), (15, .bool x15)]) H = J' x1 x4 x12 x13 x14 x15 H) (x1 : Nat) (x4 : Int) (x12 : V) (x13 x14 : Int) (H : Heap) :
    run Tryz.prog o N (cAt Tryz.f110 [1, 4, 1, 1, 0, 1, 4, 4, 0]) .n ((env0 Tryz.prog Tryz.f110 κ).block 0 (kj [] X0)) (tmk 0 74 [(1, .ptr x1 0), (4, .int .i64 x4), (12, x12), (13, .int .i64 x13), (14, .int .i64 x14)]) H (kj [1, 4, 12, 13, 14, 15] J) = M110_4 o N J' κ x1 x4 x12 x13 x14 H := by
  obtain rfl := fx7 hJ
  kernel_rfl
def M110_5 (o : Orc) (N : Nat) (X0 : Heap → Ans) (J : Nat → Int → V → Int → Int → Heap → Ans) (κ : Kv) (x1 : Nat) (x4 : Int) (x12 : V) (x13 x14 : Int) (x15 : Bool) (H : Heap) : Ans :=
  cond x15 (
  J x1 x4 x12 x13 x14 H) (
  X0  H)
theorem M110_5_ok {o : Orc} {N : Nat} {κ : Kv} {X0 J : Kt} {X0' : Heap → Ans} {J' : Nat → Int → V → Int → Int → Heap → Ans} (h0 : ∀  H, X0 (tmk 0 74 []) H = X0' H) (hJ : ∀ x1 x4 x12 x13 x14 H, J (tmk 0 74 [(1, .ptr x1 0), (4, .int .i64 x4), (12, x12), (13, .int .i64 x13), (14, .int .i64 x14)]) H = J' x1 x4 x12 x13 x14 H) (x1 : Nat) (x4 : Int) (x12 : V) (x13 x14 : Int) (x15 : Bool) (H : Heap) :
    run Tryz.prog o N (cAt Tryz.f110 [1, 4, 1, 1, 0, 1, 4, 4, 1, 0]) .n ((env0 Tryz.prog Tryz.f110 κ).block 0 (kj [] X0)) (tmk 0 74 [(1, .ptr x1 0), (4, .int .i64 x4), (12, x12), (13, .int .i64 x13), (14, .int .i64 x14), (15, .bool x15)]) H (kj [1, 4, 12, 13, 14] J) = M110_5 o N X0' J' κ x1 x4 x12 x13 x14 x15 H := by
  obtain rfl := fx1 h0
  obtain rfl := fx6 hJ
  kernel_rfl
def M110_6 (o : Orc) (N : Nat) (J : Nat → Int → Int → Nat → V → Int → Int → Heap → Ans) (κ : Kv) (x1 : Nat) (x4 : Int) (x12 : V) (x13 x14 : Int) (H : Heap) : Ans :=
  idxS 6 x12 x14 fun p9 o10 =>
  ldFlat H p9 [.int .i64, .int .i64, .int .i64, .int .i64, .int .i64, .int .i64] o10 fun l11 =>
  newB H (.row [(.int .i64 0), (.int .i64 0), (.int .i64 0), (.int .i64 0), (.int .i64 0), (.int .i64 0)]) fun i12 H13 =>
  cond (Nat.beq (List.length l11) 6 && Nat.blt 0 6) (
  (stN H13 i12 0 l11).bind fun H14 =>
  J x1 x4 x14 i12 x12 x13 x14 H14) none
theorem M110_6_ok {o : Orc} {N : Nat} {κ : Kv} {X0 X1 J : Kt} {J' : Nat → Int → Int → Nat → V → Int → Int → Heap → Ans} (hJ : ∀ x1 x4 x5 x6 x12 x13 x14 H, J (tmk 0 74 [(1, .ptr x1 0), (4, .int .i64 x4), (5, .int .i64 x5), (6, .ptr x6 0), (12, x12), (13, .int .i64 x13), (14, .int .i64 x14)]) H = J' x1 x4 x5 x6 x12 x13 x14 H) (x1 : Nat) (x4 : Int) (x12 : V) (x13 x14 : Int) (H : Heap) :
    run Tryz.prog o N (cAt Tryz.f110 [1, 4, 1, 1, 0, 1, 4, 4, 1, 1, 0, 4, 0]) .n (((env0 Tryz.prog Tryz.f110 κ).block 0 (kj [] X0)).block 1 (kj [1, 4, 12, 13, 14] X1)) (tmk 0 74 [(1, .ptr x1 0), (4, .int .i64 x4), (12, x12), (13, .int .i64 x13), (14, .int .i64 x14)]) H (kj [1, 4, 5, 6, 12, 13, 14] J) = M110_6 o N J' κ x1 x4 x12 x13 x14 H := by
  obtain rfl := fx8 hJ
  kernel_rfl
def M110_7 (o : Orc) (N : Nat) (J : Nat → Int → Int → Nat → Bool → V → Int → Int → Heap → Ans) (κ : Kv) (x1 : Nat) (x4 x5 : Int) (x6 : Nat) (x12 : V) (x13 x14 : Int) (H : Heap) : Ans :=
  (ldI H .i64 x6 0).bind fun n15 =>
  J x1 x4 x5 x6 (n15 == 1) x12 x13 x14 H
theorem M110_7_ok {o : Orc} {N : Nat} {κ : Kv} {X0 X1 J : Kt} {J' : Nat → Int → Int → Nat → Bool → V → Int → Int → Heap → Ans} (hJ : ∀ x1 x4 x5 x6 x7 x12 x13 x14 H, J (tmk 0 74 [(1, .ptr x1 0), (4, .int .i64 x4), (5, .int .i64 x5), (6, .ptr x6 0), (7, .bool x7), (12, x12), (13, .int .i64 x13), (14, .int .i64 x14)]) H = J' x1 x4 x5 x6 x7 x12 x13 x14 H) (x1 : Nat) (x4 x5 : Int) (x6 : Nat) (x12 : V) (x13 x14 : Int) (H : Heap) :
    run Tryz.prog o N (cAt Tryz.f110 [1, 4, 1, 1, 0, 1, 4, 4, 1, 1, 0, 4, 1, 0]) .n (((env0 Tryz.prog Tryz.f110 κ).block 0 (kj [] X0)).block 1 (kj [1, 4, 12, 13, 14] X1)) (tmk 0 74 [(1, .ptr x1 0), (4, .int .i64 x4), (5, .int .i64 x5), (6, .ptr x6 0), (12, x12), (13, .int .i64 x13), (14, .int .i64 x14)]) H (kj [1, 4, 5, 6, 7, 12, 13, 14] J) = M110_7 o N J' κ x1 x4 x5 x6 x12 x13 x14 H := by
  obtain rfl := fx9 hJ
  kernel_rfl
def M110_8 (o : Orc) (N : Nat) (J : Nat → Int → Int → Nat → V → Int → Int → Bool → Heap → Ans) (κ : Kv) (x1 : Nat) (x4 x5 : Int) (x6 : Nat) (x7 : Bool) (x12 : V) (x13 x14 : Int) (H : Heap) : Ans :=
  cond x7 (
  (ldI H .i64 x6 5).bind fun n16 =>
  (ldV H x1 9).bind fun v17 =>
  lenS v17 fun n18 =>
  cond (decide (n16 ≥ n18)) (
  J x1 x4 x5 x6 x12 x13 x14 true H) (
  (ldV H x1 9).bind fun v19 =>
  (ldI H .i64 x6 5).bind fun n20 =>
  idxS 3 v19 n20 fun p21 o22 =>
  (ldB H p21 (o22 + 2)).bind fun b23 =>
  J x1 x4 x5 x6 x12 x13 x14 b23 H)) (
  J x1 x4 x5 x6 x12 x13 x14 false H)
theorem M110_8_ok {o : Orc} {N : Nat} {κ : Kv} {X0 X1 X2 J : Kt} {J' : Nat → Int → Int → Nat → V → Int → Int → Bool → Heap → Ans} (hJ : ∀ x1 x4 x5 x6 x12 x13 x14 x22 H, J (tmk 0 74 [(1, .ptr x1 0), (4, .int .i64 x4), (5, .int .i64 x5), (6, .ptr x6 0), (12, x12), (13, .int .i64 x13), (14, .int .i64 x14), (22, .bool x22)]) H = J' x1 x4 x5 x6 x12 x13 x14 x22 H) (x1 : Nat) (x4 x5 : Int) (x6 : Nat) (x7 : Bool) (x12 : V) (x13 x14 : Int) (H : Heap) :
    run Tryz.prog o N (cAt Tryz.f110 [1, 4, 1, 1, 0, 1, 4, 4, 1, 1, 0, 4, 1, 1, 0, 4, 0]) .n ((((env0 Tryz.prog Tryz.f110 κ).block 0 (kj [] X0)).block 1 (kj [1, 4, 12, 13, 14] X1)).block 2 (kj [1, 4, 5, 12, 13, 14] X2)) (tmk 0 74 [(1, .ptr x1 0), (4, .int .i64 x4), (5, .int .i64 x5), (6, .ptr x6 0), (7, .bool x7), (12, x12), (13, .int .i64 x13), (14, .int .i64 x14)]) H (kj [1, 4, 5, 6, 12, 13, 14, 22] J) = M110_8 o N J' κ x1 x4 x5 x6 x7 x12 x13 x14 H := by
  obtain rfl := fx9 hJ
  kernel_rfl
def M110_9 (o : Orc) (N : Nat) (J : Nat → Int → Int → V → Int → Int → Heap → Ans) (κ : Kv) (x1 : Nat) (x4 x5 : Int) (x6 : Nat) (x12 : V) (x13 x14 : Int) (x22 : Bool) (H : Heap) : Ans :=
  cond x22 (
  κ (.tup [(.int .i64 x5), (.int .i64 145)]) H) (
  (ldI H .i64 x6 1).bind fun n24 =>
  cond (decide (n24 < x4)) (
  κ (.tup [(.int .i64 x5), (.int .i64 144)]) H) (
  (ldI H .i64 x6 0).bind fun n25 =>
  cond (n25 != 3) (
  (ldI H .i64 x6 2).bind fun n26 =>
  (ldI H .i64 x6 1).bind fun n27 =>
  cond (decide ((IntKind.i64.wrap (n26 - n27)) < x4)) (
  κ (.tup [(.int .i64 x5), (.int .i64 144)]) H) (
  J x1 x4 x5 x12 x13 x14 H)) (
  J x1 x4 x5 x12 x13 x14 H)))
theorem M110_9_ok {o : Orc} {N : Nat} {κ : Kv} {X0 X1 X2 J : Kt} {J' : Nat → Int → Int → V → Int → Int → Heap → Ans} (hJ : ∀ x1 x4 x5 x12 x13 x14 H, J (tmk 0 74 [(1, .ptr x1 0), (4, .int .i64 x4), (5, .int .i64 x5), (12, x12), (13, .int .i64 x13), (14, .int .i64 x14)]) H = J' x1 x4 x5 x12 x13 x14 H) (x1 : Nat) (x4 x5 : Int) (x6 : Nat) (x12 : V) (x13 x14 : Int) (x22 : Bool) (H : Heap) :
    run Tryz.prog o N (cAt Tryz.f110 [1, 4, 1, 1, 0, 1, 4, 4, 1, 1, 0, 4, 1, 1, 0, 4, 1]) .n ((((env0 Tryz.prog Tryz.f110 κ).block 0 (kj [] X0)).block 1 (kj [1, 4, 12, 13, 14] X1)).block 2 (kj [1, 4, 5, 12, 13, 14] X2)) (tmk 0 74 [(1, .ptr x1 0), (4, .int .i64 x4), (5, .int .i64 x5), (6, .ptr x6 0), (12, x12), (13, .int .i64 x13), (14, .int .i64 x14), (22, .bool x22)]) H (kj [1, 4, 5, 12, 13, 14] J) = M110_9 o N J' κ x1 x4 x5 x6 x12 x13 x14 x22 H := by
  obtain rfl := fx7 hJ
  kernel_rfl
def A110_10 : An := .s .n (some (lvOf [1, 4, 5, 6, 12, 13, 14, 22])) .n
def M110_11 (o : Orc) (N : Nat) (J : Nat → Int → Int → V → Int → Int → Int → Int → Heap → Ans) (κ : Kv) (x1 : Nat) (x4 x5 : Int) (x12 : V) (x13 x14 : Int) (H : Heap) : Ans :=
  J x1 x4 x5 x12 x13 x14 x5 0 H
theorem M110_11_ok {o : Orc} {N : Nat} {κ : Kv} {X0 X1 J : Kt} {J' : Nat → Int → Int → V → Int → Int → Int → Int → Heap → Ans} (hJ : ∀ x1 x4 x5 x12 x13 x14 x62 x63 H, J (tmk 0 74 [(1, .ptr x1 0), (4, .int .i64 x4), (5, .int .i64 x5), (12, x12), (13, .int .i64 x13), (14, .int .i64 x14), (62, .int .i64 x62), (63, .int .i64 x63)]) H = J' x1 x4 x5 x12 x13 x14 x62 x63 H) (x1 : Nat) (x4 x5 : Int) (x12 : V) (x13 x14 : Int) (H : Heap) :
    run Tryz.prog o N (cAt Tryz.f110 [1, 4, 1, 1, 0, 1, 4, 4, 1, 1, 0, 4, 1, 1, 1, 0, 0]) .n (((env0 Tryz.prog Tryz.f110 κ).block 0 (kj [] X0)).block 1 (kj [1, 4, 12, 13, 14] X1)) (tmk 0 74 [(1, .ptr x1 0), (4, .int .i64 x4), (5, .int .i64 x5), (12, x12), (13, .int .i64 x13), (14, .int .i64 x14)]) H (kj [1, 4, 5, 12, 13, 14, 62, 63] J) = M110_11 o N J' κ x1 x4 x5 x12 x13 x14 H := by
  obtain rfl := fx9 hJ
  kernel_rfl
def M110_12 (o : Orc) (N : Nat) (X3 : Nat → Int → V → Int → Int → Heap → Ans) (J : Nat → Int → Int → V → Int → Int → Int → Int → Heap → Ans) (κ : Kv) (x1 : Nat) (x4 x5 : Int) (x12 : V) (x13 x14 x62 x63 : Int) (H : Heap) : Ans :=
  cond (decide (x63 < x62)) (
  ldFlat H x1 [.int .i64, .int .i64, .int .i64, .int .i64, .int .i64, .int .i64, .int .i64, .int .u32, .oth, .oth, .oth] 0 fun l28 =>
  o 187 [(.agg l28), (.int .i64 x5), (.int .i64 x63)] H fun v29 H30 =>
  asB v29 fun b31 =>
  cond (!b31) (
  J x1 x4 x5 x12 x13 x14 x62 (IntKind.i64.wrap (x63 + 1)) H30) (
  κ (.tup [(.int .i64 x5), (.int .i64 143)]) H30)) (
  X3 x1 x4 x12 x13 x14 H)
theorem M110_12_ok {o : Orc} {N : Nat} {κ : Kv} {X0 X1 X3 J : Kt} {X3' : Nat → Int → V → Int → Int → Heap → Ans} {J' : Nat → Int → Int → V → Int → Int → Int → Int → Heap → Ans} (h3 : ∀ x1 x4 x12 x13 x14 H, X3 (tmk 0 74 [(1, .ptr x1 0), (4, .int .i64 x4), (12, x12), (13, .int .i64 x13), (14, .int .i64 x14)]) H = X3' x1 x4 x12 x13 x14 H) (hJ : ∀ x1 x4 x5 x12 x13 x14 x62 x63 H, J (tmk 0 74 [(1, .ptr x1 0), (4, .int .i64 x4), (5, .int .i64 x5), (12, x12), (13, .int .i64 x13), (14, .int .i64 x14), (62, .int .i64 x62), (63, .int .i64 x63)]) H = J' x1 x4 x5 x12 x13 x14 x62 x63 H) (x1 : Nat) (x4 x5 : Int) (x12 : V) (x13 x14 x62 x63 : Int) (H : Heap) :
    run Tryz.prog o N (cAt Tryz.f110 [1, 4, 1, 1, 0, 1, 4, 4, 1, 1, 0, 4, 1, 1, 1, 0, 1, 4, 4]) .n ((((env0 Tryz.prog Tryz.f110 κ).block 0 (kj [] X0)).block 1 (kj [1, 4, 12, 13, 14] X1)).block 3 (kj [1, 4, 12, 13, 14] X3)) (tmk 0 74 [(1, .ptr x1 0), (4, .int .i64 x4), (5, .int .i64 x5), (12, x12), (13, .int .i64 x13), (14, .int .i64 x14), (62, .int .i64 x62), (63, .int .i64 x63)]) H (kj [1, 4, 5, 12, 13, 14, 62, 63] J) = M110_12 o N X3' J' κ x1 x4 x5 x12 x13 x14 x62 x63 H := by
  obtain rfl := fx6 h3
  obtain rfl := fx9 hJ
  kernel_rfl
def A110_13 : An := .l (some (lvOf [1, 4, 5, 12, 13, 14, 62, 63])) .n
def M110_14 (o : Orc) (N : Nat) (X3 : Nat → Int → V → Int → Int → Heap → Ans) (κ : Kv) (n : Nat) : Nat → Int → Int → V → Int → Int → Int → Int → Heap → Ans :=
  Nat.rec (motive := fun _ => Nat → Int → Int → V → Int → Int → Int → Int → Heap → Ans) (fun _ _ _ _ _ _ _ _ _ => none) (fun _ ih x1 x4 x5 x12 x13 x14 x62 x63 H => M110_12 o N X3 ih κ x1 x4 x5 x12 x13 x14 x62 x63 H) n
theorem M110_14_s (o : Orc) (N : Nat) (X3 : Nat → Int → V → Int → Int → Heap → Ans) (κ : Kv) (n : Nat) (x1 : Nat) (x4 x5 : Int) (x12 : V) (x13 x14 x62 x63 : Int) (H : Heap) : M110_14 o N X3 κ (n + 1) x1 x4 x5 x12 x13 x14 x62 x63 H = M110_12 o N X3 (M110_14 o N X3 κ n) κ x1 x4 x5 x12 x13 x14 x62 x63 H := rfl
theorem M110_14_ok {o : Orc} {N : Nat} {κ : Kv} {X0 X1 X3 : Kt} {X3' : Nat → Int → V → Int → Int → Heap → Ans} (h3 : ∀ x1 x4 x12 x13 x14 H, X3 (tmk 0 74 [(1, .ptr x1 0), (4, .int .i64 x4), (12, x12), (13, .int .i64 x13), (14, .int .i64 x14)]) H = X3' x1 x4 x12 x13 x14 H) (n : Nat) : ∀ (x1 : Nat) (x4 x5 : Int) (x12 : V) (x13 x14 x62 x63 : Int) (H : Heap),
    rounds (fun a H k => run Tryz.prog o N (cAt Tryz.f110 [1, 4, 1, 1, 0, 1, 4, 4, 1, 1, 0, 4, 1, 1, 1, 0, 1, 4, 4]) .n ((((env0 Tryz.prog Tryz.f110 κ).block 0 (kj [] X0)).block 1 (kj [1, 4, 12, 13, 14] X1)).block 3 (kj [1, 4, 12, 13, 14] X3)) a H k) (some (lvOf [1, 4, 5, 12, 13, 14, 62, 63])) n (tmk 0 74 [(1, .ptr x1 0), (4, .int .i64 x4), (5, .int .i64 x5), (12, x12), (13, .int .i64 x13), (14, .int .i64 x14), (62, .int .i64 x62), (63, .int .i64 x63)]) H = M110_14 o N X3' κ n x1 x4 x5 x12 x13 x14 x62 x63 H := by
  induction n with
  | zero => intros; rfl
  | succ n ih =>
    intro x1 x4 x5 x12 x13 x14 x62 x63 H
    refine (run_round.trans ?_).trans (M110_14_s ..).symm
    exact M110_12_ok h3 ih x1 x4 x5 x12 x13 x14 x62 x63 H
def A110_15 : An := .s .n (some (lvOf [1, 4, 5, 12, 13, 14, 62, 63])) (.b none A110_13)
def M110_16 (o : Orc) (N : Nat) (X1 : Nat → Int → V → Int → Int → Heap → Ans) (κ : Kv) (x1 : Nat) (x4 : Int) (x12 : V) (x13 x14 : Int) (H : Heap) : Ans :=
  X1 x1 x4 x12 x13 x14 H
theorem M110_16_ok {o : Orc} {N : Nat} {κ : Kv} {X0 X1 J : Kt} {X1' : Nat → Int → V → Int → Int → Heap → Ans} (h1 : ∀ x1 x4 x12 x13 x14 H, X1 (tmk 0 74 [(1, .ptr x1 0), (4, .int .i64 x4), (12, x12), (13, .int .i64 x13), (14, .int .i64 x14)]) H = X1' x1 x4 x12 x13 x14 H) (x1 : Nat) (x4 : Int) (x12 : V) (x13 x14 : Int) (H : Heap) :
    run Tryz.prog o N (cAt Tryz.f110 [1, 4, 1, 1, 0, 1, 4, 4, 1, 1, 0, 4, 1, 1, 1, 1]) .n (((env0 Tryz.prog Tryz.f110 κ).block 0 (kj [] X0)).block 1 (kj [1, 4, 12, 13, 14] X1)) (tmk 0 74 [(1, .ptr x1 0), (4, .int .i64 x4), (12, x12), (13, .int .i64 x13), (14, .int .i64 x14)]) H (kj [1, 4, 12, 13, 14] J) = M110_16 o N X1' κ x1 x4 x12 x13 x14 H := by
  obtain rfl := fx6 h1
  kernel_rfl
def A110_17 : An := .s A110_15 (some (lvOf [1, 4, 12, 13, 14])) .n
def A110_18 : An := .s (.b none A110_10) (some (lvOf [1, 4, 5, 12, 13, 14])) A110_17
def A110_19 : An := .s .n (some (lvOf [1, 4, 5, 6, 7, 12, 13, 14])) A110_18
def A110_20 : An := .s .n (some (lvOf [1, 4, 5, 6, 12, 13, 14])) A110_19
def M110_21 (o : Orc) (N : Nat) (J : Nat → Int → V → Int → Int → Heap → Ans) (κ : Kv) (x1 : Nat) (x4 : Int) (x12 : V) (x13 x14 : Int) (H : Heap) : Ans :=
  J x1 x4 x12 x13 (IntKind.i64.wrap (x14 + 1)) H
theorem M110_21_ok {o : Orc} {N : Nat} {κ : Kv} {X0 J : Kt} {J' : Nat → Int → V → Int → Int → Heap → Ans} (hJ : ∀ x1 x4 x12 x13 x14 H, J (tmk 0 74 [(1, .ptr x1 0), (4, .int .i64 x4), (12, x12), (13, .int .i64 x13), (14, .int .i64 x14)]) H = J' x1 x4 x12 x13 x14 H) (x1 : Nat) (x4 : Int) (x12 : V) (x13 x14 : Int) (H : Heap) :
    run Tryz.prog o N (cAt Tryz.f110 [1, 4, 1, 1, 0, 1, 4, 4, 1, 1, 1]) .n ((env0 Tryz.prog Tryz.f110 κ).block 0 (kj [] X0)) (tmk 0 74 [(1, .ptr x1 0), (4, .int .i64 x4), (12, x12), (13, .int .i64 x13), (14, .int .i64 x14)]) H (kj [1, 4, 12, 13, 14] J) = M110_21 o N J' κ x1 x4 x12 x13 x14 H := by
  obtain rfl := fx6 hJ
  kernel_rfl
def A110_22 : An := .s (.b none A110_20) (some (lvOf [1, 4, 12, 13, 14])) .n
def A110_23 : An := .s .n (some (lvOf [1, 4, 12, 13, 14])) A110_22
def A110_24 : An := .s .n (some (lvOf [1, 4, 12, 13, 14, 15])) A110_23
def M110_25 (o : Orc) (N : Nat) (X0 : Heap → Ans) (J : Nat → Int → V → Int → Int → Heap → Ans) (κ : Kv) (x1 : Nat) (x4 : Int) (x12 : V) (x13 x14 : Int) (H : Heap) : Ans :=
  M110_4 o N (fun x1 x4 x12 x13 x14 x15 H => M110_5 o N X0 (fun x1 x4 x12 x13 x14 H => M110_6 o N (fun x1 x4 x5 x6 x12 x13 x14 H => M110_7 o N (fun x1 x4 x5 x6 x7 x12 x13 x14 H => M110_8 o N (fun x1 x4 x5 x6 x12 x13 x14 x22 H => M110_9 o N (fun x1 x4 x5 x12 x13 x14 H => M110_11 o N (fun x1 x4 x5 x12 x13 x14 x62 x63 H => M110_14 o N (fun x1 x4 x12 x13 x14 H => M110_16 o N (fun x1 x4 x12 x13 x14 H => M110_21 o N J κ x1 x4 x12 x13 x14 H) κ x1 x4 x12 x13 x14 H) κ N x1 x4 x5 x12 x13 x14 x62 x63 H) κ x1 x4 x5 x12 x13 x14 H) κ x1 x4 x5 x6 x12 x13 x14 x22 H) κ x1 x4 x5 x6 x7 x12 x13 x14 H) κ x1 x4 x5 x6 x12 x13 x14 H) κ x1 x4 x12 x13 x14 H) κ x1 x4 x12 x13 x14 x15 H) κ x1 x4 x12 x13 x14 H
theorem M110_25_ok {o : Orc} {N : Nat} {κ : Kv} {X0 J : Kt} {X0' : Heap → Ans} {J' : Nat → Int → V → Int → Int → Heap → Ans} (h0 : ∀  H, X0 (tmk 0 74 []) H = X0' H) (hJ : ∀ x1 x4 x12 x13 x14 H, J (tmk 0 74 [(1, .ptr x1 0), (4, .int .i64 x4), (12, x12), (13, .int .i64 x13), (14, .int .i64 x14)]) H = J' x1 x4 x12 x13 x14 H) (x1 : Nat) (x4 : Int) (x12 : V) (x13 x14 : Int) (H : Heap) :
    run Tryz.prog o N (cAt Tryz.f110 [1, 4, 1, 1, 0, 1, 4, 4]) A110_24 ((env0 Tryz.prog Tryz.f110 κ).block 0 (kj [] X0)) (tmk 0 74 [(1, .ptr x1 0), (4, .int .i64 x4), (12, x12), (13, .int .i64 x13), (14, .int .i64 x14)]) H (kj [1, 4, 12, 13, 14] J) = M110_25 o N X0' J' κ x1 x4 x12 x13 x14 H := by
  refine (run_seq (x := (cAt Tryz.f110 [1, 4, 1, 1, 0, 1, 4, 4, 0])) (ax := .n) (y := (cAt Tryz.f110 [1, 4, 1, 1, 0, 1, 4, 4, 1])) (ay := A110_23) (l := [1, 4, 12, 13, 14, 15]) (by kernel_rfl) (by kernel_rfl)).trans ?_
  refine M110_4_ok ?_ x1 x4 x12 x13 x14 H
  intro x1 x4 x12 x13 x14 x15 H
  refine (run_seq (x := (cAt Tryz.f110 [1, 4, 1, 1, 0, 1, 4, 4, 1, 0])) (ax := .n) (y := (cAt Tryz.f110 [1, 4, 1, 1, 0, 1, 4, 4, 1, 1])) (ay := A110_22) (l := [1, 4, 12, 13, 14]) (by kernel_rfl) (by kernel_rfl)).trans ?_
  refine M110_5_ok h0 ?_ x1 x4 x12 x13 x14 x15 H
  intro x1 x4 x12 x13 x14 H
  refine (run_seq (x := (cAt Tryz.f110 [1, 4, 1, 1, 0, 1, 4, 4, 1, 1, 0])) (ax := (.b none A110_20)) (y := (cAt Tryz.f110 [1, 4, 1, 1, 0, 1, 4, 4, 1, 1, 1])) (ay := .n) (l := [1, 4, 12, 13, 14]) (by kernel_rfl) (by kernel_rfl)).trans ?_
  refine (run_block (id := 1) (x := (cAt Tryz.f110 [1, 4, 1, 1, 0, 1, 4, 4, 1, 1, 0, 4])) (ax := A110_20) (by kernel_rfl) (by kernel_rfl)).trans ?_
  refine (run_seq (x := (cAt Tryz.f110 [1, 4, 1, 1, 0, 1, 4, 4, 1, 1, 0, 4, 0])) (ax := .n) (y := (cAt Tryz.f110 [1, 4, 1, 1, 0, 1, 4, 4, 1, 1, 0, 4, 1])) (ay := A110_19) (l := [1, 4, 5, 6, 12, 13, 14]) (by kernel_rfl) (by kernel_rfl)).trans ?_
  refine M110_6_ok ?_ x1 x4 x12 x13 x14 H
  intro x1 x4 x5 x6 x12 x13 x14 H
  refine (run_seq (x := (cAt Tryz.f110 [1, 4, 1, 1, 0, 1, 4, 4, 1, 1, 0, 4, 1, 0])) (ax := .n) (y := (cAt Tryz.f110 [1, 4, 1, 1, 0, 1, 4, 4, 1, 1, 0, 4, 1, 1])) (ay := A110_18) (l := [1, 4, 5, 6, 7, 12, 13, 14]) (by kernel_rfl) (by kernel_rfl)).trans ?_
  refine M110_7_ok ?_ x1 x4 x5 x6 x12 x13 x14 H
  intro x1 x4 x5 x6 x7 x12 x13 x14 H
  refine (run_seq (x := (cAt Tryz.f110 [1, 4, 1, 1, 0, 1, 4, 4, 1, 1, 0, 4, 1, 1, 0])) (ax := (.b none A110_10)) (y := (cAt Tryz.f110 [1, 4, 1, 1, 0, 1, 4, 4, 1, 1, 0, 4, 1, 1, 1])) (ay := A110_17) (l := [1, 4, 5, 12, 13, 14]) (by kernel_rfl) (by kernel_rfl)).trans ?_
  refine (run_block (id := 2) (x := (cAt Tryz.f110 [1, 4, 1, 1, 0, 1, 4, 4, 1, 1, 0, 4, 1, 1, 0, 4])) (ax := A110_10) (by kernel_rfl) (by kernel_rfl)).trans ?_
  refine (run_seq (x := (cAt Tryz.f110 [1, 4, 1, 1, 0, 1, 4, 4, 1, 1, 0, 4, 1, 1, 0, 4, 0])) (ax := .n) (y := (cAt Tryz.f110 [1, 4, 1, 1, 0, 1, 4, 4, 1, 1, 0, 4, 1, 1, 0, 4, 1])) (ay := .n) (l := [1, 4, 5, 6, 12, 13, 14, 22]) (by kernel_rfl) (by kernel_rfl)).trans ?_
  refine M110_8_ok ?_ x1 x4 x5 x6 x7 x12 x13 x14 H
  intro x1 x4 x5 x6 x12 x13 x14 x22 H
  refine M110_9_ok ?_ x1 x4 x5 x6 x12 x13 x14 x22 H
  intro x1 x4 x5 x12 x13 x14 H
  refine (run_seq (x := (cAt Tryz.f110 [1, 4, 1, 1, 0, 1, 4, 4, 1, 1, 0, 4, 1, 1, 1, 0])) (ax := A110_15) (y := (cAt Tryz.f110 [1, 4, 1, 1, 0, 1, 4, 4, 1, 1, 0, 4, 1, 1, 1, 1])) (ay := .n) (l := [1, 4, 12, 13, 14]) (by kernel_rfl) (by kernel_rfl)).trans ?_
  refine (run_seq (x := (cAt Tryz.f110 [1, 4, 1, 1, 0, 1, 4, 4, 1, 1, 0, 4, 1, 1, 1, 0, 0])) (ax := .n) (y := (cAt Tryz.f110 [1, 4, 1, 1, 0, 1, 4, 4, 1, 1, 0, 4, 1, 1, 1, 0, 1])) (ay := (.b none A110_13)) (l := [1, 4, 5, 12, 13, 14, 62, 63]) (by kernel_rfl) (by kernel_rfl)).trans ?_
  refine M110_11_ok ?_ x1 x4 x5 x12 x13 x14 H
  intro x1 x4 x5 x12 x13 x14 x62 x63 H
  refine (run_block (id := 3) (x := (cAt Tryz.f110 [1, 4, 1, 1, 0, 1, 4, 4, 1, 1, 0, 4, 1, 1, 1, 0, 1, 4])) (ax := A110_13) (by kernel_rfl) (by kernel_rfl)).trans ?_
  refine (run_loop (x := (cAt Tryz.f110 [1, 4, 1, 1, 0, 1, 4, 4, 1, 1, 0, 4, 1, 1, 1, 0, 1, 4, 4])) (ax := .n) (l := [1, 4, 5, 12, 13, 14, 62, 63]) (by kernel_rfl) (by kernel_rfl) (by kernel_rfl)).trans ?_
  refine M110_14_ok ?_ N x1 x4 x5 x12 x13 x14 x62 x63 H
  intro x1 x4 x12 x13 x14 H
  refine M110_16_ok ?_ x1 x4 x12 x13 x14 H
  intro x1 x4 x12 x13 x14 H
  exact M110_21_ok hJ x1 x4 x12 x13 x14 H
def A110_26 : An := .l (some (lvOf [1, 4, 12, 13, 14])) A110_24
def M110_27 (o : Orc) (N : Nat) (X0 : Heap → Ans) (κ : Kv) (n : Nat) : Nat → Int → V → Int → Int → Heap → Ans :=
  Nat.rec (motive := fun _ => Nat → Int → V → Int → Int → Heap → Ans) (fun _ _ _ _ _ _ => none) (fun _ ih x1 x4 x12 x13 x14 H => M110_25 o N X0 ih κ x1 x4 x12 x13 x14 H) n
theorem M110_27_s (o : Orc) (N : Nat) (X0 : Heap → Ans) (κ : Kv) (n : Nat) (x1 : Nat) (x4 : Int) (x12 : V) (x13 x14 : Int) (H : Heap) : M110_27 o N X0 κ (n + 1) x1 x4 x12 x13 x14 H = M110_25 o N X0 (M110_27 o N X0 κ n) κ x1 x4 x12 x13 x14 H := rfl
theorem M110_27_ok {o : Orc} {N : Nat} {κ : Kv} {X0 : Kt} {X0' : Heap → Ans} (h0 : ∀  H, X0 (tmk 0 74 []) H = X0' H) (n : Nat) : ∀ (x1 : Nat) (x4 : Int) (x12 : V) (x13 x14 : Int) (H : Heap),
    rounds (fun a H k => run Tryz.prog o N (cAt Tryz.f110 [1, 4, 1, 1, 0, 1, 4, 4]) A110_24 ((env0 Tryz.prog Tryz.f110 κ).block 0 (kj [] X0)) a H k) (some (lvOf [1, 4, 12, 13, 14])) n (tmk 0 74 [(1, .ptr x1 0), (4, .int .i64 x4), (12, x12), (13, .int .i64 x13), (14, .int .i64 x14)]) H = M110_27 o N X0' κ n x1 x4 x12 x13 x14 H := by
  induction n with
  | zero => intros; rfl
  | succ n ih =>
    intro x1 x4 x12 x13 x14 H
    refine (run_round.trans ?_).trans (M110_27_s ..).symm
    exact M110_25_ok h0 ih x1 x4 x12 x13 x14 H
def A110_28 : An := .s .n (some (lvOf [1, 4, 12, 13, 14])) (.b none A110_26)
def M110_29 (o : Orc) (N : Nat) (κ : Kv) (H : Heap) : Ans :=
  κ (.tup [(.int .i64 0), (.int .i64 0)]) H
theorem M110_29_ok {o : Orc} {N : Nat} {κ : Kv} (H : Heap) :
    run Tryz.prog o N (cAt Tryz.f110 [1, 4, 1, 1, 1]) .n (env0 Tryz.prog Tryz.f110 κ) (tmk 0 74 []) H (env0 Tryz.prog Tryz.f110 κ).ret = M110_29 o N κ  H := by
  kernel_rfl
def A110_30 : An := .s .n (some (lvOf [1, 4])) (.s A110_28 (some (lvOf [])) .n)
def A110_31 : An := .s .n (some (lvOf [1])) (.s .n (some (lvOf [1, 4])) A110_30)
def M110 (o : Orc) (N : Nat) : FnM := fun vs H κ => match vs with
  | [.agg x0] => M110_0 o N (fun x1 H => M110_1 o N (fun x1 x4 H => M110_2 o N (fun x1 x4 H => M110_3 o N (fun x1 x4 x12 x13 x14 H => M110_27 o N (fun H => M110_29 o N κ  H) κ N x1 x4 x12 x13 x14 H) κ x1 x4 H) κ x1 x4 H) κ x1 H) κ x0 H
  | _ => none
theorem M110_run (o : Orc) (N : Nat) (vs : List V) (H : Heap) (κ : Kv) (r) (h : M110 o N vs H κ = some r) : runFn Tryz.prog o N Tryz.f110 A110_31 vs H κ = some r := by
  unfold M110 at h
  split at h
  · rename_i x0
    refine (runFn_at (t := tmk 0 74 [(0, .agg x0)]) (by kernel_rfl) (by kernel_rfl)).trans (Eq.trans ?_ h)
    refine (run_seq (x := (cAt Tryz.f110 [0])) (ax := .n) (y := (cAt Tryz.f110 [1])) (ay := (.s .n (some (lvOf [1, 4])) A110_30)) (l := [1]) (by kernel_rfl) (by kernel_rfl)).trans ?_
    refine M110_0_ok ?_ x0 H
    intro x1 H
    refine (run_scope (x := (cAt Tryz.f110 [1, 4])) (by kernel_rfl)).trans ?_
    refine (run_seq (x := (cAt Tryz.f110 [1, 4, 0])) (ax := .n) (y := (cAt Tryz.f110 [1, 4, 1])) (ay := A110_30) (l := [1, 4]) (by kernel_rfl) (by kernel_rfl)).trans ?_
    refine M110_1_ok ?_ x1 H
    intro x1 x4 H
    refine (run_seq (x := (cAt Tryz.f110 [1, 4, 1, 0])) (ax := .n) (y := (cAt Tryz.f110 [1, 4, 1, 1])) (ay := (.s A110_28 (some (lvOf [])) .n)) (l := [1, 4]) (by kernel_rfl) (by kernel_rfl)).trans ?_
    refine M110_2_ok ?_ x1 x4 H
    intro x1 x4 H
    refine (run_seq (x := (cAt Tryz.f110 [1, 4, 1, 1, 0])) (ax := A110_28) (y := (cAt Tryz.f110 [1, 4, 1, 1, 1])) (ay := .n) (l := []) (by kernel_rfl) (by kernel_rfl)).trans ?_
    refine (run_seq (x := (cAt Tryz.f110 [1, 4, 1, 1, 0, 0])) (ax := .n) (y := (cAt Tryz.f110 [1, 4, 1, 1, 0, 1])) (ay := (.b none A110_26)) (l := [1, 4, 12, 13, 14]) (by kernel_rfl) (by kernel_rfl)).trans ?_
    refine M110_3_ok ?_ x1 x4 H
    intro x1 x4 x12 x13 x14 H
    refine (run_block (id := 0) (x := (cAt Tryz.f110 [1, 4, 1, 1, 0, 1, 4])) (ax := A110_26) (by kernel_rfl) (by kernel_rfl)).trans ?_
    refine (run_loop (x := (cAt Tryz.f110 [1, 4, 1, 1, 0, 1, 4, 4])) (ax := A110_24) (l := [1, 4, 12, 13, 14]) (by kernel_rfl) (by kernel_rfl) (by kernel_rfl)).trans ?_
    refine M110_27_ok ?_ N x1 x4 x12 x13 x14 H
    intro H
    exact M110_29_ok  H
  · cases h
theorem M110_sound {o : Orc} (ho : ∀ f, FSound Tryz.prog f (o f)) (N : Nat) : FSound Tryz.prog 110 (M110 o N) :=
  FSound.sub (runFn_ok (an := A110_31) (fuel := N) hmix ho (by kernel_rfl) (by kernel_rfl)) (M110_run o N)
/-! 111 slices.Index[[]int,int] -/
def M111_0 (o : Orc) (N : Nat) (J : V → Int → Heap → Ans) (κ : Kv) (x0 : V) (x1 : Int) (H : Heap) : Ans :=
  J x0 x1 H
theorem M111_0_ok {o : Orc} {N : Nat} {κ : Kv} {J : Kt} {J' : V → Int → Heap → Ans} (hJ : ∀ x0 x1 H, J (tmk 0 19 [(0, x0), (1, .int .i64 x1)]) H = J' x0 x1 H) (x0 : V) (x1 : Int) (H : Heap) :
    run Tryz.prog o N (cAt Tryz.f111 [0]) .n (env0 Tryz.prog Tryz.f111 κ) (tmk 0 19 [(0, x0), (1, .int .i64 x1)]) H (kj [0, 1] J) = M111_0 o N J' κ x0 x1 H := by
  obtain rfl := fx3 hJ
  kernel_rfl
def M111_1 (o : Orc) (N : Nat) (J : V → Int → Int → Int → Heap → Ans) (κ : Kv) (x0 : V) (x1 : Int) (H : Heap) : Ans :=
  lenS x0 fun n1 =>
  J x0 x1 n1 0 H
theorem M111_1_ok {o : Orc} {N : Nat} {κ : Kv} {J : Kt} {J' : V → Int → Int → Int → Heap → Ans} (hJ : ∀ x0 x1 x7 x8 H, J (tmk 0 19 [(0, x0), (1, .int .i64 x1), (7, .int .i64 x7), (8, .int .i64 x8)]) H = J' x0 x1 x7 x8 H) (x0 : V) (x1 : Int) (H : Heap) :
    run Tryz.prog o N (cAt Tryz.f111 [1, 0, 0]) .n (env0 Tryz.prog Tryz.f111 κ) (tmk 0 19 [(0, x0), (1, .int .i64 x1)]) H (kj [0, 1, 7, 8] J) = M111_1 o N J' κ x0 x1 H := by
  obtain rfl := fx5 hJ
  kernel_rfl
def M111_2 (o : Orc) (N : Nat) (X0 : Heap → Ans) (J : V → Int → Int → Int → Heap → Ans) (κ : Kv) (x0 : V) (x1 x7 x8 : Int) (H : Heap) : Ans :=
  cond (decide (x8 < x7)) (
  idxS 1 x0 x8 fun p2 o3 =>
  (ldI H .i64 p2 o3).bind fun n4 =>
  cond (x1 == n4) (
  κ (.int .i64 x8) H) (
  J x0 x1 x7 (IntKind.i64.wrap (x8 + 1)) H)) (
  X0  H)
theorem M111_2_ok {o : Orc} {N : Nat} {κ : Kv} {X0 J : Kt} {X0' : Heap → Ans} {J' : V → Int → Int → Int → Heap → Ans} (h0 : ∀  H, X0 (tmk 0 19 []) H = X0' H) (hJ : ∀ x0 x1 x7 x8 H, J (tmk 0 19 [(0, x0), (1, .int .i64 x1), (7, .int .i64 x7), (8, .int .i64 x8)]) H = J' x0 x1 x7 x8 H) (x0 : V) (x1 x7 x8 : Int) (H : Heap) :
    run Tryz.prog o N (cAt Tryz.f111 [1, 0, 1, 4, 4]) .n ((env0 Tryz.prog Tryz.f111 κ).block 0 (kj [] X0)) (tmk 0 19 [(0, x0), (1, .int .i64 x1), (7, .int .i64 x7), (8, .int .i64 x8)]) H (kj [0, 1, 7, 8] J) = M111_2 o N X0' J' κ x0 x1 x7 x8 H := by
  obtain rfl := fx1 h0
  obtain rfl := fx5 hJ
  kernel_rfl
def M111_3 (o : Orc) (N : Nat) (X0 : Heap → Ans) (κ : Kv) (n : Nat) : V → Int → Int → Int → Heap → Ans :=
  Nat.rec (motive := fun _ => V → Int → Int → Int → Heap → Ans) (fun _ _ _ _ _ => none) (fun _ ih x0 x1 x7 x8 H => M111_2 o N X0 ih κ x0 x1 x7 x8 H) n
theorem M111_3_s (o : Orc) (N : Nat) (X0 : Heap → Ans) (κ : Kv) (n : Nat) (x0 : V) (x1 x7 x8 : Int) (H : Heap) : M111_3 o N X0 κ (n + 1) x0 x1 x7 x8 H = M111_2 o N X0 (M111_3 o N X0 κ n) κ x0 x1 x7 x8 H := rfl
theorem M111_3_ok {o : Orc} {N : Nat} {κ : Kv} {X0 : Kt} {X0' : Heap → Ans} (h0 : ∀  H, X0 (tmk 0 19 []) H = X0' H) (n : Nat) : ∀ (x0 : V) (x1 x7 x8 : Int) (H : Heap),
    rounds (fun a H k => run Tryz.prog o N (cAt Tryz.f111 [1, 0, 1, 4, 4]) .n ((env0 Tryz.prog Tryz.f111 κ).block 0 (kj [] X0)) a H k) (some (lvOf [0, 1, 7, 8])) n (tmk 0 19 [(0, x0), (1, .int .i64 x1), (7, .int .i64 x7), (8, .int .i64 x8)]) H = M111_3 o N X0' κ n x0 x1 x7 x8 H := by
  induction n with
  | zero => intros; rfl
  | succ n ih =>
    intro x0 x1 x7 x8 H
    refine (run_round.trans ?_).trans (M111_3_s ..).symm
    exact M111_2_ok h0 ih x0 x1 x7 x8 H
def A111_4 : An := .b none (.l (some (lvOf [0, 1, 7, 8])) .n)
def M111_5 (o : Orc) (N : Nat) (κ : Kv) (H : Heap) : Ans :=
  κ (.int .i64 (-1)) H
theorem M111_5_ok {o : Orc} {N : Nat} {κ : Kv} (H : Heap) :
    run Tryz.prog o N (cAt Tryz.f111 [1, 1]) .n (env0 Tryz.prog Tryz.f111 κ) (tmk 0 19 []) H (env0 Tryz.prog Tryz.f111 κ).ret = M111_5 o N κ  H := by
  kernel_rfl
def A111_6 : An := .s (.s .n (some (lvOf [0, 1, 7, 8])) A111_4) (some (lvOf [])) .n
def M111 (o : Orc) (N : Nat) : FnM := fun vs H κ => match vs with
  | [x0, .int .i64 x1] => M111_0 o N (fun x0 x1 H => M111_1 o N (fun x0 x1 x7 x8 H => M111_3 o N (fun H => M111_5 o N κ  H) κ N x0 x1 x7 x8 H) κ x0 x1 H) κ x0 x1 H
  | _ => none
theorem M111_run (o : Orc) (N : Nat) (vs : List V) (H : Heap) (κ : Kv) (r) (h : M111 o N vs H κ = some r) : runFn Tryz.prog o N Tryz.f111 (.s .n (some (lvOf [0, 1])) A111_6) vs H κ = some r := by
  unfold M111 at h
  split at h
  · rename_i x0 x1
    refine (runFn_at (t := tmk 0 19 [(0, x0), (1, .int .i64 x1)]) (by kernel_rfl) (by kernel_rfl)).trans (Eq.trans ?_ h)
    refine (run_seq (x := (cAt Tryz.f111 [0])) (ax := .n) (y := (cAt Tryz.f111 [1])) (ay := A111_6) (l := [0, 1]) (by kernel_rfl) (by kernel_rfl)).trans ?_
    refine M111_0_ok ?_ x0 x1 H
    intro x0 x1 H
    refine (run_seq (x := (cAt Tryz.f111 [1, 0])) (ax := (.s .n (some (lvOf [0, 1, 7, 8])) A111_4)) (y := (cAt Tryz.f111 [1, 1])) (ay := .n) (l := []) (by kernel_rfl) (by kernel_rfl)).trans ?_
    refine (run_seq (x := (cAt Tryz.f111 [1, 0, 0])) (ax := .n) (y := (cAt Tryz.f111 [1, 0, 1])) (ay := A111_4) (l := [0, 1, 7, 8]) (by kernel_rfl) (by kernel_rfl)).trans ?_
    refine M111_1_ok ?_ x0 x1 H
    intro x0 x1 x7 x8 H
    refine (run_block (id := 0) (x := (cAt Tryz.f111 [1, 0, 1, 4])) (ax := (.l (some (lvOf [0, 1, 7, 8])) .n)) (by kernel_rfl) (by kernel_rfl)).trans ?_
    refine (run_loop (x := (cAt Tryz.f111 [1, 0, 1, 4, 4])) (ax := .n) (l := [0, 1, 7, 8]) (by kernel_rfl) (by kernel_rfl) (by kernel_rfl)).trans ?_
    refine M111_3_ok ?_ N x0 x1 x7 x8 H
    intro H
    exact M111_5_ok  H
  · cases h
theorem M111_sound {o : Orc} (ho : ∀ f, FSound Tryz.prog f (o f)) (N : Nat) : FSound Tryz.prog 111 (M111 o N) :=
  FSound.sub (runFn_ok (an := (.s .n (some (lvOf [0, 1])) A111_6)) (fuel := N) hmix ho (by kernel_rfl) (by kernel_rfl)) (M111_run o N)
/-! 112 ostinato/matrix.Copy -/
def A112_0 : An := (.s .n none (.s (.d [0, 1, 3, 4, 6, 7, 2, 9, 5, 8, 10, 11, 12, 13, 14]) none .n))
def M112_1 (o : Orc) (N : Nat) (κ : Kv) (x0 : List V) (H : Heap) : Ans :=
  cond (List.all x0 V.one) (
  newB H (.row x0) fun i1 H2 =>
  newB H2 (.row [(.int .i64 0), (.int .i64 0), (.int .i64 0), (.int .i64 0), (.int .i64 0), (.int .i64 0), (.int .i64 0), (.int .u32 0), .nils, .nils, .nils]) fun i3 H4 =>
  (ldV (Heap.skip H4 15) i1 8).bind fun v5 =>
  (ldV (Heap.skip H4 15) i1 9).bind fun v6 =>
  (ldV (Heap.skip H4 15) i1 10).bind fun v7 =>
  o 188 [v5] (Heap.skip H4 15) fun v8 H9 =>
  (ldV H9 i1 10).bind fun v10 =>
  cond (V.same v7 v10) (
  (ldV H9 i1 9).bind fun v11 =>
  cond (V.same v6 v11) (
  o 189 [v6] H9 fun v12 H13 =>
  (ldV H13 i1 10).bind fun v14 =>
  cond (V.same v7 v14) (
  o 190 [v7] H13 fun v15 H16 =>
  cond (Nat.beq (List.length (V.cells v8)) 1 && Nat.blt 0 1) (
  (stN H16 i1 8 (V.cells v8)).bind fun H17 =>
  cond (Nat.beq (List.length (V.cells v12)) 1 && Nat.blt 0 1) (
  (stN H17 i1 9 (V.cells v12)).bind fun H18 =>
  cond (Nat.beq (List.length (V.cells v15)) 1 && Nat.blt 0 1) (
  (stN H18 i1 10 (V.cells v15)).bind fun H19 =>
  ldFlat H19 i1 [.int .i64, .int .i64, .int .i64, .int .i64, .int .i64, .int .i64, .int .i64, .int .u32, .oth, .oth, .oth] 0 fun l20 =>
  cond (Nat.beq (List.length l20) 11 && Nat.blt 0 11) (
  (stN H19 i3 0 l20).bind fun H21 =>
  ldFlat H21 i3 [.int .i64, .int .i64, .int .i64, .int .i64, .int .i64, .int .i64, .int .i64, .int .u32, .oth, .oth, .oth] 0 fun l22 =>
  κ (.agg l22) H21) none) none) none) none) none) none) none) none
theorem M112_1_ok {o : Orc} {N : Nat} {κ : Kv} (x0 : List V) (H : Heap) :
    run Tryz.prog o N (cAt Tryz.f112 []) A112_0 (env0 Tryz.prog Tryz.f112 κ) (tmk 0 16 [(0, .agg x0)]) H (env0 Tryz.prog Tryz.f112 κ).ret = M112_1 o N κ x0 H := by
  kernel_rfl
def M112 (o : Orc) (N : Nat) : FnM := fun vs H κ => match vs with
  | [.agg x0] => M112_1 o N κ x0 H
  | _ => none
theorem M112_run (o : Orc) (N : Nat) (vs : List V) (H : Heap) (κ : Kv) (r) (h : M112 o N vs H κ = some r) : runFn Tryz.prog o N Tryz.f112 A112_0 vs H κ = some r := by
  unfold M112 at h
  split at h
  · rename_i x0
    refine (runFn_at (t := tmk 0 16 [(0, .agg x0)]) (by kernel_rfl) (by kernel_rfl)).trans (Eq.trans ?_ h)
    exact M112_1_ok x0 H
  · cases h
theorem M112_sound {o : Orc} (ho : ∀ f, FSound Tryz.prog f (o f)) (N : Nat) : FSound Tryz.prog 112 (M112 o N) :=
  FSound.sub (runFn_ok (an := A112_0) (fuel := N) hmix ho (by kernel_rfl) (by kernel_rfl)) (M112_run o N)
/-! 113 ostinato/queue.New -/
def M113_0 (o : Orc) (N : Nat) (κ : Kv) (x0 : Int) (H : Heap) : Ans :=
  cond (decide (0 ≤ (if 4 < (if 1 > x0 then 1 else x0) then 4 else (if 1 > x0 then 1 else x0))) && decide ((if 4 < (if 1 > x0 then 1 else x0) then 4 else (if 1 > x0 then 1 else x0)) ≤ 4096) && Nat.ble 24 1024 && true) (
  newB H (.chan 0) fun i1 H2 =>
  newB H2 (.row [(.chan i1)]) fun i3 H4 =>
  κ (.ptr i3 0) H4) none
theorem M113_0_ok {o : Orc} {N : Nat} {κ : Kv} (x0 : Int) (H : Heap) :
    run Tryz.prog o N (cAt Tryz.f113 []) .n (env0 Tryz.prog Tryz.f113 κ) (tmk 0 9 [(0, .int .i64 x0)]) H (env0 Tryz.prog Tryz.f113 κ).ret = M113_0 o N κ x0 H := by
  kernel_rfl
def M113 (o : Orc) (N : Nat) : FnM := fun vs H κ => match vs with
  | [.int .i64 x0] => M113_0 o N κ x0 H
  | _ => none
theorem M113_run (o : Orc) (N : Nat) (vs : List V) (H : Heap) (κ : Kv) (r) (h : M113 o N vs H κ = some r) : runFn Tryz.prog o N Tryz.f113 .n vs H κ = some r := by
  unfold M113 at h
  split at h
  · rename_i x0
    refine (runFn_at (t := tmk 0 9 [(0, .int .i64 x0)]) (by kernel_rfl) (by kernel_rfl)).trans (Eq.trans ?_ h)
    exact M113_0_ok x0 H
  · cases h
theorem M113_sound {o : Orc} (ho : ∀ f, FSound Tryz.prog f (o f)) (N : Nat) : FSound Tryz.prog 113 (M113 o N) :=
  FSound.sub (runFn_ok (an := .n) (fuel := N) hmix ho (by kernel_rfl) (by kernel_rfl)) (M113_run o N)
/-! 114 ostinato/master.nothing -/
def M114_0 (o : Orc) (N : Nat) (κ : Kv) (H : Heap) : Ans :=
  newB H (.row [(.int .i64 0), (.int .i64 0)]) fun i1 H2 =>
  (stN H2 i1 0 [(.int .i64 0), (.int .i64 (-1))]).bind fun H3 =>
  ldFlat H3 i1 [.int .i64, .int .i64] 0 fun l4 =>
  κ (.agg l4) H3
theorem M114_0_ok {o : Orc} {N : Nat} {κ : Kv} (H : Heap) :
    run Tryz.prog o N (cAt Tryz.f114 []) .n (env0 Tryz.prog Tryz.f114 κ) (tmk 0 2 []) H (env0 Tryz.prog Tryz.f114 κ).ret = M114_0 o N κ  H := by
  kernel_rfl
def M114 (o : Orc) (N : Nat) : FnM := fun vs H κ => match vs with
  | [] => M114_0 o N κ  H
  | _ => none
theorem M114_run (o : Orc) (N : Nat) (vs : List V) (H : Heap) (κ : Kv) (r) (h : M114 o N vs H κ = some r) : runFn Tryz.prog o N Tryz.f114 .n vs H κ = some r := by
  unfold M114 at h
  split at h
  · refine (runFn_at (t := tmk 0 2 []) (by kernel_rfl) (by kernel_rfl)).trans (Eq.trans ?_ h)
    exact M114_0_ok  H
  · cases h
theorem M114_sound {o : Orc} (ho : ∀ f, FSound Tryz.prog f (o f)) (N : Nat) : FSound Tryz.prog 114 (M114 o N) :=
  FSound.sub (runFn_ok (an := .n) (fuel := N) hmix ho (by kernel_rfl) (by kernel_rfl)) (M114_run o N)
/-! 115 ostinato/plan.Plan -/
def M115_0 (o : Orc) (N : Nat) (J : Int → Nat → Heap → Ans) (κ : Kv) (x0 : List V) (x1 : Int) (H : Heap) : Ans :=
  cond (List.all x0 V.one) (
  newB H (.row x0) fun i1 H2 =>
  J x1 i1 H2) none
theorem M115_0_ok {o : Orc} {N : Nat} {κ : Kv} {J : Kt} {J' : Int → Nat → Heap → Ans} (hJ : ∀ x1 x2 H, J (tmk 0 59 [(1, .int .i64 x1), (2, .ptr x2 0)]) H = J' x1 x2 H) (x0 : List V) (x1 : Int) (H : Heap) :
    run Tryz.prog o N (cAt Tryz.f115 [0]) .n (env0 Tryz.prog Tryz.f115 κ) (tmk 0 59 [(0, .agg x0), (1, .int .i64 x1)]) H (kj [1, 2] J) = M115_0 o N J' κ x0 x1 H := by
  obtain rfl := fx3 hJ
  kernel_rfl
def M115_1 (o : Orc) (N : Nat) (J : Int → Nat → Heap → Ans) (κ : Kv) (x1 : Int) (x2 : Nat) (H : Heap) : Ans :=
  ldFlat H x2 [.int .i64, .int .i64, .int .i64, .int .i64, .int .i64, .int .i64, .int .i64, .int .u32, .oth, .oth, .oth] 0 fun l3 =>
  o 59 [(.agg l3)] H fun v4 H5 =>
  asT2 v4 fun v6 v7 =>
  asI .i64 v6 fun n8 =>
  asI .i64 v7 fun n9 =>
  cond (n9 != 0) (
  κ .nils H5) (
  J x1 x2 H5)
theorem M115_1_ok {o : Orc} {N : Nat} {κ : Kv} {J : Kt} {J' : Int → Nat → Heap → Ans} (hJ : ∀ x1 x2 H, J (tmk 0 59 [(1, .int .i64 x1), (2, .ptr x2 0)]) H = J' x1 x2 H) (x1 : Int) (x2 : Nat) (H : Heap) :
    run Tryz.prog o N (cAt Tryz.f115 [1, 4, 0]) .n (env0 Tryz.prog Tryz.f115 κ) (tmk 0 59 [(1, .int .i64 x1), (2, .ptr x2 0)]) H (kj [1, 2] J) = M115_1 o N J' κ x1 x2 H := by
  obtain rfl := fx3 hJ
  kernel_rfl
def M115_2 (o : Orc) (N : Nat) (J : Int → Nat → Nat → Heap → Ans) (κ : Kv) (x1 : Int) (x2 : Nat) (H : Heap) : Ans :=
  newB H (.row [.nils]) fun i10 H11 =>
  J x1 x2 i10 H11
theorem M115_2_ok {o : Orc} {N : Nat} {κ : Kv} {J : Kt} {J' : Int → Nat → Nat → Heap → Ans} (hJ : ∀ x1 x2 x7 H, J (tmk 0 59 [(1, .int .i64 x1), (2, .ptr x2 0), (7, .ptr x7 0)]) H = J' x1 x2 x7 H) (x1 : Int) (x2 : Nat) (H : Heap) :
    run Tryz.prog o N (cAt Tryz.f115 [1, 4, 1, 0]) .n (env0 Tryz.prog Tryz.f115 κ) (tmk 0 59 [(1, .int .i64 x1), (2, .ptr x2 0)]) H (kj [1, 2, 7] J) = M115_2 o N J' κ x1 x2 H := by
  obtain rfl := fx4 hJ
  kernel_rfl
def M115_3 (o : Orc) (N : Nat) (J : Int → Nat → Nat → Heap → Ans) (κ : Kv) (x1 : Int) (x2 x7 : Nat) (H : Heap) : Ans :=
  J x1 x2 x7 H
theorem M115_3_ok {o : Orc} {N : Nat} {κ : Kv} {J : Kt} {J' : Int → Nat → Nat → Heap → Ans} (hJ : ∀ x1 x2 x7 H, J (tmk 0 59 [(1, .int .i64 x1), (2, .ptr x2 0), (7, .ptr x7 0)]) H = J' x1 x2 x7 H) (x1 : Int) (x2 x7 : Nat) (H : Heap) :
    run Tryz.prog o N (cAt Tryz.f115 [1, 4, 1, 1, 0]) .n (env0 Tryz.prog Tryz.f115 κ) (tmk 0 59 [(1, .int .i64 x1), (2, .ptr x2 0), (7, .ptr x7 0)]) H (kj [1, 2, 7] J) = M115_3 o N J' κ x1 x2 x7 H := by
  obtain rfl := fx4 hJ
  kernel_rfl
def M115_4 (o : Orc) (N : Nat) (J : Int → Nat → Nat → V → Int → Int → Heap → Ans) (κ : Kv) (x1 : Int) (x2 x7 : Nat) (H : Heap) : Ans :=
  (ldV H x2 10).bind fun v12 =>
  lenS v12 fun n13 =>
  J x1 x2 x7 v12 n13 0 H
theorem M115_4_ok {o : Orc} {N : Nat} {κ : Kv} {J : Kt} {J' : Int → Nat → Nat → V → Int → Int → Heap → Ans} (hJ : ∀ x1 x2 x7 x20 x21 x22 H, J (tmk 0 59 [(1, .int .i64 x1), (2, .ptr x2 0), (7, .ptr x7 0), (20, x20), (21, .int .i64 x21), (22, .int .i64 x22)]) H = J' x1 x2 x7 x20 x21 x22 H) (x1 : Int) (x2 x7 : Nat) (H : Heap) :
    run Tryz.prog o N (cAt Tryz.f115 [1, 4, 1, 1, 1, 0, 0]) .n (env0 Tryz.prog Tryz.f115 κ) (tmk 0 59 [(1, .int .i64 x1), (2, .ptr x2 0), (7, .ptr x7 0)]) H (kj [1, 2, 7, 20, 21, 22] J) = M115_4 o N J' κ x1 x2 x7 H := by
  obtain rfl := fx7 hJ
  kernel_rfl
def A115_5 : An := (.s .n none (.s .n none (.s (.b none (.s .n none (.s .n none (.d [0, 1, 2, 3, 4, 5, 6, 7])))) none .n)))
def M115_6 (o : Orc) (N : Nat) (X0 : Int → Nat → Nat → Heap → Ans) (J : Int → Nat → Nat → V → Int → Int → Heap → Ans) (κ : Kv) (x1 : Int) (x2 x7 : Nat) (x20 : V) (x21 x22 : Int) (H : Heap) : Ans :=
  cond (decide (x22 < x21)) (
  idxS 6 x20 x22 fun p14 o15 =>
  ldFlat H p14 [.int .i64, .int .i64, .int .i64, .int .i64, .int .i64, .int .i64] o15 fun l16 =>
  newB H (.row [(.int .i64 0), (.int .i64 0), (.int .i64 0), (.int .i64 0), (.int .i64 0), (.int .i64 0)]) fun i17 H18 =>
  cond (Nat.beq (List.length l16) 6 && Nat.blt 0 6) (
  (stN H18 i17 0 l16).bind fun H19 =>
  (ldI H19 .i64 i17 0).bind fun n20 =>
  cond (n20 == 3) (
  J x1 x2 x7 x20 x21 (IntKind.i64.wrap (x22 + 1)) H19) (
  (ldV (Heap.skip H19 8) x7 0).bind fun v21 =>
  ldFlat (Heap.skip H19 8) x2 [.int .i64, .int .i64, .int .i64, .int .i64, .int .i64, .int .i64, .int .i64, .int .u32, .oth, .oth, .oth] 0 fun l22 =>
  ldFlat (Heap.skip H19 8) i17 [.int .i64, .int .i64, .int .i64, .int .i64, .int .i64, .int .i64] 0 fun l23 =>
  o 191 [(.agg l22), (.int .i64 x1), (.agg l23)] (Heap.skip H19 8) fun v24 H25 =>
  asA v24 fun l26 =>
  (ldV H25 x7 0).bind fun v27 =>
  cond (V.same v21 v27) (
  (fillV (fun i => some (i * 6, 6)) [(.int .i64 0), (.int .i64 0), (.int .i64 0), (.int .i64 0), (.int .i64 0), (.int .i64 0)] [(0, (.agg l26))]).bind fun l28 =>
  appV (Heap.newAt H25 (H19.next + 5) (.row l28)) v21 (.sl (H19.next + 5) 0 1 6 true) 6 fun v29 H30 =>
  cond (Nat.beq (List.length (V.cells v29)) 1 && Nat.blt 0 1) (
  (stN H30 x7 0 (V.cells v29)).bind fun H31 =>
  J x1 x2 x7 x20 x21 (IntKind.i64.wrap (x22 + 1)) H31) none) none)) none) (
  X0 x1 x2 x7 H)
theorem M115_6_ok {o : Orc} {N : Nat} {κ : Kv} {X0 J : Kt} {X0' : Int → Nat → Nat → Heap → Ans} {J' : Int → Nat → Nat → V → Int → Int → Heap → Ans} (h0 : ∀ x1 x2 x7 H, X0 (tmk 0 59 [(1, .int .i64 x1), (2, .ptr x2 0), (7, .ptr x7 0)]) H = X0' x1 x2 x7 H) (hJ : ∀ x1 x2 x7 x20 x21 x22 H, J (tmk 0 59 [(1, .int .i64 x1), (2, .ptr x2 0), (7, .ptr x7 0), (20, x20), (21, .int .i64 x21), (22, .int .i64 x22)]) H = J' x1 x2 x7 x20 x21 x22 H) (x1 : Int) (x2 x7 : Nat) (x20 : V) (x21 x22 : Int) (H : Heap) :
    run Tryz.prog o N (cAt Tryz.f115 [1, 4, 1, 1, 1, 0, 1, 4, 4]) A115_5 ((env0 Tryz.prog Tryz.f115 κ).block 0 (kj [1, 2, 7] X0)) (tmk 0 59 [(1, .int .i64 x1), (2, .ptr x2 0), (7, .ptr x7 0), (20, x20), (21, .int .i64 x21), (22, .int .i64 x22)]) H (kj [1, 2, 7, 20, 21, 22] J) = M115_6 o N X0' J' κ x1 x2 x7 x20 x21 x22 H := by
  obtain rfl := fx4 h0
  obtain rfl := fx7 hJ
  kernel_rfl
def A115_7 : An := .l (some (lvOf [1, 2, 7, 20, 21, 22])) A115_5
def M115_8 (o : Orc) (N : Nat) (X0 : Int → Nat → Nat → Heap → Ans) (κ : Kv) (n : Nat) : Int → Nat → Nat → V → Int → Int → Heap → Ans :=
  Nat.rec (motive := fun _ => Int → Nat → Nat → V → Int → Int → Heap → Ans) (fun _ _ _ _ _ _ _ => none) (fun _ ih x1 x2 x7 x20 x21 x22 H => M115_6 o N X0 ih κ x1 x2 x7 x20 x21 x22 H) n
theorem M115_8_s (o : Orc) (N : Nat) (X0 : Int → Nat → Nat → Heap → Ans) (κ : Kv) (n : Nat) (x1 : Int) (x2 x7 : Nat) (x20 : V) (x21 x22 : Int) (H : Heap) : M115_8 o N X0 κ (n + 1) x1 x2 x7 x20 x21 x22 H = M115_6 o N X0 (M115_8 o N X0 κ n) κ x1 x2 x7 x20 x21 x22 H := rfl
theorem M115_8_ok {o : Orc} {N : Nat} {κ : Kv} {X0 : Kt} {X0' : Int → Nat → Nat → Heap → Ans} (h0 : ∀ x1 x2 x7 H, X0 (tmk 0 59 [(1, .int .i64 x1), (2, .ptr x2 0), (7, .ptr x7 0)]) H = X0' x1 x2 x7 H) (n : Nat) : ∀ (x1 : Int) (x2 x7 : Nat) (x20 : V) (x21 x22 : Int) (H : Heap),
    rounds (fun a H k => run Tryz.prog o N (cAt Tryz.f115 [1, 4, 1, 1, 1, 0, 1, 4, 4]) A115_5 ((env0 Tryz.prog Tryz.f115 κ).block 0 (kj [1, 2, 7] X0)) a H k) (some (lvOf [1, 2, 7, 20, 21, 22])) n (tmk 0 59 [(1, .int .i64 x1), (2, .ptr x2 0), (7, .ptr x7 0), (20, x20), (21, .int .i64 x21), (22, .int .i64 x22)]) H = M115_8 o N X0' κ n x1 x2 x7 x20 x21 x22 H := by
  induction n with
  | zero => intros; rfl
  | succ n ih =>
    intro x1 x2 x7 x20 x21 x22 H
    refine (run_round.trans ?_).trans (M115_8_s ..).symm
    exact M115_6_ok h0 ih x1 x2 x7 x20 x21 x22 H
def A115_9 : An := .s .n (some (lvOf [1, 2, 7, 20, 21, 22])) (.b none A115_7)
def M115_10 (o : Orc) (N : Nat) (κ : Kv) (x1 : Int) (x2 x7 : Nat) (H : Heap) : Ans :=
  ldFlat H x2 [.int .i64, .int .i64, .int .i64, .int .i64, .int .i64, .int .i64, .int .i64, .int .u32, .oth, .oth, .oth] 0 fun l32 =>
  o 60 [(.agg l32), (.int .i64 x1)] H fun v33 H34 =>
  asI .i64 v33 fun n35 =>
  cond (decide (n35 ≥ 0)) (
  (ldI H34 .i64 x2 3).bind fun n36 =>
  o 192 [(.int .i64 4), (.int .i64 n36), (.int .i64 0), (.ptr x7 0)] H34 fun v37 H38 =>
  asT0 v37 (
  ldFlat H38 x2 [.int .i64, .int .i64, .int .i64, .int .i64, .int .i64, .int .i64, .int .i64, .int .u32, .oth, .oth, .oth] 0 fun l39 =>
  o 193 [(.agg l39), (.int .i64 n35)] H38 fun v40 H41 =>
  asI .i64 v40 fun n42 =>
  o 192 [(.int .i64 4), (.int .i64 n42), (.int .i64 1), (.ptr x7 0)] H41 fun v43 H44 =>
  asT0 v43 (
  ldFlat H44 x2 [.int .i64, .int .i64, .int .i64, .int .i64, .int .i64, .int .i64, .int .i64, .int .u32, .oth, .oth, .oth] 0 fun l45 =>
  o 194 [(.agg l45)] H44 fun v46 H47 =>
  asI .i64 v46 fun n48 =>
  o 192 [(.int .i64 5), (.int .i64 n48), (.int .i64 0), (.ptr x7 0)] H47 fun v49 H50 =>
  asT0 v49 (
  (ldV H50 x7 0).bind fun v51 =>
  o 195 [v51, (.fn 196 [])] H50 fun v52 H53 =>
  asT0 v52 (
  (ldV H53 x7 0).bind fun v54 =>
  κ v54 H53))))) (
  ldFlat H34 x2 [.int .i64, .int .i64, .int .i64, .int .i64, .int .i64, .int .i64, .int .i64, .int .u32, .oth, .oth, .oth] 0 fun l55 =>
  o 194 [(.agg l55)] H34 fun v56 H57 =>
  asI .i64 v56 fun n58 =>
  o 192 [(.int .i64 5), (.int .i64 n58), (.int .i64 0), (.ptr x7 0)] H57 fun v59 H60 =>
  asT0 v59 (
  (ldV H60 x7 0).bind fun v61 =>
  o 195 [v61, (.fn 196 [])] H60 fun v62 H63 =>
  asT0 v62 (
  (ldV H63 x7 0).bind fun v64 =>
  κ v64 H63)))
theorem M115_10_ok {o : Orc} {N : Nat} {κ : Kv} (x1 : Int) (x2 x7 : Nat) (H : Heap) :
    run Tryz.prog o N (cAt Tryz.f115 [1, 4, 1, 1, 1, 1]) .n (env0 Tryz.prog Tryz.f115 κ) (tmk 0 59 [(1, .int .i64 x1), (2, .ptr x2 0), (7, .ptr x7 0)]) H (env0 Tryz.prog Tryz.f115 κ).ret = M115_10 o N κ x1 x2 x7 H := by
  kernel_rfl
def A115_11 : An := .s .n (some (lvOf [1, 2, 7])) (.s A115_9 (some (lvOf [1, 2, 7])) .n)
def A115_12 : An := .s .n (some (lvOf [1, 2])) (.s .n (some (lvOf [1, 2, 7])) A115_11)
def M115 (o : Orc) (N : Nat) : FnM := fun vs H κ => match vs with
  | [.agg x0, .int .i64 x1] => M115_0 o N (fun x1 x2 H => M115_1 o N (fun x1 x2 H => M115_2 o N (fun x1 x2 x7 H => M115_3 o N (fun x1 x2 x7 H => M115_4 o N (fun x1 x2 x7 x20 x21 x22 H => M115_8 o N (fun x1 x2 x7 H => M115_10 o N κ x1 x2 x7 H) κ N x1 x2 x7 x20 x21 x22 H) κ x1 x2 x7 H) κ x1 x2 x7 H) κ x1 x2 H) κ x1 x2 H) κ x0 x1 H
  | _ => none
theorem M115_run (o : Orc) (N : Nat) (vs : List V) (H : Heap) (κ : Kv) (r) (h : M115 o N vs H κ = some r) : runFn Tryz.prog o N Tryz.f115 (.s .n (some (lvOf [1, 2])) A115_12) vs H κ = some r := by
  unfold M115 at h
  split at h
  · rename_i x0 x1
    refine (runFn_at (t := tmk 0 59 [(0, .agg x0), (1, .int .i64 x1)]) (by kernel_rfl) (by kernel_rfl)).trans (Eq.trans ?_ h)
    refine (run_seq (x := (cAt Tryz.f115 [0])) (ax := .n) (y := (cAt Tryz.f115 [1])) (ay := A115_12) (l := [1, 2]) (by kernel_rfl) (by kernel_rfl)).trans ?_
    refine M115_0_ok ?_ x0 x1 H
    intro x1 x2 H
    refine (run_scope (x := (cAt Tryz.f115 [1, 4])) (by kernel_rfl)).trans ?_
    refine (run_seq (x := (cAt Tryz.f115 [1, 4, 0])) (ax := .n) (y := (cAt Tryz.f115 [1, 4, 1])) (ay := (.s .n (some (lvOf [1, 2, 7])) A115_11)) (l := [1, 2]) (by kernel_rfl) (by kernel_rfl)).trans ?_
    refine M115_1_ok ?_ x1 x2 H
    intro x1 x2 H
    refine (run_seq (x := (cAt Tryz.f115 [1, 4, 1, 0])) (ax := .n) (y := (cAt Tryz.f115 [1, 4, 1, 1])) (ay := A115_11) (l := [1, 2, 7]) (by kernel_rfl) (by kernel_rfl)).trans ?_
    refine M115_2_ok ?_ x1 x2 H
    intro x1 x2 x7 H
    refine (run_seq (x := (cAt Tryz.f115 [1, 4, 1, 1, 0])) (ax := .n) (y := (cAt Tryz.f115 [1, 4, 1, 1, 1])) (ay := (.s A115_9 (some (lvOf [1, 2, 7])) .n)) (l := [1, 2, 7]) (by kernel_rfl) (by kernel_rfl)).trans ?_
    refine M115_3_ok ?_ x1 x2 x7 H
    intro x1 x2 x7 H
    refine (run_seq (x := (cAt Tryz.f115 [1, 4, 1, 1, 1, 0])) (ax := A115_9) (y := (cAt Tryz.f115 [1, 4, 1, 1, 1, 1])) (ay := .n) (l := [1, 2, 7]) (by kernel_rfl) (by kernel_rfl)).trans ?_
    refine (run_seq (x := (cAt Tryz.f115 [1, 4, 1, 1, 1, 0, 0])) (ax := .n) (y := (cAt Tryz.f115 [1, 4, 1, 1, 1, 0, 1])) (ay := (.b none A115_7)) (l := [1, 2, 7, 20, 21, 22]) (by kernel_rfl) (by kernel_rfl)).trans ?_
    refine M115_4_ok ?_ x1 x2 x7 H
    intro x1 x2 x7 x20 x21 x22 H
    refine (run_block (id := 0) (x := (cAt Tryz.f115 [1, 4, 1, 1, 1, 0, 1, 4])) (ax := A115_7) (by kernel_rfl) (by kernel_rfl)).trans ?_
    refine (run_loop (x := (cAt Tryz.f115 [1, 4, 1, 1, 1, 0, 1, 4, 4])) (ax := A115_5) (l := [1, 2, 7, 20, 21, 22]) (by kernel_rfl) (by kernel_rfl) (by kernel_rfl)).trans ?_
    refine M115_8_ok ?_ N x1 x2 x7 x20 x21 x22 H
    intro x1 x2 x7 H
    exact M115_10_ok x1 x2 x7 H
  · cases h
theorem M115_sound {o : Orc} (ho : ∀ f, FSound Tryz.prog f (o f)) (N : Nat) : FSound Tryz.prog 115 (M115 o N) :=
  FSound.sub (runFn_ok (an := (.s .n (some (lvOf [1, 2])) A115_12)) (fuel := N) hmix ho (by kernel_rfl) (by kernel_rfl)) (M115_run o N)
/-! 116 ostinato/ostinatoref12.within -/
def M116_0 (o : Orc) (N : Nat) (κ : Kv) (x0 x1 x2 : Int) (H : Heap) : Ans :=
  cond (decide (x0 ≥ x1)) (
  κ (.bool (decide (x0 ≤ x2))) H) (
  κ (.bool false) H)
theorem M116_0_ok {o : Orc} {N : Nat} {κ : Kv} (x0 x1 x2 : Int) (H : Heap) :
    run Tryz.prog o N (cAt Tryz.f116 []) .n (env0 Tryz.prog Tryz.f116 κ) (tmk 0 15 [(0, .int .i64 x0), (1, .int .i64 x1), (2, .int .i64 x2)]) H (env0 Tryz.prog Tryz.f116 κ).ret = M116_0 o N κ x0 x1 x2 H := by
  kernel_rfl
def M116 (o : Orc) (N : Nat) : FnM := fun vs H κ => match vs with
  | [.int .i64 x0, .int .i64 x1, .int .i64 x2] => M116_0 o N κ x0 x1 x2 H
  | _ => none
theorem M116_run (o : Orc) (N : Nat) (vs : List V) (H : Heap) (κ : Kv) (r) (h : M116 o N vs H κ = some r) : runFn Tryz.prog o N Tryz.f116 .n vs H κ = some r := by
  unfold M116 at h
  split at h
  · rename_i x0 x1 x2
    refine (runFn_at (t := tmk 0 15 [(0, .int .i64 x0), (1, .int .i64 x1), (2, .int .i64 x2)]) (by kernel_rfl) (by kernel_rfl)).trans (Eq.trans ?_ h)
    exact M116_0_ok x0 x1 x2 H
  · cases h
theorem M116_sound {o : Orc} (ho : ∀ f, FSound Tryz.prog f (o f)) (N : Nat) : FSound Tryz.prog 116 (M116 o N) :=
  FSound.sub (runFn_ok (an := .n) (fuel := N) hmix ho (by kernel_rfl) (by kernel_rfl)) (M116_run o N)
/-! 117 ostinato/ostinatoref12.power -/
def M117_0 (o : Orc) (N : Nat) (κ : Kv) (x0 x1 : Int) (H : Heap) : Ans :=
  cond (x0 == 1) (
  κ (.bool (decide (x0 ≤ x1))) H) (
  cond (x0 == 2) (
  κ (.bool (decide (x0 ≤ x1))) H) (
  cond (x0 == 4) (
  κ (.bool (decide (x0 ≤ x1))) H) (
  cond (x0 == 8) (
  κ (.bool (decide (x0 ≤ x1))) H) (
  κ (.bool false) H))))
theorem M117_0_ok {o : Orc} {N : Nat} {κ : Kv} (x0 x1 : Int) (H : Heap) :
    run Tryz.prog o N (cAt Tryz.f117 []) .n (env0 Tryz.prog Tryz.f117 κ) (tmk 0 24 [(0, .int .i64 x0), (1, .int .i64 x1)]) H (env0 Tryz.prog Tryz.f117 κ).ret = M117_0 o N κ x0 x1 H := by
  kernel_rfl
def M117 (o : Orc) (N : Nat) : FnM := fun vs H κ => match vs with
  | [.int .i64 x0, .int .i64 x1] => M117_0 o N κ x0 x1 H
  | _ => none
theorem M117_run (o : Orc) (N : Nat) (vs : List V) (H : Heap) (κ : Kv) (r) (h : M117 o N vs H κ = some r) : runFn Tryz.prog o N Tryz.f117 .n vs H κ = some r := by
  unfold M117 at h
  split at h
  · rename_i x0 x1
    refine (runFn_at (t := tmk 0 24 [(0, .int .i64 x0), (1, .int .i64 x1)]) (by kernel_rfl) (by kernel_rfl)).trans (Eq.trans ?_ h)
    exact M117_0_ok x0 x1 H
  · cases h
theorem M117_sound {o : Orc} (ho : ∀ f, FSound Tryz.prog f (o f)) (N : Nat) : FSound Tryz.prog 117 (M117 o N) :=
  FSound.sub (runFn_ok (an := .n) (fuel := N) hmix ho (by kernel_rfl) (by kernel_rfl)) (M117_run o N)
/-! 118 (*ostinato/object.Objects).there -/
def M118_0 (o : Orc) (N : Nat) (κ : Kv) (x0 : V) (x1 : Int) (H : Heap) : Ans :=
  newB H (.row [(.int .u32 0), (.int .i64 0), (.bool false)]) fun i1 H2 =>
  cond (decide (x1 < 0)) (
  (stN H2 i1 0 [(.int .u32 0), (.int .i64 0), (.bool false)]).bind fun H3 =>
  ldFlat H3 i1 [.int .u32, .int .i64, .bool] 0 fun l4 =>
  κ (.tup [(.agg l4), (.bool false)]) H3) (
  asP x0 fun p5 o6 =>
  (ldV H2 p5 ((o6 + 0) + 9)).bind fun v7 =>
  lenS v7 fun n8 =>
  cond (decide (x1 ≥ n8)) (
  (stN H2 i1 0 [(.int .u32 0), (.int .i64 0), (.bool false)]).bind fun H9 =>
  ldFlat H9 i1 [.int .u32, .int .i64, .bool] 0 fun l10 =>
  κ (.tup [(.agg l10), (.bool false)]) H9) (
  asP x0 fun p11 o12 =>
  (ldV H2 p11 ((o12 + 0) + 9)).bind fun v13 =>
  idxS 3 v13 x1 fun p14 o15 =>
  ldFlat H2 p14 [.int .u32, .int .i64, .bool] o15 fun l16 =>
  cond (Nat.beq (List.length l16) 3 && Nat.blt 0 3) (
  (stN H2 i1 0 l16).bind fun H17 =>
  ldFlat H17 i1 [.int .u32, .int .i64, .bool] 0 fun l18 =>
  κ (.tup [(.agg l18), (.bool true)]) H17) none))
theorem M118_0_ok {o : Orc} {N : Nat} {κ : Kv} (x0 : V) (x1 : Int) (H : Heap) :
    run Tryz.prog o N (cAt Tryz.f118 []) .n (env0 Tryz.prog Tryz.f118 κ) (tmk 0 27 [(0, x0), (1, .int .i64 x1)]) H (env0 Tryz.prog Tryz.f118 κ).ret = M118_0 o N κ x0 x1 H := by
  kernel_rfl
def M118 (o : Orc) (N : Nat) : FnM := fun vs H κ => match vs with
  | [x0, .int .i64 x1] => M118_0 o N κ x0 x1 H
  | _ => none
theorem M118_run (o : Orc) (N : Nat) (vs : List V) (H : Heap) (κ : Kv) (r) (h : M118 o N vs H κ = some r) : runFn Tryz.prog o N Tryz.f118 .n vs H κ = some r := by
  unfold M118 at h
  split at h
  · rename_i x0 x1
    refine (runFn_at (t := tmk 0 27 [(0, x0), (1, .int .i64 x1)]) (by kernel_rfl) (by kernel_rfl)).trans (Eq.trans ?_ h)
    exact M118_0_ok x0 x1 H
  · cases h
theorem M118_sound {o : Orc} (ho : ∀ f, FSound Tryz.prog f (o f)) (N : Nat) : FSound Tryz.prog 118 (M118 o N) :=
  FSound.sub (runFn_ok (an := .n) (fuel := N) hmix ho (by kernel_rfl) (by kernel_rfl)) (M118_run o N)
/-! 119 (*ostinato/queue.Queue).Put -/
def M119_0 (o : Orc) (N : Nat) (κ : Kv) (x0 : V) (x1 : Int) (x2 : List Nat) (H : Heap) : Ans :=
  asP x0 fun p1 o2 =>
  (ldV H p1 (o2 + 0)).bind fun v3 =>
  none
theorem M119_0_ok {o : Orc} {N : Nat} {κ : Kv} (x0 : V) (x1 : Int) (x2 : List Nat) (H : Heap) :
    run Tryz.prog o N (cAt Tryz.f119 []) .n (env0 Tryz.prog Tryz.f119 κ) (tmk 0 17 [(0, x0), (1, .int .i64 x1), (2, .str x2)]) H (env0 Tryz.prog Tryz.f119 κ).ret = M119_0 o N κ x0 x1 x2 H := by
  kernel_rfl
def M119 (o : Orc) (N : Nat) : FnM := fun vs H κ => match vs with
  | [x0, .int .i64 x1, .str x2] => M119_0 o N κ x0 x1 x2 H
  | _ => none
theorem M119_run (o : Orc) (N : Nat) (vs : List V) (H : Heap) (κ : Kv) (r) (h : M119 o N vs H κ = some r) : runFn Tryz.prog o N Tryz.f119 .n vs H κ = some r := by
  unfold M119 at h
  split at h
  · rename_i x0 x1 x2
    refine (runFn_at (t := tmk 0 17 [(0, x0), (1, .int .i64 x1), (2, .str x2)]) (by kernel_rfl) (by kernel_rfl)).trans (Eq.trans ?_ h)
    exact M119_0_ok x0 x1 x2 H
  · cases h
theorem M119_sound {o : Orc} (ho : ∀ f, FSound Tryz.prog f (o f)) (N : Nat) : FSound Tryz.prog 119 (M119 o N) :=
  FSound.sub (runFn_ok (an := .n) (fuel := N) hmix ho (by kernel_rfl) (by kernel_rfl)) (M119_run o N)
/-! 120 ostinato/plan.Due -/
def M120_0 (o : Orc) (N : Nat) (J : V → Int → Int → Int → Heap → Ans) (κ : Kv) (x0 : V) (x1 x2 x3 : Int) (H : Heap) : Ans :=
  J x0 x1 x2 x3 H
theorem M120_0_ok {o : Orc} {N : Nat} {κ : Kv} {J : Kt} {J' : V → Int → Int → Int → Heap → Ans} (hJ : ∀ x0 x1 x2 x3 H, J (tmk 0 52 [(0, x0), (1, .int .i64 x1), (2, .int .i64 x2), (3, .int .i64 x3)]) H = J' x0 x1 x2 x3 H) (x0 : V) (x1 x2 x3 : Int) (H : Heap) :
    run Tryz.prog o N (cAt Tryz.f120 [0]) .n (env0 Tryz.prog Tryz.f120 κ) (tmk 0 52 [(0, x0), (1, .int .i64 x1), (2, .int .i64 x2), (3, .int .i64 x3)]) H (kj [0, 1, 2, 3] J) = M120_0 o N J' κ x0 x1 x2 x3 H := by
  obtain rfl := fx5 hJ
  kernel_rfl
def M120_1 (o : Orc) (N : Nat) (J : V → Int → Int → Int → V → Heap → Ans) (κ : Kv) (x0 : V) (x1 x2 x3 : Int) (H : Heap) : Ans :=
  lenS x0 fun n1 =>
  cond (decide (0 ≤ n1) && decide (n1 ≤ n1) && decide (n1 ≤ 4294967296) && Nat.ble 48 1024 && Nat.blt 0 6) (
  newB H (.row (List.flatten (List.replicate (Int.toNat n1) [(.int .i64 0), (.int .i64 0), (.int .i64 0), (.int .i64 0), (.int .i64 0), (.int .i64 0)]))) fun i2 H3 =>
  J x0 x1 x2 x3 (.sl i2 0 (Int.toNat n1) 6 true) H3) none
theorem M120_1_ok {o : Orc} {N : Nat} {κ : Kv} {J : Kt} {J' : V → Int → Int → Int → V → Heap → Ans} (hJ : ∀ x0 x1 x2 x3 x9 H, J (tmk 0 52 [(0, x0), (1, .int .i64 x1), (2, .int .i64 x2), (3, .int .i64 x3), (9, x9)]) H = J' x0 x1 x2 x3 x9 H) (x0 : V) (x1 x2 x3 : Int) (H : Heap) :
    run Tryz.prog o N (cAt Tryz.f120 [1, 0]) .n (env0 Tryz.prog Tryz.f120 κ) (tmk 0 52 [(0, x0), (1, .int .i64 x1), (2, .int .i64 x2), (3, .int .i64 x3)]) H (kj [0, 1, 2, 3, 9] J) = M120_1 o N J' κ x0 x1 x2 x3 H := by
  obtain rfl := fx6 hJ
  kernel_rfl
def M120_2 (o : Orc) (N : Nat) (J : V → Int → Int → Int → V → Int → Heap → Ans) (κ : Kv) (x0 : V) (x1 x2 x3 : Int) (x9 : V) (H : Heap) : Ans :=
  J x0 x1 x2 x3 x9 0 H
theorem M120_2_ok {o : Orc} {N : Nat} {κ : Kv} {J : Kt} {J' : V → Int → Int → Int → V → Int → Heap → Ans} (hJ : ∀ x0 x1 x2 x3 x9 x10 H, J (tmk 0 52 [(0, x0), (1, .int .i64 x1), (2, .int .i64 x2), (3, .int .i64 x3), (9, x9), (10, .int .i64 x10)]) H = J' x0 x1 x2 x3 x9 x10 H) (x0 : V) (x1 x2 x3 : Int) (x9 : V) (H : Heap) :
    run Tryz.prog o N (cAt Tryz.f120 [1, 1, 0]) .n (env0 Tryz.prog Tryz.f120 κ) (tmk 0 52 [(0, x0), (1, .int .i64 x1), (2, .int .i64 x2), (3, .int .i64 x3), (9, x9)]) H (kj [0, 1, 2, 3, 9, 10] J) = M120_2 o N J' κ x0 x1 x2 x3 x9 H := by
  obtain rfl := fx7 hJ
  kernel_rfl
def M120_3 (o : Orc) (N : Nat) (J : Int → Int → Int → V → Int → V → Int → Int → Heap → Ans) (κ : Kv) (x0 : V) (x1 x2 x3 : Int) (x9 : V) (x10 : Int) (H : Heap) : Ans :=
  lenS x0 fun n4 =>
  J x1 x2 x3 x9 x10 x0 n4 0 H
theorem M120_3_ok {o : Orc} {N : Nat} {κ : Kv} {J : Kt} {J' : Int → Int → Int → V → Int → V → Int → Int → Heap → Ans} (hJ : ∀ x1 x2 x3 x9 x10 x16 x17 x18 H, J (tmk 0 52 [(1, .int .i64 x1), (2, .int .i64 x2), (3, .int .i64 x3), (9, x9), (10, .int .i64 x10), (16, x16), (17, .int .i64 x17), (18, .int .i64 x18)]) H = J' x1 x2 x3 x9 x10 x16 x17 x18 H) (x0 : V) (x1 x2 x3 : Int) (x9 : V) (x10 : Int) (H : Heap) :
    run Tryz.prog o N (cAt Tryz.f120 [1, 1, 1, 0, 0]) .n (env0 Tryz.prog Tryz.f120 κ) (tmk 0 52 [(0, x0), (1, .int .i64 x1), (2, .int .i64 x2), (3, .int .i64 x3), (9, x9), (10, .int .i64 x10)]) H (kj [1, 2, 3, 9, 10, 16, 17, 18] J) = M120_3 o N J' κ x0 x1 x2 x3 x9 x10 H := by
  obtain rfl := fx9 hJ
  kernel_rfl
def A120_4 : An := (.s .n none (.s .n none (.s (.b none (.s .n none (.s .n none (.c (.d [0, 1, 2, 3, 4, 5, 6, 7, 8]) .n)))) none .n)))
def M120_5 (o : Orc) (N : Nat) (X0 : V → Int → Heap → Ans) (J : Int → Int → Int → V → Int → V → Int → Int → Heap → Ans) (κ : Kv) (x1 x2 x3 : Int) (x9 : V) (x10 : Int) (x16 : V) (x17 x18 : Int) (H : Heap) : Ans :=
  cond (decide (x18 < x17)) (
  idxS 6 x16 x18 fun p5 o6 =>
  ldFlat H p5 [.int .i64, .int .i64, .int .i64, .int .i64, .int .i64, .int .i64] o6 fun l7 =>
  newB H (.row [(.int .i64 0), (.int .i64 0), (.int .i64 0), (.int .i64 0), (.int .i64 0), (.int .i64 0)]) fun i8 H9 =>
  cond (Nat.beq (List.length l7) 6 && Nat.blt 0 6) (
  (stN H9 i8 0 l7).bind fun H10 =>
  (ldI H10 .i64 i8 1).bind fun n11 =>
  cond (decide (n11 > x2)) (
  (ldI H10 .i64 i8 1).bind fun n12 =>
  cond (decide (n12 ≤ x3)) (
  (ldI H10 .i64 i8 2).bind fun n13 =>
  (ldI H10 .i64 i8 3).bind fun n14 =>
  o 198 [(.int .i64 n13), (.int .i64 n14), (.int .i64 x1)] H10 fun v15 H16 =>
  asB v15 fun b17 =>
  cond b17 (
  slS 6 x9 (some (.int .i64 x10)) none fun v18 =>
  ldFlat (Heap.skip H16 9) i8 [.int .i64, .int .i64, .int .i64, .int .i64, .int .i64, .int .i64] 0 fun l19 =>
  (fillV (fun i => some (i * 6, 6)) [(.int .i64 0), (.int .i64 0), (.int .i64 0), (.int .i64 0), (.int .i64 0), (.int .i64 0)] [(0, (.agg l19))]).bind fun l20 =>
  cpyV (Heap.newAt (Heap.skip H16 9) (H16.next + 5) (.row l20)) v18 (.sl (H16.next + 5) 0 1 6 true) 6 fun n21 H22 =>
  J x1 x2 x3 x9 (IntKind.i64.wrap (x10 + n21)) x16 x17 (IntKind.i64.wrap (x18 + 1)) H22) (
  J x1 x2 x3 x9 x10 x16 x17 (IntKind.i64.wrap (x18 + 1)) H16)) (
  J x1 x2 x3 x9 x10 x16 x17 (IntKind.i64.wrap (x18 + 1)) H10)) (
  J x1 x2 x3 x9 x10 x16 x17 (IntKind.i64.wrap (x18 + 1)) H10)) none) (
  X0 x9 x10 H)
theorem M120_5_ok {o : Orc} {N : Nat} {κ : Kv} {X0 J : Kt} {X0' : V → Int → Heap → Ans} {J' : Int → Int → Int → V → Int → V → Int → Int → Heap → Ans} (h0 : ∀ x9 x10 H, X0 (tmk 0 52 [(9, x9), (10, .int .i64 x10)]) H = X0' x9 x10 H) (hJ : ∀ x1 x2 x3 x9 x10 x16 x17 x18 H, J (tmk 0 52 [(1, .int .i64 x1), (2, .int .i64 x2), (3, .int .i64 x3), (9, x9), (10, .int .i64 x10), (16, x16), (17, .int .i64 x17), (18, .int .i64 x18)]) H = J' x1 x2 x3 x9 x10 x16 x17 x18 H) (x1 x2 x3 : Int) (x9 : V) (x10 : Int) (x16 : V) (x17 x18 : Int) (H : Heap) :
    run Tryz.prog o N (cAt Tryz.f120 [1, 1, 1, 0, 1, 4, 4]) A120_4 ((env0 Tryz.prog Tryz.f120 κ).block 0 (kj [9, 10] X0)) (tmk 0 52 [(1, .int .i64 x1), (2, .int .i64 x2), (3, .int .i64 x3), (9, x9), (10, .int .i64 x10), (16, x16), (17, .int .i64 x17), (18, .int .i64 x18)]) H (kj [1, 2, 3, 9, 10, 16, 17, 18] J) = M120_5 o N X0' J' κ x1 x2 x3 x9 x10 x16 x17 x18 H := by
  obtain rfl := fx3 h0
  obtain rfl := fx9 hJ
  kernel_rfl
def A120_6 : An := .l (some (lvOf [1, 2, 3, 9, 10, 16, 17, 18])) A120_4
def M120_7 (o : Orc) (N : Nat) (X0 : V → Int → Heap → Ans) (κ : Kv) (n : Nat) : Int → Int → Int → V → Int → V → Int → Int → Heap → Ans :=
  Nat.rec (motive := fun _ => Int → Int → Int → V → Int → V → Int → Int → Heap → Ans) (fun _ _ _ _ _ _ _ _ _ => none) (fun _ ih x1 x2 x3 x9 x10 x16 x17 x18 H => M120_5 o N X0 ih κ x1 x2 x3 x9 x10 x16 x17 x18 H) n
theorem M120_7_s (o : Orc) (N : Nat) (X0 : V → Int → Heap → Ans) (κ : Kv) (n : Nat) (x1 x2 x3 : Int) (x9 : V) (x10 : Int) (x16 : V) (x17 x18 : Int) (H : Heap) : M120_7 o N X0 κ (n + 1) x1 x2 x3 x9 x10 x16 x17 x18 H = M120_5 o N X0 (M120_7 o N X0 κ n) κ x1 x2 x3 x9 x10 x16 x17 x18 H := rfl
theorem M120_7_ok {o : Orc} {N : Nat} {κ : Kv} {X0 : Kt} {X0' : V → Int → Heap → Ans} (h0 : ∀ x9 x10 H, X0 (tmk 0 52 [(9, x9), (10, .int .i64 x10)]) H = X0' x9 x10 H) (n : Nat) : ∀ (x1 x2 x3 : Int) (x9 : V) (x10 : Int) (x16 : V) (x17 x18 : Int) (H : Heap),
    rounds (fun a H k => run Tryz.prog o N (cAt Tryz.f120 [1, 1, 1, 0, 1, 4, 4]) A120_4 ((env0 Tryz.prog Tryz.f120 κ).block 0 (kj [9, 10] X0)) a H k) (some (lvOf [1, 2, 3, 9, 10, 16, 17, 18])) n (tmk 0 52 [(1, .int .i64 x1), (2, .int .i64 x2), (3, .int .i64 x3), (9, x9), (10, .int .i64 x10), (16, x16), (17, .int .i64 x17), (18, .int .i64 x18)]) H = M120_7 o N X0' κ n x1 x2 x3 x9 x10 x16 x17 x18 H := by
  induction n with
  | zero => intros; rfl
  | succ n ih =>
    intro x1 x2 x3 x9 x10 x16 x17 x18 H
    refine (run_round.trans ?_).trans (M120_7_s ..).symm
    exact M120_5_ok h0 ih x1 x2 x3 x9 x10 x16 x17 x18 H
def A120_8 : An := .s .n (some (lvOf [1, 2, 3, 9, 10, 16, 17, 18])) (.b none A120_6)
def M120_9 (o : Orc) (N : Nat) (κ : Kv) (x9 : V) (x10 : Int) (H : Heap) : Ans :=
  slS 6 x9 none (some (.int .i64 x10)) fun v23 =>
  κ v23 H
theorem M120_9_ok {o : Orc} {N : Nat} {κ : Kv} (x9 : V) (x10 : Int) (H : Heap) :
    run Tryz.prog o N (cAt Tryz.f120 [1, 1, 1, 1]) .n (env0 Tryz.prog Tryz.f120 κ) (tmk 0 52 [(9, x9), (10, .int .i64 x10)]) H (env0 Tryz.prog Tryz.f120 κ).ret = M120_9 o N κ x9 x10 H := by
  kernel_rfl
def A120_10 : An := .s .n (some (lvOf [0, 1, 2, 3, 9, 10])) (.s A120_8 (some (lvOf [9, 10])) .n)
def A120_11 : An := .s .n (some (lvOf [0, 1, 2, 3, 9])) A120_10
def A120_12 : An := .s .n (some (lvOf [0, 1, 2, 3])) A120_11
def M120 (o : Orc) (N : Nat) : FnM := fun vs H κ => match vs with
  | [x0, .int .i64 x1, .int .i64 x2, .int .i64 x3] => M120_0 o N (fun x0 x1 x2 x3 H => M120_1 o N (fun x0 x1 x2 x3 x9 H => M120_2 o N (fun x0 x1 x2 x3 x9 x10 H => M120_3 o N (fun x1 x2 x3 x9 x10 x16 x17 x18 H => M120_7 o N (fun x9 x10 H => M120_9 o N κ x9 x10 H) κ N x1 x2 x3 x9 x10 x16 x17 x18 H) κ x0 x1 x2 x3 x9 x10 H) κ x0 x1 x2 x3 x9 H) κ x0 x1 x2 x3 H) κ x0 x1 x2 x3 H
  | _ => none
theorem M120_run (o : Orc) (N : Nat) (vs : List V) (H : Heap) (κ : Kv) (r) (h : M120 o N vs H κ = some r) : runFn Tryz.prog o N Tryz.f120 A120_12 vs H κ = some r := by
  unfold M120 at h
  split at h
  · rename_i x0 x1 x2 x3
    refine (runFn_at (t := tmk 0 52 [(0, x0), (1, .int .i64 x1), (2, .int .i64 x2), (3, .int .i64 x3)]) (by kernel_rfl) (by kernel_rfl)).trans (Eq.trans ?_ h)
    refine (run_seq (x := (cAt Tryz.f120 [0])) (ax := .n) (y := (cAt Tryz.f120 [1])) (ay := A120_11) (l := [0, 1, 2, 3]) (by kernel_rfl) (by kernel_rfl)).trans ?_
    refine M120_0_ok ?_ x0 x1 x2 x3 H
    intro x0 x1 x2 x3 H
    refine (run_seq (x := (cAt Tryz.f120 [1, 0])) (ax := .n) (y := (cAt Tryz.f120 [1, 1])) (ay := A120_10) (l := [0, 1, 2, 3, 9]) (by kernel_rfl) (by kernel_rfl)).trans ?_
    refine M120_1_ok ?_ x0 x1 x2 x3 H
    intro x0 x1 x2 x3 x9 H
    refine (run_seq (x := (cAt Tryz.f120 [1, 1, 0])) (ax := .n) (y := (cAt Tryz.f120 [1, 1, 1])) (ay := (.s A120_8 (some (lvOf [9, 10])) .n)) (l := [0, 1, 2, 3, 9, 10]) (by kernel_rfl) (by kernel_rfl)).trans ?_
    refine M120_2_ok ?_ x0 x1 x2 x3 x9 H
    intro x0 x1 x2 x3 x9 x10 H
    refine (run_seq (x := (cAt Tryz.f120 [1, 1, 1, 0])) (ax := A120_8) (y := (cAt Tryz.f120 [1, 1, 1, 1])) (ay := .n) (l := [9, 10]) (by kernel_rfl) (by kernel_rfl)).trans ?_
    refine (run_seq (x := (cAt Tryz.f120 [1, 1, 1, 0, 0])) (ax := .n) (y := (cAt Tryz.f120 [1, 1, 1, 0, 1])) (ay := (.b none A120_6)) (l := [1, 2, 3, 9, 10, 16, 17, 18]) (by kernel_rfl) (by kernel_rfl)).trans ?_
    refine M120_3_ok ?_ x0 x1 x2 x3 x9 x10 H
    intro x1 x2 x3 x9 x10 x16 x17 x18 H
    refine (run_block (id := 0) (x := (cAt Tryz.f120 [1, 1, 1, 0, 1, 4])) (ax := A120_6) (by kernel_rfl) (by kernel_rfl)).trans ?_
    refine (run_loop (x := (cAt Tryz.f120 [1, 1, 1, 0, 1, 4, 4])) (ax := A120_4) (l := [1, 2, 3, 9, 10, 16, 17, 18]) (by kernel_rfl) (by kernel_rfl) (by kernel_rfl)).trans ?_
    refine M120_7_ok ?_ N x1 x2 x3 x9 x10 x16 x17 x18 H
    intro x9 x10 H
    exact M120_9_ok x9 x10 H
  · cases h
theorem M120_sound {o : Orc} (ho : ∀ f, FSound Tryz.prog f (o f)) (N : Nat) : FSound Tryz.prog 120 (M120 o N) :=
  FSound.sub (runFn_ok (an := A120_12) (fuel := N) hmix ho (by kernel_rfl) (by kernel_rfl)) (M120_run o N)
/-! 121 (*ostinato/object.Objects).State -/
def M121_0 (o : Orc) (N : Nat) (κ : Kv) (x0 : V) (x1 : Int) (H : Heap) : Ans :=
  asP x0 fun p1 o2 =>
  (ldV H p1 (o2 + 12)).bind fun v3 =>
  asM v3 fun p4 =>
  lookM H p4 (.int .i64 x1) fun r5 =>
  κ (.tup [(Option.getD r5 (.str [])), (.bool (Option.isSome r5))]) H
theorem M121_0_ok {o : Orc} {N : Nat} {κ : Kv} (x0 : V) (x1 : Int) (H : Heap) :
    run Tryz.prog o N (cAt Tryz.f121 []) .n (env0 Tryz.prog Tryz.f121 κ) (tmk 0 19 [(0, x0), (1, .int .i64 x1)]) H (env0 Tryz.prog Tryz.f121 κ).ret = M121_0 o N κ x0 x1 H := by
  kernel_rfl
def M121 (o : Orc) (N : Nat) : FnM := fun vs H κ => match vs with
  | [x0, .int .i64 x1] => M121_0 o N κ x0 x1 H
  | _ => none
theorem M121_run (o : Orc) (N : Nat) (vs : List V) (H : Heap) (κ : Kv) (r) (h : M121 o N vs H κ = some r) : runFn Tryz.prog o N Tryz.f121 .n vs H κ = some r := by
  unfold M121 at h
  split at h
  · rename_i x0 x1
    refine (runFn_at (t := tmk 0 19 [(0, x0), (1, .int .i64 x1)]) (by kernel_rfl) (by kernel_rfl)).trans (Eq.trans ?_ h)
    exact M121_0_ok x0 x1 H
  · cases h
theorem M121_sound {o : Orc} (ho : ∀ f, FSound Tryz.prog f (o f)) (N : Nat) : FSound Tryz.prog 121 (M121 o N) :=
  FSound.sub (runFn_ok (an := .n) (fuel := N) hmix ho (by kernel_rfl) (by kernel_rfl)) (M121_run o N)
/-! 122 ostinato/level.Beats -/
def M122_0 (o : Orc) (N : Nat) (κ : Kv) (x0 : Int) (H : Heap) : Ans :=
  o 199 [(.int .i64 x0)] H fun v1 H2 =>
  asA v1 fun l3 =>
  (nth l3 1).bind fun c4 =>
  asB c4 fun b5 =>
  κ (.bool b5) H2
theorem M122_0_ok {o : Orc} {N : Nat} {κ : Kv} (x0 : Int) (H : Heap) :
    run Tryz.prog o N (cAt Tryz.f122 []) .n (env0 Tryz.prog Tryz.f122 κ) (tmk 0 6 [(0, .int .i64 x0)]) H (env0 Tryz.prog Tryz.f122 κ).ret = M122_0 o N κ x0 H := by
  kernel_rfl
def M122 (o : Orc) (N : Nat) : FnM := fun vs H κ => match vs with
  | [.int .i64 x0] => M122_0 o N κ x0 H
  | _ => none
theorem M122_run (o : Orc) (N : Nat) (vs : List V) (H : Heap) (κ : Kv) (r) (h : M122 o N vs H κ = some r) : runFn Tryz.prog o N Tryz.f122 .n vs H κ = some r := by
  unfold M122 at h
  split at h
  · rename_i x0
    refine (runFn_at (t := tmk 0 6 [(0, .int .i64 x0)]) (by kernel_rfl) (by kernel_rfl)).trans (Eq.trans ?_ h)
    exact M122_0_ok x0 H
  · cases h
theorem M122_sound {o : Orc} (ho : ∀ f, FSound Tryz.prog f (o f)) (N : Nat) : FSound Tryz.prog 122 (M122 o N) :=
  FSound.sub (runFn_ok (an := .n) (fuel := N) hmix ho (by kernel_rfl) (by kernel_rfl)) (M122_run o N)
/-! 123 (*ostinato/node.Node).sends -/
def A123_0 : An := (.s .n none (.s .n none (.s .n none (.s (.d [0, 1, 2, 3, 4, 5, 6, 7, 8, 9, 10, 11]) none .n))))
def M123_1 (o : Orc) (N : Nat) (κ : Kv) (x0 : V) (x1 : Int) (x2 : List Nat) (H : Heap) : Ans :=
  o 158 [x0] H fun v1 H2 =>
  asB v1 fun b3 =>
  cond (!b3) (
  κ (.bool false) H2) (
  asP x0 fun p4 o5 =>
  ldFlat H2 p4 [.int .i64, .int .i64, .int .i64, .int .i64, .int .i64, .int .i64, .int .i64, .int .u32, .oth, .oth, .oth] (o5 + 0) fun l6 =>
  o 200 [(.agg l6), (.int .i64 x1), (.str x2)] H2 fun v7 H8 =>
  asT2 v7 fun v9 v10 =>
  asA v9 fun l11 =>
  asB v10 fun b12 =>
  newB H8 (.row [(.bool false), (.int .u32 0), (.bool false), (.str [])]) fun i13 H14 =>
  cond (Nat.beq (List.length l11) 4 && Nat.blt 0 4) (
  (stN H14 i13 0 l11).bind fun H15 =>
  cond b12 (
  asP x0 fun p16 o17 =>
  (ldV (Heap.skip H15 12) p16 ((o17 + 13) + 1)).bind fun v18 =>
  ldFlat (Heap.skip H15 12) i13 [.bool, .int .u32, .bool, .str] 0 fun l19 =>
  o 201 [v18, (.agg l19)] (Heap.skip H15 12) fun v20 H21 =>
  asI .i64 v20 fun n22 =>
  κ (.bool (n22 == 0)) H21) (
  κ (.bool false) (Heap.skip H15 12))) none)
theorem M123_1_ok {o : Orc} {N : Nat} {κ : Kv} (x0 : V) (x1 : Int) (x2 : List Nat) (H : Heap) :
    run Tryz.prog o N (cAt Tryz.f123 []) A123_0 (env0 Tryz.prog Tryz.f123 κ) (tmk 0 33 [(0, x0), (1, .int .i64 x1), (2, .str x2)]) H (env0 Tryz.prog Tryz.f123 κ).ret = M123_1 o N κ x0 x1 x2 H := by
  kernel_rfl
def M123 (o : Orc) (N : Nat) : FnM := fun vs H κ => match vs with
  | [x0, .int .i64 x1, .str x2] => M123_1 o N κ x0 x1 x2 H
  | _ => none
theorem M123_run (o : Orc) (N : Nat) (vs : List V) (H : Heap) (κ : Kv) (r) (h : M123 o N vs H κ = some r) : runFn Tryz.prog o N Tryz.f123 A123_0 vs H κ = some r := by
  unfold M123 at h
  split at h
  · rename_i x0 x1 x2
    refine (runFn_at (t := tmk 0 33 [(0, x0), (1, .int .i64 x1), (2, .str x2)]) (by kernel_rfl) (by kernel_rfl)).trans (Eq.trans ?_ h)
    exact M123_1_ok x0 x1 x2 H
  · cases h
theorem M123_sound {o : Orc} (ho : ∀ f, FSound Tryz.prog f (o f)) (N : Nat) : FSound Tryz.prog 123 (M123 o N) :=
  FSound.sub (runFn_ok (an := A123_0) (fuel := N) hmix ho (by kernel_rfl) (by kernel_rfl)) (M123_run o N)
/-! 124 (*ostinato/status.Table).Bad -/
def M124_0 (o : Orc) (N : Nat) (κ : Kv) (x0 : V) (x1 : Int) (H : Heap) : Ans :=
  o 202 [x0, (.int .i64 x1), (.int .i64 1)] H fun v1 H2 =>
  asT0 v1 (
  κ (.tup []) H2)
theorem M124_0_ok {o : Orc} {N : Nat} {κ : Kv} (x0 : V) (x1 : Int) (H : Heap) :
    run Tryz.prog o N (cAt Tryz.f124 []) .n (env0 Tryz.prog Tryz.f124 κ) (tmk 0 7 [(0, x0), (1, .int .i64 x1)]) H (env0 Tryz.prog Tryz.f124 κ).ret = M124_0 o N κ x0 x1 H := by
  kernel_rfl
def M124 (o : Orc) (N : Nat) : FnM := fun vs H κ => match vs with
  | [x0, .int .i64 x1] => M124_0 o N κ x0 x1 H
  | _ => none
theorem M124_run (o : Orc) (N : Nat) (vs : List V) (H : Heap) (κ : Kv) (r) (h : M124 o N vs H κ = some r) : runFn Tryz.prog o N Tryz.f124 .n vs H κ = some r := by
  unfold M124 at h
  split at h
  · rename_i x0 x1
    refine (runFn_at (t := tmk 0 7 [(0, x0), (1, .int .i64 x1)]) (by kernel_rfl) (by kernel_rfl)).trans (Eq.trans ?_ h)
    exact M124_0_ok x0 x1 H
  · cases h
theorem M124_sound {o : Orc} (ho : ∀ f, FSound Tryz.prog f (o f)) (N : Nat) : FSound Tryz.prog 124 (M124 o N) :=
  FSound.sub (runFn_ok (an := .n) (fuel := N) hmix ho (by kernel_rfl) (by kernel_rfl)) (M124_run o N)
/-! 125 (*ostinato/sched.Sched).Close -/
def M125_0 (o : Orc) (N : Nat) (κ : Kv) (x0 : V) (H : Heap) : Ans :=
  asP x0 fun p1 o2 =>
  (stN H p1 (o2 + 3) [(.int .i64 0), (.int .i64 0), (.int .i64 0), (.int .i64 0), (.int .i64 0), (.int .i64 0)]).bind fun H3 =>
  asP x0 fun p4 o5 =>
  (stN H3 p4 (o5 + 9) [(.bool false)]).bind fun H6 =>
  κ (.tup []) H6
theorem M125_0_ok {o : Orc} {N : Nat} {κ : Kv} (x0 : V) (H : Heap) :
    run Tryz.prog o N (cAt Tryz.f125 []) .n (env0 Tryz.prog Tryz.f125 κ) (tmk 0 9 [(0, x0)]) H (env0 Tryz.prog Tryz.f125 κ).ret = M125_0 o N κ x0 H := by
  kernel_rfl
def M125 (o : Orc) (N : Nat) : FnM := fun vs H κ => match vs with
  | [x0] => M125_0 o N κ x0 H
  | _ => none
theorem M125_run (o : Orc) (N : Nat) (vs : List V) (H : Heap) (κ : Kv) (r) (h : M125 o N vs H κ = some r) : runFn Tryz.prog o N Tryz.f125 .n vs H κ = some r := by
  unfold M125 at h
  split at h
  · rename_i x0
    refine (runFn_at (t := tmk 0 9 [(0, x0)]) (by kernel_rfl) (by kernel_rfl)).trans (Eq.trans ?_ h)
    exact M125_0_ok x0 H
  · cases h
theorem M125_sound {o : Orc} (ho : ∀ f, FSound Tryz.prog f (o f)) (N : Nat) : FSound Tryz.prog 125 (M125 o N) :=
  FSound.sub (runFn_ok (an := .n) (fuel := N) hmix ho (by kernel_rfl) (by kernel_rfl)) (M125_run o N)
/-! 126 (*ostinato/object.Objects).Event -/
def M126_0 (o : Orc) (N : Nat) (κ : Kv) (x0 : V) (H : Heap) : Ans :=
  newB H (.row [(.int .i64 0), (.str [])]) fun i1 H2 =>
  asP x0 fun p3 o4 =>
  (ldV H2 p3 (o4 + 14)).bind fun v5 =>
  o 203 [v5] H2 fun v6 H7 =>
  asT2 v6 fun v8 v9 =>
  asA v8 fun l10 =>
  asB v9 fun b11 =>
  cond (Nat.beq (List.length l10) 2 && Nat.blt 0 2) (
  (stN H7 i1 0 l10).bind fun H12 =>
  ldFlat H12 i1 [.int .i64, .str] 0 fun l13 =>
  κ (.tup [(.agg l13), (.bool b11)]) H12) none
theorem M126_0_ok {o : Orc} {N : Nat} {κ : Kv} (x0 : V) (H : Heap) :
    run Tryz.prog o N (cAt Tryz.f126 []) .n (env0 Tryz.prog Tryz.f126 κ) (tmk 0 11 [(0, x0)]) H (env0 Tryz.prog Tryz.f126 κ).ret = M126_0 o N κ x0 H := by
  kernel_rfl
def M126 (o : Orc) (N : Nat) : FnM := fun vs H κ => match vs with
  | [x0] => M126_0 o N κ x0 H
  | _ => none
theorem M126_run (o : Orc) (N : Nat) (vs : List V) (H : Heap) (κ : Kv) (r) (h : M126 o N vs H κ = some r) : runFn Tryz.prog o N Tryz.f126 .n vs H κ = some r := by
  unfold M126 at h
  split at h
  · rename_i x0
    refine (runFn_at (t := tmk 0 11 [(0, x0)]) (by kernel_rfl) (by kernel_rfl)).trans (Eq.trans ?_ h)
    exact M126_0_ok x0 H
  · cases h
theorem M126_sound {o : Orc} (ho : ∀ f, FSound Tryz.prog f (o f)) (N : Nat) : FSound Tryz.prog 126 (M126 o N) :=
  FSound.sub (runFn_ok (an := .n) (fuel := N) hmix ho (by kernel_rfl) (by kernel_rfl)) (M126_run o N)
/-! 127 ostinato/level.May -/
def M127_0 (o : Orc) (N : Nat) (κ : Kv) (x0 : Int) (H : Heap) : Ans :=
  o 199 [(.int .i64 x0)] H fun v1 H2 =>
  asA v1 fun l3 =>
  (nth l3 0).bind fun c4 =>
  asB c4 fun b5 =>
  κ (.bool b5) H2
theorem M127_0_ok {o : Orc} {N : Nat} {κ : Kv} (x0 : Int) (H : Heap) :
    run Tryz.prog o N (cAt Tryz.f127 []) .n (env0 Tryz.prog Tryz.f127 κ) (tmk 0 6 [(0, .int .i64 x0)]) H (env0 Tryz.prog Tryz.f127 κ).ret = M127_0 o N κ x0 H := by
  kernel_rfl
def M127 (o : Orc) (N : Nat) : FnM := fun vs H κ => match vs with
  | [.int .i64 x0] => M127_0 o N κ x0 H
  | _ => none
theorem M127_run (o : Orc) (N : Nat) (vs : List V) (H : Heap) (κ : Kv) (r) (h : M127 o N vs H κ = some r) : runFn Tryz.prog o N Tryz.f127 .n vs H κ = some r := by
  unfold M127 at h
  split at h
  · rename_i x0
    refine (runFn_at (t := tmk 0 6 [(0, .int .i64 x0)]) (by kernel_rfl) (by kernel_rfl)).trans (Eq.trans ?_ h)
    exact M127_0_ok x0 H
  · cases h
theorem M127_sound {o : Orc} (ho : ∀ f, FSound Tryz.prog f (o f)) (N : Nat) : FSound Tryz.prog 127 (M127 o N) :=
  FSound.sub (runFn_ok (an := .n) (fuel := N) hmix ho (by kernel_rfl) (by kernel_rfl)) (M127_run o N)
/-! 128 (*ostinato/node.Node).looks -/
def M128_0 (o : Orc) (N : Nat) (κ : Kv) (x0 : V) (x1 : Int) (H : Heap) : Ans :=
  o 158 [x0] H fun v1 H2 =>
  asB v1 fun b3 =>
  cond (!b3) (
  κ (.tup []) H2) (
  asP x0 fun p4 o5 =>
  cond (decide (0 ≤ x1) && decide (x1 < (12 : Nat)) && Nat.blt 0 1) (
  (ldB H2 p4 ((o5 + 23) + Int.toNat x1 * 1)).bind fun b6 =>
  cond b6 (
  asP x0 fun p7 o8 =>
  (ldV H2 p7 ((o8 + 13) + 5)).bind fun v9 =>
  o 161 [v9, (.int .i64 x1)] H2 fun v10 H11 =>
  asT0 v10 (
  κ (.tup []) H11)) (
  asP x0 fun p12 o13 =>
  (ldV H2 p12 ((o13 + 13) + 5)).bind fun v14 =>
  o 124 [v14, (.int .i64 x1)] H2 fun v15 H16 =>
  asT0 v15 (
  κ (.tup []) H16))) none)
theorem M128_0_ok {o : Orc} {N : Nat} {κ : Kv} (x0 : V) (x1 : Int) (H : Heap) :
    run Tryz.prog o N (cAt Tryz.f128 []) .n (env0 Tryz.prog Tryz.f128 κ) (tmk 0 27 [(0, x0), (1, .int .i64 x1)]) H (env0 Tryz.prog Tryz.f128 κ).ret = M128_0 o N κ x0 x1 H := by
  kernel_rfl
def M128 (o : Orc) (N : Nat) : FnM := fun vs H κ => match vs with
  | [x0, .int .i64 x1] => M128_0 o N κ x0 x1 H
  | _ => none
theorem M128_run (o : Orc) (N : Nat) (vs : List V) (H : Heap) (κ : Kv) (r) (h : M128 o N vs H κ = some r) : runFn Tryz.prog o N Tryz.f128 .n vs H κ = some r := by
  unfold M128 at h
  split at h
  · rename_i x0 x1
    refine (runFn_at (t := tmk 0 27 [(0, x0), (1, .int .i64 x1)]) (by kernel_rfl) (by kernel_rfl)).trans (Eq.trans ?_ h)
    exact M128_0_ok x0 x1 H
  · cases h
theorem M128_sound {o : Orc} (ho : ∀ f, FSound Tryz.prog f (o f)) (N : Nat) : FSound Tryz.prog 128 (M128 o N) :=
  FSound.sub (runFn_ok (an := .n) (fuel := N) hmix ho (by kernel_rfl) (by kernel_rfl)) (M128_run o N)
/-! 129 (*ostinato/master.Master).Leads -/
def A129_0 : An := (.s .n none (.s (.d [0, 1, 2, 3, 4, 5, 6, 7, 8, 9, 10, 11, 12, 13, 14, 15, 16, 17, 18, 19, 20, 21, 22]) none .n))
def M129_1 (o : Orc) (N : Nat) (κ : Kv) (x0 : V) (H : Heap) : Ans :=
  o 130 [x0] (Heap.skip H 23) fun v1 H2 =>
  asB v1 fun b3 =>
  cond b3 (
  asP x0 fun p4 o5 =>
  (ldI H2 .i64 p4 ((o5 + 1) + 0)).bind fun n6 =>
  cond (n6 == 2) (
  asP x0 fun p7 o8 =>
  (ldI H2 .i64 p7 ((o8 + 1) + 1)).bind fun n9 =>
  asP x0 fun p10 o11 =>
  (ldI H2 .i64 p10 (o11 + 0)).bind fun n12 =>
  κ (.bool (decide (n9 ≥ n12))) H2) (
  κ (.bool false) H2)) (
  κ (.bool false) H2)
theorem M129_1_ok {o : Orc} {N : Nat} {κ : Kv} (x0 : V) (H : Heap) :
    run Tryz.prog o N (cAt Tryz.f129 []) A129_0 (env0 Tryz.prog Tryz.f129 κ) (tmk 0 25 [(0, x0)]) H (env0 Tryz.prog Tryz.f129 κ).ret = M129_1 o N κ x0 H := by
  kernel_rfl
def M129 (o : Orc) (N : Nat) : FnM := fun vs H κ => match vs with
  | [x0] => M129_1 o N κ x0 H
  | _ => none
theorem M129_run (o : Orc) (N : Nat) (vs : List V) (H : Heap) (κ : Kv) (r) (h : M129 o N vs H κ = some r) : runFn Tryz.prog o N Tryz.f129 A129_0 vs H κ = some r := by
  unfold M129 at h
  split at h
  · rename_i x0
    refine (runFn_at (t := tmk 0 25 [(0, x0)]) (by kernel_rfl) (by kernel_rfl)).trans (Eq.trans ?_ h)
    exact M129_1_ok x0 H
  · cases h
theorem M129_sound {o : Orc} (ho : ∀ f, FSound Tryz.prog f (o f)) (N : Nat) : FSound Tryz.prog 129 (M129 o N) :=
  FSound.sub (runFn_ok (an := A129_0) (fuel := N) hmix ho (by kernel_rfl) (by kernel_rfl)) (M129_run o N)
/-! 130 (*ostinato/master.Master).Stands -/
def M130_0 (o : Orc) (N : Nat) (κ : Kv) (x0 : V) (H : Heap) : Ans :=
  asP x0 fun p1 o2 =>
  (ldI H .i64 p1 (o2 + 0)).bind fun n3 =>
  κ (.bool (decide (n3 ≥ 0))) H
theorem M130_0_ok {o : Orc} {N : Nat} {κ : Kv} (x0 : V) (H : Heap) :
    run Tryz.prog o N (cAt Tryz.f130 []) .n (env0 Tryz.prog Tryz.f130 κ) (tmk 0 8 [(0, x0)]) H (env0 Tryz.prog Tryz.f130 κ).ret = M130_0 o N κ x0 H := by
  kernel_rfl
def M130 (o : Orc) (N : Nat) : FnM := fun vs H κ => match vs with
  | [x0] => M130_0 o N κ x0 H
  | _ => none
theorem M130_run (o : Orc) (N : Nat) (vs : List V) (H : Heap) (κ : Kv) (r) (h : M130 o N vs H κ = some r) : runFn Tryz.prog o N Tryz.f130 .n vs H κ = some r := by
  unfold M130 at h
  split at h
  · rename_i x0
    refine (runFn_at (t := tmk 0 8 [(0, x0)]) (by kernel_rfl) (by kernel_rfl)).trans (Eq.trans ?_ h)
    exact M130_0_ok x0 H
  · cases h
theorem M130_sound {o : Orc} (ho : ∀ f, FSound Tryz.prog f (o f)) (N : Nat) : FSound Tryz.prog 130 (M130 o N) :=
  FSound.sub (runFn_ok (an := .n) (fuel := N) hmix ho (by kernel_rfl) (by kernel_rfl)) (M130_run o N)
/-! 131 (*ostinato/node.Node).asks -/
def A131_0 : An := (.s .n none (.s (.s .n none (.s .n none (.c (.d [0, 1, 2, 3, 4, 7, 8, 9, 10, 11, 5, 6, 12, 13]) .n))) none (.s (.d [0, 1, 2, 3, 4, 5, 6, 7, 8, 9, 10, 11, 12, 13, 14, 16, 15, 17, 18, 19, 20, 21, 22, 23, 24, 25]) none (.s .n none (.c (.d [0, 1, 2, 3, 4, 5, 6]) .n)))))
def M131_1 (o : Orc) (N : Nat) (κ : Kv) (x0 : V) (x1 : Int) (H : Heap) : Ans :=
  asP x0 fun p1 o2 =>
  (ldV H p1 ((o2 + 13) + 2)).bind fun v3 =>
  o 147 [v3] H fun v4 H5 =>
  asT2 v4 fun v6 v7 =>
  asI .u16 v6 fun n8 =>
  asB v7 fun b9 =>
  cond b9 (
  asP x0 fun p10 o11 =>
  (ldV (Heap.skip H5 14) p10 ((o11 + 13) + 2)).bind fun v12 =>
  asP x0 fun p13 o14 =>
  (ldI (Heap.skip H5 14) .i64 p13 ((o14 + 0) + 2)).bind fun n15 =>
  o 51 [v12] (Heap.skip H5 14) fun v16 H17 =>
  asI .i64 v16 fun n18 =>
  (ldI H17 .i64 p13 ((o14 + 0) + 2)).bind fun n19 =>
  cond (decide (n15 = n19)) (
  cond (decide (n15 = 0)) none (
  asP x0 fun p20 o21 =>
  ldFlat (Heap.skip H17 26) p20 [.int .i64, .int .i64, .int .i64, .int .i64, .int .i64, .int .i64, .int .i64, .int .u32, .oth, .oth, .oth] (o21 + 0) fun l22 =>
  asP x0 fun p23 o24 =>
  (ldI (Heap.skip H17 26) .i64 p23 (o24 + 12)).bind fun n25 =>
  asP x0 fun p26 o27 =>
  (ldV (Heap.skip H17 26) p26 ((o27 + 13) + 3)).bind fun v28 =>
  o 94 [v28, (.int .u16 x1)] (Heap.skip H17 26) fun v29 H30 =>
  asI .u16 v29 fun n31 =>
  (ldI H30 .i64 p23 (o24 + 12)).bind fun n32 =>
  cond (decide (n25 = n32)) (
  ldFlat H30 p20 [.int .i64, .int .i64, .int .i64, .int .i64, .int .i64, .int .i64, .int .i64, .int .u32, .oth, .oth, .oth] (o21 + 0) fun l33 =>
  cond (sameL l22 l33) (
  o 50 [x0] H30 fun v34 H35 =>
  asB v34 fun b36 =>
  (ldI H35 .i64 p23 (o24 + 12)).bind fun n37 =>
  cond (decide (n25 = n37)) (
  ldFlat H35 p20 [.int .i64, .int .i64, .int .i64, .int .i64, .int .i64, .int .i64, .int .i64, .int .u32, .oth, .oth, .oth] (o21 + 0) fun l38 =>
  cond (sameL l22 l38) (
  o 144 [(.agg l22), (.int .i64 n25), (.int .i64 (Int.tmod (IntKind.i64.wrap (n18 + 1)) n15)), (.int .u16 n31), (.bool (!b36))] H35 fun v39 H40 =>
  asT2 v39 fun v41 v42 =>
  asA v41 fun l43 =>
  asB v42 fun b44 =>
  cond (Nat.beq (List.length l43) 4 && Nat.blt 0 4) (
  (stN (Heap.newAt H40 (H17.next + 23) (.row [(.bool false), (.int .u32 0), (.bool false), (.str [])])) (H17.next + 23) 0 l43).bind fun H45 =>
  cond b44 (
  asP x0 fun p46 o47 =>
  (ldV (Heap.skip H45 7) p46 ((o47 + 13) + 1)).bind fun v48 =>
  ldFlat (Heap.skip H45 7) (H17.next + 23) [.bool, .int .u32, .bool, .str] 0 fun l49 =>
  o 201 [v48, (.agg l49)] (Heap.skip H45 7) fun v50 H51 =>
  asI .i64 v50 fun n52 =>
  κ (.tup []) H51) (
  κ (.tup []) H45)) none) none) none) none) none)) none) (
  asP x0 fun p53 o54 =>
  ldFlat (Heap.skip H5 26) p53 [.int .i64, .int .i64, .int .i64, .int .i64, .int .i64, .int .i64, .int .i64, .int .u32, .oth, .oth, .oth] (o54 + 0) fun l55 =>
  asP x0 fun p56 o57 =>
  (ldI (Heap.skip H5 26) .i64 p56 (o57 + 12)).bind fun n58 =>
  asP x0 fun p59 o60 =>
  (ldV (Heap.skip H5 26) p59 ((o60 + 13) + 3)).bind fun v61 =>
  o 94 [v61, (.int .u16 x1)] (Heap.skip H5 26) fun v62 H63 =>
  asI .u16 v62 fun n64 =>
  (ldI H63 .i64 p56 (o57 + 12)).bind fun n65 =>
  cond (decide (n58 = n65)) (
  ldFlat H63 p53 [.int .i64, .int .i64, .int .i64, .int .i64, .int .i64, .int .i64, .int .i64, .int .u32, .oth, .oth, .oth] (o54 + 0) fun l66 =>
  cond (sameL l55 l66) (
  o 50 [x0] H63 fun v67 H68 =>
  asB v67 fun b69 =>
  (ldI H68 .i64 p56 (o57 + 12)).bind fun n70 =>
  cond (decide (n58 = n70)) (
  ldFlat H68 p53 [.int .i64, .int .i64, .int .i64, .int .i64, .int .i64, .int .i64, .int .i64, .int .u32, .oth, .oth, .oth] (o54 + 0) fun l71 =>
  cond (sameL l55 l71) (
  o 144 [(.agg l55), (.int .i64 n58), (.int .i64 0), (.int .u16 n64), (.bool (!b69))] H68 fun v72 H73 =>
  asT2 v72 fun v74 v75 =>
  asA v74 fun l76 =>
  asB v75 fun b77 =>
  cond (Nat.beq (List.length l76) 4 && Nat.blt 0 4) (
  (stN (Heap.newAt H73 (H5.next + 23) (.row [(.bool false), (.int .u32 0), (.bool false), (.str [])])) (H5.next + 23) 0 l76).bind fun H78 =>
  cond b77 (
  asP x0 fun p79 o80 =>
  (ldV (Heap.skip H78 7) p79 ((o80 + 13) + 1)).bind fun v81 =>
  ldFlat (Heap.skip H78 7) (H5.next + 23) [.bool, .int .u32, .bool, .str] 0 fun l82 =>
  o 201 [v81, (.agg l82)] (Heap.skip H78 7) fun v83 H84 =>
  asI .i64 v83 fun n85 =>
  κ (.tup []) H84) (
  κ (.tup []) H78)) none) none) none) none) none)
theorem M131_1_ok {o : Orc} {N : Nat} {κ : Kv} (x0 : V) (x1 : Int) (H : Heap) :
    run Tryz.prog o N (cAt Tryz.f131 []) A131_0 (env0 Tryz.prog Tryz.f131 κ) (tmk 0 63 [(0, x0), (1, .int .u16 x1)]) H (env0 Tryz.prog Tryz.f131 κ).ret = M131_1 o N κ x0 x1 H := by
  kernel_rfl
def M131 (o : Orc) (N : Nat) : FnM := fun vs H κ => match vs with
  | [x0, .int .u16 x1] => M131_1 o N κ x0 x1 H
  | _ => none
theorem M131_run (o : Orc) (N : Nat) (vs : List V) (H : Heap) (κ : Kv) (r) (h : M131 o N vs H κ = some r) : runFn Tryz.prog o N Tryz.f131 A131_0 vs H κ = some r := by
  unfold M131 at h
  split at h
  · rename_i x0 x1
    refine (runFn_at (t := tmk 0 63 [(0, x0), (1, .int .u16 x1)]) (by kernel_rfl) (by kernel_rfl)).trans (Eq.trans ?_ h)
    exact M131_1_ok x0 x1 H
  · cases h
theorem M131_sound {o : Orc} (ho : ∀ f, FSound Tryz.prog f (o f)) (N : Nat) : FSound Tryz.prog 131 (M131 o N) :=
  FSound.sub (runFn_ok (an := A131_0) (fuel := N) hmix ho (by kernel_rfl) (by kernel_rfl)) (M131_run o N)
/-! 132 (*ostinato/node.Node).loses -/
def M132_0 (o : Orc) (N : Nat) (κ : Kv) (x0 : V) (H : Heap) : Ans :=
  asP x0 fun p1 o2 =>
  (ldV H p1 ((o2 + 13) + 6)).bind fun v3 =>
  o 204 [v3] H fun v4 H5 =>
  asT0 v4 (
  asP x0 fun p6 o7 =>
  (ldV H5 p6 ((o7 + 13) + 2)).bind fun v8 =>
  o 205 [v8] H5 fun v9 H10 =>
  asT0 v9 (
  asP x0 fun p11 o12 =>
  (ldV H10 p11 ((o12 + 13) + 3)).bind fun v13 =>
  o 206 [v13] H10 fun v14 H15 =>
  asT0 v14 (
  asP x0 fun p16 o17 =>
  (ldV H15 p16 ((o17 + 13) + 1)).bind fun v18 =>
  o 134 [v18] H15 fun v19 H20 =>
  asB v19 fun b21 =>
  asP x0 fun p22 o23 =>
  (ldV H20 p22 ((o23 + 13) + 7)).bind fun v24 =>
  o 125 [v24] H20 fun v25 H26 =>
  asT0 v25 (
  asP x0 fun p27 o28 =>
  (stN H26 p27 (o28 + 22) [(.bool true)]).bind fun H29 =>
  asP x0 fun p30 o31 =>
  (stN H29 p30 (o31 + 21) [(.int .i64 0)]).bind fun H32 =>
  κ (.tup []) H32))))
theorem M132_0_ok {o : Orc} {N : Nat} {κ : Kv} (x0 : V) (H : Heap) :
    run Tryz.prog o N (cAt Tryz.f132 []) .n (env0 Tryz.prog Tryz.f132 κ) (tmk 0 38 [(0, x0)]) H (env0 Tryz.prog Tryz.f132 κ).ret = M132_0 o N κ x0 H := by
  kernel_rfl
def M132 (o : Orc) (N : Nat) : FnM := fun vs H κ => match vs with
  | [x0] => M132_0 o N κ x0 H
  | _ => none
theorem M132_run (o : Orc) (N : Nat) (vs : List V) (H : Heap) (κ : Kv) (r) (h : M132 o N vs H κ = some r) : runFn Tryz.prog o N Tryz.f132 .n vs H κ = some r := by
  unfold M132 at h
  split at h
  · rename_i x0
    refine (runFn_at (t := tmk 0 38 [(0, x0)]) (by kernel_rfl) (by kernel_rfl)).trans (Eq.trans ?_ h)
    exact M132_0_ok x0 H
  · cases h
theorem M132_sound {o : Orc} (ho : ∀ f, FSound Tryz.prog f (o f)) (N : Nat) : FSound Tryz.prog 132 (M132 o N) :=
  FSound.sub (runFn_ok (an := .n) (fuel := N) hmix ho (by kernel_rfl) (by kernel_rfl)) (M132_run o N)
/-! 133 (*ostinato/sched.Sched).Open -/
def A133_0 : An := (.s .n none (.s (.d [0, 1, 2, 3, 4, 5, 6, 7, 8, 9]) none .n))
def M133_1 (o : Orc) (N : Nat) (κ : Kv) (x0 : V) (H : Heap) : Ans :=
  newB H (.row [(.int .i64 0), (.int .i64 0), (.int .i64 0), (.int .i64 0), (.int .i64 0), (.int .i64 0)]) fun i1 H2 =>
  asP x0 fun p3 o4 =>
  ldFlat (Heap.skip H2 10) p3 [.int .i64, .int .i64, .int .i64, .int .i64, .int .i64, .int .i64] (o4 + 3) fun l5 =>
  asP x0 fun p6 o7 =>
  (ldB (Heap.skip H2 10) p6 (o7 + 9)).bind fun b8 =>
  cond (Nat.beq (List.length l5) 6 && Nat.blt 0 6) (
  (stN (Heap.skip H2 10) i1 0 l5).bind fun H9 =>
  (ldB H9 p6 (o7 + 9)).bind fun b10 =>
  cond ((b8 == b10)) (
  ldFlat H9 i1 [.int .i64, .int .i64, .int .i64, .int .i64, .int .i64, .int .i64] 0 fun l11 =>
  κ (.tup [(.agg l11), (.bool b8)]) H9) none) none
theorem M133_1_ok {o : Orc} {N : Nat} {κ : Kv} (x0 : V) (H : Heap) :
    run Tryz.prog o N (cAt Tryz.f133 []) A133_0 (env0 Tryz.prog Tryz.f133 κ) (tmk 0 12 [(0, x0)]) H (env0 Tryz.prog Tryz.f133 κ).ret = M133_1 o N κ x0 H := by
  kernel_rfl
def M133 (o : Orc) (N : Nat) : FnM := fun vs H κ => match vs with
  | [x0] => M133_1 o N κ x0 H
  | _ => none
theorem M133_run (o : Orc) (N : Nat) (vs : List V) (H : Heap) (κ : Kv) (r) (h : M133 o N vs H κ = some r) : runFn Tryz.prog o N Tryz.f133 A133_0 vs H κ = some r := by
  unfold M133 at h
  split at h
  · rename_i x0
    refine (runFn_at (t := tmk 0 12 [(0, x0)]) (by kernel_rfl) (by kernel_rfl)).trans (Eq.trans ?_ h)
    exact M133_1_ok x0 H
  · cases h
theorem M133_sound {o : Orc} (ho : ∀ f, FSound Tryz.prog f (o f)) (N : Nat) : FSound Tryz.prog 133 (M133 o N) :=
  FSound.sub (runFn_ok (an := A133_0) (fuel := N) hmix ho (by kernel_rfl) (by kernel_rfl)) (M133_run o N)
/-! 134 (*ostinato/mac.Mac).Cancel -/
def M134_0 (o : Orc) (N : Nat) (κ : Kv) (x0 : V) (H : Heap) : Ans :=
  asP x0 fun p1 o2 =>
  (ldB H p1 (o2 + 4)).bind fun b3 =>
  cond (!b3) (
  κ (.bool false) H) (
  asP x0 fun p4 o5 =>
  (ldB H p4 ((o5 + 9) + 0)).bind fun b6 =>
  cond b6 (
  κ (.bool false) H) (
  o 207 [x0] H fun v7 H8 =>
  asT0 v7 (
  κ (.bool true) H8)))
theorem M134_0_ok {o : Orc} {N : Nat} {κ : Kv} (x0 : V) (H : Heap) :
    run Tryz.prog o N (cAt Tryz.f134 []) .n (env0 Tryz.prog Tryz.f134 κ) (tmk 0 17 [(0, x0)]) H (env0 Tryz.prog Tryz.f134 κ).ret = M134_0 o N κ x0 H := by
  kernel_rfl
def M134 (o : Orc) (N : Nat) : FnM := fun vs H κ => match vs with
  | [x0] => M134_0 o N κ x0 H
  | _ => none
theorem M134_run (o : Orc) (N : Nat) (vs : List V) (H : Heap) (κ : Kv) (r) (h : M134 o N vs H κ = some r) : runFn Tryz.prog o N Tryz.f134 .n vs H κ = some r := by
  unfold M134 at h
  split at h
  · rename_i x0
    refine (runFn_at (t := tmk 0 17 [(0, x0)]) (by kernel_rfl) (by kernel_rfl)).trans (Eq.trans ?_ h)
    exact M134_0_ok x0 H
  · cases h
theorem M134_sound {o : Orc} (ho : ∀ f, FSound Tryz.prog f (o f)) (N : Nat) : FSound Tryz.prog 134 (M134 o N) :=
  FSound.sub (runFn_ok (an := .n) (fuel := N) hmix ho (by kernel_rfl) (by kernel_rfl)) (M134_run o N)
/-! 135 (*ostinato/code.Reader).AtAck -/
def M135_0 (o : Orc) (N : Nat) (κ : Kv) (x0 : V) (H : Heap) : Ans :=
  asP x0 fun p1 o2 =>
  (ldI H .i64 p1 (o2 + 133)).bind fun n3 =>
  κ (.bool (n3 == 1)) H
theorem M135_0_ok {o : Orc} {N : Nat} {κ : Kv} (x0 : V) (H : Heap) :
    run Tryz.prog o N (cAt Tryz.f135 []) .n (env0 Tryz.prog Tryz.f135 κ) (tmk 0 8 [(0, x0)]) H (env0 Tryz.prog Tryz.f135 κ).ret = M135_0 o N κ x0 H := by
  kernel_rfl
def M135 (o : Orc) (N : Nat) : FnM := fun vs H κ => match vs with
  | [x0] => M135_0 o N κ x0 H
  | _ => none
theorem M135_run (o : Orc) (N : Nat) (vs : List V) (H : Heap) (κ : Kv) (r) (h : M135 o N vs H κ = some r) : runFn Tryz.prog o N Tryz.f135 .n vs H κ = some r := by
  unfold M135 at h
  split at h
  · rename_i x0
    refine (runFn_at (t := tmk 0 8 [(0, x0)]) (by kernel_rfl) (by kernel_rfl)).trans (Eq.trans ?_ h)
    exact M135_0_ok x0 H
  · cases h
theorem M135_sound {o : Orc} (ho : ∀ f, FSound Tryz.prog f (o f)) (N : Nat) : FSound Tryz.prog 135 (M135 o N) :=
  FSound.sub (runFn_ok (an := .n) (fuel := N) hmix ho (by kernel_rfl) (by kernel_rfl)) (M135_run o N)
/-! 136 (*ostinato/code.Reader).Right -/
def M136_0 (o : Orc) (N : Nat) (κ : Kv) (x0 : V) (H : Heap) : Ans :=
  o 208 [x0] H fun v1 H2 =>
  asB v1 fun b3 =>
  cond (!b3) (
  asP x0 fun p4 o5 =>
  (ldI H2 .u16 p4 (o5 + 132)).bind fun n6 =>
  κ (.bool (n6 == 0)) H2) (
  κ (.bool false) H2)
theorem M136_0_ok {o : Orc} {N : Nat} {κ : Kv} (x0 : V) (H : Heap) :
    run Tryz.prog o N (cAt Tryz.f136 []) .n (env0 Tryz.prog Tryz.f136 κ) (tmk 0 13 [(0, x0)]) H (env0 Tryz.prog Tryz.f136 κ).ret = M136_0 o N κ x0 H := by
  kernel_rfl
def M136 (o : Orc) (N : Nat) : FnM := fun vs H κ => match vs with
  | [x0] => M136_0 o N κ x0 H
  | _ => none
theorem M136_run (o : Orc) (N : Nat) (vs : List V) (H : Heap) (κ : Kv) (r) (h : M136 o N vs H κ = some r) : runFn Tryz.prog o N Tryz.f136 .n vs H κ = some r := by
  unfold M136 at h
  split at h
  · rename_i x0
    refine (runFn_at (t := tmk 0 13 [(0, x0)]) (by kernel_rfl) (by kernel_rfl)).trans (Eq.trans ?_ h)
    exact M136_0_ok x0 H
  · cases h
theorem M136_sound {o : Orc} (ho : ∀ f, FSound Tryz.prog f (o f)) (N : Nat) : FSound Tryz.prog 136 (M136 o N) :=
  FSound.sub (runFn_ok (an := .n) (fuel := N) hmix ho (by kernel_rfl) (by kernel_rfl)) (M136_run o N)
/-! 137 ostinato/confine.IsPassive -/
def M137_0 (o : Orc) (N : Nat) (κ : Kv) (x0 : List V) (H : Heap) : Ans :=
  cond (List.all x0 V.one) (
  newB H (.row x0) fun i1 H2 =>
  ldFlat H2 i1 [.int .i64, .int .i64] 0 fun l3 =>
  o 52 [(.agg l3)] H2 fun v4 H5 =>
  asB v4 fun b6 =>
  cond (!b6) (
  (ldI H5 .i64 i1 0).bind fun n7 =>
  cond (decide (n7 ≥ 128)) (
  κ (.bool true) H5) (
  (ldI H5 .i64 i1 1).bind fun n8 =>
  κ (.bool (decide (n8 ≥ 128))) H5)) (
  κ (.bool false) H5)) none
theorem M137_0_ok {o : Orc} {N : Nat} {κ : Kv} (x0 : List V) (H : Heap) :
    run Tryz.prog o N (cAt Tryz.f137 []) .n (env0 Tryz.prog Tryz.f137 κ) (tmk 0 16 [(0, .agg x0)]) H (env0 Tryz.prog Tryz.f137 κ).ret = M137_0 o N κ x0 H := by
  kernel_rfl
def M137 (o : Orc) (N : Nat) : FnM := fun vs H κ => match vs with
  | [.agg x0] => M137_0 o N κ x0 H
  | _ => none
theorem M137_run (o : Orc) (N : Nat) (vs : List V) (H : Heap) (κ : Kv) (r) (h : M137 o N vs H κ = some r) : runFn Tryz.prog o N Tryz.f137 .n vs H κ = some r := by
  unfold M137 at h
  split at h
  · rename_i x0
    refine (runFn_at (t := tmk 0 16 [(0, .agg x0)]) (by kernel_rfl) (by kernel_rfl)).trans (Eq.trans ?_ h)
    exact M137_0_ok x0 H
  · cases h
theorem M137_sound {o : Orc} (ho : ∀ f, FSound Tryz.prog f (o f)) (N : Nat) : FSound Tryz.prog 137 (M137 o N) :=
  FSound.sub (runFn_ok (an := .n) (fuel := N) hmix ho (by kernel_rfl) (by kernel_rfl)) (M137_run o N)
/-! 138 (*ostinato/mac.Mac).begins -/
def A138_0 : An := (.s .n none (.s .n none (.s .n none (.s (.s .n none (.c (.d [0, 1, 2, 3, 4, 6, 7, 8, 9, 5, 10, 11, 12, 13, 14, 15, 16]) .n)) none .n))))
def M138_1 (o : Orc) (N : Nat) (κ : Kv) (x0 : V) (x1 : Bool) (H : Heap) : Ans :=
  asP x0 fun p1 o2 =>
  (stN H p1 (o2 + 0) [(.int .i64 1)]).bind fun H3 =>
  asP x0 fun p4 o5 =>
  (stN H3 p4 (o5 + 13) [(.int .u8 0), (.int .i64 0), (.int .u8 0), (.int .u8 0), (.int .u8 0), (.int .u8 0), (.int .u8 0), (.int .u8 0), (.int .u8 0), (.int .u8 0), (.int .u8 0), (.int .u8 0), (.int .u8 0), (.int .u8 0), (.int .u8 0), (.int .u8 0), (.int .u8 0), (.int .u8 0), (.int .u8 0), (.int .u8 0), (.int .u8 0), (.int .u8 0), (.int .u8 0), (.int .u8 0), (.int .u8 0), (.int .u8 0), (.int .u8 0), (.int .u8 0), (.int .u8 0), (.int .u8 0), (.int .u8 0), (.int .u8 0), (.int .u8 0), (.int .u8 0), (.int .u8 0), (.int .u8 0), (.int .u8 0), (.int .u8 0), (.int .u8 0), (.int .u8 0), (.int .u8 0), (.int .u8 0), (.int .u8 0), (.int .u8 0), (.int .u8 0), (.int .u8 0), (.int .u8 0), (.int .u8 0), (.int .u8 0), (.int .u8 0), (.int .u8 0), (.int .u8 0), (.int .u8 0), (.int .u8 0), (.int .u8 0), (.int .u8 0), (.int .u8 0), (.int .u8 0), (.int .u8 0), (.int .u8 0), (.int .u8 0), (.int .u8 0), (.int .u8 0), (.int .u8 0), (.int .u8 0), (.int .u8 0), (.int .u8 0), (.int .u8 0), (.int .u8 0), (.int .u8 0), (.int .u8 0), (.int .u8 0), (.int .u8 0), (.int .u8 0), (.int .u8 0), (.int .u8 0), (.int .u8 0), (.int .u8 0), (.int .u8 0), (.int .u8 0), (.int .u8 0), (.int .u8 0), (.int .u8 0), (.int .u8 0), (.int .u8 0), (.int .u8 0), (.int .u8 0), (.int .u8 0), (.int .u8 0), (.int .u8 0), (.int .u8 0), (.int .u8 0), (.int .u8 0), (.int .u8 0), (.int .u8 0), (.int .u8 0), (.int .u8 0), (.int .u8 0), (.int .u8 0), (.int .u8 0), (.int .u8 0), (.int .u8 0), (.int .u8 0), (.int .u8 0), (.int .u8 0), (.int .u8 0), (.int .u8 0), (.int .u8 0), (.int .u8 0), (.int .u8 0), (.int .u8 0), (.int .u8 0), (.int .u8 0), (.int .u8 0), (.int .u8 0), (.int .u8 0), (.int .u8 0), (.int .u8 0), (.int .u8 0), (.int .u8 0), (.int .u8 0), (.int .u8 0), (.int .u8 0), (.int .u8 0), (.int .u8 0), (.int .u8 0), (.int .u8 0), (.int .u8 0), (.int .u8 0), (.int .u8 0), (.int .i64 0), (.int .i64 0), (.int .u16 0), (.int .i64 0), (.bool false)]).bind fun H6 =>
  asP x0 fun p7 o8 =>
  o 209 [(.ptr p7 (o8 + 13)), (.int .u8 48)] H6 fun v9 H10 =>
  asI .i64 v9 fun n11 =>
  cond x1 (
  asP x0 fun p12 o13 =>
  ldFlat (Heap.skip H10 17) p12 [.bool, .int .u32, .bool, .str] (o13 + 5) fun l14 =>
  asP x0 fun p15 o16 =>
  ldFlat (Heap.skip H10 17) p15 [.bool, .int .u32, .bool, .str] (o16 + 5) fun l17 =>
  o 210 [(.agg l14)] (Heap.skip H10 17) fun v18 H19 =>
  asS v18 fun s20 =>
  ldFlat H19 p15 [.bool, .int .u32, .bool, .str] (o16 + 5) fun l21 =>
  cond (sameL l17 l21) (
  o 212 [(.agg l17)] H19 fun v22 H23 =>
  asS v22 fun s24 =>
  o 211 [(.str s24)] H23 fun v25 H26 =>
  asS v25 fun s27 =>
  asP x0 fun p28 o29 =>
  (stN H26 p28 (o29 + 9) [(.bool true), (.str s20), (.int .i64 ((List.length s27 : Nat) : Int)), (.int .i64 1)]).bind fun H30 =>
  newB H30 (.row [(.int .i64 6), (.bool false), (.int .u32 0), (.bool false), (.str []), (.int .i64 0)]) fun i31 H32 =>
  κ (.sl i31 0 1 6 true) H32) none) (
  newB H10 (.row [(.int .i64 6), (.bool false), (.int .u32 0), (.bool false), (.str []), (.int .i64 0)]) fun i33 H34 =>
  κ (.sl i33 0 1 6 true) H34)
theorem M138_1_ok {o : Orc} {N : Nat} {κ : Kv} (x0 : V) (x1 : Bool) (H : Heap) :
    run Tryz.prog o N (cAt Tryz.f138 []) A138_0 (env0 Tryz.prog Tryz.f138 κ) (tmk 0 35 [(0, x0), (1, .bool x1)]) H (env0 Tryz.prog Tryz.f138 κ).ret = M138_1 o N κ x0 x1 H := by
  kernel_rfl
def M138 (o : Orc) (N : Nat) : FnM := fun vs H κ => match vs with
  | [x0, .bool x1] => M138_1 o N κ x0 x1 H
  | _ => none
theorem M138_run (o : Orc) (N : Nat) (vs : List V) (H : Heap) (κ : Kv) (r) (h : M138 o N vs H κ = some r) : runFn Tryz.prog o N Tryz.f138 A138_0 vs H κ = some r := by
  unfold M138 at h
  split at h
  · rename_i x0 x1
    refine (runFn_at (t := tmk 0 35 [(0, x0), (1, .bool x1)]) (by kernel_rfl) (by kernel_rfl)).trans (Eq.trans ?_ h)
    exact M138_1_ok x0 x1 H
  · cases h
theorem M138_sound {o : Orc} (ho : ∀ f, FSound Tryz.prog f (o f)) (N : Nat) : FSound Tryz.prog 138 (M138 o N) :=
  FSound.sub (runFn_ok (an := A138_0) (fuel := N) hmix ho (by kernel_rfl) (by kernel_rfl)) (M138_run o N)
/-! 139 (*ostinato/mac.Mac).sends -/
def M139_0 (o : Orc) (N : Nat) (J : V → Int → Heap → Ans) (κ : Kv) (x0 : V) (x1 : Int) (H : Heap) : Ans :=
  J x0 x1 H
theorem M139_0_ok {o : Orc} {N : Nat} {κ : Kv} {J : Kt} {J' : V → Int → Heap → Ans} (hJ : ∀ x0 x1 H, J (tmk 0 126 [(0, x0), (1, .int .u8 x1)]) H = J' x0 x1 H) (x0 : V) (x1 : Int) (H : Heap) :
    run Tryz.prog o N (cAt Tryz.f139 [0]) .n (env0 Tryz.prog Tryz.f139 κ) (tmk 0 126 [(0, x0), (1, .int .u8 x1)]) H (kj [0, 1] J) = M139_0 o N J' κ x0 x1 H := by
  obtain rfl := fx3 hJ
  kernel_rfl
def A139_1 : An := (.d [0, 1, 2, 3, 4, 5, 6, 7, 8, 9, 10, 11, 12, 13, 14, 15, 16, 17])
def M139_2 (o : Orc) (N : Nat) (J : V → Int → Nat → Int → Heap → Ans) (κ : Kv) (x0 : V) (x1 : Int) (H : Heap) : Ans :=
  asP x0 fun p1 o2 =>
  ldFlat (Heap.skip H 18) p1 [.bool, .int .u32, .bool, .str] (o2 + 5) fun l3 =>
  asP x0 fun p4 o5 =>
  (ldS (Heap.skip H 18) p4 ((o5 + 9) + 1)).bind fun s6 =>
  asP x0 fun p7 o8 =>
  (ldI (Heap.skip H 18) .i64 p7 ((o8 + 9) + 3)).bind fun n9 =>
  cond (decide (0 ≤ n9)) (
  (nth s6 (Int.toNat n9)).bind fun c10 =>
  cond (Nat.beq (List.length l3) 4 && Nat.blt 0 4) (
  (stN (Heap.newAt (Heap.skip H 18) (H.next + 15) (.row [(.bool false), (.int .u32 0), (.bool false), (.str [])])) (H.next + 15) 0 l3).bind fun H11 =>
  (ldI H11 .i64 p7 ((o8 + 9) + 3)).bind fun n12 =>
  cond (decide (n9 = n12)) (
  (ldS H11 p4 ((o5 + 9) + 1)).bind fun s13 =>
  cond (decide (s6 = s13)) (
  J x0 x1 (H.next + 15) (Int.ofNat c10) H11) none) none) none) none
theorem M139_2_ok {o : Orc} {N : Nat} {κ : Kv} {J : Kt} {J' : V → Int → Nat → Int → Heap → Ans} (hJ : ∀ x0 x1 x5 x6 H, J (tmk 0 126 [(0, x0), (1, .int .u8 x1), (5, .ptr x5 0), (6, .int .u8 x6)]) H = J' x0 x1 x5 x6 H) (x0 : V) (x1 : Int) (H : Heap) :
    run Tryz.prog o N (cAt Tryz.f139 [1, 0]) A139_1 (env0 Tryz.prog Tryz.f139 κ) (tmk 0 126 [(0, x0), (1, .int .u8 x1)]) H (kj [0, 1, 5, 6] J) = M139_2 o N J' κ x0 x1 H := by
  obtain rfl := fx5 hJ
  kernel_rfl
def A139_3 : An := (.d [0, 1, 2, 3, 4, 5, 6, 7, 8, 9, 10, 11, 12, 13])
def M139_4 (o : Orc) (N : Nat) (J : V → Int → Nat → Int → Bool → Heap → Ans) (κ : Kv) (x0 : V) (x1 : Int) (x5 : Nat) (x6 : Int) (H : Heap) : Ans :=
  asP x0 fun p14 o15 =>
  (ldI (Heap.skip H 14) .i64 p14 ((o15 + 9) + 3)).bind fun n16 =>
  asP x0 fun p17 o18 =>
  (ldS (Heap.skip H 14) p17 ((o18 + 9) + 1)).bind fun s19 =>
  J x0 x1 x5 x6 (n16 == (IntKind.i64.wrap (((List.length s19 : Nat) : Int) - 9))) (Heap.skip H 14)
theorem M139_4_ok {o : Orc} {N : Nat} {κ : Kv} {J : Kt} {J' : V → Int → Nat → Int → Bool → Heap → Ans} (hJ : ∀ x0 x1 x5 x6 x7 H, J (tmk 0 126 [(0, x0), (1, .int .u8 x1), (5, .ptr x5 0), (6, .int .u8 x6), (7, .bool x7)]) H = J' x0 x1 x5 x6 x7 H) (x0 : V) (x1 : Int) (x5 : Nat) (x6 : Int) (H : Heap) :
    run Tryz.prog o N (cAt Tryz.f139 [1, 1, 0]) A139_3 (env0 Tryz.prog Tryz.f139 κ) (tmk 0 126 [(0, x0), (1, .int .u8 x1), (5, .ptr x5 0), (6, .int .u8 x6)]) H (kj [0, 1, 5, 6, 7] J) = M139_4 o N J' κ x0 x1 x5 x6 H := by
  obtain rfl := fx6 hJ
  kernel_rfl
def A139_5 : An := (.d [0, 1, 2, 3, 4, 5, 6, 7, 8, 9, 10, 11, 12, 13, 14, 15, 16, 17, 18, 19])
def M139_6 (o : Orc) (N : Nat) (J : V → Int → Nat → Int → Bool → Bool → Heap → Ans) (κ : Kv) (x0 : V) (x1 : Int) (x5 : Nat) (x6 : Int) (x7 : Bool) (H : Heap) : Ans :=
  cond (x6 == 49) (
  cond (x1 == 48) (
  asP x0 fun p20 o21 =>
  (ldI (Heap.skip H 20) .i64 p20 ((o21 + 9) + 3)).bind fun n22 =>
  asP x0 fun p23 o24 =>
  (ldI (Heap.skip H 20) .i64 p23 ((o24 + 9) + 2)).bind fun n25 =>
  J x0 x1 x5 x6 x7 (decide (n22 < n25)) (Heap.skip H 20)) (
  J x0 x1 x5 x6 x7 false (Heap.skip H 20))) (
  J x0 x1 x5 x6 x7 false (Heap.skip H 20))
theorem M139_6_ok {o : Orc} {N : Nat} {κ : Kv} {X0 J : Kt} {J' : V → Int → Nat → Int → Bool → Bool → Heap → Ans} (hJ : ∀ x0 x1 x5 x6 x7 x36 H, J (tmk 0 126 [(0, x0), (1, .int .u8 x1), (5, .ptr x5 0), (6, .int .u8 x6), (7, .bool x7), (36, .bool x36)]) H = J' x0 x1 x5 x6 x7 x36 H) (x0 : V) (x1 : Int) (x5 : Nat) (x6 : Int) (x7 : Bool) (H : Heap) :
    run Tryz.prog o N (cAt Tryz.f139 [1, 1, 1, 0, 4, 0]) A139_5 ((env0 Tryz.prog Tryz.f139 κ).block 0 (kj [0, 1, 5] X0)) (tmk 0 126 [(0, x0), (1, .int .u8 x1), (5, .ptr x5 0), (6, .int .u8 x6), (7, .bool x7)]) H (kj [0, 1, 5, 6, 7, 36] J) = M139_6 o N J' κ x0 x1 x5 x6 x7 H := by
  obtain rfl := fx7 hJ
  kernel_rfl
def A139_7 : An := (.c (.s .n none (.s (.d [0, 1, 3, 4, 5, 2, 6, 7]) none .n)) .n)
def M139_8 (o : Orc) (N : Nat) (J : V → Int → Nat → Heap → Ans) (κ : Kv) (x0 : V) (x1 : Int) (x5 : Nat) (x6 : Int) (x7 x36 : Bool) (H : Heap) : Ans :=
  cond x36 (
  o 207 [x0] H fun v26 H27 =>
  asT0 v26 (
  ldFlat (Heap.skip H27 8) x5 [.bool, .int .u32, .bool, .str] 0 fun l28 =>
  (fillV (nth [(0, 1), (1, 4), (5, 1)]) [(.int .i64 0), (.bool false), (.int .u32 0), (.bool false), (.str []), (.int .i64 0)] [(0, (.int .i64 3)), (1, (.agg l28))]).bind fun l29 =>
  o 140 [x0, (.int .u8 x1)] (Heap.skip H27 8) fun v30 H31 =>
  ldFlat H31 x5 [.bool, .int .u32, .bool, .str] 0 fun l32 =>
  cond (sameL l28 l32) (
  (fillV (fun i => some (i * 6, 6)) [(.int .i64 0), (.bool false), (.int .u32 0), (.bool false), (.str []), (.int .i64 0)] [(0, (.agg l29))]).bind fun l33 =>
  appV (Heap.newAt H31 (H27.next + 2) (.row l33)) (.sl (H27.next + 2) 0 1 6 true) v30 6 fun v34 H35 =>
  κ v34 H35) none)) (
  cond x7 (
  cond (x1 == 49) (
  ldFlat H x5 [.bool, .int .u32, .bool, .str] 0 fun l36 =>
  o 213 [x0, (.agg l36), (.int .i64 71)] H fun v37 H38 =>
  κ v37 H38) (
  cond (!x7) (
  cond (x1 != x6) (
  ldFlat H x5 [.bool, .int .u32, .bool, .str] 0 fun l39 =>
  o 213 [x0, (.agg l39), (.int .i64 70)] H fun v40 H41 =>
  κ v40 H41) (
  J x0 x1 x5 H)) (
  J x0 x1 x5 H))) (
  cond (!x7) (
  cond (x1 != x6) (
  ldFlat H x5 [.bool, .int .u32, .bool, .str] 0 fun l42 =>
  o 213 [x0, (.agg l42), (.int .i64 70)] H fun v43 H44 =>
  κ v43 H44) (
  J x0 x1 x5 H)) (
  J x0 x1 x5 H)))
theorem M139_8_ok {o : Orc} {N : Nat} {κ : Kv} {X0 J : Kt} {J' : V → Int → Nat → Heap → Ans} (hJ : ∀ x0 x1 x5 H, J (tmk 0 126 [(0, x0), (1, .int .u8 x1), (5, .ptr x5 0)]) H = J' x0 x1 x5 H) (x0 : V) (x1 : Int) (x5 : Nat) (x6 : Int) (x7 x36 : Bool) (H : Heap) :
    run Tryz.prog o N (cAt Tryz.f139 [1, 1, 1, 0, 4, 1]) A139_7 ((env0 Tryz.prog Tryz.f139 κ).block 0 (kj [0, 1, 5] X0)) (tmk 0 126 [(0, x0), (1, .int .u8 x1), (5, .ptr x5 0), (6, .int .u8 x6), (7, .bool x7), (36, .bool x36)]) H (kj [0, 1, 5] J) = M139_8 o N J' κ x0 x1 x5 x6 x7 x36 H := by
  obtain rfl := fx4 hJ
  kernel_rfl
def A139_9 : An := .s A139_5 (some (lvOf [0, 1, 5, 6, 7, 36])) A139_7
def A139_10 : An := (.s .n none (.s .n none (.s (.s (.d [0, 1, 2, 3, 4, 5, 6, 7, 8, 9, 10, 11]) none .n) none .n)))
def M139_11 (o : Orc) (N : Nat) (κ : Kv) (x0 : V) (x1 : Int) (x5 : Nat) (H : Heap) : Ans :=
  asP x0 fun p45 o46 =>
  o 209 [(.ptr p45 (o46 + 13)), (.int .u8 x1)] H fun v47 H48 =>
  asI .i64 v47 fun n49 =>
  asP x0 fun p50 o51 =>
  (ldI H48 .i64 p50 ((o51 + 9) + 3)).bind fun n52 =>
  asP x0 fun p53 o54 =>
  (stN H48 p53 ((o54 + 9) + 3) [(.int .i64 (IntKind.i64.wrap (n52 + 1)))]).bind fun H55 =>
  asP x0 fun p56 o57 =>
  (ldI (Heap.skip H55 12) .i64 p56 ((o57 + 9) + 3)).bind fun n58 =>
  asP x0 fun p59 o60 =>
  (ldS (Heap.skip H55 12) p59 ((o60 + 9) + 1)).bind fun s61 =>
  cond (decide (n58 < ((List.length s61 : Nat) : Int))) (
  κ .nils (Heap.skip H55 12)) (
  o 207 [x0] (Heap.skip H55 12) fun v62 H63 =>
  asT0 v62 (
  asP x0 fun p64 o65 =>
  ldFlat H63 p64 [.int .i64, .int .i64] (o65 + 2) fun l66 =>
  o 214 [(.agg l66), (.bool true)] H63 fun v67 H68 =>
  asA v67 fun l69 =>
  asP x0 fun p70 o71 =>
  cond (Nat.beq (List.length l69) 2 && Nat.blt 0 2) (
  (stN H68 p70 (o71 + 2) l69).bind fun H72 =>
  o 141 [x0] H72 fun v73 H74 =>
  asT0 v73 (
  ldFlat H74 x5 [.bool, .int .u32, .bool, .str] 0 fun l75 =>
  (fillV (nth [(0, 1), (1, 4), (5, 1)]) [(.int .i64 0), (.bool false), (.int .u32 0), (.bool false), (.str []), (.int .i64 0)] [(0, (.int .i64 1)), (1, (.agg l75))]).bind fun l76 =>
  (fillV (fun i => some (i * 6, 6)) [(.int .i64 0), (.bool false), (.int .u32 0), (.bool false), (.str []), (.int .i64 0)] [(0, (.agg l76))]).bind fun l77 =>
  newB H74 (.row l77) fun i78 H79 =>
  κ (.sl i78 0 1 6 true) H79)) none))
theorem M139_11_ok {o : Orc} {N : Nat} {κ : Kv} (x0 : V) (x1 : Int) (x5 : Nat) (H : Heap) :
    run Tryz.prog o N (cAt Tryz.f139 [1, 1, 1, 1]) A139_10 (env0 Tryz.prog Tryz.f139 κ) (tmk 0 126 [(0, x0), (1, .int .u8 x1), (5, .ptr x5 0)]) H (env0 Tryz.prog Tryz.f139 κ).ret = M139_11 o N κ x0 x1 x5 H := by
  kernel_rfl
def A139_12 : An := .s (.b none A139_9) (some (lvOf [0, 1, 5])) A139_10
def A139_13 : An := .s A139_3 (some (lvOf [0, 1, 5, 6, 7])) A139_12
def A139_14 : An := .s A139_1 (some (lvOf [0, 1, 5, 6])) A139_13
def M139 (o : Orc) (N : Nat) : FnM := fun vs H κ => match vs with
  | [x0, .int .u8 x1] => M139_0 o N (fun x0 x1 H => M139_2 o N (fun x0 x1 x5 x6 H => M139_4 o N (fun x0 x1 x5 x6 x7 H => M139_6 o N (fun x0 x1 x5 x6 x7 x36 H => M139_8 o N (fun x0 x1 x5 H => M139_11 o N κ x0 x1 x5 H) κ x0 x1 x5 x6 x7 x36 H) κ x0 x1 x5 x6 x7 H) κ x0 x1 x5 x6 H) κ x0 x1 H) κ x0 x1 H
  | _ => none
theorem M139_run (o : Orc) (N : Nat) (vs : List V) (H : Heap) (κ : Kv) (r) (h : M139 o N vs H κ = some r) : runFn Tryz.prog o N Tryz.f139 (.s .n (some (lvOf [0, 1])) A139_14) vs H κ = some r := by
  unfold M139 at h
  split at h
  · rename_i x0 x1
    refine (runFn_at (t := tmk 0 126 [(0, x0), (1, .int .u8 x1)]) (by kernel_rfl) (by kernel_rfl)).trans (Eq.trans ?_ h)
    refine (run_seq (x := (cAt Tryz.f139 [0])) (ax := .n) (y := (cAt Tryz.f139 [1])) (ay := A139_14) (l := [0, 1]) (by kernel_rfl) (by kernel_rfl)).trans ?_
    refine M139_0_ok ?_ x0 x1 H
    intro x0 x1 H
    refine (run_seq (x := (cAt Tryz.f139 [1, 0])) (ax := A139_1) (y := (cAt Tryz.f139 [1, 1])) (ay := A139_13) (l := [0, 1, 5, 6]) (by kernel_rfl) (by kernel_rfl)).trans ?_
    refine M139_2_ok ?_ x0 x1 H
    intro x0 x1 x5 x6 H
    refine (run_seq (x := (cAt Tryz.f139 [1, 1, 0])) (ax := A139_3) (y := (cAt Tryz.f139 [1, 1, 1])) (ay := A139_12) (l := [0, 1, 5, 6, 7]) (by kernel_rfl) (by kernel_rfl)).trans ?_
    refine M139_4_ok ?_ x0 x1 x5 x6 H
    intro x0 x1 x5 x6 x7 H
    refine (run_seq (x := (cAt Tryz.f139 [1, 1, 1, 0])) (ax := (.b none A139_9)) (y := (cAt Tryz.f139 [1, 1, 1, 1])) (ay := A139_10) (l := [0, 1, 5]) (by kernel_rfl) (by kernel_rfl)).trans ?_
    refine (run_block (id := 0) (x := (cAt Tryz.f139 [1, 1, 1, 0, 4])) (ax := A139_9) (by kernel_rfl) (by kernel_rfl)).trans ?_
    refine (run_seq (x := (cAt Tryz.f139 [1, 1, 1, 0, 4, 0])) (ax := A139_5) (y := (cAt Tryz.f139 [1, 1, 1, 0, 4, 1])) (ay := A139_7) (l := [0, 1, 5, 6, 7, 36]) (by kernel_rfl) (by kernel_rfl)).trans ?_
    refine M139_6_ok ?_ x0 x1 x5 x6 x7 H
    intro x0 x1 x5 x6 x7 x36 H
    refine M139_8_ok ?_ x0 x1 x5 x6 x7 x36 H
    intro x0 x1 x5 H
    exact M139_11_ok x0 x1 x5 H
  · cases h
theorem M139_sound {o : Orc} (ho : ∀ f, FSound Tryz.prog f (o f)) (N : Nat) : FSound Tryz.prog 139 (M139 o N) :=
  FSound.sub (runFn_ok (an := (.s .n (some (lvOf [0, 1])) A139_14)) (fuel := N) hmix ho (by kernel_rfl) (by kernel_rfl)) (M139_run o N)
/-! 140 (*ostinato/mac.Mac).hears -/
def M140_0 (o : Orc) (N : Nat) (κ : Kv) (x0 : V) (x1 : Int) (H : Heap) : Ans :=
  asP x0 fun p1 o2 =>
  o 209 [(.ptr p1 (o2 + 13)), (.int .u8 x1)] H fun v3 H4 =>
  asI .i64 v3 fun n5 =>
  cond (n5 != 0) (
  asP x0 fun p6 o7 =>
  ldFlat H4 p6 [.int .i64, .int .i64] (o7 + 2) fun l8 =>
  o 215 [(.agg l8), (.bool false)] H4 fun v9 H10 =>
  asA v9 fun l11 =>
  asP x0 fun p12 o13 =>
  cond (Nat.beq (List.length l11) 2 && Nat.blt 0 2) (
  (stN H10 p12 (o13 + 2) l11).bind fun H14 =>
  o 216 [x0, (.agg [(.int .i64 5), (.bool false), (.int .u32 0), (.bool false), (.str []), (.int .i64 n5)])] H14 fun v15 H16 =>
  κ v15 H16) none) (
  asP x0 fun p17 o18 =>
  o 217 [(.ptr p17 (o18 + 13))] H4 fun v19 H20 =>
  asI .i64 v19 fun n21 =>
  cond (decide (n21 < 6)) (
  κ .nils H20) (
  asP x0 fun p22 o23 =>
  (stN H20 p22 (o23 + 0) [(.int .i64 2)]).bind fun H24 =>
  asP x0 fun p25 o26 =>
  ldFlat H24 p25 [.int .i64, .int .i64] (o26 + 2) fun l27 =>
  o 215 [(.agg l27), (.bool true)] H24 fun v28 H29 =>
  asA v28 fun l30 =>
  asP x0 fun p31 o32 =>
  cond (Nat.beq (List.length l30) 2 && Nat.blt 0 2) (
  (stN H29 p31 (o32 + 2) l30).bind fun H33 =>
  asP x0 fun p34 o35 =>
  o 218 [(.ptr p34 (o35 + 13))] H33 fun v36 H37 =>
  asA v36 fun l38 =>
  (fillV (nth [(0, 1), (1, 4), (5, 1)]) [(.int .i64 0), (.bool false), (.int .u32 0), (.bool false), (.str []), (.int .i64 0)] [(0, (.int .i64 2)), (1, (.agg l38))]).bind fun l39 =>
  (fillV (fun i => some (i * 6, 6)) [(.int .i64 0), (.bool false), (.int .u32 0), (.bool false), (.str []), (.int .i64 0)] [(0, (.agg l39))]).bind fun l40 =>
  newB H37 (.row l40) fun i41 H42 =>
  κ (.sl i41 0 1 6 true) H42) none))
theorem M140_0_ok {o : Orc} {N : Nat} {κ : Kv} (x0 : V) (x1 : Int) (H : Heap) :
    run Tryz.prog o N (cAt Tryz.f140 []) .n (env0 Tryz.prog Tryz.f140 κ) (tmk 0 47 [(0, x0), (1, .int .u8 x1)]) H (env0 Tryz.prog Tryz.f140 κ).ret = M140_0 o N κ x0 x1 H := by
  kernel_rfl
def M140 (o : Orc) (N : Nat) : FnM := fun vs H κ => match vs with
  | [x0, .int .u8 x1] => M140_0 o N κ x0 x1 H
  | _ => none
theorem M140_run (o : Orc) (N : Nat) (vs : List V) (H : Heap) (κ : Kv) (r) (h : M140 o N vs H κ = some r) : runFn Tryz.prog o N Tryz.f140 .n vs H κ = some r := by
  unfold M140 at h
  split at h
  · rename_i x0 x1
    refine (runFn_at (t := tmk 0 47 [(0, x0), (1, .int .u8 x1)]) (by kernel_rfl) (by kernel_rfl)).trans (Eq.trans ?_ h)
    exact M140_0_ok x0 x1 H
  · cases h
theorem M140_sound {o : Orc} (ho : ∀ f, FSound Tryz.prog f (o f)) (N : Nat) : FSound Tryz.prog 140 (M140 o N) :=
  FSound.sub (runFn_ok (an := .n) (fuel := N) hmix ho (by kernel_rfl) (by kernel_rfl)) (M140_run o N)
/-! 141 (*ostinato/mac.Mac).pauses -/
def M141_0 (o : Orc) (N : Nat) (κ : Kv) (x0 : V) (H : Heap) : Ans :=
  asP x0 fun p1 o2 =>
  (stN H p1 (o2 + 0) [(.int .i64 6)]).bind fun H3 =>
  asP x0 fun p4 o5 =>
  (stN H3 p4 (o5 + 1) [(.int .i64 3)]).bind fun H6 =>
  κ (.tup []) H6
theorem M141_0_ok {o : Orc} {N : Nat} {κ : Kv} (x0 : V) (H : Heap) :
    run Tryz.prog o N (cAt Tryz.f141 []) .n (env0 Tryz.prog Tryz.f141 κ) (tmk 0 8 [(0, x0)]) H (env0 Tryz.prog Tryz.f141 κ).ret = M141_0 o N κ x0 H := by
  kernel_rfl
def M141 (o : Orc) (N : Nat) : FnM := fun vs H κ => match vs with
  | [x0] => M141_0 o N κ x0 H
  | _ => none
theorem M141_run (o : Orc) (N : Nat) (vs : List V) (H : Heap) (κ : Kv) (r) (h : M141 o N vs H κ = some r) : runFn Tryz.prog o N Tryz.f141 .n vs H κ = some r := by
  unfold M141 at h
  split at h
  · rename_i x0
    refine (runFn_at (t := tmk 0 8 [(0, x0)]) (by kernel_rfl) (by kernel_rfl)).trans (Eq.trans ?_ h)
    exact M141_0_ok x0 H
  · cases h
theorem M141_sound {o : Orc} (ho : ∀ f, FSound Tryz.prog f (o f)) (N : Nat) : FSound Tryz.prog 141 (M141 o N) :=
  FSound.sub (runFn_ok (an := .n) (fuel := N) hmix ho (by kernel_rfl) (by kernel_rfl)) (M141_run o N)
/-! 142 (*ostinato/mac.Mac).counted -/
def M142_0 (o : Orc) (N : Nat) (κ : Kv) (x0 : V) (x1 x2 : Int) (H : Heap) : Ans :=
  asP x0 fun p1 o2 =>
  (ldI H .i64 p1 (o2 + 1)).bind fun n3 =>
  asP x0 fun p4 o5 =>
  (stN H p4 (o5 + 1) [(.int .i64 (IntKind.i64.wrap (n3 - 1)))]).bind fun H6 =>
  asP x0 fun p7 o8 =>
  (ldI H6 .i64 p7 (o8 + 1)).bind fun n9 =>
  cond (decide (n9 ≤ 0)) (
  asP x0 fun p10 o11 =>
  (stN H6 p10 (o11 + 0) [(.int .i64 x1)]).bind fun H12 =>
  asP x0 fun p13 o14 =>
  (stN H12 p13 (o14 + 1) [(.int .i64 x2)]).bind fun H15 =>
  κ (.tup []) H15) (
  κ (.tup []) H6)
theorem M142_0_ok {o : Orc} {N : Nat} {κ : Kv} (x0 : V) (x1 x2 : Int) (H : Heap) :
    run Tryz.prog o N (cAt Tryz.f142 []) .n (env0 Tryz.prog Tryz.f142 κ) (tmk 0 26 [(0, x0), (1, .int .i64 x1), (2, .int .i64 x2)]) H (env0 Tryz.prog Tryz.f142 κ).ret = M142_0 o N κ x0 x1 x2 H := by
  kernel_rfl
def M142 (o : Orc) (N : Nat) : FnM := fun vs H κ => match vs with
  | [x0, .int .i64 x1, .int .i64 x2] => M142_0 o N κ x0 x1 x2 H
  | _ => none
theorem M142_run (o : Orc) (N : Nat) (vs : List V) (H : Heap) (κ : Kv) (r) (h : M142 o N vs H κ = some r) : runFn Tryz.prog o N Tryz.f142 .n vs H κ = some r := by
  unfold M142 at h
  split at h
  · rename_i x0 x1 x2
    refine (runFn_at (t := tmk 0 26 [(0, x0), (1, .int .i64 x1), (2, .int .i64 x2)]) (by kernel_rfl) (by kernel_rfl)).trans (Eq.trans ?_ h)
    exact M142_0_ok x0 x1 x2 H
  · cases h
theorem M142_sound {o : Orc} (ho : ∀ f, FSound Tryz.prog f (o f)) (N : Nat) : FSound Tryz.prog 142 (M142 o N) :=
  FSound.sub (runFn_ok (an := .n) (fuel := N) hmix ho (by kernel_rfl) (by kernel_rfl)) (M142_run o N)
/-! 143 (*ostinato/mark.times).set -/
def M143_0 (o : Orc) (N : Nat) (κ : Kv) (x0 : V) (x1 : Int) (H : Heap) : Ans :=
  asP x0 fun p1 o2 =>
  bounds 1 none none fun l3 u4 =>
  newB H (.row [(.int .u16 x1)]) fun i5 H6 =>
  cpyV H6 (.sl p1 ((o2 + 0) + l3 * 1) (u4 - l3) 1 false) (.sl i5 0 1 1 true) 1 fun n7 H8 =>
  asP x0 fun p9 o10 =>
  (stN H8 p9 (o10 + 1) [(.int .i64 n7)]).bind fun H11 =>
  κ (.tup []) H11
theorem M143_0_ok {o : Orc} {N : Nat} {κ : Kv} (x0 : V) (x1 : Int) (H : Heap) :
    run Tryz.prog o N (cAt Tryz.f143 []) .n (env0 Tryz.prog Tryz.f143 κ) (tmk 0 14 [(0, x0), (1, .int .u16 x1)]) H (env0 Tryz.prog Tryz.f143 κ).ret = M143_0 o N κ x0 x1 H := by
  kernel_rfl
def M143 (o : Orc) (N : Nat) : FnM := fun vs H κ => match vs with
  | [x0, .int .u16 x1] => M143_0 o N κ x0 x1 H
  | _ => none
theorem M143_run (o : Orc) (N : Nat) (vs : List V) (H : Heap) (κ : Kv) (r) (h : M143 o N vs H κ = some r) : runFn Tryz.prog o N Tryz.f143 .n vs H κ = some r := by
  unfold M143 at h
  split at h
  · rename_i x0 x1
    refine (runFn_at (t := tmk 0 14 [(0, x0), (1, .int .u16 x1)]) (by kernel_rfl) (by kernel_rfl)).trans (Eq.trans ?_ h)
    exact M143_0_ok x0 x1 H
  · cases h
theorem M143_sound {o : Orc} (ho : ∀ f, FSound Tryz.prog f (o f)) (N : Nat) : FSound Tryz.prog 143 (M143 o N) :=
  FSound.sub (runFn_ok (an := .n) (fuel := N) hmix ho (by kernel_rfl) (by kernel_rfl)) (M143_run o N)
/-! 144 ostinato/refmsg.Build -/
def M144_0 (o : Orc) (N : Nat) (κ : Kv) (x0 : List V) (x1 x2 x3 : Int) (x4 : Bool) (H : Heap) : Ans :=
  cond (List.all x0 V.one) (
  newB H (.row x0) fun i1 H2 =>
  newB H2 (.row [(.bool false), (.int .u32 0), (.bool false), (.str [])]) fun i3 H4 =>
  ldFlat H4 i1 [.int .i64, .int .i64, .int .i64, .int .i64, .int .i64, .int .i64, .int .i64, .int .u32, .oth, .oth, .oth] 0 fun l5 =>
  o 106 [(.agg l5)] H4 fun v6 H7 =>
  asB v6 fun b8 =>
  cond (!b8) (
  (stN H7 i3 0 [(.bool false), (.int .u32 0), (.bool false), (.str [])]).bind fun H9 =>
  ldFlat H9 i3 [.bool, .int .u32, .bool, .str] 0 fun l10 =>
  κ (.tup [(.agg l10), (.bool false)]) H9) (
  cond (decide (x1 < 0)) (
  (stN H7 i3 0 [(.bool false), (.int .u32 0), (.bool false), (.str [])]).bind fun H11 =>
  ldFlat H11 i3 [.bool, .int .u32, .bool, .str] 0 fun l12 =>
  κ (.tup [(.agg l12), (.bool false)]) H11) (
  (ldV H7 i1 8).bind fun v13 =>
  lenS v13 fun n14 =>
  cond (decide (x1 ≥ n14)) (
  (stN H7 i3 0 [(.bool false), (.int .u32 0), (.bool false), (.str [])]).bind fun H15 =>
  ldFlat H15 i3 [.bool, .int .u32, .bool, .str] 0 fun l16 =>
  κ (.tup [(.agg l16), (.bool false)]) H15) (
  cond (decide (x2 < 0)) (
  (stN H7 i3 0 [(.bool false), (.int .u32 0), (.bool false), (.str [])]).bind fun H17 =>
  ldFlat H17 i3 [.bool, .int .u32, .bool, .str] 0 fun l18 =>
  κ (.tup [(.agg l18), (.bool false)]) H17) (
  (ldI H7 .i64 i1 2).bind fun n19 =>
  cond (decide (x2 ≥ n19)) (
  (stN H7 i3 0 [(.bool false), (.int .u32 0), (.bool false), (.str [])]).bind fun H20 =>
  ldFlat H20 i3 [.bool, .int .u32, .bool, .str] 0 fun l21 =>
  κ (.tup [(.agg l21), (.bool false)]) H20) (
  newB H7 (.row [(.int .u8 (IntKind.u8.wrap x2))]) fun i22 H23 =>
  (ldI H23 .i64 i1 0).bind fun n24 =>
  cond (n24 == 2) (
  cond x4 (
  newB H23 (.row [(.int .u8 1), (.int .u8 (IntKind.u8.wrap (Int.fdiv x3 (2 ^ (min (Int.toNat 8) (IntKind.bits .u16)))))), (.int .u8 (IntKind.u8.wrap x3))]) fun i25 H26 =>
  appV H26 (.sl i22 0 1 1 true) (.sl i25 0 3 1 true) 1 fun v27 H28 =>
  (ldI H28 .u32 i1 7).bind fun n29 =>
  bytesV H28 v27 fun s30 =>
  (stN H28 i3 0 [(.bool false), (.int .u32 (IntKind.u32.wrap (n29 + (IntKind.u32.wrap x1)))), (.bool false), (.str s30)]).bind fun H31 =>
  ldFlat H31 i3 [.bool, .int .u32, .bool, .str] 0 fun l32 =>
  κ (.tup [(.agg l32), (.bool true)]) H31) (
  newB H23 (.row [(.int .u8 0), (.int .u8 (IntKind.u8.wrap (Int.fdiv x3 (2 ^ (min (Int.toNat 8) (IntKind.bits .u16)))))), (.int .u8 (IntKind.u8.wrap x3))]) fun i33 H34 =>
  appV H34 (.sl i22 0 1 1 true) (.sl i33 0 3 1 true) 1 fun v35 H36 =>
  (ldI H36 .u32 i1 7).bind fun n37 =>
  bytesV H36 v35 fun s38 =>
  (stN H36 i3 0 [(.bool false), (.int .u32 (IntKind.u32.wrap (n37 + (IntKind.u32.wrap x1)))), (.bool false), (.str s38)]).bind fun H39 =>
  ldFlat H39 i3 [.bool, .int .u32, .bool, .str] 0 fun l40 =>
  κ (.tup [(.agg l40), (.bool true)]) H39)) (
  (ldI H23 .u32 i1 7).bind fun n41 =>
  bytesV H23 (.sl i22 0 1 1 true) fun s42 =>
  (stN H23 i3 0 [(.bool false), (.int .u32 (IntKind.u32.wrap (n41 + (IntKind.u32.wrap x1)))), (.bool false), (.str s42)]).bind fun H43 =>
  ldFlat H43 i3 [.bool, .int .u32, .bool, .str] 0 fun l44 =>
  κ (.tup [(.agg l44), (.bool true)]) H43))))))) none
theorem M144_0_ok {o : Orc} {N : Nat} {κ : Kv} (x0 : List V) (x1 x2 x3 : Int) (x4 : Bool) (H : Heap) :
    run Tryz.prog o N (cAt Tryz.f144 []) .n (env0 Tryz.prog Tryz.f144 κ) (tmk 0 63 [(0, .agg x0), (1, .int .i64 x1), (2, .int .i64 x2), (3, .int .u16 x3), (4, .bool x4)]) H (env0 Tryz.prog Tryz.f144 κ).ret = M144_0 o N κ x0 x1 x2 x3 x4 H := by
  kernel_rfl
def M144 (o : Orc) (N : Nat) : FnM := fun vs H κ => match vs with
  | [.agg x0, .int .i64 x1, .int .i64 x2, .int .u16 x3, .bool x4] => M144_0 o N κ x0 x1 x2 x3 x4 H
  | _ => none
theorem M144_run (o : Orc) (N : Nat) (vs : List V) (H : Heap) (κ : Kv) (r) (h : M144 o N vs H κ = some r) : runFn Tryz.prog o N Tryz.f144 .n vs H κ = some r := by
  unfold M144 at h
  split at h
  · rename_i x0 x1 x2 x3 x4
    refine (runFn_at (t := tmk 0 63 [(0, .agg x0), (1, .int .i64 x1), (2, .int .i64 x2), (3, .int .u16 x3), (4, .bool x4)]) (by kernel_rfl) (by kernel_rfl)).trans (Eq.trans ?_ h)
    exact M144_0_ok x0 x1 x2 x3 x4 H
  · cases h
theorem M144_sound {o : Orc} (ho : ∀ f, FSound Tryz.prog f (o f)) (N : Nat) : FSound Tryz.prog 144 (M144 o N) :=
  FSound.sub (runFn_ok (an := .n) (fuel := N) hmix ho (by kernel_rfl) (by kernel_rfl)) (M144_run o N)
/-! 145 (*ostinato/mark.Mark).Beat -/
def M145_0 (o : Orc) (N : Nat) (κ : Kv) (x0 : V) (x1 : Int) (H : Heap) : Ans :=
  asP x0 fun p1 o2 =>
  (ldI H .i64 p1 ((o2 + 0) + 1)).bind fun n3 =>
  cond (decide (n3 > 0)) (
  asP x0 fun p4 o5 =>
  ldFlat H p4 [.int .u16, .int .i64] (o5 + 0) fun l6 =>
  asP x0 fun p7 o8 =>
  cond (Nat.beq (List.length l6) 2 && Nat.blt 0 2) (
  (stN H p7 (o8 + 2) l6).bind fun H9 =>
  asP x0 fun p10 o11 =>
  (stN H9 p10 (o11 + 4) [(.int .i64 (if 7 < (if 0 > x1 then 0 else x1) then 7 else (if 0 > x1 then 0 else x1)))]).bind fun H12 =>
  κ (.tup []) H12) none) (
  κ (.tup []) H)
theorem M145_0_ok {o : Orc} {N : Nat} {κ : Kv} (x0 : V) (x1 : Int) (H : Heap) :
    run Tryz.prog o N (cAt Tryz.f145 []) .n (env0 Tryz.prog Tryz.f145 κ) (tmk 0 23 [(0, x0), (1, .int .i64 x1)]) H (env0 Tryz.prog Tryz.f145 κ).ret = M145_0 o N κ x0 x1 H := by
  kernel_rfl
def M145 (o : Orc) (N : Nat) : FnM := fun vs H κ => match vs with
  | [x0, .int .i64 x1] => M145_0 o N κ x0 x1 H
  | _ => none
theorem M145_run (o : Orc) (N : Nat) (vs : List V) (H : Heap) (κ : Kv) (r) (h : M145 o N vs H κ = some r) : runFn Tryz.prog o N Tryz.f145 .n vs H κ = some r := by
  unfold M145 at h
  split at h
  · rename_i x0 x1
    refine (runFn_at (t := tmk 0 23 [(0, x0), (1, .int .i64 x1)]) (by kernel_rfl) (by kernel_rfl)).trans (Eq.trans ?_ h)
    exact M145_0_ok x0 x1 H
  · cases h
theorem M145_sound {o : Orc} (ho : ∀ f, FSound Tryz.prog f (o f)) (N : Nat) : FSound Tryz.prog 145 (M145 o N) :=
  FSound.sub (runFn_ok (an := .n) (fuel := N) hmix ho (by kernel_rfl) (by kernel_rfl)) (M145_run o N)
/-! 146 (*ostinato/sched.Sched).Begin -/
def M146_0 (o : Orc) (N : Nat) (κ : Kv) (x0 : V) (x1 : Int) (H : Heap) : Ans :=
  asP x0 fun p1 o2 =>
  (stN H p1 (o2 + 1) [(.int .i64 x1)]).bind fun H3 =>
  asP x0 fun p4 o5 =>
  (stN H3 p4 (o5 + 2) [(.int .i64 0)]).bind fun H6 =>
  o 125 [x0] H6 fun v7 H8 =>
  asT0 v7 (
  κ (.tup []) H8)
theorem M146_0_ok {o : Orc} {N : Nat} {κ : Kv} (x0 : V) (x1 : Int) (H : Heap) :
    run Tryz.prog o N (cAt Tryz.f146 []) .n (env0 Tryz.prog Tryz.f146 κ) (tmk 0 13 [(0, x0), (1, .int .i64 x1)]) H (env0 Tryz.prog Tryz.f146 κ).ret = M146_0 o N κ x0 x1 H := by
  kernel_rfl
def M146 (o : Orc) (N : Nat) : FnM := fun vs H κ => match vs with
  | [x0, .int .i64 x1] => M146_0 o N κ x0 x1 H
  | _ => none
theorem M146_run (o : Orc) (N : Nat) (vs : List V) (H : Heap) (κ : Kv) (r) (h : M146 o N vs H κ = some r) : runFn Tryz.prog o N Tryz.f146 .n vs H κ = some r := by
  unfold M146 at h
  split at h
  · rename_i x0 x1
    refine (runFn_at (t := tmk 0 13 [(0, x0), (1, .int .i64 x1)]) (by kernel_rfl) (by kernel_rfl)).trans (Eq.trans ?_ h)
    exact M146_0_ok x0 x1 H
  · cases h
theorem M146_sound {o : Orc} (ho : ∀ f, FSound Tryz.prog f (o f)) (N : Nat) : FSound Tryz.prog 146 (M146 o N) :=
  FSound.sub (runFn_ok (an := .n) (fuel := N) hmix ho (by kernel_rfl) (by kernel_rfl)) (M146_run o N)
/-! 147 (*ostinato/mark.Mark).Last -/
def A147_0 : An := (.s .n none (.s (.d [0, 1, 2, 3, 4, 5, 6, 7, 8, 9, 10, 11, 12, 13]) none .n))
def M147_1 (o : Orc) (N : Nat) (κ : Kv) (x0 : V) (H : Heap) : Ans :=
  asP x0 fun p1 o2 =>
  cond (decide (0 ≤ 0) && decide (0 < (1 : Nat)) && Nat.blt 0 1) (
  (ldI (Heap.skip H 14) .u16 p1 (((o2 + 2) + 0) + Int.toNat 0 * 1)).bind fun n3 =>
  asP x0 fun p4 o5 =>
  (ldI (Heap.skip H 14) .i64 p4 ((o5 + 2) + 1)).bind fun n6 =>
  κ (.tup [(.int .u16 n3), (.bool (decide (n6 > 0)))]) (Heap.skip H 14)) none
theorem M147_1_ok {o : Orc} {N : Nat} {κ : Kv} (x0 : V) (H : Heap) :
    run Tryz.prog o N (cAt Tryz.f147 []) A147_0 (env0 Tryz.prog Tryz.f147 κ) (tmk 0 16 [(0, x0)]) H (env0 Tryz.prog Tryz.f147 κ).ret = M147_1 o N κ x0 H := by
  kernel_rfl
def M147 (o : Orc) (N : Nat) : FnM := fun vs H κ => match vs with
  | [x0] => M147_1 o N κ x0 H
  | _ => none
theorem M147_run (o : Orc) (N : Nat) (vs : List V) (H : Heap) (κ : Kv) (r) (h : M147 o N vs H κ = some r) : runFn Tryz.prog o N Tryz.f147 A147_0 vs H κ = some r := by
  unfold M147 at h
  split at h
  · rename_i x0
    refine (runFn_at (t := tmk 0 16 [(0, x0)]) (by kernel_rfl) (by kernel_rfl)).trans (Eq.trans ?_ h)
    exact M147_1_ok x0 H
  · cases h
theorem M147_sound {o : Orc} (ho : ∀ f, FSound Tryz.prog f (o f)) (N : Nat) : FSound Tryz.prog 147 (M147 o N) :=
  FSound.sub (runFn_ok (an := A147_0) (fuel := N) hmix ho (by kernel_rfl) (by kernel_rfl)) (M147_run o N)
/-! 148 (*ostinato/global.Global).Beat -/
def M148_0 (o : Orc) (N : Nat) (J : V → Int → Int → Int → Heap → Ans) (κ : Kv) (x0 : V) (x1 x2 x3 : Int) (x4 : Bool) (H : Heap) : Ans :=
  asP x0 fun p1 o2 =>
  (ldI H .i64 p1 (o2 + 6)).bind fun n3 =>
  cond (n3 == 0) (
  asP x0 fun p4 o5 =>
  (stN H p4 (o5 + 6) [(.int .i64 1)]).bind fun H6 =>
  J x0 x1 x2 x3 H6) (
  cond x4 (
  asP x0 fun p7 o8 =>
  (stN H p7 (o8 + 6) [(.int .i64 1)]).bind fun H9 =>
  J x0 x1 x2 x3 H9) (
  asP x0 fun p10 o11 =>
  cond (decide (0 ≤ 0) && decide (0 < (2 : Nat)) && Nat.blt 0 3) (
  (ldI H .i64 p10 (((o11 + 0) + Int.toNat 0 * 3) + 0)).bind fun n12 =>
  cond (n12 != x1) (
  asP x0 fun p13 o14 =>
  (stN H p13 (o14 + 6) [(.int .i64 1)]).bind fun H15 =>
  J x0 x1 x2 x3 H15) (
  asP x0 fun p16 o17 =>
  (ldI H .i64 p16 (o17 + 6)).bind fun n18 =>
  asP x0 fun p19 o20 =>
  (stN H p19 (o20 + 6) [(.int .i64 (if 1000 < (IntKind.i64.wrap (n18 + 1)) then 1000 else (IntKind.i64.wrap (n18 + 1))))]).bind fun H21 =>
  J x0 x1 x2 x3 H21)) none))
theorem M148_0_ok {o : Orc} {N : Nat} {κ : Kv} {J : Kt} {J' : V → Int → Int → Int → Heap → Ans} (hJ : ∀ x0 x1 x2 x3 H, J (tmk 0 58 [(0, x0), (1, .int .i64 x1), (2, .int .u16 x2), (3, .int .u16 x3)]) H = J' x0 x1 x2 x3 H) (x0 : V) (x1 x2 x3 : Int) (x4 : Bool) (H : Heap) :
    run Tryz.prog o N (cAt Tryz.f148 [0]) .n (env0 Tryz.prog Tryz.f148 κ) (tmk 0 58 [(0, x0), (1, .int .i64 x1), (2, .int .u16 x2), (3, .int .u16 x3), (4, .bool x4)]) H (kj [0, 1, 2, 3] J) = M148_0 o N J' κ x0 x1 x2 x3 x4 H := by
  obtain rfl := fx5 hJ
  kernel_rfl
def A148_1 : An := (.s (.d [0, 1, 2, 3, 4, 5, 6, 7, 8]) none .n)
def M148_2 (o : Orc) (N : Nat) (κ : Kv) (x0 : V) (x1 x2 x3 : Int) (H : Heap) : Ans :=
  asP x0 fun p22 o23 =>
  bounds 2 (some (.int .i64 1)) none fun l24 u25 =>
  asP x0 fun p26 o27 =>
  bounds 2 none (some (.int .i64 1)) fun l28 u29 =>
  cpyV (Heap.skip H 9) (.sl p22 ((o23 + 0) + l24 * 3) (u25 - l24) 3 false) (.sl p26 ((o27 + 0) + l28 * 3) (u29 - l28) 3 false) 3 fun n30 H31 =>
  asP x0 fun p32 o33 =>
  cond (decide (0 ≤ 0) && decide (0 < (2 : Nat)) && Nat.blt 0 3) (
  (stN H31 p32 ((o33 + 0) + Int.toNat 0 * 3) [(.int .i64 x1), (.int .u16 x2), (.int .u16 x3)]).bind fun H34 =>
  κ (.tup []) H34) none
theorem M148_2_ok {o : Orc} {N : Nat} {κ : Kv} (x0 : V) (x1 x2 x3 : Int) (H : Heap) :
    run Tryz.prog o N (cAt Tryz.f148 [1]) A148_1 (env0 Tryz.prog Tryz.f148 κ) (tmk 0 58 [(0, x0), (1, .int .i64 x1), (2, .int .u16 x2), (3, .int .u16 x3)]) H (env0 Tryz.prog Tryz.f148 κ).ret = M148_2 o N κ x0 x1 x2 x3 H := by
  kernel_rfl
def M148 (o : Orc) (N : Nat) : FnM := fun vs H κ => match vs with
  | [x0, .int .i64 x1, .int .u16 x2, .int .u16 x3, .bool x4] => M148_0 o N (fun x0 x1 x2 x3 H => M148_2 o N κ x0 x1 x2 x3 H) κ x0 x1 x2 x3 x4 H
  | _ => none
theorem M148_run (o : Orc) (N : Nat) (vs : List V) (H : Heap) (κ : Kv) (r) (h : M148 o N vs H κ = some r) : runFn Tryz.prog o N Tryz.f148 (.s .n (some (lvOf [0, 1, 2, 3])) A148_1) vs H κ = some r := by
  unfold M148 at h
  split at h
  · rename_i x0 x1 x2 x3 x4
    refine (runFn_at (t := tmk 0 58 [(0, x0), (1, .int .i64 x1), (2, .int .u16 x2), (3, .int .u16 x3), (4, .bool x4)]) (by kernel_rfl) (by kernel_rfl)).trans (Eq.trans ?_ h)
    refine (run_seq (x := (cAt Tryz.f148 [0])) (ax := .n) (y := (cAt Tryz.f148 [1])) (ay := A148_1) (l := [0, 1, 2, 3]) (by kernel_rfl) (by kernel_rfl)).trans ?_
    refine M148_0_ok ?_ x0 x1 x2 x3 x4 H
    intro x0 x1 x2 x3 H
    exact M148_2_ok x0 x1 x2 x3 H
  · cases h
theorem M148_sound {o : Orc} (ho : ∀ f, FSound Tryz.prog f (o f)) (N : Nat) : FSound Tryz.prog 148 (M148 o N) :=
  FSound.sub (runFn_ok (an := (.s .n (some (lvOf [0, 1, 2, 3])) A148_1)) (fuel := N) hmix ho (by kernel_rfl) (by kernel_rfl)) (M148_run o N)
/-! 149 (*ostinato/global.Global).Steady -/
def M149_0 (o : Orc) (N : Nat) (κ : Kv) (x0 : V) (H : Heap) : Ans :=
  asP x0 fun p1 o2 =>
  (ldI H .i64 p1 (o2 + 6)).bind fun n3 =>
  κ (.int .i64 n3) H
theorem M149_0_ok {o : Orc} {N : Nat} {κ : Kv} (x0 : V) (H : Heap) :
    run Tryz.prog o N (cAt Tryz.f149 []) .n (env0 Tryz.prog Tryz.f149 κ) (tmk 0 7 [(0, x0)]) H (env0 Tryz.prog Tryz.f149 κ).ret = M149_0 o N κ x0 H := by
  kernel_rfl
def M149 (o : Orc) (N : Nat) : FnM := fun vs H κ => match vs with
  | [x0] => M149_0 o N κ x0 H
  | _ => none
theorem M149_run (o : Orc) (N : Nat) (vs : List V) (H : Heap) (κ : Kv) (r) (h : M149 o N vs H κ = some r) : runFn Tryz.prog o N Tryz.f149 .n vs H κ = some r := by
  unfold M149 at h
  split at h
  · rename_i x0
    refine (runFn_at (t := tmk 0 7 [(0, x0)]) (by kernel_rfl) (by kernel_rfl)).trans (Eq.trans ?_ h)
    exact M149_0_ok x0 H
  · cases h
theorem M149_sound {o : Orc} (ho : ∀ f, FSound Tryz.prog f (o f)) (N : Nat) : FSound Tryz.prog 149 (M149 o N) :=
  FSound.sub (runFn_ok (an := .n) (fuel := N) hmix ho (by kernel_rfl) (by kernel_rfl)) (M149_run o N)
/-! 150 (*ostinato/clock.Clock).Rate -/
def M150_0 (o : Orc) (N : Nat) (κ : Kv) (x0 : V) (H : Heap) : Ans :=
  asP x0 fun p1 o2 =>
  (ldI H .i64 p1 (o2 + 1)).bind fun n3 =>
  κ (.tup [(.int .i64 n3), (.int .i64 256)]) H
theorem M150_0_ok {o : Orc} {N : Nat} {κ : Kv} (x0 : V) (H : Heap) :
    run Tryz.prog o N (cAt Tryz.f150 []) .n (env0 Tryz.prog Tryz.f150 κ) (tmk 0 8 [(0, x0)]) H (env0 Tryz.prog Tryz.f150 κ).ret = M150_0 o N κ x0 H := by
  kernel_rfl
def M150 (o : Orc) (N : Nat) : FnM := fun vs H κ => match vs with
  | [x0] => M150_0 o N κ x0 H
  | _ => none
theorem M150_run (o : Orc) (N : Nat) (vs : List V) (H : Heap) (κ : Kv) (r) (h : M150 o N vs H κ = some r) : runFn Tryz.prog o N Tryz.f150 .n vs H κ = some r := by
  unfold M150 at h
  split at h
  · rename_i x0
    refine (runFn_at (t := tmk 0 8 [(0, x0)]) (by kernel_rfl) (by kernel_rfl)).trans (Eq.trans ?_ h)
    exact M150_0_ok x0 H
  · cases h
theorem M150_sound {o : Orc} (ho : ∀ f, FSound Tryz.prog f (o f)) (N : Nat) : FSound Tryz.prog 150 (M150 o N) :=
  FSound.sub (runFn_ok (an := .n) (fuel := N) hmix ho (by kernel_rfl) (by kernel_rfl)) (M150_run o N)
/-! 151 (*ostinato/global.Global).Rate -/
def M151_0 (o : Orc) (N : Nat) (κ : Kv) (x0 : V) (x1 : Int) (H : Heap) : Ans :=
  o 219 [x0] H fun v1 H2 =>
  asT3 v1 fun v3 v4 v5 =>
  asI .i64 v3 fun n6 =>
  asI .i64 v4 fun n7 =>
  asB v5 fun b8 =>
  cond (!b8) (
  κ (.tup [(.int .i64 x1), (.bool false)]) H2) (
  cond (decide (n6 ≤ 0)) (
  κ (.tup [(.int .i64 x1), (.bool false)]) H2) (
  cond (decide (n7 ≤ 0)) (
  κ (.tup [(.int .i64 x1), (.bool false)]) H2) (
  cond (decide (x1 < 1)) (
  κ (.tup [(.int .i64 x1), (.bool false)]) H2) (
  cond (decide (x1 > 1000000)) (
  κ (.tup [(.int .i64 x1), (.bool false)]) H2) (
  cond (decide (n6 = 0)) none (
  κ (.tup [(.int .i64 (IntKind.i64.wrap (Int.tdiv (IntKind.i64.wrap (x1 * n7)) n6))), (.bool true)]) H2))))))
theorem M151_0_ok {o : Orc} {N : Nat} {κ : Kv} (x0 : V) (x1 : Int) (H : Heap) :
    run Tryz.prog o N (cAt Tryz.f151 []) .n (env0 Tryz.prog Tryz.f151 κ) (tmk 0 39 [(0, x0), (1, .int .i64 x1)]) H (env0 Tryz.prog Tryz.f151 κ).ret = M151_0 o N κ x0 x1 H := by
  kernel_rfl
def M151 (o : Orc) (N : Nat) : FnM := fun vs H κ => match vs with
  | [x0, .int .i64 x1] => M151_0 o N κ x0 x1 H
  | _ => none
theorem M151_run (o : Orc) (N : Nat) (vs : List V) (H : Heap) (κ : Kv) (r) (h : M151 o N vs H κ = some r) : runFn Tryz.prog o N Tryz.f151 .n vs H κ = some r := by
  unfold M151 at h
  split at h
  · rename_i x0 x1
    refine (runFn_at (t := tmk 0 39 [(0, x0), (1, .int .i64 x1)]) (by kernel_rfl) (by kernel_rfl)).trans (Eq.trans ?_ h)
    exact M151_0_ok x0 x1 H
  · cases h
theorem M151_sound {o : Orc} (ho : ∀ f, FSound Tryz.prog f (o f)) (N : Nat) : FSound Tryz.prog 151 (M151 o N) :=
  FSound.sub (runFn_ok (an := .n) (fuel := N) hmix ho (by kernel_rfl) (by kernel_rfl)) (M151_run o N)
/-! 152 (*ostinato/clock.Clock).SetRate -/
def M152_0 (o : Orc) (N : Nat) (κ : Kv) (x0 : V) (x1 x2 : Int) (H : Heap) : Ans :=
  asP x0 fun p1 o2 =>
  (ldI H .i64 p1 (o2 + 0)).bind fun n3 =>
  cond (x2 != 256) (
  κ (.bool false) H) (
  cond (decide (x1 < (IntKind.i64.wrap ((IntKind.i64.wrap (n3 * 256)) - (IntKind.i64.wrap (Int.tdiv (IntKind.i64.wrap (n3 * 256)) 8)))))) (
  κ (.bool false) H) (
  cond (decide (x1 > (IntKind.i64.wrap ((IntKind.i64.wrap (n3 * 256)) + (IntKind.i64.wrap (Int.tdiv (IntKind.i64.wrap (n3 * 256)) 8)))))) (
  κ (.bool false) H) (
  asP x0 fun p4 o5 =>
  (stN H p4 (o5 + 1) [(.int .i64 x1)]).bind fun H6 =>
  asP x0 fun p7 o8 =>
  (ldI H6 .i64 p7 (o8 + 2)).bind fun n9 =>
  asP x0 fun p10 o11 =>
  (stN H6 p10 (o11 + 2) [(.int .i64 (if (IntKind.i64.wrap (x1 - 1)) < n9 then (IntKind.i64.wrap (x1 - 1)) else n9))]).bind fun H12 =>
  κ (.bool true) H12)))
theorem M152_0_ok {o : Orc} {N : Nat} {κ : Kv} (x0 : V) (x1 x2 : Int) (H : Heap) :
    run Tryz.prog o N (cAt Tryz.f152 []) .n (env0 Tryz.prog Tryz.f152 κ) (tmk 0 45 [(0, x0), (1, .int .i64 x1), (2, .int .i64 x2)]) H (env0 Tryz.prog Tryz.f152 κ).ret = M152_0 o N κ x0 x1 x2 H := by
  kernel_rfl
def M152 (o : Orc) (N : Nat) : FnM := fun vs H κ => match vs with
  | [x0, .int .i64 x1, .int .i64 x2] => M152_0 o N κ x0 x1 x2 H
  | _ => none
theorem M152_run (o : Orc) (N : Nat) (vs : List V) (H : Heap) (κ : Kv) (r) (h : M152 o N vs H κ = some r) : runFn Tryz.prog o N Tryz.f152 .n vs H κ = some r := by
  unfold M152 at h
  split at h
  · rename_i x0 x1 x2
    refine (runFn_at (t := tmk 0 45 [(0, x0), (1, .int .i64 x1), (2, .int .i64 x2)]) (by kernel_rfl) (by kernel_rfl)).trans (Eq.trans ?_ h)
    exact M152_0_ok x0 x1 x2 H
  · cases h
theorem M152_sound {o : Orc} (ho : ∀ f, FSound Tryz.prog f (o f)) (N : Nat) : FSound Tryz.prog 152 (M152 o N) :=
  FSound.sub (runFn_ok (an := .n) (fuel := N) hmix ho (by kernel_rfl) (by kernel_rfl)) (M152_run o N)
/-! 153 (*ostinato/master.Master).Sent -/
def M153_0 (o : Orc) (N : Nat) (κ : Kv) (x0 : V) (H : Heap) : Ans :=
  o 130 [x0] H fun v1 H2 =>
  asB v1 fun b3 =>
  cond b3 (
  asP x0 fun p4 o5 =>
  (ldI H2 .i64 p4 (o5 + 0)).bind fun n6 =>
  asP x0 fun p7 o8 =>
  (stN H2 p7 (o8 + 1) [(.int .i64 2), (.int .i64 n6)]).bind fun H9 =>
  κ (.tup []) H9) (
  κ (.tup []) H2)
theorem M153_0_ok {o : Orc} {N : Nat} {κ : Kv} (x0 : V) (H : Heap) :
    run Tryz.prog o N (cAt Tryz.f153 []) .n (env0 Tryz.prog Tryz.f153 κ) (tmk 0 12 [(0, x0)]) H (env0 Tryz.prog Tryz.f153 κ).ret = M153_0 o N κ x0 H := by
  kernel_rfl
def M153 (o : Orc) (N : Nat) : FnM := fun vs H κ => match vs with
  | [x0] => M153_0 o N κ x0 H
  | _ => none
theorem M153_run (o : Orc) (N : Nat) (vs : List V) (H : Heap) (κ : Kv) (r) (h : M153 o N vs H κ = some r) : runFn Tryz.prog o N Tryz.f153 .n vs H κ = some r := by
  unfold M153 at h
  split at h
  · rename_i x0
    refine (runFn_at (t := tmk 0 12 [(0, x0)]) (by kernel_rfl) (by kernel_rfl)).trans (Eq.trans ?_ h)
    exact M153_0_ok x0 H
  · cases h
theorem M153_sound {o : Orc} (ho : ∀ f, FSound Tryz.prog f (o f)) (N : Nat) : FSound Tryz.prog 153 (M153 o N) :=
  FSound.sub (runFn_ok (an := .n) (fuel := N) hmix ho (by kernel_rfl) (by kernel_rfl)) (M153_run o N)
/-! 154 (*ostinato/master.Master).Beat -/
def M154_0 (o : Orc) (N : Nat) (κ : Kv) (x0 : V) (x1 : Int) (H : Heap) : Ans :=
  asP x0 fun p1 o2 =>
  (ldI H .i64 p1 ((o2 + 1) + 0)).bind fun n3 =>
  asP x0 fun p4 o5 =>
  (stN H p4 (o5 + 1) [(.int .i64 (if 2 < (IntKind.i64.wrap (n3 + 1)) then 2 else (IntKind.i64.wrap (n3 + 1)))), (.int .i64 x1)]).bind fun H6 =>
  κ (.tup []) H6
theorem M154_0_ok {o : Orc} {N : Nat} {κ : Kv} (x0 : V) (x1 : Int) (H : Heap) :
    run Tryz.prog o N (cAt Tryz.f154 []) .n (env0 Tryz.prog Tryz.f154 κ) (tmk 0 16 [(0, x0), (1, .int .i64 x1)]) H (env0 Tryz.prog Tryz.f154 κ).ret = M154_0 o N κ x0 x1 H := by
  kernel_rfl
def M154 (o : Orc) (N : Nat) : FnM := fun vs H κ => match vs with
  | [x0, .int .i64 x1] => M154_0 o N κ x0 x1 H
  | _ => none
theorem M154_run (o : Orc) (N : Nat) (vs : List V) (H : Heap) (κ : Kv) (r) (h : M154 o N vs H κ = some r) : runFn Tryz.prog o N Tryz.f154 .n vs H κ = some r := by
  unfold M154 at h
  split at h
  · rename_i x0 x1
    refine (runFn_at (t := tmk 0 16 [(0, x0), (1, .int .i64 x1)]) (by kernel_rfl) (by kernel_rfl)).trans (Eq.trans ?_ h)
    exact M154_0_ok x0 x1 H
  · cases h
theorem M154_sound {o : Orc} (ho : ∀ f, FSound Tryz.prog f (o f)) (N : Nat) : FSound Tryz.prog 154 (M154 o N) :=
  FSound.sub (runFn_ok (an := .n) (fuel := N) hmix ho (by kernel_rfl) (by kernel_rfl)) (M154_run o N)
/-! 155 slices.IndexFunc[[]ostinato/api.Message,ostinato/api.Message] -/
def M155_0 (o : Orc) (N : Nat) (J : V → V → Heap → Ans) (κ : Kv) (x0 x1 : V) (H : Heap) : Ans :=
  J x0 x1 H
theorem M155_0_ok {o : Orc} {N : Nat} {κ : Kv} {J : Kt} {J' : V → V → Heap → Ans} (hJ : ∀ x0 x1 H, J (tmk 0 19 [(0, x0), (1, x1)]) H = J' x0 x1 H) (x0 x1 : V) (H : Heap) :
    run Tryz.prog o N (cAt Tryz.f155 [0]) .n (env0 Tryz.prog Tryz.f155 κ) (tmk 0 19 [(0, x0), (1, x1)]) H (kj [0, 1] J) = M155_0 o N J' κ x0 x1 H := by
  obtain rfl := fx3 hJ
  kernel_rfl
def M155_1 (o : Orc) (N : Nat) (J : V → V → Int → Int → Heap → Ans) (κ : Kv) (x0 x1 : V) (H : Heap) : Ans :=
  lenS x0 fun n1 =>
  J x0 x1 n1 0 H
theorem M155_1_ok {o : Orc} {N : Nat} {κ : Kv} {J : Kt} {J' : V → V → Int → Int → Heap → Ans} (hJ : ∀ x0 x1 x7 x8 H, J (tmk 0 19 [(0, x0), (1, x1), (7, .int .i64 x7), (8, .int .i64 x8)]) H = J' x0 x1 x7 x8 H) (x0 x1 : V) (H : Heap) :
    run Tryz.prog o N (cAt Tryz.f155 [1, 0, 0]) .n (env0 Tryz.prog Tryz.f155 κ) (tmk 0 19 [(0, x0), (1, x1)]) H (kj [0, 1, 7, 8] J) = M155_1 o N J' κ x0 x1 H := by
  obtain rfl := fx5 hJ
  kernel_rfl
def M155_2 (o : Orc) (N : Nat) (X0 : Heap → Ans) (J : V → V → Int → Int → Heap → Ans) (κ : Kv) (x0 x1 : V) (x7 x8 : Int) (H : Heap) : Ans :=
  cond (decide (x8 < x7)) (
  idxS 3 x0 x8 fun p2 o3 =>
  ldFlat H p2 [.int .u32, .int .i64, .bool] o3 fun l4 =>
  callV o x1 [(.agg l4)] H fun v5 H6 =>
  asB v5 fun b7 =>
  cond b7 (
  κ (.int .i64 x8) H6) (
  J x0 x1 x7 (IntKind.i64.wrap (x8 + 1)) H6)) (
  X0  H)
theorem M155_2_ok {o : Orc} {N : Nat} {κ : Kv} {X0 J : Kt} {X0' : Heap → Ans} {J' : V → V → Int → Int → Heap → Ans} (h0 : ∀  H, X0 (tmk 0 19 []) H = X0' H) (hJ : ∀ x0 x1 x7 x8 H, J (tmk 0 19 [(0, x0), (1, x1), (7, .int .i64 x7), (8, .int .i64 x8)]) H = J' x0 x1 x7 x8 H) (x0 x1 : V) (x7 x8 : Int) (H : Heap) :
    run Tryz.prog o N (cAt Tryz.f155 [1, 0, 1, 4, 4]) .n ((env0 Tryz.prog Tryz.f155 κ).block 0 (kj [] X0)) (tmk 0 19 [(0, x0), (1, x1), (7, .int .i64 x7), (8, .int .i64 x8)]) H (kj [0, 1, 7, 8] J) = M155_2 o N X0' J' κ x0 x1 x7 x8 H := by
  obtain rfl := fx1 h0
  obtain rfl := fx5 hJ
  kernel_rfl
def M155_3 (o : Orc) (N : Nat) (X0 : Heap → Ans) (κ : Kv) (n : Nat) : V → V → Int → Int → Heap → Ans :=
  Nat.rec (motive := fun _ => V → V → Int → Int → Heap → Ans) (fun _ _ _ _ _ => none) (fun _ ih x0 x1 x7 x8 H => M155_2 o N X0 ih κ x0 x1 x7 x8 H) n
theorem M155_3_s (o : Orc) (N : Nat) (X0 : Heap → Ans) (κ : Kv) (n : Nat) (x0 x1 : V) (x7 x8 : Int) (H : Heap) : M155_3 o N X0 κ (n + 1) x0 x1 x7 x8 H = M155_2 o N X0 (M155_3 o N X0 κ n) κ x0 x1 x7 x8 H := rfl
theorem M155_3_ok {o : Orc} {N : Nat} {κ : Kv} {X0 : Kt} {X0' : Heap → Ans} (h0 : ∀  H, X0 (tmk 0 19 []) H = X0' H) (n : Nat) : ∀ (x0 x1 : V) (x7 x8 : Int) (H : Heap),
    rounds (fun a H k => run Tryz.prog o N (cAt Tryz.f155 [1, 0, 1, 4, 4]) .n ((env0 Tryz.prog Tryz.f155 κ).block 0 (kj [] X0)) a H k) (some (lvOf [0, 1, 7, 8])) n (tmk 0 19 [(0, x0), (1, x1), (7, .int .i64 x7), (8, .int .i64 x8)]) H = M155_3 o N X0' κ n x0 x1 x7 x8 H := by
  induction n with
  | zero => intros; rfl
  | succ n ih =>
    intro x0 x1 x7 x8 H
    refine (run_round.trans ?_).trans (M155_3_s ..).symm
    exact M155_2_ok h0 ih x0 x1 x7 x8 H
def A155_4 : An := .b none (.l (some (lvOf [0, 1, 7, 8])) .n)
def M155_5 (o : Orc) (N : Nat) (κ : Kv) (H : Heap) : Ans :=
  κ (.int .i64 (-1)) H
theorem M155_5_ok {o : Orc} {N : Nat} {κ : Kv} (H : Heap) :
    run Tryz.prog o N (cAt Tryz.f155 [1, 1]) .n (env0 Tryz.prog Tryz.f155 κ) (tmk 0 19 []) H (env0 Tryz.prog Tryz.f155 κ).ret = M155_5 o N κ  H := by
  kernel_rfl
def A155_6 : An := .s (.s .n (some (lvOf [0, 1, 7, 8])) A155_4) (some (lvOf [])) .n
def M155 (o : Orc) (N : Nat) : FnM := fun vs H κ => match vs with
  | [x0, x1] => M155_0 o N (fun x0 x1 H => M155_1 o N (fun x0 x1 x7 x8 H => M155_3 o N (fun H => M155_5 o N κ  H) κ N x0 x1 x7 x8 H) κ x0 x1 H) κ x0 x1 H
  | _ => none
theorem M155_run (o : Orc) (N : Nat) (vs : List V) (H : Heap) (κ : Kv) (r) (h : M155 o N vs H κ = some r) : runFn Tryz.prog o N Tryz.f155 (.s .n (some (lvOf [0, 1])) A155_6) vs H κ = some r := by
  unfold M155 at h
  split at h
  · rename_i x0 x1
    refine (runFn_at (t := tmk 0 19 [(0, x0), (1, x1)]) (by kernel_rfl) (by kernel_rfl)).trans (Eq.trans ?_ h)
    refine (run_seq (x := (cAt Tryz.f155 [0])) (ax := .n) (y := (cAt Tryz.f155 [1])) (ay := A155_6) (l := [0, 1]) (by kernel_rfl) (by kernel_rfl)).trans ?_
    refine M155_0_ok ?_ x0 x1 H
    intro x0 x1 H
    refine (run_seq (x := (cAt Tryz.f155 [1, 0])) (ax := (.s .n (some (lvOf [0, 1, 7, 8])) A155_4)) (y := (cAt Tryz.f155 [1, 1])) (ay := .n) (l := []) (by kernel_rfl) (by kernel_rfl)).trans ?_
    refine (run_seq (x := (cAt Tryz.f155 [1, 0, 0])) (ax := .n) (y := (cAt Tryz.f155 [1, 0, 1])) (ay := A155_4) (l := [0, 1, 7, 8]) (by kernel_rfl) (by kernel_rfl)).trans ?_
    refine M155_1_ok ?_ x0 x1 H
    intro x0 x1 x7 x8 H
    refine (run_block (id := 0) (x := (cAt Tryz.f155 [1, 0, 1, 4])) (ax := (.l (some (lvOf [0, 1, 7, 8])) .n)) (by kernel_rfl) (by kernel_rfl)).trans ?_
    refine (run_loop (x := (cAt Tryz.f155 [1, 0, 1, 4, 4])) (ax := .n) (l := [0, 1, 7, 8]) (by kernel_rfl) (by kernel_rfl) (by kernel_rfl)).trans ?_
    refine M155_3_ok ?_ N x0 x1 x7 x8 H
    intro H
    exact M155_5_ok  H
  · cases h
theorem M155_sound {o : Orc} (ho : ∀ f, FSound Tryz.prog f (o f)) (N : Nat) : FSound Tryz.prog 155 (M155 o N) :=
  FSound.sub (runFn_ok (an := (.s .n (some (lvOf [0, 1])) A155_6)) (fuel := N) hmix ho (by kernel_rfl) (by kernel_rfl)) (M155_run o N)
/-! 156 ostinato/matrix.Find$1 -/
def M156_0 (o : Orc) (N : Nat) (κ : Kv) (x0 : List V) (x1 : V) (H : Heap) : Ans :=
  cond (List.all x0 V.one) (
  newB H (.row x0) fun i1 H2 =>
  (ldI H2 .u32 i1 0).bind fun n3 =>
  asP x1 fun p4 o5 =>
  (ldI H2 .u32 p4 (o5 + 1)).bind fun n6 =>
  κ (.bool (n3 == n6)) H2) none
theorem M156_0_ok {o : Orc} {N : Nat} {κ : Kv} (x0 : List V) (x1 : V) (H : Heap) :
    run Tryz.prog o N (cAt Tryz.f156 []) .n (env0 Tryz.prog Tryz.f156 κ) (tmk 0 9 [(0, .agg x0), (1, x1)]) H (env0 Tryz.prog Tryz.f156 κ).ret = M156_0 o N κ x0 x1 H := by
  kernel_rfl
def M156 (o : Orc) (N : Nat) : FnM := fun vs H κ => match vs with
  | [.agg x0, x1] => M156_0 o N κ x0 x1 H
  | _ => none
theorem M156_run (o : Orc) (N : Nat) (vs : List V) (H : Heap) (κ : Kv) (r) (h : M156 o N vs H κ = some r) : runFn Tryz.prog o N Tryz.f156 .n vs H κ = some r := by
  unfold M156 at h
  split at h
  · rename_i x0 x1
    refine (runFn_at (t := tmk 0 9 [(0, .agg x0), (1, x1)]) (by kernel_rfl) (by kernel_rfl)).trans (Eq.trans ?_ h)
    exact M156_0_ok x0 x1 H
  · cases h
theorem M156_sound {o : Orc} (ho : ∀ f, FSound Tryz.prog f (o f)) (N : Nat) : FSound Tryz.prog 156 (M156 o N) :=
  FSound.sub (runFn_ok (an := .n) (fuel := N) hmix ho (by kernel_rfl) (by kernel_rfl)) (M156_run o N)
/-! 157 (*ostinato/object.Objects).Got -/
def M157_0 (o : Orc) (N : Nat) (κ : Kv) (x0 : V) (x1 : Int) (x2 : List Nat) (H : Heap) : Ans :=
  o 118 [x0, (.int .i64 x1)] H fun v1 H2 =>
  asT2 v1 fun v3 v4 =>
  asA v3 fun l5 =>
  asB v4 fun b6 =>
  newB H2 (.row [(.int .u32 0), (.int .i64 0), (.bool false)]) fun i7 H8 =>
  cond (Nat.beq (List.length l5) 3 && Nat.blt 0 3) (
  (stN H8 i7 0 l5).bind fun H9 =>
  cond b6 (
  asP x0 fun p10 o11 =>
  (ldV H9 p10 (o11 + 13)).bind fun v12 =>
  asM v12 fun p13 =>
  putM H9 p13 (.int .i64 x1) (.str x2) fun H14 =>
  κ (.tup []) H14) (
  κ (.tup []) H9)) none
theorem M157_0_ok {o : Orc} {N : Nat} {κ : Kv} (x0 : V) (x1 : Int) (x2 : List Nat) (H : Heap) :
    run Tryz.prog o N (cAt Tryz.f157 []) .n (env0 Tryz.prog Tryz.f157 κ) (tmk 0 21 [(0, x0), (1, .int .i64 x1), (2, .str x2)]) H (env0 Tryz.prog Tryz.f157 κ).ret = M157_0 o N κ x0 x1 x2 H := by
  kernel_rfl
def M157 (o : Orc) (N : Nat) : FnM := fun vs H κ => match vs with
  | [x0, .int .i64 x1, .str x2] => M157_0 o N κ x0 x1 x2 H
  | _ => none
theorem M157_run (o : Orc) (N : Nat) (vs : List V) (H : Heap) (κ : Kv) (r) (h : M157 o N vs H κ = some r) : runFn Tryz.prog o N Tryz.f157 .n vs H κ = some r := by
  unfold M157 at h
  split at h
  · rename_i x0 x1 x2
    refine (runFn_at (t := tmk 0 21 [(0, x0), (1, .int .i64 x1), (2, .str x2)]) (by kernel_rfl) (by kernel_rfl)).trans (Eq.trans ?_ h)
    exact M157_0_ok x0 x1 x2 H
  · cases h
theorem M157_sound {o : Orc} (ho : ∀ f, FSound Tryz.prog f (o f)) (N : Nat) : FSound Tryz.prog 157 (M157 o N) :=
  FSound.sub (runFn_ok (an := .n) (fuel := N) hmix ho (by kernel_rfl) (by kernel_rfl)) (M157_run o N)
/-! 158 (*ostinato/node.Node).inTime -/
def M158_0 (o : Orc) (N : Nat) (κ : Kv) (x0 : V) (H : Heap) : Ans :=
  asP x0 fun p1 o2 =>
  (ldV H p1 ((o2 + 13) + 6)).bind fun v3 =>
  o 48 [v3] H fun v4 H5 =>
  asI .i64 v4 fun n6 =>
  κ (.bool (n6 == 2)) H5
theorem M158_0_ok {o : Orc} {N : Nat} {κ : Kv} (x0 : V) (H : Heap) :
    run Tryz.prog o N (cAt Tryz.f158 []) .n (env0 Tryz.prog Tryz.f158 κ) (tmk 0 10 [(0, x0)]) H (env0 Tryz.prog Tryz.f158 κ).ret = M158_0 o N κ x0 H := by
  kernel_rfl
def M158 (o : Orc) (N : Nat) : FnM := fun vs H κ => match vs with
  | [x0] => M158_0 o N κ x0 H
  | _ => none
theorem M158_run (o : Orc) (N : Nat) (vs : List V) (H : Heap) (κ : Kv) (r) (h : M158 o N vs H κ = some r) : runFn Tryz.prog o N Tryz.f158 .n vs H κ = some r := by
  unfold M158 at h
  split at h
  · rename_i x0
    refine (runFn_at (t := tmk 0 10 [(0, x0)]) (by kernel_rfl) (by kernel_rfl)).trans (Eq.trans ?_ h)
    exact M158_0_ok x0 H
  · cases h
theorem M158_sound {o : Orc} (ho : ∀ f, FSound Tryz.prog f (o f)) (N : Nat) : FSound Tryz.prog 158 (M158 o N) :=
  FSound.sub (runFn_ok (an := .n) (fuel := N) hmix ho (by kernel_rfl) (by kernel_rfl)) (M158_run o N)
/-! 159 ostinato/node.latest[ostinato/api.Delivery] -/
def M159_0 (o : Orc) (N : Nat) (κ : Kv) (x0 : V) (H : Heap) : Ans :=
  lenS x0 fun n1 =>
  cond (decide ((IntKind.i64.wrap (n1 - 100)) > 0)) (
  slS 2 x0 (some (.int .i64 (IntKind.i64.wrap (n1 - 100)))) none fun v2 =>
  appV H .nils v2 2 fun v3 H4 =>
  κ v3 H4) (
  κ x0 H)
theorem M159_0_ok {o : Orc} {N : Nat} {κ : Kv} (x0 : V) (H : Heap) :
    run Tryz.prog o N (cAt Tryz.f159 []) .n (env0 Tryz.prog Tryz.f159 κ) (tmk 0 14 [(0, x0)]) H (env0 Tryz.prog Tryz.f159 κ).ret = M159_0 o N κ x0 H := by
  kernel_rfl
def M159 (o : Orc) (N : Nat) : FnM := fun vs H κ => match vs with
  | [x0] => M159_0 o N κ x0 H
  | _ => none
theorem M159_run (o : Orc) (N : Nat) (vs : List V) (H : Heap) (κ : Kv) (r) (h : M159 o N vs H κ = some r) : runFn Tryz.prog o N Tryz.f159 .n vs H κ = some r := by
  unfold M159 at h
  split at h
  · rename_i x0
    refine (runFn_at (t := tmk 0 14 [(0, x0)]) (by kernel_rfl) (by kernel_rfl)).trans (Eq.trans ?_ h)
    exact M159_0_ok x0 H
  · cases h
theorem M159_sound {o : Orc} (ho : ∀ f, FSound Tryz.prog f (o f)) (N : Nat) : FSound Tryz.prog 159 (M159 o N) :=
  FSound.sub (runFn_ok (an := .n) (fuel := N) hmix ho (by kernel_rfl) (by kernel_rfl)) (M159_run o N)
/-! 160 (*ostinato/object.Objects).Sent -/
def M160_0 (o : Orc) (N : Nat) (κ : Kv) (x0 : V) (x1 : Int) (H : Heap) : Ans :=
  o 118 [x0, (.int .i64 x1)] H fun v1 H2 =>
  asT2 v1 fun v3 v4 =>
  asA v3 fun l5 =>
  asB v4 fun b6 =>
  newB H2 (.row [(.int .u32 0), (.int .i64 0), (.bool false)]) fun i7 H8 =>
  cond (Nat.beq (List.length l5) 3 && Nat.blt 0 3) (
  (stN H8 i7 0 l5).bind fun H9 =>
  cond (!b6) (
  κ (.tup []) H9) (
  (ldB H9 i7 2).bind fun b10 =>
  cond (!b10) (
  κ (.tup []) H9) (
  asP x0 fun p11 o12 =>
  (ldV H9 p11 (o12 + 14)).bind fun v13 =>
  o 203 [v13] H9 fun v14 H15 =>
  asT2 v14 fun v16 v17 =>
  asA v16 fun l18 =>
  asB v17 fun b19 =>
  newB H15 (.row [(.int .i64 0), (.str [])]) fun i20 H21 =>
  cond (Nat.beq (List.length l18) 2 && Nat.blt 0 2) (
  (stN H21 i20 0 l18).bind fun H22 =>
  cond b19 (
  (ldI H22 .i64 i20 0).bind fun n23 =>
  cond (n23 == x1) (
  asP x0 fun p24 o25 =>
  (ldV H22 p24 (o25 + 14)).bind fun v26 =>
  o 220 [v26] H22 fun v27 H28 =>
  asT2 v27 fun v29 v30 =>
  asA v29 fun l31 =>
  asI .i64 v30 fun n32 =>
  κ (.tup []) H28) (
  κ (.tup []) H22)) (
  κ (.tup []) H22)) none))) none
theorem M160_0_ok {o : Orc} {N : Nat} {κ : Kv} (x0 : V) (x1 : Int) (H : Heap) :
    run Tryz.prog o N (cAt Tryz.f160 []) .n (env0 Tryz.prog Tryz.f160 κ) (tmk 0 41 [(0, x0), (1, .int .i64 x1)]) H (env0 Tryz.prog Tryz.f160 κ).ret = M160_0 o N κ x0 x1 H := by
  kernel_rfl
def M160 (o : Orc) (N : Nat) : FnM := fun vs H κ => match vs with
  | [x0, .int .i64 x1] => M160_0 o N κ x0 x1 H
  | _ => none
theorem M160_run (o : Orc) (N : Nat) (vs : List V) (H : Heap) (κ : Kv) (r) (h : M160 o N vs H κ = some r) : runFn Tryz.prog o N Tryz.f160 .n vs H κ = some r := by
  unfold M160 at h
  split at h
  · rename_i x0 x1
    refine (runFn_at (t := tmk 0 41 [(0, x0), (1, .int .i64 x1)]) (by kernel_rfl) (by kernel_rfl)).trans (Eq.trans ?_ h)
    exact M160_0_ok x0 x1 H
  · cases h
theorem M160_sound {o : Orc} (ho : ∀ f, FSound Tryz.prog f (o f)) (N : Nat) : FSound Tryz.prog 160 (M160 o N) :=
  FSound.sub (runFn_ok (an := .n) (fuel := N) hmix ho (by kernel_rfl) (by kernel_rfl)) (M160_run o N)
/-! 161 (*ostinato/status.Table).Good -/
def M161_0 (o : Orc) (N : Nat) (κ : Kv) (x0 : V) (x1 : Int) (H : Heap) : Ans :=
  o 202 [x0, (.int .i64 x1), (.int .i64 (-1))] H fun v1 H2 =>
  asT0 v1 (
  κ (.tup []) H2)
theorem M161_0_ok {o : Orc} {N : Nat} {κ : Kv} (x0 : V) (x1 : Int) (H : Heap) :
    run Tryz.prog o N (cAt Tryz.f161 []) .n (env0 Tryz.prog Tryz.f161 κ) (tmk 0 7 [(0, x0), (1, .int .i64 x1)]) H (env0 Tryz.prog Tryz.f161 κ).ret = M161_0 o N κ x0 x1 H := by
  kernel_rfl
def M161 (o : Orc) (N : Nat) : FnM := fun vs H κ => match vs with
  | [x0, .int .i64 x1] => M161_0 o N κ x0 x1 H
  | _ => none
theorem M161_run (o : Orc) (N : Nat) (vs : List V) (H : Heap) (κ : Kv) (r) (h : M161 o N vs H κ = some r) : runFn Tryz.prog o N Tryz.f161 .n vs H κ = some r := by
  unfold M161 at h
  split at h
  · rename_i x0 x1
    refine (runFn_at (t := tmk 0 7 [(0, x0), (1, .int .i64 x1)]) (by kernel_rfl) (by kernel_rfl)).trans (Eq.trans ?_ h)
    exact M161_0_ok x0 x1 H
  · cases h
theorem M161_sound {o : Orc} (ho : ∀ f, FSound Tryz.prog f (o f)) (N : Nat) : FSound Tryz.prog 161 (M161 o N) :=
  FSound.sub (runFn_ok (an := .n) (fuel := N) hmix ho (by kernel_rfl) (by kernel_rfl)) (M161_run o N)
/-! 162 ostinato/node.latest[int] -/
def M162_0 (o : Orc) (N : Nat) (κ : Kv) (x0 : V) (H : Heap) : Ans :=
  lenS x0 fun n1 =>
  cond (decide ((IntKind.i64.wrap (n1 - 100)) > 0)) (
  slS 1 x0 (some (.int .i64 (IntKind.i64.wrap (n1 - 100)))) none fun v2 =>
  appV H .nils v2 1 fun v3 H4 =>
  κ v3 H4) (
  κ x0 H)
theorem M162_0_ok {o : Orc} {N : Nat} {κ : Kv} (x0 : V) (H : Heap) :
    run Tryz.prog o N (cAt Tryz.f162 []) .n (env0 Tryz.prog Tryz.f162 κ) (tmk 0 14 [(0, x0)]) H (env0 Tryz.prog Tryz.f162 κ).ret = M162_0 o N κ x0 H := by
  kernel_rfl
def M162 (o : Orc) (N : Nat) : FnM := fun vs H κ => match vs with
  | [x0] => M162_0 o N κ x0 H
  | _ => none
theorem M162_run (o : Orc) (N : Nat) (vs : List V) (H : Heap) (κ : Kv) (r) (h : M162 o N vs H κ = some r) : runFn Tryz.prog o N Tryz.f162 .n vs H κ = some r := by
  unfold M162 at h
  split at h
  · rename_i x0
    refine (runFn_at (t := tmk 0 14 [(0, x0)]) (by kernel_rfl) (by kernel_rfl)).trans (Eq.trans ?_ h)
    exact M162_0_ok x0 H
  · cases h
theorem M162_sound {o : Orc} (ho : ∀ f, FSound Tryz.prog f (o f)) (N : Nat) : FSound Tryz.prog 162 (M162 o N) :=
  FSound.sub (runFn_ok (an := .n) (fuel := N) hmix ho (by kernel_rfl) (by kernel_rfl)) (M162_run o N)
/-! 168 slices.Max[[]int,int] -/
def M168_0 (o : Orc) (N : Nat) (J : V → Heap → Ans) (κ : Kv) (x0 : V) (H : Heap) : Ans :=
  J x0 H
theorem M168_0_ok {o : Orc} {N : Nat} {κ : Kv} {J : Kt} {J' : V → Heap → Ans} (hJ : ∀ x0 H, J (tmk 0 25 [(0, x0)]) H = J' x0 H) (x0 : V) (H : Heap) :
    run Tryz.prog o N (cAt Tryz.f168 [0]) .n (env0 Tryz.prog Tryz.f168 κ) (tmk 0 25 [(0, x0)]) H (kj [0] J) = M168_0 o N J' κ x0 H := by
  obtain rfl := fx2 hJ
  kernel_rfl
def M168_1 (o : Orc) (N : Nat) (J : V → Heap → Ans) (κ : Kv) (x0 : V) (H : Heap) : Ans :=
  lenS x0 fun n1 =>
  cond (decide (n1 < 1)) (
  none) (
  J x0 H)
theorem M168_1_ok {o : Orc} {N : Nat} {κ : Kv} {J : Kt} {J' : V → Heap → Ans} (hJ : ∀ x0 H, J (tmk 0 25 [(0, x0)]) H = J' x0 H) (x0 : V) (H : Heap) :
    run Tryz.prog o N (cAt Tryz.f168 [1, 0]) .n (env0 Tryz.prog Tryz.f168 κ) (tmk 0 25 [(0, x0)]) H (kj [0] J) = M168_1 o N J' κ x0 H := by
  obtain rfl := fx2 hJ
  kernel_rfl
def M168_2 (o : Orc) (N : Nat) (J : V → Int → Heap → Ans) (κ : Kv) (x0 : V) (H : Heap) : Ans :=
  idxS 1 x0 0 fun p2 o3 =>
  (ldI H .i64 p2 o3).bind fun n4 =>
  J x0 n4 H
theorem M168_2_ok {o : Orc} {N : Nat} {κ : Kv} {J : Kt} {J' : V → Int → Heap → Ans} (hJ : ∀ x0 x3 H, J (tmk 0 25 [(0, x0), (3, .int .i64 x3)]) H = J' x0 x3 H) (x0 : V) (H : Heap) :
    run Tryz.prog o N (cAt Tryz.f168 [1, 1, 0]) .n (env0 Tryz.prog Tryz.f168 κ) (tmk 0 25 [(0, x0)]) H (kj [0, 3] J) = M168_2 o N J' κ x0 H := by
  obtain rfl := fx3 hJ
  kernel_rfl
def M168_3 (o : Orc) (N : Nat) (J : V → Int → Int → Heap → Ans) (κ : Kv) (x0 : V) (x3 : Int) (H : Heap) : Ans :=
  J x0 x3 1 H
theorem M168_3_ok {o : Orc} {N : Nat} {κ : Kv} {J : Kt} {J' : V → Int → Int → Heap → Ans} (hJ : ∀ x0 x3 x4 H, J (tmk 0 25 [(0, x0), (3, .int .i64 x3), (4, .int .i64 x4)]) H = J' x0 x3 x4 H) (x0 : V) (x3 : Int) (H : Heap) :
    run Tryz.prog o N (cAt Tryz.f168 [1, 1, 1, 0, 0]) .n (env0 Tryz.prog Tryz.f168 κ) (tmk 0 25 [(0, x0), (3, .int .i64 x3)]) H (kj [0, 3, 4] J) = M168_3 o N J' κ x0 x3 H := by
  obtain rfl := fx4 hJ
  kernel_rfl
def M168_4 (o : Orc) (N : Nat) (X0 : Int → Heap → Ans) (J : V → Int → Int → Heap → Ans) (κ : Kv) (x0 : V) (x3 x4 : Int) (H : Heap) : Ans :=
  lenS x0 fun n5 =>
  cond (decide (x4 < n5)) (
  idxS 1 x0 x4 fun p6 o7 =>
  (ldI H .i64 p6 o7).bind fun n8 =>
  J x0 (if n8 > x3 then n8 else x3) (IntKind.i64.wrap (x4 + 1)) H) (
  X0 x3 H)
theorem M168_4_ok {o : Orc} {N : Nat} {κ : Kv} {X0 J : Kt} {X0' : Int → Heap → Ans} {J' : V → Int → Int → Heap → Ans} (h0 : ∀ x3 H, X0 (tmk 0 25 [(3, .int .i64 x3)]) H = X0' x3 H) (hJ : ∀ x0 x3 x4 H, J (tmk 0 25 [(0, x0), (3, .int .i64 x3), (4, .int .i64 x4)]) H = J' x0 x3 x4 H) (x0 : V) (x3 x4 : Int) (H : Heap) :
    run Tryz.prog o N (cAt Tryz.f168 [1, 1, 1, 0, 1, 4, 4]) .n ((env0 Tryz.prog Tryz.f168 κ).block 0 (kj [3] X0)) (tmk 0 25 [(0, x0), (3, .int .i64 x3), (4, .int .i64 x4)]) H (kj [0, 3, 4] J) = M168_4 o N X0' J' κ x0 x3 x4 H := by
  obtain rfl := fx2 h0
  obtain rfl := fx4 hJ
  kernel_rfl
def M168_5 (o : Orc) (N : Nat) (X0 : Int → Heap → Ans) (κ : Kv) (n : Nat) : V → Int → Int → Heap → Ans :=
  Nat.rec (motive := fun _ => V → Int → Int → Heap → Ans) (fun _ _ _ _ => none) (fun _ ih x0 x3 x4 H => M168_4 o N X0 ih κ x0 x3 x4 H) n
theorem M168_5_s (o : Orc) (N : Nat) (X0 : Int → Heap → Ans) (κ : Kv) (n : Nat) (x0 : V) (x3 x4 : Int) (H : Heap) : M168_5 o N X0 κ (n + 1) x0 x3 x4 H = M168_4 o N X0 (M168_5 o N X0 κ n) κ x0 x3 x4 H := rfl
theorem M168_5_ok {o : Orc} {N : Nat} {κ : Kv} {X0 : Kt} {X0' : Int → Heap → Ans} (h0 : ∀ x3 H, X0 (tmk 0 25 [(3, .int .i64 x3)]) H = X0' x3 H) (n : Nat) : ∀ (x0 : V) (x3 x4 : Int) (H : Heap),
    rounds (fun a H k => run Tryz.prog o N (cAt Tryz.f168 [1, 1, 1, 0, 1, 4, 4]) .n ((env0 Tryz.prog Tryz.f168 κ).block 0 (kj [3] X0)) a H k) (some (lvOf [0, 3, 4])) n (tmk 0 25 [(0, x0), (3, .int .i64 x3), (4, .int .i64 x4)]) H = M168_5 o N X0' κ n x0 x3 x4 H := by
  induction n with
  | zero => intros; rfl
  | succ n ih =>
    intro x0 x3 x4 H
    refine (run_round.trans ?_).trans (M168_5_s ..).symm
    exact M168_4_ok h0 ih x0 x3 x4 H
def A168_6 : An := .s .n (some (lvOf [0, 3, 4])) (.b none (.l (some (lvOf [0, 3, 4])) .n))
def M168_7 (o : Orc) (N : Nat) (κ : Kv) (x3 : Int) (H : Heap) : Ans :=
  κ (.int .i64 x3) H
theorem M168_7_ok {o : Orc} {N : Nat} {κ : Kv} (x3 : Int) (H : Heap) :
    run Tryz.prog o N (cAt Tryz.f168 [1, 1, 1, 1]) .n (env0 Tryz.prog Tryz.f168 κ) (tmk 0 25 [(3, .int .i64 x3)]) H (env0 Tryz.prog Tryz.f168 κ).ret = M168_7 o N κ x3 H := by
  kernel_rfl
def A168_8 : An := .s .n (some (lvOf [0, 3])) (.s A168_6 (some (lvOf [3])) .n)
def A168_9 : An := .s .n (some (lvOf [0])) (.s .n (some (lvOf [0])) A168_8)
def M168 (o : Orc) (N : Nat) : FnM := fun vs H κ => match vs with
  | [x0] => M168_0 o N (fun x0 H => M168_1 o N (fun x0 H => M168_2 o N (fun x0 x3 H => M168_3 o N (fun x0 x3 x4 H => M168_5 o N (fun x3 H => M168_7 o N κ x3 H) κ N x0 x3 x4 H) κ x0 x3 H) κ x0 H) κ x0 H) κ x0 H
  | _ => none
theorem M168_run (o : Orc) (N : Nat) (vs : List V) (H : Heap) (κ : Kv) (r) (h : M168 o N vs H κ = some r) : runFn Tryz.prog o N Tryz.f168 A168_9 vs H κ = some r := by
  unfold M168 at h
  split at h
  · rename_i x0
    refine (runFn_at (t := tmk 0 25 [(0, x0)]) (by kernel_rfl) (by kernel_rfl)).trans (Eq.trans ?_ h)
    refine (run_seq (x := (cAt Tryz.f168 [0])) (ax := .n) (y := (cAt Tryz.f168 [1])) (ay := (.s .n (some (lvOf [0])) A168_8)) (l := [0]) (by kernel_rfl) (by kernel_rfl)).trans ?_
    refine M168_0_ok ?_ x0 H
    intro x0 H
    refine (run_seq (x := (cAt Tryz.f168 [1, 0])) (ax := .n) (y := (cAt Tryz.f168 [1, 1])) (ay := A168_8) (l := [0]) (by kernel_rfl) (by kernel_rfl)).trans ?_
    refine M168_1_ok ?_ x0 H
    intro x0 H
    refine (run_seq (x := (cAt Tryz.f168 [1, 1, 0])) (ax := .n) (y := (cAt Tryz.f168 [1, 1, 1])) (ay := (.s A168_6 (some (lvOf [3])) .n)) (l := [0, 3]) (by kernel_rfl) (by kernel_rfl)).trans ?_
    refine M168_2_ok ?_ x0 H
    intro x0 x3 H
    refine (run_seq (x := (cAt Tryz.f168 [1, 1, 1, 0])) (ax := A168_6) (y := (cAt Tryz.f168 [1, 1, 1, 1])) (ay := .n) (l := [3]) (by kernel_rfl) (by kernel_rfl)).trans ?_
    refine (run_seq (x := (cAt Tryz.f168 [1, 1, 1, 0, 0])) (ax := .n) (y := (cAt Tryz.f168 [1, 1, 1, 0, 1])) (ay := (.b none (.l (some (lvOf [0, 3, 4])) .n))) (l := [0, 3, 4]) (by kernel_rfl) (by kernel_rfl)).trans ?_
    refine M168_3_ok ?_ x0 x3 H
    intro x0 x3 x4 H
    refine (run_block (id := 0) (x := (cAt Tryz.f168 [1, 1, 1, 0, 1, 4])) (ax := (.l (some (lvOf [0, 3, 4])) .n)) (by kernel_rfl) (by kernel_rfl)).trans ?_
    refine (run_loop (x := (cAt Tryz.f168 [1, 1, 1, 0, 1, 4, 4])) (ax := .n) (l := [0, 3, 4]) (by kernel_rfl) (by kernel_rfl) (by kernel_rfl)).trans ?_
    refine M168_5_ok ?_ N x0 x3 x4 H
    intro x3 H
    exact M168_7_ok x3 H
  · cases h
theorem M168_sound {o : Orc} (ho : ∀ f, FSound Tryz.prog f (o f)) (N : Nat) : FSound Tryz.prog 168 (M168 o N) :=
  FSound.sub (runFn_ok (an := A168_9) (fuel := N) hmix ho (by kernel_rfl) (by kernel_rfl)) (M168_run o N)
/-! 169 slices.Min[[]int,int] -/
def M169_0 (o : Orc) (N : Nat) (J : V → Heap → Ans) (κ : Kv) (x0 : V) (H : Heap) : Ans :=
  J x0 H
theorem M169_0_ok {o : Orc} {N : Nat} {κ : Kv} {J : Kt} {J' : V → Heap → Ans} (hJ : ∀ x0 H, J (tmk 0 25 [(0, x0)]) H = J' x0 H) (x0 : V) (H : Heap) :
    run Tryz.prog o N (cAt Tryz.f169 [0]) .n (env0 Tryz.prog Tryz.f169 κ) (tmk 0 25 [(0, x0)]) H (kj [0] J) = M169_0 o N J' κ x0 H := by
  obtain rfl := fx2 hJ
  kernel_rfl
def M169_1 (o : Orc) (N : Nat) (J : V → Heap → Ans) (κ : Kv) (x0 : V) (H : Heap) : Ans :=
  lenS x0 fun n1 =>
  cond (decide (n1 < 1)) (
  none) (
  J x0 H)
theorem M169_1_ok {o : Orc} {N : Nat} {κ : Kv} {J : Kt} {J' : V → Heap → Ans} (hJ : ∀ x0 H, J (tmk 0 25 [(0, x0)]) H = J' x0 H) (x0 : V) (H : Heap) :
    run Tryz.prog o N (cAt Tryz.f169 [1, 0]) .n (env0 Tryz.prog Tryz.f169 κ) (tmk 0 25 [(0, x0)]) H (kj [0] J) = M169_1 o N J' κ x0 H := by
  obtain rfl := fx2 hJ
  kernel_rfl
def M169_2 (o : Orc) (N : Nat) (J : V → Int → Heap → Ans) (κ : Kv) (x0 : V) (H : Heap) : Ans :=
  idxS 1 x0 0 fun p2 o3 =>
  (ldI H .i64 p2 o3).bind fun n4 =>
  J x0 n4 H
theorem M169_2_ok {o : Orc} {N : Nat} {κ : Kv} {J : Kt} {J' : V → Int → Heap → Ans} (hJ : ∀ x0 x3 H, J (tmk 0 25 [(0, x0), (3, .int .i64 x3)]) H = J' x0 x3 H) (x0 : V) (H : Heap) :
    run Tryz.prog o N (cAt Tryz.f169 [1, 1, 0]) .n (env0 Tryz.prog Tryz.f169 κ) (tmk 0 25 [(0, x0)]) H (kj [0, 3] J) = M169_2 o N J' κ x0 H := by
  obtain rfl := fx3 hJ
  kernel_rfl
def M169_3 (o : Orc) (N : Nat) (J : V → Int → Int → Heap → Ans) (κ : Kv) (x0 : V) (x3 : Int) (H : Heap) : Ans :=
  J x0 x3 1 H
theorem M169_3_ok {o : Orc} {N : Nat} {κ : Kv} {J : Kt} {J' : V → Int → Int → Heap → Ans} (hJ : ∀ x0 x3 x4 H, J (tmk 0 25 [(0, x0), (3, .int .i64 x3), (4, .int .i64 x4)]) H = J' x0 x3 x4 H) (x0 : V) (x3 : Int) (H : Heap) :
    run Tryz.prog o N (cAt Tryz.f169 [1, 1, 1, 0, 0]) .n (env0 Tryz.prog Tryz.f169 κ) (tmk 0 25 [(0, x0), (3, .int .i64 x3)]) H (kj [0, 3, 4] J) = M169_3 o N J' κ x0 x3 H := by
  obtain rfl := fx4 hJ
  kernel_rfl
def M169_4 (o : Orc) (N : Nat) (X0 : Int → Heap → Ans) (J : V → Int → Int → Heap → Ans) (κ : Kv) (x0 : V) (x3 x4 : Int) (H : Heap) : Ans :=
  lenS x0 fun n5 =>
  cond (decide (x4 < n5)) (
  idxS 1 x0 x4 fun p6 o7 =>
  (ldI H .i64 p6 o7).bind fun n8 =>
  J x0 (if n8 < x3 then n8 else x3) (IntKind.i64.wrap (x4 + 1)) H) (
  X0 x3 H)
theorem M169_4_ok {o : Orc} {N : Nat} {κ : Kv} {X0 J : Kt} {X0' : Int → Heap → Ans} {J' : V → Int → Int → Heap → Ans} (h0 : ∀ x3 H, X0 (tmk 0 25 [(3, .int .i64 x3)]) H = X0' x3 H) (hJ : ∀ x0 x3 x4 H, J (tmk 0 25 [(0, x0), (3, .int .i64 x3), (4, .int .i64 x4)]) H = J' x0 x3 x4 H) (x0 : V) (x3 x4 : Int) (H : Heap) :
    run Tryz.prog o N (cAt Tryz.f169 [1, 1, 1, 0, 1, 4, 4]) .n ((env0 Tryz.prog Tryz.f169 κ).block 0 (kj [3] X0)) (tmk 0 25 [(0, x0), (3, .int .i64 x3), (4, .int .i64 x4)]) H (kj [0, 3, 4] J) = M169_4 o N X0' J' κ x0 x3 x4 H := by
  obtain rfl := fx2 h0
  obtain rfl := fx4 hJ
  kernel_rfl
def M169_5 (o : Orc) (N : Nat) (X0 : Int → Heap → Ans) (κ : Kv) (n : Nat) : V → Int → Int → Heap → Ans :=
  Nat.rec (motive := fun _ => V → Int → Int → Heap → Ans) (fun _ _ _ _ => none) (fun _ ih x0 x3 x4 H => M169_4 o N X0 ih κ x0 x3 x4 H) n
theorem M169_5_s (o : Orc) (N : Nat) (X0 : Int → Heap → Ans) (κ : Kv) (n : Nat) (x0 : V) (x3 x4 : Int) (H : Heap) : M169_5 o N X0 κ (n + 1) x0 x3 x4 H = M169_4 o N X0 (M169_5 o N X0 κ n) κ x0 x3 x4 H := rfl
theorem M169_5_ok {o : Orc} {N : Nat} {κ : Kv} {X0 : Kt} {X0' : Int → Heap → Ans} (h0 : ∀ x3 H, X0 (tmk 0 25 [(3, .int .i64 x3)]) H = X0' x3 H) (n : Nat) : ∀ (x0 : V) (x3 x4 : Int) (H : Heap),
    rounds (fun a H k => run Tryz.prog o N (cAt Tryz.f169 [1, 1, 1, 0, 1, 4, 4]) .n ((env0 Tryz.prog Tryz.f169 κ).block 0 (kj [3] X0)) a H k) (some (lvOf [0, 3, 4])) n (tmk 0 25 [(0, x0), (3, .int .i64 x3), (4, .int .i64 x4)]) H = M169_5 o N X0' κ n x0 x3 x4 H := by
  induction n with
  | zero => intros; rfl
  | succ n ih =>
    intro x0 x3 x4 H
    refine (run_round.trans ?_).trans (M169_5_s ..).symm
    exact M169_4_ok h0 ih x0 x3 x4 H
def A169_6 : An := .s .n (some (lvOf [0, 3, 4])) (.b none (.l (some (lvOf [0, 3, 4])) .n))
def M169_7 (o : Orc) (N : Nat) (κ : Kv) (x3 : Int) (H : Heap) : Ans :=
  κ (.int .i64 x3) H
theorem M169_7_ok {o : Orc} {N : Nat} {κ : Kv} (x3 : Int) (H : Heap) :
    run Tryz.prog o N (cAt Tryz.f169 [1, 1, 1, 1]) .n (env0 Tryz.prog Tryz.f169 κ) (tmk 0 25 [(3, .int .i64 x3)]) H (env0 Tryz.prog Tryz.f169 κ).ret = M169_7 o N κ x3 H := by
  kernel_rfl
def A169_8 : An := .s .n (some (lvOf [0, 3])) (.s A169_6 (some (lvOf [3])) .n)
def A169_9 : An := .s .n (some (lvOf [0])) (.s .n (some (lvOf [0])) A169_8)
def M169 (o : Orc) (N : Nat) : FnM := fun vs H κ => match vs with
  | [x0] => M169_0 o N (fun x0 H => M169_1 o N (fun x0 H => M169_2 o N (fun x0 x3 H => M169_3 o N (fun x0 x3 x4 H => M169_5 o N (fun x3 H => M169_7 o N κ x3 H) κ N x0 x3 x4 H) κ x0 x3 H) κ x0 H) κ x0 H) κ x0 H
  | _ => none
theorem M169_run (o : Orc) (N : Nat) (vs : List V) (H : Heap) (κ : Kv) (r) (h : M169 o N vs H κ = some r) : runFn Tryz.prog o N Tryz.f169 A169_9 vs H κ = some r := by
  unfold M169 at h
  split at h
  · rename_i x0
    refine (runFn_at (t := tmk 0 25 [(0, x0)]) (by kernel_rfl) (by kernel_rfl)).trans (Eq.trans ?_ h)
    refine (run_seq (x := (cAt Tryz.f169 [0])) (ax := .n) (y := (cAt Tryz.f169 [1])) (ay := (.s .n (some (lvOf [0])) A169_8)) (l := [0]) (by kernel_rfl) (by kernel_rfl)).trans ?_
    refine M169_0_ok ?_ x0 H
    intro x0 H
    refine (run_seq (x := (cAt Tryz.f169 [1, 0])) (ax := .n) (y := (cAt Tryz.f169 [1, 1])) (ay := A169_8) (l := [0]) (by kernel_rfl) (by kernel_rfl)).trans ?_
    refine M169_1_ok ?_ x0 H
    intro x0 H
    refine (run_seq (x := (cAt Tryz.f169 [1, 1, 0])) (ax := .n) (y := (cAt Tryz.f169 [1, 1, 1])) (ay := (.s A169_6 (some (lvOf [3])) .n)) (l := [0, 3]) (by kernel_rfl) (by kernel_rfl)).trans ?_
    refine M169_2_ok ?_ x0 H
    intro x0 x3 H
    refine (run_seq (x := (cAt Tryz.f169 [1, 1, 1, 0])) (ax := A169_6) (y := (cAt Tryz.f169 [1, 1, 1, 1])) (ay := .n) (l := [3]) (by kernel_rfl) (by kernel_rfl)).trans ?_
    refine (run_seq (x := (cAt Tryz.f169 [1, 1, 1, 0, 0])) (ax := .n) (y := (cAt Tryz.f169 [1, 1, 1, 0, 1])) (ay := (.b none (.l (some (lvOf [0, 3, 4])) .n))) (l := [0, 3, 4]) (by kernel_rfl) (by kernel_rfl)).trans ?_
    refine M169_3_ok ?_ x0 x3 H
    intro x0 x3 x4 H
    refine (run_block (id := 0) (x := (cAt Tryz.f169 [1, 1, 1, 0, 1, 4])) (ax := (.l (some (lvOf [0, 3, 4])) .n)) (by kernel_rfl) (by kernel_rfl)).trans ?_
    refine (run_loop (x := (cAt Tryz.f169 [1, 1, 1, 0, 1, 4, 4])) (ax := .n) (l := [0, 3, 4]) (by kernel_rfl) (by kernel_rfl) (by kernel_rfl)).trans ?_
    refine M169_5_ok ?_ N x0 x3 x4 H
    intro x3 H
    exact M169_7_ok x3 H
  · cases h
theorem M169_sound {o : Orc} (ho : ∀ f, FSound Tryz.prog f (o f)) (N : Nat) : FSound Tryz.prog 169 (M169 o N) :=
  FSound.sub (runFn_ok (an := A169_9) (fuel := N) hmix ho (by kernel_rfl) (by kernel_rfl)) (M169_run o N)
/-! 171 (*ostinato/config.text).one -/
def M171_0 (o : Orc) (N : Nat) (κ : Kv) (x0 : V) (x1 : Int) (H : Heap) : Ans :=
  asP x0 fun p1 o2 =>
  (ldV H p1 o2).bind fun v3 =>
  newB H (.row [(.int .u8 (IntKind.u8.wrap x1))]) fun i4 H5 =>
  appV H5 v3 (.sl i4 0 1 1 true) 1 fun v6 H7 =>
  asP x0 fun p8 o9 =>
  cond (Nat.beq (List.length (V.cells v6)) 1 && Nat.blt 0 1) (
  (stN H7 p8 o9 (V.cells v6)).bind fun H10 =>
  κ (.tup []) H10) none
theorem M171_0_ok {o : Orc} {N : Nat} {κ : Kv} (x0 : V) (x1 : Int) (H : Heap) :
    run Tryz.prog o N (cAt Tryz.f171 []) .n (env0 Tryz.prog Tryz.f171 κ) (tmk 0 13 [(0, x0), (1, .int .i64 x1)]) H (env0 Tryz.prog Tryz.f171 κ).ret = M171_0 o N κ x0 x1 H := by
  kernel_rfl
def M171 (o : Orc) (N : Nat) : FnM := fun vs H κ => match vs with
  | [x0, .int .i64 x1] => M171_0 o N κ x0 x1 H
  | _ => none
theorem M171_run (o : Orc) (N : Nat) (vs : List V) (H : Heap) (κ : Kv) (r) (h : M171 o N vs H κ = some r) : runFn Tryz.prog o N Tryz.f171 .n vs H κ = some r := by
  unfold M171 at h
  split at h
  · rename_i x0 x1
    refine (runFn_at (t := tmk 0 13 [(0, x0), (1, .int .i64 x1)]) (by kernel_rfl) (by kernel_rfl)).trans (Eq.trans ?_ h)
    exact M171_0_ok x0 x1 H
  · cases h
theorem M171_sound {o : Orc} (ho : ∀ f, FSound Tryz.prog f (o f)) (N : Nat) : FSound Tryz.prog 171 (M171 o N) :=
  FSound.sub (runFn_ok (an := .n) (fuel := N) hmix ho (by kernel_rfl) (by kernel_rfl)) (M171_run o N)
/-! 172 (*ostinato/config.text).two -/
def M172_0 (o : Orc) (N : Nat) (κ : Kv) (x0 : V) (x1 : Int) (H : Heap) : Ans :=
  asP x0 fun p1 o2 =>
  (ldV H p1 o2).bind fun v3 =>
  newB H (.row [(.int .u8 (IntKind.u8.wrap (Int.fdiv x1 (2 ^ (min (Int.toNat 8) (IntKind.bits .i64)))))), (.int .u8 (IntKind.u8.wrap x1))]) fun i4 H5 =>
  appV H5 v3 (.sl i4 0 2 1 true) 1 fun v6 H7 =>
  asP x0 fun p8 o9 =>
  cond (Nat.beq (List.length (V.cells v6)) 1 && Nat.blt 0 1) (
  (stN H7 p8 o9 (V.cells v6)).bind fun H10 =>
  κ (.tup []) H10) none
theorem M172_0_ok {o : Orc} {N : Nat} {κ : Kv} (x0 : V) (x1 : Int) (H : Heap) :
    run Tryz.prog o N (cAt Tryz.f172 []) .n (env0 Tryz.prog Tryz.f172 κ) (tmk 0 16 [(0, x0), (1, .int .i64 x1)]) H (env0 Tryz.prog Tryz.f172 κ).ret = M172_0 o N κ x0 x1 H := by
  kernel_rfl
def M172 (o : Orc) (N : Nat) : FnM := fun vs H κ => match vs with
  | [x0, .int .i64 x1] => M172_0 o N κ x0 x1 H
  | _ => none
theorem M172_run (o : Orc) (N : Nat) (vs : List V) (H : Heap) (κ : Kv) (r) (h : M172 o N vs H κ = some r) : runFn Tryz.prog o N Tryz.f172 .n vs H κ = some r := by
  unfold M172 at h
  split at h
  · rename_i x0 x1
    refine (runFn_at (t := tmk 0 16 [(0, x0), (1, .int .i64 x1)]) (by kernel_rfl) (by kernel_rfl)).trans (Eq.trans ?_ h)
    exact M172_0_ok x0 x1 H
  · cases h
theorem M172_sound {o : Orc} (ho : ∀ f, FSound Tryz.prog f (o f)) (N : Nat) : FSound Tryz.prog 172 (M172 o N) :=
  FSound.sub (runFn_ok (an := .n) (fuel := N) hmix ho (by kernel_rfl) (by kernel_rfl)) (M172_run o N)
/-! 173 ostinato/matrix.head -/
def M173_0 (o : Orc) (N : Nat) (J : Nat → Heap → Ans) (κ : Kv) (x0 : List V) (H : Heap) : Ans :=
  cond (List.all x0 V.one) (
  newB H (.row x0) fun i1 H2 =>
  J i1 H2) none
theorem M173_0_ok {o : Orc} {N : Nat} {κ : Kv} {J : Kt} {J' : Nat → Heap → Ans} (hJ : ∀ x1 H, J (tmk 0 47 [(1, .ptr x1 0)]) H = J' x1 H) (x0 : List V) (H : Heap) :
    run Tryz.prog o N (cAt Tryz.f173 [0]) .n (env0 Tryz.prog Tryz.f173 κ) (tmk 0 47 [(0, .agg x0)]) H (kj [1] J) = M173_0 o N J' κ x0 H := by
  obtain rfl := fx2 hJ
  kernel_rfl
def M173_1 (o : Orc) (N : Nat) (J : Bool → Heap → Ans) (κ : Kv) (x1 : Nat) (H : Heap) : Ans :=
  (ldI H .i64 x1 0).bind fun n3 =>
  o 174 [(.int .i64 n3), (.int .i64 1), (.int .i64 2)] H fun v4 H5 =>
  asB v4 fun b6 =>
  cond b6 (
  (ldI H5 .i64 x1 1).bind fun n7 =>
  o 174 [(.int .i64 n7), (.int .i64 1), (.int .i64 8)] H5 fun v8 H9 =>
  asB v8 fun b10 =>
  cond b10 (
  (ldI H9 .i64 x1 2).bind fun n11 =>
  o 222 [(.int .i64 n11)] H9 fun v12 H13 =>
  asB v12 fun b14 =>
  cond b14 (
  (ldI H13 .i64 x1 3).bind fun n15 =>
  o 174 [(.int .i64 n15), (.int .i64 1), (.int .i64 4000)] H13 fun v16 H17 =>
  asB v16 fun b18 =>
  cond b18 (
  (ldI H17 .i64 x1 4).bind fun n19 =>
  o 174 [(.int .i64 n19), (.int .i64 1), (.int .i64 16)] H17 fun v20 H21 =>
  asB v20 fun b22 =>
  cond b22 (
  (ldI H21 .i64 x1 5).bind fun n23 =>
  o 174 [(.int .i64 n23), (.int .i64 1), (.int .i64 64)] H21 fun v24 H25 =>
  asB v24 fun b26 =>
  cond b26 (
  (ldI H25 .i64 x1 6).bind fun n27 =>
  o 174 [(.int .i64 n27), (.int .i64 0), (.int .i64 8000)] H25 fun v28 H29 =>
  asB v28 fun b30 =>
  cond b30 (
  (ldI H29 .u32 x1 7).bind fun n31 =>
  cond (decide (n31 < 2048)) (
  (ldI H29 .u32 x1 7).bind fun n32 =>
  J ((Int.tmod n32 8) == 0) H29) (
  J false H29)) (
  J false H29)) (
  J false H25)) (
  J false H21)) (
  J false H17)) (
  J false H13)) (
  J false H9)) (
  J false H5)
theorem M173_1_ok {o : Orc} {N : Nat} {κ : Kv} {J : Kt} {J' : Bool → Heap → Ans} (hJ : ∀ x2 H, J (tmk 0 47 [(2, .bool x2)]) H = J' x2 H) (x1 : Nat) (H : Heap) :
    run Tryz.prog o N (cAt Tryz.f173 [1, 0]) .n (env0 Tryz.prog Tryz.f173 κ) (tmk 0 47 [(1, .ptr x1 0)]) H (kj [2] J) = M173_1 o N J' κ x1 H := by
  obtain rfl := fx2 hJ
  kernel_rfl
def M173_2 (o : Orc) (N : Nat) (κ : Kv) (x2 : Bool) (H : Heap) : Ans :=
  κ (.bool x2) H
theorem M173_2_ok {o : Orc} {N : Nat} {κ : Kv} (x2 : Bool) (H : Heap) :
    run Tryz.prog o N (cAt Tryz.f173 [1, 1]) .n (env0 Tryz.prog Tryz.f173 κ) (tmk 0 47 [(2, .bool x2)]) H (env0 Tryz.prog Tryz.f173 κ).ret = M173_2 o N κ x2 H := by
  kernel_rfl
def A173_3 : An := .s .n (some (lvOf [1])) (.s .n (some (lvOf [2])) .n)
def M173 (o : Orc) (N : Nat) : FnM := fun vs H κ => match vs with
  | [.agg x0] => M173_0 o N (fun x1 H => M173_1 o N (fun x2 H => M173_2 o N κ x2 H) κ x1 H) κ x0 H
  | _ => none
theorem M173_run (o : Orc) (N : Nat) (vs : List V) (H : Heap) (κ : Kv) (r) (h : M173 o N vs H κ = some r) : runFn Tryz.prog o N Tryz.f173 A173_3 vs H κ = some r := by
  unfold M173 at h
  split at h
  · rename_i x0
    refine (runFn_at (t := tmk 0 47 [(0, .agg x0)]) (by kernel_rfl) (by kernel_rfl)).trans (Eq.trans ?_ h)
    refine (run_seq (x := (cAt Tryz.f173 [0])) (ax := .n) (y := (cAt Tryz.f173 [1])) (ay := (.s .n (some (lvOf [2])) .n)) (l := [1]) (by kernel_rfl) (by kernel_rfl)).trans ?_
    refine M173_0_ok ?_ x0 H
    intro x1 H
    refine (run_seq (x := (cAt Tryz.f173 [1, 0])) (ax := .n) (y := (cAt Tryz.f173 [1, 1])) (ay := .n) (l := [2]) (by kernel_rfl) (by kernel_rfl)).trans ?_
    refine M173_1_ok ?_ x1 H
    intro x2 H
    exact M173_2_ok x2 H
  · cases h
theorem M173_sound {o : Orc} (ho : ∀ f, FSound Tryz.prog f (o f)) (N : Nat) : FSound Tryz.prog 173 (M173 o N) :=
  FSound.sub (runFn_ok (an := A173_3) (fuel := N) hmix ho (by kernel_rfl) (by kernel_rfl)) (M173_run o N)
/-! 174 ostinato/matrix.within -/
def M174_0 (o : Orc) (N : Nat) (κ : Kv) (x0 x1 x2 : Int) (H : Heap) : Ans :=
  cond (decide (x0 ≥ x1)) (
  κ (.bool (decide (x0 ≤ x2))) H) (
  κ (.bool false) H)
theorem M174_0_ok {o : Orc} {N : Nat} {κ : Kv} (x0 x1 x2 : Int) (H : Heap) :
    run Tryz.prog o N (cAt Tryz.f174 []) .n (env0 Tryz.prog Tryz.f174 κ) (tmk 0 15 [(0, .int .i64 x0), (1, .int .i64 x1), (2, .int .i64 x2)]) H (env0 Tryz.prog Tryz.f174 κ).ret = M174_0 o N κ x0 x1 x2 H := by
  kernel_rfl
def M174 (o : Orc) (N : Nat) : FnM := fun vs H κ => match vs with
  | [.int .i64 x0, .int .i64 x1, .int .i64 x2] => M174_0 o N κ x0 x1 x2 H
  | _ => none
theorem M174_run (o : Orc) (N : Nat) (vs : List V) (H : Heap) (κ : Kv) (r) (h : M174 o N vs H κ = some r) : runFn Tryz.prog o N Tryz.f174 .n vs H κ = some r := by
  unfold M174 at h
  split at h
  · rename_i x0 x1 x2
    refine (runFn_at (t := tmk 0 15 [(0, .int .i64 x0), (1, .int .i64 x1), (2, .int .i64 x2)]) (by kernel_rfl) (by kernel_rfl)).trans (Eq.trans ?_ h)
    exact M174_0_ok x0 x1 x2 H
  · cases h
theorem M174_sound {o : Orc} (ho : ∀ f, FSound Tryz.prog f (o f)) (N : Nat) : FSound Tryz.prog 174 (M174 o N) :=
  FSound.sub (runFn_ok (an := .n) (fuel := N) hmix ho (by kernel_rfl) (by kernel_rfl)) (M174_run o N)
/-! 175 ostinato/matrix.Is$1 -/
def M175_0 (o : Orc) (N : Nat) (κ : Kv) (x0 : Int) (H : Heap) : Ans :=
  o 174 [(.int .i64 x0), (.int .i64 0), (.int .i64 99)] H fun v1 H2 =>
  asB v1 fun b3 =>
  κ (.bool (!b3)) H2
theorem M175_0_ok {o : Orc} {N : Nat} {κ : Kv} (x0 : Int) (H : Heap) :
    run Tryz.prog o N (cAt Tryz.f175 []) .n (env0 Tryz.prog Tryz.f175 κ) (tmk 0 6 [(0, .int .i64 x0)]) H (env0 Tryz.prog Tryz.f175 κ).ret = M175_0 o N κ x0 H := by
  kernel_rfl
def M175 (o : Orc) (N : Nat) : FnM := fun vs H κ => match vs with
  | [.int .i64 x0] => M175_0 o N κ x0 H
  | _ => none
theorem M175_run (o : Orc) (N : Nat) (vs : List V) (H : Heap) (κ : Kv) (r) (h : M175 o N vs H κ = some r) : runFn Tryz.prog o N Tryz.f175 .n vs H κ = some r := by
  unfold M175 at h
  split at h
  · rename_i x0
    refine (runFn_at (t := tmk 0 6 [(0, .int .i64 x0)]) (by kernel_rfl) (by kernel_rfl)).trans (Eq.trans ?_ h)
    exact M175_0_ok x0 H
  · cases h
theorem M175_sound {o : Orc} (ho : ∀ f, FSound Tryz.prog f (o f)) (N : Nat) : FSound Tryz.prog 175 (M175 o N) :=
  FSound.sub (runFn_ok (an := .n) (fuel := N) hmix ho (by kernel_rfl) (by kernel_rfl)) (M175_run o N)
/-! 176 ostinato/matrix.Is$2 -/
def M176_0 (o : Orc) (N : Nat) (κ : Kv) (x0 : List V) (x1 : V) (H : Heap) : Ans :=
  cond (List.all x0 V.one) (
  newB H (.row x0) fun i1 H2 =>
  (ldI H2 .u32 i1 0).bind fun n3 =>
  cond (decide (n3 ≥ 2048)) (
  κ (.bool true) H2) (
  asP x1 fun p4 o5 =>
  (ldV H2 p4 o5).bind fun v6 =>
  (ldI H2 .i64 i1 1).bind fun n7 =>
  callV o v6 [(.int .i64 n7)] H2 fun v8 H9 =>
  asB v8 fun b10 =>
  κ (.bool b10) H9)) none
theorem M176_0_ok {o : Orc} {N : Nat} {κ : Kv} (x0 : List V) (x1 : V) (H : Heap) :
    run Tryz.prog o N (cAt Tryz.f176 []) .n (env0 Tryz.prog Tryz.f176 κ) (tmk 0 13 [(0, .agg x0), (1, x1)]) H (env0 Tryz.prog Tryz.f176 κ).ret = M176_0 o N κ x0 x1 H := by
  kernel_rfl
def M176 (o : Orc) (N : Nat) : FnM := fun vs H κ => match vs with
  | [.agg x0, x1] => M176_0 o N κ x0 x1 H
  | _ => none
theorem M176_run (o : Orc) (N : Nat) (vs : List V) (H : Heap) (κ : Kv) (r) (h : M176 o N vs H κ = some r) : runFn Tryz.prog o N Tryz.f176 .n vs H κ = some r := by
  unfold M176 at h
  split at h
  · rename_i x0 x1
    refine (runFn_at (t := tmk 0 13 [(0, .agg x0), (1, x1)]) (by kernel_rfl) (by kernel_rfl)).trans (Eq.trans ?_ h)
    exact M176_0_ok x0 x1 H
  · cases h
theorem M176_sound {o : Orc} (ho : ∀ f, FSound Tryz.prog f (o f)) (N : Nat) : FSound Tryz.prog 176 (M176 o N) :=
  FSound.sub (runFn_ok (an := .n) (fuel := N) hmix ho (by kernel_rfl) (by kernel_rfl)) (M176_run o N)
/-! 177 ostinato/matrix.Is$3 -/
def M177_0 (o : Orc) (N : Nat) (κ : Kv) (x0 : List V) (x1 : V) (H : Heap) : Ans :=
  cond (List.all x0 V.one) (
  newB H (.row x0) fun i1 H2 =>
  asP x1 fun p3 o4 =>
  ldFlat H2 p3 [.int .i64, .int .i64, .int .i64, .int .i64, .int .i64, .int .i64, .int .i64, .int .u32, .oth, .oth, .oth] o4 fun l5 =>
  ldFlat H2 i1 [.int .i64, .int .i64, .int .i64, .int .i64, .int .i64, .int .i64] 0 fun l6 =>
  o 178 [(.agg l5), (.agg l6)] H2 fun v7 H8 =>
  asB v7 fun b9 =>
  κ (.bool (!b9)) H8) none
theorem M177_0_ok {o : Orc} {N : Nat} {κ : Kv} (x0 : List V) (x1 : V) (H : Heap) :
    run Tryz.prog o N (cAt Tryz.f177 []) .n (env0 Tryz.prog Tryz.f177 κ) (tmk 0 8 [(0, .agg x0), (1, x1)]) H (env0 Tryz.prog Tryz.f177 κ).ret = M177_0 o N κ x0 x1 H := by
  kernel_rfl
def M177 (o : Orc) (N : Nat) : FnM := fun vs H κ => match vs with
  | [.agg x0, x1] => M177_0 o N κ x0 x1 H
  | _ => none
theorem M177_run (o : Orc) (N : Nat) (vs : List V) (H : Heap) (κ : Kv) (r) (h : M177 o N vs H κ = some r) : runFn Tryz.prog o N Tryz.f177 .n vs H κ = some r := by
  unfold M177 at h
  split at h
  · rename_i x0 x1
    refine (runFn_at (t := tmk 0 8 [(0, .agg x0), (1, x1)]) (by kernel_rfl) (by kernel_rfl)).trans (Eq.trans ?_ h)
    exact M177_0_ok x0 x1 H
  · cases h
theorem M177_sound {o : Orc} (ho : ∀ f, FSound Tryz.prog f (o f)) (N : Nat) : FSound Tryz.prog 177 (M177 o N) :=
  FSound.sub (runFn_ok (an := .n) (fuel := N) hmix ho (by kernel_rfl) (by kernel_rfl)) (M177_run o N)
/-! 178 ostinato/matrix.window -/
def M178_0 (o : Orc) (N : Nat) (κ : Kv) (x0 x1 : List V) (H : Heap) : Ans :=
  cond (List.all x0 V.one) (
  newB H (.row x0) fun i1 H2 =>
  cond (List.all x1 V.one) (
  newB H2 (.row x1) fun i3 H4 =>
  (ldI H4 .i64 i3 0).bind fun n5 =>
  o 174 [(.int .i64 n5), (.int .i64 1), (.int .i64 3)] H4 fun v6 H7 =>
  asB v6 fun b8 =>
  cond (!b8) (
  κ (.bool false) H7) (
  (ldI H7 .i64 i3 1).bind fun n9 =>
  (ldI H7 .i64 i1 3).bind fun n10 =>
  o 174 [(.int .i64 n9), (.int .i64 0), (.int .i64 n10)] H7 fun v11 H12 =>
  asB v11 fun b13 =>
  cond (!b13) (
  κ (.bool false) H12) (
  (ldI H12 .i64 i3 2).bind fun n14 =>
  (ldI H12 .i64 i1 3).bind fun n15 =>
  o 174 [(.int .i64 n14), (.int .i64 0), (.int .i64 n15)] H12 fun v16 H17 =>
  asB v16 fun b18 =>
  cond (!b18) (
  κ (.bool false) H17) (
  (ldI H17 .i64 i3 1).bind fun n19 =>
  (ldI H17 .i64 i3 2).bind fun n20 =>
  cond (decide (n19 ≥ n20)) (
  κ (.bool false) H17) (
  (ldI H17 .i64 i3 4).bind fun n21 =>
  o 222 [(.int .i64 n21)] H17 fun v22 H23 =>
  asB v22 fun b24 =>
  cond (!b24) (
  κ (.bool false) H23) (
  (ldI H23 .i64 i3 4).bind fun n25 =>
  (ldI H23 .i64 i1 2).bind fun n26 =>
  cond (decide (n25 > n26)) (
  κ (.bool false) H23) (
  (ldI H23 .i64 i3 3).bind fun n27 =>
  (ldI H23 .i64 i3 4).bind fun n28 =>
  o 174 [(.int .i64 n27), (.int .i64 0), (.int .i64 (IntKind.i64.wrap (n28 - 1)))] H23 fun v29 H30 =>
  asB v29 fun b31 =>
  cond (!b31) (
  κ (.bool false) H30) (
  (ldI H30 .i64 i3 5).bind fun n32 =>
  o 174 [(.int .i64 n32), (.int .i64 0), (.int .i64 99)] H30 fun v33 H34 =>
  asB v33 fun b35 =>
  cond b35 (
  (ldI H34 .i64 i3 5).bind fun n36 =>
  cond (n36 == 0) (
  κ (.bool true) H34) (
  (ldI H34 .i64 i3 0).bind fun n37 =>
  κ (.bool (n37 == 1)) H34)) (
  κ (.bool false) H34))))))))) none) none
theorem M178_0_ok {o : Orc} {N : Nat} {κ : Kv} (x0 x1 : List V) (H : Heap) :
    run Tryz.prog o N (cAt Tryz.f178 []) .n (env0 Tryz.prog Tryz.f178 κ) (tmk 0 65 [(0, .agg x0), (1, .agg x1)]) H (env0 Tryz.prog Tryz.f178 κ).ret = M178_0 o N κ x0 x1 H := by
  kernel_rfl
def M178 (o : Orc) (N : Nat) : FnM := fun vs H κ => match vs with
  | [.agg x0, .agg x1] => M178_0 o N κ x0 x1 H
  | _ => none
theorem M178_run (o : Orc) (N : Nat) (vs : List V) (H : Heap) (κ : Kv) (r) (h : M178 o N vs H κ = some r) : runFn Tryz.prog o N Tryz.f178 .n vs H κ = some r := by
  unfold M178 at h
  split at h
  · rename_i x0 x1
    refine (runFn_at (t := tmk 0 65 [(0, .agg x0), (1, .agg x1)]) (by kernel_rfl) (by kernel_rfl)).trans (Eq.trans ?_ h)
    exact M178_0_ok x0 x1 H
  · cases h
theorem M178_sound {o : Orc} (ho : ∀ f, FSound Tryz.prog f (o f)) (N : Nat) : FSound Tryz.prog 178 (M178 o N) :=
  FSound.sub (runFn_ok (an := .n) (fuel := N) hmix ho (by kernel_rfl) (by kernel_rfl)) (M178_run o N)
/-! 179 slices.ContainsFunc[[]int,int] -/
def M179_0 (o : Orc) (N : Nat) (κ : Kv) (x0 x1 : V) (H : Heap) : Ans :=
  o 183 [x0, x1] H fun v1 H2 =>
  asI .i64 v1 fun n3 =>
  κ (.bool (decide (n3 ≥ 0))) H2
theorem M179_0_ok {o : Orc} {N : Nat} {κ : Kv} (x0 x1 : V) (H : Heap) :
    run Tryz.prog o N (cAt Tryz.f179 []) .n (env0 Tryz.prog Tryz.f179 κ) (tmk 0 9 [(0, x0), (1, x1)]) H (env0 Tryz.prog Tryz.f179 κ).ret = M179_0 o N κ x0 x1 H := by
  kernel_rfl
def M179 (o : Orc) (N : Nat) : FnM := fun vs H κ => match vs with
  | [x0, x1] => M179_0 o N κ x0 x1 H
  | _ => none
theorem M179_run (o : Orc) (N : Nat) (vs : List V) (H : Heap) (κ : Kv) (r) (h : M179 o N vs H κ = some r) : runFn Tryz.prog o N Tryz.f179 .n vs H κ = some r := by
  unfold M179 at h
  split at h
  · rename_i x0 x1
    refine (runFn_at (t := tmk 0 9 [(0, x0), (1, x1)]) (by kernel_rfl) (by kernel_rfl)).trans (Eq.trans ?_ h)
    exact M179_0_ok x0 x1 H
  · cases h
theorem M179_sound {o : Orc} (ho : ∀ f, FSound Tryz.prog f (o f)) (N : Nat) : FSound Tryz.prog 179 (M179 o N) :=
  FSound.sub (runFn_ok (an := .n) (fuel := N) hmix ho (by kernel_rfl) (by kernel_rfl)) (M179_run o N)
/-! 180 slices.ContainsFunc[[]ostinato/api.Message,ostinato/api.Message] -/
def M180_0 (o : Orc) (N : Nat) (κ : Kv) (x0 x1 : V) (H : Heap) : Ans :=
  o 155 [x0, x1] H fun v1 H2 =>
  asI .i64 v1 fun n3 =>
  κ (.bool (decide (n3 ≥ 0))) H2
theorem M180_0_ok {o : Orc} {N : Nat} {κ : Kv} (x0 x1 : V) (H : Heap) :
    run Tryz.prog o N (cAt Tryz.f180 []) .n (env0 Tryz.prog Tryz.f180 κ) (tmk 0 9 [(0, x0), (1, x1)]) H (env0 Tryz.prog Tryz.f180 κ).ret = M180_0 o N κ x0 x1 H := by
  kernel_rfl
def M180 (o : Orc) (N : Nat) : FnM := fun vs H κ => match vs with
  | [x0, x1] => M180_0 o N κ x0 x1 H
  | _ => none
theorem M180_run (o : Orc) (N : Nat) (vs : List V) (H : Heap) (κ : Kv) (r) (h : M180 o N vs H κ = some r) : runFn Tryz.prog o N Tryz.f180 .n vs H κ = some r := by
  unfold M180 at h
  split at h
  · rename_i x0 x1
    refine (runFn_at (t := tmk 0 9 [(0, x0), (1, x1)]) (by kernel_rfl) (by kernel_rfl)).trans (Eq.trans ?_ h)
    exact M180_0_ok x0 x1 H
  · cases h
theorem M180_sound {o : Orc} (ho : ∀ f, FSound Tryz.prog f (o f)) (N : Nat) : FSound Tryz.prog 180 (M180 o N) :=
  FSound.sub (runFn_ok (an := .n) (fuel := N) hmix ho (by kernel_rfl) (by kernel_rfl)) (M180_run o N)
/-! 181 slices.ContainsFunc[[]ostinato/api.Window,ostinato/api.Window] -/
def M181_0 (o : Orc) (N : Nat) (κ : Kv) (x0 x1 : V) (H : Heap) : Ans :=
  o 223 [x0, x1] H fun v1 H2 =>
  asI .i64 v1 fun n3 =>
  κ (.bool (decide (n3 ≥ 0))) H2
theorem M181_0_ok {o : Orc} {N : Nat} {κ : Kv} (x0 x1 : V) (H : Heap) :
    run Tryz.prog o N (cAt Tryz.f181 []) .n (env0 Tryz.prog Tryz.f181 κ) (tmk 0 9 [(0, x0), (1, x1)]) H (env0 Tryz.prog Tryz.f181 κ).ret = M181_0 o N κ x0 x1 H := by
  kernel_rfl
def M181 (o : Orc) (N : Nat) : FnM := fun vs H κ => match vs with
  | [x0, x1] => M181_0 o N κ x0 x1 H
  | _ => none
theorem M181_run (o : Orc) (N : Nat) (vs : List V) (H : Heap) (κ : Kv) (r) (h : M181 o N vs H κ = some r) : runFn Tryz.prog o N Tryz.f181 .n vs H κ = some r := by
  unfold M181 at h
  split at h
  · rename_i x0 x1
    refine (runFn_at (t := tmk 0 9 [(0, x0), (1, x1)]) (by kernel_rfl) (by kernel_rfl)).trans (Eq.trans ?_ h)
    exact M181_0_ok x0 x1 H
  · cases h
theorem M181_sound {o : Orc} (ho : ∀ f, FSound Tryz.prog f (o f)) (N : Nat) : FSound Tryz.prog 181 (M181 o N) :=
  FSound.sub (runFn_ok (an := .n) (fuel := N) hmix ho (by kernel_rfl) (by kernel_rfl)) (M181_run o N)
/-! 182 ostinato/check.Units -/
def M182_0 (o : Orc) (N : Nat) (κ : Kv) (x0 : List V) (x1 : Int) (H : Heap) : Ans :=
  cond (List.all x0 V.one) (
  newB H (.row x0) fun i1 H2 =>
  (ldI H2 .i64 i1 5).bind fun n3 =>
  cond (decide ((if 1 > n3 then 1 else n3) = 0)) none (
  cond (decide ((if 1 > n3 then 1 else n3) = 0)) none (
  cond ((Int.tmod (IntKind.i64.wrap ((if 1000 < (if 0 > x1 then 0 else x1) then 1000 else (if 0 > x1 then 0 else x1)) * 4)) (if 1 > n3 then 1 else n3)) != 0) (
  κ (.int .i64 (IntKind.i64.wrap ((IntKind.i64.wrap ((IntKind.i64.wrap (Int.tdiv (IntKind.i64.wrap ((if 1000 < (if 0 > x1 then 0 else x1) then 1000 else (if 0 > x1 then 0 else x1)) * 4)) (if 1 > n3 then 1 else n3))) + 1)) + 1))) H2) (
  κ (.int .i64 (IntKind.i64.wrap ((IntKind.i64.wrap (Int.tdiv (IntKind.i64.wrap ((if 1000 < (if 0 > x1 then 0 else x1) then 1000 else (if 0 > x1 then 0 else x1)) * 4)) (if 1 > n3 then 1 else n3))) + 1))) H2)))) none
theorem M182_0_ok {o : Orc} {N : Nat} {κ : Kv} (x0 : List V) (x1 : Int) (H : Heap) :
    run Tryz.prog o N (cAt Tryz.f182 []) .n (env0 Tryz.prog Tryz.f182 κ) (tmk 0 26 [(0, .agg x0), (1, .int .i64 x1)]) H (env0 Tryz.prog Tryz.f182 κ).ret = M182_0 o N κ x0 x1 H := by
  kernel_rfl
def M182 (o : Orc) (N : Nat) : FnM := fun vs H κ => match vs with
  | [.agg x0, .int .i64 x1] => M182_0 o N κ x0 x1 H
  | _ => none
theorem M182_run (o : Orc) (N : Nat) (vs : List V) (H : Heap) (κ : Kv) (r) (h : M182 o N vs H κ = some r) : runFn Tryz.prog o N Tryz.f182 .n vs H κ = some r := by
  unfold M182 at h
  split at h
  · rename_i x0 x1
    refine (runFn_at (t := tmk 0 26 [(0, .agg x0), (1, .int .i64 x1)]) (by kernel_rfl) (by kernel_rfl)).trans (Eq.trans ?_ h)
    exact M182_0_ok x0 x1 H
  · cases h
theorem M182_sound {o : Orc} (ho : ∀ f, FSound Tryz.prog f (o f)) (N : Nat) : FSound Tryz.prog 182 (M182 o N) :=
  FSound.sub (runFn_ok (an := .n) (fuel := N) hmix ho (by kernel_rfl) (by kernel_rfl)) (M182_run o N)
/-! 183 slices.IndexFunc[[]int,int] -/
def M183_0 (o : Orc) (N : Nat) (J : V → V → Heap → Ans) (κ : Kv) (x0 x1 : V) (H : Heap) : Ans :=
  J x0 x1 H
theorem M183_0_ok {o : Orc} {N : Nat} {κ : Kv} {J : Kt} {J' : V → V → Heap → Ans} (hJ : ∀ x0 x1 H, J (tmk 0 19 [(0, x0), (1, x1)]) H = J' x0 x1 H) (x0 x1 : V) (H : Heap) :
    run Tryz.prog o N (cAt Tryz.f183 [0]) .n (env0 Tryz.prog Tryz.f183 κ) (tmk 0 19 [(0, x0), (1, x1)]) H (kj [0, 1] J) = M183_0 o N J' κ x0 x1 H := by
  obtain rfl := fx3 hJ
  kernel_rfl
def M183_1 (o : Orc) (N : Nat) (J : V → V → Int → Int → Heap → Ans) (κ : Kv) (x0 x1 : V) (H : Heap) : Ans :=
  lenS x0 fun n1 =>
  J x0 x1 n1 0 H
theorem M183_1_ok {o : Orc} {N : Nat} {κ : Kv} {J : Kt} {J' : V → V → Int → Int → Heap → Ans} (hJ : ∀ x0 x1 x7 x8 H, J (tmk 0 19 [(0, x0), (1, x1), (7, .int .i64 x7), (8, .int .i64 x8)]) H = J' x0 x1 x7 x8 H) (x0 x1 : V) (H : Heap) :
    run Tryz.prog o N (cAt Tryz.f183 [1, 0, 0]) .n (env0 Tryz.prog Tryz.f183 κ) (tmk 0 19 [(0, x0), (1, x1)]) H (kj [0, 1, 7, 8] J) = M183_1 o N J' κ x0 x1 H := by
  obtain rfl := fx5 hJ
  kernel_rfl
def M183_2 (o : Orc) (N : Nat) (X0 : Heap → Ans) (J : V → V → Int → Int → Heap → Ans) (κ : Kv) (x0 x1 : V) (x7 x8 : Int) (H : Heap) : Ans :=
  cond (decide (x8 < x7)) (
  idxS 1 x0 x8 fun p2 o3 =>
  (ldI H .i64 p2 o3).bind fun n4 =>
  callV o x1 [(.int .i64 n4)] H fun v5 H6 =>
  asB v5 fun b7 =>
  cond b7 (
  κ (.int .i64 x8) H6) (
  J x0 x1 x7 (IntKind.i64.wrap (x8 + 1)) H6)) (
  X0  H)
theorem M183_2_ok {o : Orc} {N : Nat} {κ : Kv} {X0 J : Kt} {X0' : Heap → Ans} {J' : V → V → Int → Int → Heap → Ans} (h0 : ∀  H, X0 (tmk 0 19 []) H = X0' H) (hJ : ∀ x0 x1 x7 x8 H, J (tmk 0 19 [(0, x0), (1, x1), (7, .int .i64 x7), (8, .int .i64 x8)]) H = J' x0 x1 x7 x8 H) (x0 x1 : V) (x7 x8 : Int) (H : Heap) :
    run Tryz.prog o N (cAt Tryz.f183 [1, 0, 1, 4, 4]) .n ((env0 Tryz.prog Tryz.f183 κ).block 0 (kj [] X0)) (tmk 0 19 [(0, x0), (1, x1), (7, .int .i64 x7), (8, .int .i64 x8)]) H (kj [0, 1, 7, 8] J) = M183_2 o N X0' J' κ x0 x1 x7 x8 H := by
  obtain rfl := fx1 h0
  obtain rfl := fx5 hJ
  kernel_rfl
def M183_3 (o : Orc) (N : Nat) (X0 : Heap → Ans) (κ : Kv) (n : Nat) : V → V → Int → Int → Heap → Ans :=
  Nat.rec (motive := fun _ => V → V → Int → Int → Heap → Ans) (fun _ _ _ _ _ => none) (fun _ ih x0 x1 x7 x8 H => M183_2 o N X0 ih κ x0 x1 x7 x8 H) n
theorem M183_3_s (o : Orc) (N : Nat) (X0 : Heap → Ans) (κ : Kv) (n : Nat) (x0 x1 : V) (x7 x8 : Int) (H : Heap) : M183_3 o N X0 κ (n + 1) x0 x1 x7 x8 H = M183_2 o N X0 (M183_3 o N X0 κ n) κ x0 x1 x7 x8 H := rfl
theorem M183_3_ok {o : Orc} {N : Nat} {κ : Kv} {X0 : Kt} {X0' : Heap → Ans} (h0 : ∀  H, X0 (tmk 0 19 []) H = X0' H) (n : Nat) : ∀ (x0 x1 : V) (x7 x8 : Int) (H : Heap),
    rounds (fun a H k => run Tryz.prog o N (cAt Tryz.f183 [1, 0, 1, 4, 4]) .n ((env0 Tryz.prog Tryz.f183 κ).block 0 (kj [] X0)) a H k) (some (lvOf [0, 1, 7, 8])) n (tmk 0 19 [(0, x0), (1, x1), (7, .int .i64 x7), (8, .int .i64 x8)]) H = M183_3 o N X0' κ n x0 x1 x7 x8 H := by
  induction n with
  | zero => intros; rfl
  | succ n ih =>
    intro x0 x1 x7 x8 H
    refine (run_round.trans ?_).trans (M183_3_s ..).symm
    exact M183_2_ok h0 ih x0 x1 x7 x8 H
def A183_4 : An := .b none (.l (some (lvOf [0, 1, 7, 8])) .n)
def M183_5 (o : Orc) (N : Nat) (κ : Kv) (H : Heap) : Ans :=
  κ (.int .i64 (-1)) H
theorem M183_5_ok {o : Orc} {N : Nat} {κ : Kv} (H : Heap) :
    run Tryz.prog o N (cAt Tryz.f183 [1, 1]) .n (env0 Tryz.prog Tryz.f183 κ) (tmk 0 19 []) H (env0 Tryz.prog Tryz.f183 κ).ret = M183_5 o N κ  H := by
  kernel_rfl
def A183_6 : An := .s (.s .n (some (lvOf [0, 1, 7, 8])) A183_4) (some (lvOf [])) .n
def M183 (o : Orc) (N : Nat) : FnM := fun vs H κ => match vs with
  | [x0, x1] => M183_0 o N (fun x0 x1 H => M183_1 o N (fun x0 x1 x7 x8 H => M183_3 o N (fun H => M183_5 o N κ  H) κ N x0 x1 x7 x8 H) κ x0 x1 H) κ x0 x1 H
  | _ => none
theorem M183_run (o : Orc) (N : Nat) (vs : List V) (H : Heap) (κ : Kv) (r) (h : M183 o N vs H κ = some r) : runFn Tryz.prog o N Tryz.f183 (.s .n (some (lvOf [0, 1])) A183_6) vs H κ = some r := by
  unfold M183 at h
  split at h
  · rename_i x0 x1
    refine (runFn_at (t := tmk 0 19 [(0, x0), (1, x1)]) (by kernel_rfl) (by kernel_rfl)).trans (Eq.trans ?_ h)
    refine (run_seq (x := (cAt Tryz.f183 [0])) (ax := .n) (y := (cAt Tryz.f183 [1])) (ay := A183_6) (l := [0, 1]) (by kernel_rfl) (by kernel_rfl)).trans ?_
    refine M183_0_ok ?_ x0 x1 H
    intro x0 x1 H
    refine (run_seq (x := (cAt Tryz.f183 [1, 0])) (ax := (.s .n (some (lvOf [0, 1, 7, 8])) A183_4)) (y := (cAt Tryz.f183 [1, 1])) (ay := .n) (l := []) (by kernel_rfl) (by kernel_rfl)).trans ?_
    refine (run_seq (x := (cAt Tryz.f183 [1, 0, 0])) (ax := .n) (y := (cAt Tryz.f183 [1, 0, 1])) (ay := A183_4) (l := [0, 1, 7, 8]) (by kernel_rfl) (by kernel_rfl)).trans ?_
    refine M183_1_ok ?_ x0 x1 H
    intro x0 x1 x7 x8 H
    refine (run_block (id := 0) (x := (cAt Tryz.f183 [1, 0, 1, 4])) (ax := (.l (some (lvOf [0, 1, 7, 8])) .n)) (by kernel_rfl) (by kernel_rfl)).trans ?_
    refine (run_loop (x := (cAt Tryz.f183 [1, 0, 1, 4, 4])) (ax := .n) (l := [0, 1, 7, 8]) (by kernel_rfl) (by kernel_rfl) (by kernel_rfl)).trans ?_
    refine M183_3_ok ?_ N x0 x1 x7 x8 H
    intro H
    exact M183_5_ok  H
  · cases h
theorem M183_sound {o : Orc} (ho : ∀ f, FSound Tryz.prog f (o f)) (N : Nat) : FSound Tryz.prog 183 (M183 o N) :=
  FSound.sub (runFn_ok (an := (.s .n (some (lvOf [0, 1])) A183_6)) (fuel := N) hmix ho (by kernel_rfl) (by kernel_rfl)) (M183_run o N)
/-! 184 ostinato/check.who$1 -/
def M184_0 (o : Orc) (N : Nat) (κ : Kv) (x0 : Int) (x1 : V) (H : Heap) : Ans :=
  asP x1 fun p1 o2 =>
  (ldI H .i64 p1 (o2 + 1)).bind fun n3 =>
  κ (.bool (decide (x0 ≥ n3))) H
theorem M184_0_ok {o : Orc} {N : Nat} {κ : Kv} (x0 : Int) (x1 : V) (H : Heap) :
    run Tryz.prog o N (cAt Tryz.f184 []) .n (env0 Tryz.prog Tryz.f184 κ) (tmk 0 8 [(0, .int .i64 x0), (1, x1)]) H (env0 Tryz.prog Tryz.f184 κ).ret = M184_0 o N κ x0 x1 H := by
  kernel_rfl
def M184 (o : Orc) (N : Nat) : FnM := fun vs H κ => match vs with
  | [.int .i64 x0, x1] => M184_0 o N κ x0 x1 H
  | _ => none
theorem M184_run (o : Orc) (N : Nat) (vs : List V) (H : Heap) (κ : Kv) (r) (h : M184 o N vs H κ = some r) : runFn Tryz.prog o N Tryz.f184 .n vs H κ = some r := by
  unfold M184 at h
  split at h
  · rename_i x0 x1
    refine (runFn_at (t := tmk 0 8 [(0, .int .i64 x0), (1, x1)]) (by kernel_rfl) (by kernel_rfl)).trans (Eq.trans ?_ h)
    exact M184_0_ok x0 x1 H
  · cases h
theorem M184_sound {o : Orc} (ho : ∀ f, FSound Tryz.prog f (o f)) (N : Nat) : FSound Tryz.prog 184 (M184 o N) :=
  FSound.sub (runFn_ok (an := .n) (fuel := N) hmix ho (by kernel_rfl) (by kernel_rfl)) (M184_run o N)
/-! 185 ostinato/check.who$2 -/
def M185_0 (o : Orc) (N : Nat) (κ : Kv) (x0 : List V) (x1 : V) (H : Heap) : Ans :=
  cond (List.all x0 V.one) (
  newB H (.row x0) fun i1 H2 =>
  (ldI H2 .i64 i1 1).bind fun n3 =>
  asP x1 fun p4 o5 =>
  (ldI H2 .i64 p4 (o5 + 1)).bind fun n6 =>
  κ (.bool (decide (n3 ≥ n6))) H2) none
theorem M185_0_ok {o : Orc} {N : Nat} {κ : Kv} (x0 : List V) (x1 : V) (H : Heap) :
    run Tryz.prog o N (cAt Tryz.f185 []) .n (env0 Tryz.prog Tryz.f185 κ) (tmk 0 9 [(0, .agg x0), (1, x1)]) H (env0 Tryz.prog Tryz.f185 κ).ret = M185_0 o N κ x0 x1 H := by
  kernel_rfl
def M185 (o : Orc) (N : Nat) : FnM := fun vs H κ => match vs with
  | [.agg x0, x1] => M185_0 o N κ x0 x1 H
  | _ => none
theorem M185_run (o : Orc) (N : Nat) (vs : List V) (H : Heap) (κ : Kv) (r) (h : M185 o N vs H κ = some r) : runFn Tryz.prog o N Tryz.f185 .n vs H κ = some r := by
  unfold M185 at h
  split at h
  · rename_i x0 x1
    refine (runFn_at (t := tmk 0 9 [(0, .agg x0), (1, x1)]) (by kernel_rfl) (by kernel_rfl)).trans (Eq.trans ?_ h)
    exact M185_0_ok x0 x1 H
  · cases h
theorem M185_sound {o : Orc} (ho : ∀ f, FSound Tryz.prog f (o f)) (N : Nat) : FSound Tryz.prog 185 (M185 o N) :=
  FSound.sub (runFn_ok (an := .n) (fuel := N) hmix ho (by kernel_rfl) (by kernel_rfl)) (M185_run o N)
/-! 186 ostinato/check.twice$1 -/
def M186_0 (o : Orc) (N : Nat) (κ : Kv) (x0 : List V) (x1 : V) (H : Heap) : Ans :=
  cond (List.all x0 V.one) (
  newB H (.row x0) fun i1 H2 =>
  (ldI H2 .u32 i1 0).bind fun n3 =>
  asP x1 fun p4 o5 =>
  (ldI H2 .u32 p4 (o5 + 0)).bind fun n6 =>
  κ (.bool (n3 == n6)) H2) none
theorem M186_0_ok {o : Orc} {N : Nat} {κ : Kv} (x0 : List V) (x1 : V) (H : Heap) :
    run Tryz.prog o N (cAt Tryz.f186 []) .n (env0 Tryz.prog Tryz.f186 κ) (tmk 0 9 [(0, .agg x0), (1, x1)]) H (env0 Tryz.prog Tryz.f186 κ).ret = M186_0 o N κ x0 x1 H := by
  kernel_rfl
def M186 (o : Orc) (N : Nat) : FnM := fun vs H κ => match vs with
  | [.agg x0, x1] => M186_0 o N κ x0 x1 H
  | _ => none
theorem M186_run (o : Orc) (N : Nat) (vs : List V) (H : Heap) (κ : Kv) (r) (h : M186 o N vs H κ = some r) : runFn Tryz.prog o N Tryz.f186 .n vs H κ = some r := by
  unfold M186 at h
  split at h
  · rename_i x0 x1
    refine (runFn_at (t := tmk 0 9 [(0, .agg x0), (1, x1)]) (by kernel_rfl) (by kernel_rfl)).trans (Eq.trans ?_ h)
    exact M186_0_ok x0 x1 H
  · cases h
theorem M186_sound {o : Orc} (ho : ∀ f, FSound Tryz.prog f (o f)) (N : Nat) : FSound Tryz.prog 186 (M186 o N) :=
  FSound.sub (runFn_ok (an := .n) (fuel := N) hmix ho (by kernel_rfl) (by kernel_rfl)) (M186_run o N)
/-! 187 ostinato/check.Meet -/
def M187_0 (o : Orc) (N : Nat) (J : Int → Int → Nat → Heap → Ans) (κ : Kv) (x0 : List V) (x1 x2 : Int) (H : Heap) : Ans :=
  cond (List.all x0 V.one) (
  newB H (.row x0) fun i1 H2 =>
  J x1 x2 i1 H2) none
theorem M187_0_ok {o : Orc} {N : Nat} {κ : Kv} {J : Kt} {J' : Int → Int → Nat → Heap → Ans} (hJ : ∀ x1 x2 x3 H, J (tmk 0 66 [(1, .int .i64 x1), (2, .int .i64 x2), (3, .ptr x3 0)]) H = J' x1 x2 x3 H) (x0 : List V) (x1 x2 : Int) (H : Heap) :
    run Tryz.prog o N (cAt Tryz.f187 [0]) .n (env0 Tryz.prog Tryz.f187 κ) (tmk 0 66 [(0, .agg x0), (1, .int .i64 x1), (2, .int .i64 x2)]) H (kj [1, 2, 3] J) = M187_0 o N J' κ x0 x1 x2 H := by
  obtain rfl := fx4 hJ
  kernel_rfl
def M187_1 (o : Orc) (N : Nat) (J : Int → Nat → Nat → Bool → Heap → Ans) (κ : Kv) (x1 x2 : Int) (x3 : Nat) (H : Heap) : Ans :=
  ldFlat H x3 [.int .i64, .int .i64, .int .i64, .int .i64, .int .i64, .int .i64, .int .i64, .int .u32, .oth, .oth, .oth] 0 fun l3 =>
  o 224 [(.agg l3), (.int .i64 x1)] H fun v4 H5 =>
  asT2 v4 fun v6 v7 =>
  asA v6 fun l8 =>
  asB v7 fun b9 =>
  newB H5 (.row [(.int .i64 0), (.int .i64 0), (.int .i64 0), (.int .i64 0), (.int .i64 0), (.int .i64 0)]) fun i10 H11 =>
  cond (Nat.beq (List.length l8) 6 && Nat.blt 0 6) (
  (stN H11 i10 0 l8).bind fun H12 =>
  J x2 x3 i10 b9 H12) none
theorem M187_1_ok {o : Orc} {N : Nat} {κ : Kv} {J : Kt} {J' : Int → Nat → Nat → Bool → Heap → Ans} (hJ : ∀ x2 x3 x7 x8 H, J (tmk 0 66 [(2, .int .i64 x2), (3, .ptr x3 0), (7, .ptr x7 0), (8, .bool x8)]) H = J' x2 x3 x7 x8 H) (x1 x2 : Int) (x3 : Nat) (H : Heap) :
    run Tryz.prog o N (cAt Tryz.f187 [1, 0]) .n (env0 Tryz.prog Tryz.f187 κ) (tmk 0 66 [(1, .int .i64 x1), (2, .int .i64 x2), (3, .ptr x3 0)]) H (kj [2, 3, 7, 8] J) = M187_1 o N J' κ x1 x2 x3 H := by
  obtain rfl := fx5 hJ
  kernel_rfl
def M187_2 (o : Orc) (N : Nat) (J : Nat → Nat → Bool → Nat → Bool → Heap → Ans) (κ : Kv) (x2 : Int) (x3 x7 : Nat) (x8 : Bool) (H : Heap) : Ans :=
  ldFlat H x3 [.int .i64, .int .i64, .int .i64, .int .i64, .int .i64, .int .i64, .int .i64, .int .u32, .oth, .oth, .oth] 0 fun l13 =>
  o 224 [(.agg l13), (.int .i64 x2)] H fun v14 H15 =>
  asT2 v14 fun v16 v17 =>
  asA v16 fun l18 =>
  asB v17 fun b19 =>
  newB H15 (.row [(.int .i64 0), (.int .i64 0), (.int .i64 0), (.int .i64 0), (.int .i64 0), (.int .i64 0)]) fun i20 H21 =>
  cond (Nat.beq (List.length l18) 6 && Nat.blt 0 6) (
  (stN H21 i20 0 l18).bind fun H22 =>
  J x3 x7 x8 i20 b19 H22) none
theorem M187_2_ok {o : Orc} {N : Nat} {κ : Kv} {J : Kt} {J' : Nat → Nat → Bool → Nat → Bool → Heap → Ans} (hJ : ∀ x3 x7 x8 x9 x10 H, J (tmk 0 66 [(3, .ptr x3 0), (7, .ptr x7 0), (8, .bool x8), (9, .ptr x9 0), (10, .bool x10)]) H = J' x3 x7 x8 x9 x10 H) (x2 : Int) (x3 x7 : Nat) (x8 : Bool) (H : Heap) :
    run Tryz.prog o N (cAt Tryz.f187 [1, 1, 0]) .n (env0 Tryz.prog Tryz.f187 κ) (tmk 0 66 [(2, .int .i64 x2), (3, .ptr x3 0), (7, .ptr x7 0), (8, .bool x8)]) H (kj [3, 7, 8, 9, 10] J) = M187_2 o N J' κ x2 x3 x7 x8 H := by
  obtain rfl := fx6 hJ
  kernel_rfl
def M187_3 (o : Orc) (N : Nat) (J : Nat → Nat → Nat → Heap → Ans) (κ : Kv) (x3 x7 : Nat) (x8 : Bool) (x9 : Nat) (x10 : Bool) (H : Heap) : Ans :=
  cond (!x8) (
  κ (.bool false) H) (
  cond (!x10) (
  κ (.bool false) H) (
  (ldI H .i64 x7 1).bind fun n23 =>
  (ldI H .i64 x9 2).bind fun n24 =>
  cond (decide (n23 ≥ n24)) (
  κ (.bool false) H) (
  (ldI H .i64 x9 1).bind fun n25 =>
  (ldI H .i64 x7 2).bind fun n26 =>
  cond (decide (n25 ≥ n26)) (
  κ (.bool false) H) (
  J x3 x7 x9 H))))
theorem M187_3_ok {o : Orc} {N : Nat} {κ : Kv} {J : Kt} {J' : Nat → Nat → Nat → Heap → Ans} (hJ : ∀ x3 x7 x9 H, J (tmk 0 66 [(3, .ptr x3 0), (7, .ptr x7 0), (9, .ptr x9 0)]) H = J' x3 x7 x9 H) (x3 x7 : Nat) (x8 : Bool) (x9 : Nat) (x10 : Bool) (H : Heap) :
    run Tryz.prog o N (cAt Tryz.f187 [1, 1, 1, 0]) .n (env0 Tryz.prog Tryz.f187 κ) (tmk 0 66 [(3, .ptr x3 0), (7, .ptr x7 0), (8, .bool x8), (9, .ptr x9 0), (10, .bool x10)]) H (kj [3, 7, 9] J) = M187_3 o N J' κ x3 x7 x8 x9 x10 H := by
  obtain rfl := fx4 hJ
  kernel_rfl
def M187_4 (o : Orc) (N : Nat) (J : Nat → Nat → Int → Int → Heap → Ans) (κ : Kv) (x3 x7 x9 : Nat) (H : Heap) : Ans :=
  (ldI H .i64 x3 2).bind fun n27 =>
  J x7 x9 (if 8 < (if 0 > n27 then 0 else n27) then 8 else (if 0 > n27 then 0 else n27)) 0 H
theorem M187_4_ok {o : Orc} {N : Nat} {κ : Kv} {J : Kt} {J' : Nat → Nat → Int → Int → Heap → Ans} (hJ : ∀ x7 x9 x47 x48 H, J (tmk 0 66 [(7, .ptr x7 0), (9, .ptr x9 0), (47, .int .i64 x47), (48, .int .i64 x48)]) H = J' x7 x9 x47 x48 H) (x3 x7 x9 : Nat) (H : Heap) :
    run Tryz.prog o N (cAt Tryz.f187 [1, 1, 1, 1, 0, 0]) .n (env0 Tryz.prog Tryz.f187 κ) (tmk 0 66 [(3, .ptr x3 0), (7, .ptr x7 0), (9, .ptr x9 0)]) H (kj [7, 9, 47, 48] J) = M187_4 o N J' κ x3 x7 x9 H := by
  obtain rfl := fx5 hJ
  kernel_rfl
def M187_5 (o : Orc) (N : Nat) (X0 : Heap → Ans) (J : Nat → Nat → Int → Int → Heap → Ans) (κ : Kv) (x7 x9 : Nat) (x47 x48 : Int) (H : Heap) : Ans :=
  cond (decide (x48 < x47)) (
  (ldI H .i64 x7 3).bind fun n28 =>
  (ldI H .i64 x7 4).bind fun n29 =>
  o 198 [(.int .i64 n28), (.int .i64 n29), (.int .i64 x48)] H fun v30 H31 =>
  asB v30 fun b32 =>
  cond b32 (
  (ldI H31 .i64 x9 3).bind fun n33 =>
  (ldI H31 .i64 x9 4).bind fun n34 =>
  o 198 [(.int .i64 n33), (.int .i64 n34), (.int .i64 x48)] H31 fun v35 H36 =>
  asB v35 fun b37 =>
  cond b37 (
  κ (.bool true) H36) (
  J x7 x9 x47 (IntKind.i64.wrap (x48 + 1)) H36)) (
  J x7 x9 x47 (IntKind.i64.wrap (x48 + 1)) H31)) (
  X0  H)
theorem M187_5_ok {o : Orc} {N : Nat} {κ : Kv} {X0 J : Kt} {X0' : Heap → Ans} {J' : Nat → Nat → Int → Int → Heap → Ans} (h0 : ∀  H, X0 (tmk 0 66 []) H = X0' H) (hJ : ∀ x7 x9 x47 x48 H, J (tmk 0 66 [(7, .ptr x7 0), (9, .ptr x9 0), (47, .int .i64 x47), (48, .int .i64 x48)]) H = J' x7 x9 x47 x48 H) (x7 x9 : Nat) (x47 x48 : Int) (H : Heap) :
    run Tryz.prog o N (cAt Tryz.f187 [1, 1, 1, 1, 0, 1, 4, 4]) .n ((env0 Tryz.prog Tryz.f187 κ).block 0 (kj [] X0)) (tmk 0 66 [(7, .ptr x7 0), (9, .ptr x9 0), (47, .int .i64 x47), (48, .int .i64 x48)]) H (kj [7, 9, 47, 48] J) = M187_5 o N X0' J' κ x7 x9 x47 x48 H := by
  obtain rfl := fx1 h0
  obtain rfl := fx5 hJ
  kernel_rfl
def M187_6 (o : Orc) (N : Nat) (X0 : Heap → Ans) (κ : Kv) (n : Nat) : Nat → Nat → Int → Int → Heap → Ans :=
  Nat.rec (motive := fun _ => Nat → Nat → Int → Int → Heap → Ans) (fun _ _ _ _ _ => none) (fun _ ih x7 x9 x47 x48 H => M187_5 o N X0 ih κ x7 x9 x47 x48 H) n
theorem M187_6_s (o : Orc) (N : Nat) (X0 : Heap → Ans) (κ : Kv) (n : Nat) (x7 x9 : Nat) (x47 x48 : Int) (H : Heap) : M187_6 o N X0 κ (n + 1) x7 x9 x47 x48 H = M187_5 o N X0 (M187_6 o N X0 κ n) κ x7 x9 x47 x48 H := rfl
theorem M187_6_ok {o : Orc} {N : Nat} {κ : Kv} {X0 : Kt} {X0' : Heap → Ans} (h0 : ∀  H, X0 (tmk 0 66 []) H = X0' H) (n : Nat) : ∀ (x7 x9 : Nat) (x47 x48 : Int) (H : Heap),
    rounds (fun a H k => run Tryz.prog o N (cAt Tryz.f187 [1, 1, 1, 1, 0, 1, 4, 4]) .n ((env0 Tryz.prog Tryz.f187 κ).block 0 (kj [] X0)) a H k) (some (lvOf [7, 9, 47, 48])) n (tmk 0 66 [(7, .ptr x7 0), (9, .ptr x9 0), (47, .int .i64 x47), (48, .int .i64 x48)]) H = M187_6 o N X0' κ n x7 x9 x47 x48 H := by
  induction n with
  | zero => intros; rfl
  | succ n ih =>
    intro x7 x9 x47 x48 H
    refine (run_round.trans ?_).trans (M187_6_s ..).symm
    exact M187_5_ok h0 ih x7 x9 x47 x48 H
def A187_7 : An := .b none (.l (some (lvOf [7, 9, 47, 48])) .n)
def A187_8 : An := .s .n (some (lvOf [7, 9, 47, 48])) A187_7
def M187_9 (o : Orc) (N : Nat) (κ : Kv) (H : Heap) : Ans :=
  κ (.bool false) H
theorem M187_9_ok {o : Orc} {N : Nat} {κ : Kv} (H : Heap) :
    run Tryz.prog o N (cAt Tryz.f187 [1, 1, 1, 1, 1]) .n (env0 Tryz.prog Tryz.f187 κ) (tmk 0 66 []) H (env0 Tryz.prog Tryz.f187 κ).ret = M187_9 o N κ  H := by
  kernel_rfl
def A187_10 : An := .s .n (some (lvOf [3, 7, 9])) (.s A187_8 (some (lvOf [])) .n)
def A187_11 : An := .s .n (some (lvOf [3, 7, 8, 9, 10])) A187_10
def A187_12 : An := .s .n (some (lvOf [2, 3, 7, 8])) A187_11
def M187 (o : Orc) (N : Nat) : FnM := fun vs H κ => match vs with
  | [.agg x0, .int .i64 x1, .int .i64 x2] => M187_0 o N (fun x1 x2 x3 H => M187_1 o N (fun x2 x3 x7 x8 H => M187_2 o N (fun x3 x7 x8 x9 x10 H => M187_3 o N (fun x3 x7 x9 H => M187_4 o N (fun x7 x9 x47 x48 H => M187_6 o N (fun H => M187_9 o N κ  H) κ N x7 x9 x47 x48 H) κ x3 x7 x9 H) κ x3 x7 x8 x9 x10 H) κ x2 x3 x7 x8 H) κ x1 x2 x3 H) κ x0 x1 x2 H
  | _ => none
theorem M187_run (o : Orc) (N : Nat) (vs : List V) (H : Heap) (κ : Kv) (r) (h : M187 o N vs H κ = some r) : runFn Tryz.prog o N Tryz.f187 (.s .n (some (lvOf [1, 2, 3])) A187_12) vs H κ = some r := by
  unfold M187 at h
  split at h
  · rename_i x0 x1 x2
    refine (runFn_at (t := tmk 0 66 [(0, .agg x0), (1, .int .i64 x1), (2, .int .i64 x2)]) (by kernel_rfl) (by kernel_rfl)).trans (Eq.trans ?_ h)
    refine (run_seq (x := (cAt Tryz.f187 [0])) (ax := .n) (y := (cAt Tryz.f187 [1])) (ay := A187_12) (l := [1, 2, 3]) (by kernel_rfl) (by kernel_rfl)).trans ?_
    refine M187_0_ok ?_ x0 x1 x2 H
    intro x1 x2 x3 H
    refine (run_seq (x := (cAt Tryz.f187 [1, 0])) (ax := .n) (y := (cAt Tryz.f187 [1, 1])) (ay := A187_11) (l := [2, 3, 7, 8]) (by kernel_rfl) (by kernel_rfl)).trans ?_
    refine M187_1_ok ?_ x1 x2 x3 H
    intro x2 x3 x7 x8 H
    refine (run_seq (x := (cAt Tryz.f187 [1, 1, 0])) (ax := .n) (y := (cAt Tryz.f187 [1, 1, 1])) (ay := A187_10) (l := [3, 7, 8, 9, 10]) (by kernel_rfl) (by kernel_rfl)).trans ?_
    refine M187_2_ok ?_ x2 x3 x7 x8 H
    intro x3 x7 x8 x9 x10 H
    refine (run_seq (x := (cAt Tryz.f187 [1, 1, 1, 0])) (ax := .n) (y := (cAt Tryz.f187 [1, 1, 1, 1])) (ay := (.s A187_8 (some (lvOf [])) .n)) (l := [3, 7, 9]) (by kernel_rfl) (by kernel_rfl)).trans ?_
    refine M187_3_ok ?_ x3 x7 x8 x9 x10 H
    intro x3 x7 x9 H
    refine (run_seq (x := (cAt Tryz.f187 [1, 1, 1, 1, 0])) (ax := A187_8) (y := (cAt Tryz.f187 [1, 1, 1, 1, 1])) (ay := .n) (l := []) (by kernel_rfl) (by kernel_rfl)).trans ?_
    refine (run_seq (x := (cAt Tryz.f187 [1, 1, 1, 1, 0, 0])) (ax := .n) (y := (cAt Tryz.f187 [1, 1, 1, 1, 0, 1])) (ay := A187_7) (l := [7, 9, 47, 48]) (by kernel_rfl) (by kernel_rfl)).trans ?_
    refine M187_4_ok ?_ x3 x7 x9 H
    intro x7 x9 x47 x48 H
    refine (run_block (id := 0) (x := (cAt Tryz.f187 [1, 1, 1, 1, 0, 1, 4])) (ax := (.l (some (lvOf [7, 9, 47, 48])) .n)) (by kernel_rfl) (by kernel_rfl)).trans ?_
    refine (run_loop (x := (cAt Tryz.f187 [1, 1, 1, 1, 0, 1, 4, 4])) (ax := .n) (l := [7, 9, 47, 48]) (by kernel_rfl) (by kernel_rfl) (by kernel_rfl)).trans ?_
    refine M187_6_ok ?_ N x7 x9 x47 x48 H
    intro H
    exact M187_9_ok  H
  · cases h
theorem M187_sound {o : Orc} (ho : ∀ f, FSound Tryz.prog f (o f)) (N : Nat) : FSound Tryz.prog 187 (M187 o N) :=
  FSound.sub (runFn_ok (an := (.s .n (some (lvOf [1, 2, 3])) A187_12)) (fuel := N) hmix ho (by kernel_rfl) (by kernel_rfl)) (M187_run o N)
/-! 188 ostinato/matrix.copied[int] -/
def M188_0 (o : Orc) (N : Nat) (κ : Kv) (x0 : V) (H : Heap) : Ans :=
  eqS false x0 .nils fun b1 =>
  cond b1 (
  κ .nils H) (
  lenS x0 fun n2 =>
  cond (decide (0 ≤ n2) && decide (n2 ≤ n2) && decide (n2 ≤ 4294967296) && Nat.ble 8 1024 && Nat.blt 0 1) (
  newB H (.row (List.flatten (List.replicate (Int.toNat n2) [(.int .i64 0)]))) fun i3 H4 =>
  cpyV H4 (.sl i3 0 (Int.toNat n2) 1 true) x0 1 fun n5 H6 =>
  κ (.sl i3 0 (Int.toNat n2) 1 true) H6) none)
theorem M188_0_ok {o : Orc} {N : Nat} {κ : Kv} (x0 : V) (H : Heap) :
    run Tryz.prog o N (cAt Tryz.f188 []) .n (env0 Tryz.prog Tryz.f188 κ) (tmk 0 13 [(0, x0)]) H (env0 Tryz.prog Tryz.f188 κ).ret = M188_0 o N κ x0 H := by
  kernel_rfl
def M188 (o : Orc) (N : Nat) : FnM := fun vs H κ => match vs with
  | [x0] => M188_0 o N κ x0 H
  | _ => none
theorem M188_run (o : Orc) (N : Nat) (vs : List V) (H : Heap) (κ : Kv) (r) (h : M188 o N vs H κ = some r) : runFn Tryz.prog o N Tryz.f188 .n vs H κ = some r := by
  unfold M188 at h
  split at h
  · rename_i x0
    refine (runFn_at (t := tmk 0 13 [(0, x0)]) (by kernel_rfl) (by kernel_rfl)).trans (Eq.trans ?_ h)
    exact M188_0_ok x0 H
  · cases h
theorem M188_sound {o : Orc} (ho : ∀ f, FSound Tryz.prog f (o f)) (N : Nat) : FSound Tryz.prog 188 (M188 o N) :=
  FSound.sub (runFn_ok (an := .n) (fuel := N) hmix ho (by kernel_rfl) (by kernel_rfl)) (M188_run o N)
/-! 189 ostinato/matrix.copied[ostinato/api.Message] -/
def M189_0 (o : Orc) (N : Nat) (κ : Kv) (x0 : V) (H : Heap) : Ans :=
  eqS false x0 .nils fun b1 =>
  cond b1 (
  κ .nils H) (
  lenS x0 fun n2 =>
  cond (decide (0 ≤ n2) && decide (n2 ≤ n2) && decide (n2 ≤ 4294967296) && Nat.ble 24 1024 && Nat.blt 0 3) (
  newB H (.row (List.flatten (List.replicate (Int.toNat n2) [(.int .u32 0), (.int .i64 0), (.bool false)]))) fun i3 H4 =>
  cpyV H4 (.sl i3 0 (Int.toNat n2) 3 true) x0 3 fun n5 H6 =>
  κ (.sl i3 0 (Int.toNat n2) 3 true) H6) none)
theorem M189_0_ok {o : Orc} {N : Nat} {κ : Kv} (x0 : V) (H : Heap) :
    run Tryz.prog o N (cAt Tryz.f189 []) .n (env0 Tryz.prog Tryz.f189 κ) (tmk 0 13 [(0, x0)]) H (env0 Tryz.prog Tryz.f189 κ).ret = M189_0 o N κ x0 H := by
  kernel_rfl
def M189 (o : Orc) (N : Nat) : FnM := fun vs H κ => match vs with
  | [x0] => M189_0 o N κ x0 H
  | _ => none
theorem M189_run (o : Orc) (N : Nat) (vs : List V) (H : Heap) (κ : Kv) (r) (h : M189 o N vs H κ = some r) : runFn Tryz.prog o N Tryz.f189 .n vs H κ = some r := by
  unfold M189 at h
  split at h
  · rename_i x0
    refine (runFn_at (t := tmk 0 13 [(0, x0)]) (by kernel_rfl) (by kernel_rfl)).trans (Eq.trans ?_ h)
    exact M189_0_ok x0 H
  · cases h
theorem M189_sound {o : Orc} (ho : ∀ f, FSound Tryz.prog f (o f)) (N : Nat) : FSound Tryz.prog 189 (M189 o N) :=
  FSound.sub (runFn_ok (an := .n) (fuel := N) hmix ho (by kernel_rfl) (by kernel_rfl)) (M189_run o N)
/-! 190 ostinato/matrix.copied[ostinato/api.Window] -/
def M190_0 (o : Orc) (N : Nat) (κ : Kv) (x0 : V) (H : Heap) : Ans :=
  eqS false x0 .nils fun b1 =>
  cond b1 (
  κ .nils H) (
  lenS x0 fun n2 =>
  cond (decide (0 ≤ n2) && decide (n2 ≤ n2) && decide (n2 ≤ 4294967296) && Nat.ble 48 1024 && Nat.blt 0 6) (
  newB H (.row (List.flatten (List.replicate (Int.toNat n2) [(.int .i64 0), (.int .i64 0), (.int .i64 0), (.int .i64 0), (.int .i64 0), (.int .i64 0)]))) fun i3 H4 =>
  cpyV H4 (.sl i3 0 (Int.toNat n2) 6 true) x0 6 fun n5 H6 =>
  κ (.sl i3 0 (Int.toNat n2) 6 true) H6) none)
theorem M190_0_ok {o : Orc} {N : Nat} {κ : Kv} (x0 : V) (H : Heap) :
    run Tryz.prog o N (cAt Tryz.f190 []) .n (env0 Tryz.prog Tryz.f190 κ) (tmk 0 13 [(0, x0)]) H (env0 Tryz.prog Tryz.f190 κ).ret = M190_0 o N κ x0 H := by
  kernel_rfl
def M190 (o : Orc) (N : Nat) : FnM := fun vs H κ => match vs with
  | [x0] => M190_0 o N κ x0 H
  | _ => none
theorem M190_run (o : Orc) (N : Nat) (vs : List V) (H : Heap) (κ : Kv) (r) (h : M190 o N vs H κ = some r) : runFn Tryz.prog o N Tryz.f190 .n vs H κ = some r := by
  unfold M190 at h
  split at h
  · rename_i x0
    refine (runFn_at (t := tmk 0 13 [(0, x0)]) (by kernel_rfl) (by kernel_rfl)).trans (Eq.trans ?_ h)
    exact M190_0_ok x0 H
  · cases h
theorem M190_sound {o : Orc} (ho : ∀ f, FSound Tryz.prog f (o f)) (N : Nat) : FSound Tryz.prog 190 (M190 o N) :=
  FSound.sub (runFn_ok (an := .n) (fuel := N) hmix ho (by kernel_rfl) (by kernel_rfl)) (M190_run o N)
/-! 191 ostinato/plan.window -/
def A191_0 : An := (.s .n none (.s (.d [0, 1, 2, 3, 4, 5, 6, 7, 8, 9, 10, 11, 12, 13, 14, 15]) none (.s (.b none (.s .n none (.c .n (.s .n none (.c (.d [0, 1, 2, 3, 4, 5, 6, 7, 8]) (.d [0, 1, 2, 3, 4, 5, 6, 7, 8])))))) none .n)))
def M191_1 (o : Orc) (N : Nat) (κ : Kv) (x0 : List V) (x1 : Int) (x2 : List V) (H : Heap) : Ans :=
  cond (List.all x0 V.one) (
  newB H (.row x0) fun i1 H2 =>
  cond (List.all x2 V.one) (
  newB H2 (.row x2) fun i3 H4 =>
  newB H4 (.row [(.int .i64 0), (.int .i64 0), (.int .i64 0), (.int .i64 0), (.int .i64 0), (.int .i64 0)]) fun i5 H6 =>
  (ldI (Heap.skip H6 16) .i64 i3 1).bind fun n7 =>
  (ldI (Heap.skip H6 16) .i64 i3 3).bind fun n8 =>
  (ldI (Heap.skip H6 16) .i64 i3 4).bind fun n9 =>
  (ldI (Heap.skip H6 16) .i64 i3 5).bind fun n10 =>
  (ldI (Heap.skip H6 16) .i64 i3 2).bind fun n11 =>
  ldFlat (Heap.skip H6 16) i1 [.int .i64, .int .i64, .int .i64, .int .i64, .int .i64, .int .i64, .int .i64, .int .u32, .oth, .oth, .oth] 0 fun l12 =>
  o 107 [(.agg l12)] (Heap.skip H6 16) fun v13 H14 =>
  asI .i64 v13 fun n15 =>
  (ldI H14 .i64 i3 2).bind fun n16 =>
  cond (decide (n11 = n16)) (
  (ldI H14 .i64 i3 5).bind fun n17 =>
  cond (decide (n10 = n17)) (
  (ldI H14 .i64 i3 4).bind fun n18 =>
  cond (decide (n9 = n18)) (
  (ldI H14 .i64 i3 3).bind fun n19 =>
  cond (decide (n8 = n19)) (
  (ldI H14 .i64 i3 1).bind fun n20 =>
  cond (decide (n7 = n20)) (
  (stN (Heap.newAt H14 (H6.next + 14) (.row [(.int .i64 0), (.int .i64 0), (.int .i64 0), (.int .i64 0), (.int .i64 0), (.int .i64 0)])) (H6.next + 14) 0 [(.int .i64 2), (.int .i64 n7), (.int .i64 n8), (.int .i64 n9), (.int .i64 n10), (.int .i64 (IntKind.i64.wrap (n11 - n15)))]).bind fun H21 =>
  (ldI H21 .i64 i3 0).bind fun n22 =>
  cond (n22 == 2) (
  ldFlat H21 (H6.next + 14) [.int .i64, .int .i64, .int .i64, .int .i64, .int .i64, .int .i64] 0 fun l23 =>
  cond (Nat.beq (List.length l23) 6 && Nat.blt 0 6) (
  (stN H21 i5 0 l23).bind fun H24 =>
  ldFlat H24 i5 [.int .i64, .int .i64, .int .i64, .int .i64, .int .i64, .int .i64] 0 fun l25 =>
  κ (.agg l25) H24) none) (
  (ldV H21 i1 9).bind fun v26 =>
  (ldI H21 .i64 i3 5).bind fun n27 =>
  idxS 3 v26 n27 fun p28 o29 =>
  (ldI H21 .i64 p28 (o29 + 1)).bind fun n30 =>
  cond (n30 == x1) (
  (ldI (Heap.skip H21 9) .i64 i3 1).bind fun n31 =>
  (ldI (Heap.skip H21 9) .i64 i1 4).bind fun n32 =>
  (stN (Heap.skip H21 9) (H6.next + 14) 0 [(.int .i64 1)]).bind fun H33 =>
  (ldI H33 .i64 i1 4).bind fun n34 =>
  cond (decide (n32 = n34)) (
  (ldI H33 .i64 i3 1).bind fun n35 =>
  cond (decide (n31 = n35)) (
  (stN H33 (H6.next + 14) 5 [(.int .i64 (IntKind.i64.wrap (n31 + n32)))]).bind fun H36 =>
  ldFlat H36 (H6.next + 14) [.int .i64, .int .i64, .int .i64, .int .i64, .int .i64, .int .i64] 0 fun l37 =>
  cond (Nat.beq (List.length l37) 6 && Nat.blt 0 6) (
  (stN H36 i5 0 l37).bind fun H38 =>
  ldFlat H38 i5 [.int .i64, .int .i64, .int .i64, .int .i64, .int .i64, .int .i64] 0 fun l39 =>
  κ (.agg l39) H38) none) none) none) (
  (ldI (Heap.skip H21 9) .i64 i3 2).bind fun n40 =>
  (stN (Heap.skip H21 9) (H6.next + 14) 0 [(.int .i64 3)]).bind fun H41 =>
  (ldI H41 .i64 i3 2).bind fun n42 =>
  cond (decide (n40 = n42)) (
  (stN H41 (H6.next + 14) 1 [(.int .i64 (IntKind.i64.wrap (n40 - 1)))]).bind fun H43 =>
  (stN H43 (H6.next + 14) 5 [(.int .i64 0)]).bind fun H44 =>
  ldFlat H44 (H6.next + 14) [.int .i64, .int .i64, .int .i64, .int .i64, .int .i64, .int .i64] 0 fun l45 =>
  cond (Nat.beq (List.length l45) 6 && Nat.blt 0 6) (
  (stN H44 i5 0 l45).bind fun H46 =>
  ldFlat H46 i5 [.int .i64, .int .i64, .int .i64, .int .i64, .int .i64, .int .i64] 0 fun l47 =>
  κ (.agg l47) H46) none) none))) none) none) none) none) none) none) none
theorem M191_1_ok {o : Orc} {N : Nat} {κ : Kv} (x0 : List V) (x1 : Int) (x2 : List V) (H : Heap) :
    run Tryz.prog o N (cAt Tryz.f191 []) A191_0 (env0 Tryz.prog Tryz.f191 κ) (tmk 0 50 [(0, .agg x0), (1, .int .i64 x1), (2, .agg x2)]) H (env0 Tryz.prog Tryz.f191 κ).ret = M191_1 o N κ x0 x1 x2 H := by
  kernel_rfl
def M191 (o : Orc) (N : Nat) : FnM := fun vs H κ => match vs with
  | [.agg x0, .int .i64 x1, .agg x2] => M191_1 o N κ x0 x1 x2 H
  | _ => none
theorem M191_run (o : Orc) (N : Nat) (vs : List V) (H : Heap) (κ : Kv) (r) (h : M191 o N vs H κ = some r) : runFn Tryz.prog o N Tryz.f191 A191_0 vs H κ = some r := by
  unfold M191 at h
  split at h
  · rename_i x0 x1 x2
    refine (runFn_at (t := tmk 0 50 [(0, .agg x0), (1, .int .i64 x1), (2, .agg x2)]) (by kernel_rfl) (by kernel_rfl)).trans (Eq.trans ?_ h)
    exact M191_1_ok x0 x1 x2 H
  · cases h
theorem M191_sound {o : Orc} (ho : ∀ f, FSound Tryz.prog f (o f)) (N : Nat) : FSound Tryz.prog 191 (M191 o N) :=
  FSound.sub (runFn_ok (an := A191_0) (fuel := N) hmix ho (by kernel_rfl) (by kernel_rfl)) (M191_run o N)
/-! 192 ostinato/plan.Plan$1 -/
def M192_0 (o : Orc) (N : Nat) (κ : Kv) (x0 x1 x2 : Int) (x3 : V) (H : Heap) : Ans :=
  asP x3 fun p1 o2 =>
  (ldV H p1 o2).bind fun v3 =>
  newB H (.row [(.int .i64 x0), (.int .i64 x1), (.int .i64 0), (.int .i64 1), (.int .i64 x2), (.int .i64 0)]) fun i4 H5 =>
  appV H5 v3 (.sl i4 0 1 6 true) 6 fun v6 H7 =>
  asP x3 fun p8 o9 =>
  cond (Nat.beq (List.length (V.cells v6)) 1 && Nat.blt 0 1) (
  (stN H7 p8 o9 (V.cells v6)).bind fun H10 =>
  κ (.tup []) H10) none
theorem M192_0_ok {o : Orc} {N : Nat} {κ : Kv} (x0 x1 x2 : Int) (x3 : V) (H : Heap) :
    run Tryz.prog o N (cAt Tryz.f192 []) .n (env0 Tryz.prog Tryz.f192 κ) (tmk 0 14 [(0, .int .i64 x0), (1, .int .i64 x1), (2, .int .i64 x2), (3, x3)]) H (env0 Tryz.prog Tryz.f192 κ).ret = M192_0 o N κ x0 x1 x2 x3 H := by
  kernel_rfl
def M192 (o : Orc) (N : Nat) : FnM := fun vs H κ => match vs with
  | [.int .i64 x0, .int .i64 x1, .int .i64 x2, x3] => M192_0 o N κ x0 x1 x2 x3 H
  | _ => none
theorem M192_run (o : Orc) (N : Nat) (vs : List V) (H : Heap) (κ : Kv) (r) (h : M192 o N vs H κ = some r) : runFn Tryz.prog o N Tryz.f192 .n vs H κ = some r := by
  unfold M192 at h
  split at h
  · rename_i x0 x1 x2 x3
    refine (runFn_at (t := tmk 0 14 [(0, .int .i64 x0), (1, .int .i64 x1), (2, .int .i64 x2), (3, x3)]) (by kernel_rfl) (by kernel_rfl)).trans (Eq.trans ?_ h)
    exact M192_0_ok x0 x1 x2 x3 H
  · cases h
theorem M192_sound {o : Orc} (ho : ∀ f, FSound Tryz.prog f (o f)) (N : Nat) : FSound Tryz.prog 192 (M192 o N) :=
  FSound.sub (runFn_ok (an := .n) (fuel := N) hmix ho (by kernel_rfl) (by kernel_rfl)) (M192_run o N)
/-! 193 ostinato/plan.Beat -/
def A193_0 : An := (.s .n none (.s .n none (.s (.d [0, 1, 2, 3, 4, 5, 6, 7, 8]) none .n)))
def M193_1 (o : Orc) (N : Nat) (κ : Kv) (x0 : List V) (x1 : Int) (H : Heap) : Ans :=
  cond (List.all x0 V.one) (
  newB H (.row x0) fun i1 H2 =>
  ldFlat H2 i1 [.int .i64, .int .i64, .int .i64, .int .i64, .int .i64, .int .i64, .int .i64, .int .u32, .oth, .oth, .oth] 0 fun l3 =>
  o 106 [(.agg l3)] H2 fun v4 H5 =>
  asB v4 fun b6 =>
  cond (!b6) (
  κ (.int .i64 0) H5) (
  cond (decide (x1 < 0)) (
  (ldI H5 .i64 i1 3).bind fun n7 =>
  κ (.int .i64 n7) H5) (
  cond (decide (x1 > 99)) (
  (ldI H5 .i64 i1 3).bind fun n8 =>
  κ (.int .i64 n8) H5) (
  (ldI (Heap.skip H5 9) .i64 i1 3).bind fun n9 =>
  ldFlat (Heap.skip H5 9) i1 [.int .i64, .int .i64, .int .i64, .int .i64, .int .i64, .int .i64, .int .i64, .int .u32, .oth, .oth, .oth] 0 fun l10 =>
  o 107 [(.agg l10)] (Heap.skip H5 9) fun v11 H12 =>
  asI .i64 v11 fun n13 =>
  (ldI H12 .i64 i1 3).bind fun n14 =>
  cond (decide (n9 = n14)) (
  κ (.int .i64 (IntKind.i64.wrap (n9 + (IntKind.i64.wrap ((IntKind.i64.wrap (x1 + 1)) * n13))))) H12) none)))) none
theorem M193_1_ok {o : Orc} {N : Nat} {κ : Kv} (x0 : List V) (x1 : Int) (H : Heap) :
    run Tryz.prog o N (cAt Tryz.f193 []) A193_0 (env0 Tryz.prog Tryz.f193 κ) (tmk 0 26 [(0, .agg x0), (1, .int .i64 x1)]) H (env0 Tryz.prog Tryz.f193 κ).ret = M193_1 o N κ x0 x1 H := by
  kernel_rfl
def M193 (o : Orc) (N : Nat) : FnM := fun vs H κ => match vs with
  | [.agg x0, .int .i64 x1] => M193_1 o N κ x0 x1 H
  | _ => none
theorem M193_run (o : Orc) (N : Nat) (vs : List V) (H : Heap) (κ : Kv) (r) (h : M193 o N vs H κ = some r) : runFn Tryz.prog o N Tryz.f193 A193_0 vs H κ = some r := by
  unfold M193 at h
  split at h
  · rename_i x0 x1
    refine (runFn_at (t := tmk 0 26 [(0, .agg x0), (1, .int .i64 x1)]) (by kernel_rfl) (by kernel_rfl)).trans (Eq.trans ?_ h)
    exact M193_1_ok x0 x1 H
  · cases h
theorem M193_sound {o : Orc} (ho : ∀ f, FSound Tryz.prog f (o f)) (N : Nat) : FSound Tryz.prog 193 (M193 o N) :=
  FSound.sub (runFn_ok (an := A193_0) (fuel := N) hmix ho (by kernel_rfl) (by kernel_rfl)) (M193_run o N)
/-! 194 ostinato/plan.Watch -/
def A194_0 : An := (.s .n none (.s .n none (.s (.d [0, 1, 2, 3, 4, 5, 6, 7, 8, 9, 10]) none .n)))
def M194_1 (o : Orc) (N : Nat) (κ : Kv) (x0 : List V) (H : Heap) : Ans :=
  cond (List.all x0 V.one) (
  newB H (.row x0) fun i1 H2 =>
  ldFlat H2 i1 [.int .i64, .int .i64, .int .i64, .int .i64, .int .i64, .int .i64, .int .i64, .int .u32, .oth, .oth, .oth] 0 fun l3 =>
  o 106 [(.agg l3)] H2 fun v4 H5 =>
  asB v4 fun b6 =>
  cond (!b6) (
  κ (.int .i64 0) H5) (
  (ldI (Heap.skip H5 11) .i64 i1 3).bind fun n7 =>
  (ldV (Heap.skip H5 11) i1 8).bind fun v8 =>
  lenS v8 fun n9 =>
  ldFlat (Heap.skip H5 11) i1 [.int .i64, .int .i64, .int .i64, .int .i64, .int .i64, .int .i64, .int .i64, .int .u32, .oth, .oth, .oth] 0 fun l10 =>
  o 107 [(.agg l10)] (Heap.skip H5 11) fun v11 H12 =>
  asI .i64 v11 fun n13 =>
  (ldV H12 i1 8).bind fun v14 =>
  cond (V.same v8 v14) (
  (ldI H12 .i64 i1 3).bind fun n15 =>
  cond (decide (n7 = n15)) (
  κ (.int .i64 (IntKind.i64.wrap (n7 + (IntKind.i64.wrap ((IntKind.i64.wrap (n9 + 2)) * n13))))) H12) none) none)) none
theorem M194_1_ok {o : Orc} {N : Nat} {κ : Kv} (x0 : List V) (H : Heap) :
    run Tryz.prog o N (cAt Tryz.f194 []) A194_0 (env0 Tryz.prog Tryz.f194 κ) (tmk 0 16 [(0, .agg x0)]) H (env0 Tryz.prog Tryz.f194 κ).ret = M194_1 o N κ x0 H := by
  kernel_rfl
def M194 (o : Orc) (N : Nat) : FnM := fun vs H κ => match vs with
  | [.agg x0] => M194_1 o N κ x0 H
  | _ => none
theorem M194_run (o : Orc) (N : Nat) (vs : List V) (H : Heap) (κ : Kv) (r) (h : M194 o N vs H κ = some r) : runFn Tryz.prog o N Tryz.f194 A194_0 vs H κ = some r := by
  unfold M194 at h
  split at h
  · rename_i x0
    refine (runFn_at (t := tmk 0 16 [(0, .agg x0)]) (by kernel_rfl) (by kernel_rfl)).trans (Eq.trans ?_ h)
    exact M194_1_ok x0 H
  · cases h
theorem M194_sound {o : Orc} (ho : ∀ f, FSound Tryz.prog f (o f)) (N : Nat) : FSound Tryz.prog 194 (M194 o N) :=
  FSound.sub (runFn_ok (an := A194_0) (fuel := N) hmix ho (by kernel_rfl) (by kernel_rfl)) (M194_run o N)
/-! 195 slices.SortStableFunc[[]ostinato/api.Trigger,ostinato/api.Trigger] -/
def M195_0 (o : Orc) (N : Nat) (κ : Kv) (x0 x1 : V) (H : Heap) : Ans :=
  lenS x0 fun n1 =>
  o 225 [x0, (.int .i64 n1), x1] H fun v2 H3 =>
  asT0 v2 (
  κ (.tup []) H3)
theorem M195_0_ok {o : Orc} {N : Nat} {κ : Kv} (x0 x1 : V) (H : Heap) :
    run Tryz.prog o N (cAt Tryz.f195 []) .n (env0 Tryz.prog Tryz.f195 κ) (tmk 0 9 [(0, x0), (1, x1)]) H (env0 Tryz.prog Tryz.f195 κ).ret = M195_0 o N κ x0 x1 H := by
  kernel_rfl
def M195 (o : Orc) (N : Nat) : FnM := fun vs H κ => match vs with
  | [x0, x1] => M195_0 o N κ x0 x1 H
  | _ => none
theorem M195_run (o : Orc) (N : Nat) (vs : List V) (H : Heap) (κ : Kv) (r) (h : M195 o N vs H κ = some r) : runFn Tryz.prog o N Tryz.f195 .n vs H κ = some r := by
  unfold M195 at h
  split at h
  · rename_i x0 x1
    refine (runFn_at (t := tmk 0 9 [(0, x0), (1, x1)]) (by kernel_rfl) (by kernel_rfl)).trans (Eq.trans ?_ h)
    exact M195_0_ok x0 x1 H
  · cases h
theorem M195_sound {o : Orc} (ho : ∀ f, FSound Tryz.prog f (o f)) (N : Nat) : FSound Tryz.prog 195 (M195 o N) :=
  FSound.sub (runFn_ok (an := .n) (fuel := N) hmix ho (by kernel_rfl) (by kernel_rfl)) (M195_run o N)
/-! 196 ostinato/plan.Plan$2 -/
def M196_0 (o : Orc) (N : Nat) (κ : Kv) (x0 x1 : List V) (H : Heap) : Ans :=
  cond (List.all x0 V.one) (
  newB H (.row x0) fun i1 H2 =>
  cond (List.all x1 V.one) (
  newB H2 (.row x1) fun i3 H4 =>
  (ldI H4 .i64 i1 1).bind fun n5 =>
  (ldI H4 .i64 i3 1).bind fun n6 =>
  o 197 [(.int .i64 n5), (.int .i64 n6)] H4 fun v7 H8 =>
  asI .i64 v7 fun n9 =>
  κ (.int .i64 n9) H8) none) none
theorem M196_0_ok {o : Orc} {N : Nat} {κ : Kv} (x0 x1 : List V) (H : Heap) :
    run Tryz.prog o N (cAt Tryz.f196 []) .n (env0 Tryz.prog Tryz.f196 κ) (tmk 0 10 [(0, .agg x0), (1, .agg x1)]) H (env0 Tryz.prog Tryz.f196 κ).ret = M196_0 o N κ x0 x1 H := by
  kernel_rfl
def M196 (o : Orc) (N : Nat) : FnM := fun vs H κ => match vs with
  | [.agg x0, .agg x1] => M196_0 o N κ x0 x1 H
  | _ => none
theorem M196_run (o : Orc) (N : Nat) (vs : List V) (H : Heap) (κ : Kv) (r) (h : M196 o N vs H κ = some r) : runFn Tryz.prog o N Tryz.f196 .n vs H κ = some r := by
  unfold M196 at h
  split at h
  · rename_i x0 x1
    refine (runFn_at (t := tmk 0 10 [(0, .agg x0), (1, .agg x1)]) (by kernel_rfl) (by kernel_rfl)).trans (Eq.trans ?_ h)
    exact M196_0_ok x0 x1 H
  · cases h
theorem M196_sound {o : Orc} (ho : ∀ f, FSound Tryz.prog f (o f)) (N : Nat) : FSound Tryz.prog 196 (M196 o N) :=
  FSound.sub (runFn_ok (an := .n) (fuel := N) hmix ho (by kernel_rfl) (by kernel_rfl)) (M196_run o N)
/-! 197 cmp.Compare[int] -/
def M197_0 (o : Orc) (N : Nat) (κ : Kv) (x0 x1 : Int) (H : Heap) : Ans :=
  o 226 [(.int .i64 x0)] H fun v1 H2 =>
  asB v1 fun b3 =>
  o 226 [(.int .i64 x1)] H2 fun v4 H5 =>
  asB v4 fun b6 =>
  cond b3 (
  cond b6 (
  κ (.int .i64 0) H5) (
  κ (.int .i64 (-1)) H5)) (
  cond b6 (
  κ (.int .i64 1) H5) (
  cond (decide (x0 < x1)) (
  κ (.int .i64 (-1)) H5) (
  cond (decide (x0 > x1)) (
  κ (.int .i64 1) H5) (
  κ (.int .i64 0) H5))))
theorem M197_0_ok {o : Orc} {N : Nat} {κ : Kv} (x0 x1 : Int) (H : Heap) :
    run Tryz.prog o N (cAt Tryz.f197 []) .n (env0 Tryz.prog Tryz.f197 κ) (tmk 0 20 [(0, .int .i64 x0), (1, .int .i64 x1)]) H (env0 Tryz.prog Tryz.f197 κ).ret = M197_0 o N κ x0 x1 H := by
  kernel_rfl
def M197 (o : Orc) (N : Nat) : FnM := fun vs H κ => match vs with
  | [.int .i64 x0, .int .i64 x1] => M197_0 o N κ x0 x1 H
  | _ => none
theorem M197_run (o : Orc) (N : Nat) (vs : List V) (H : Heap) (κ : Kv) (r) (h : M197 o N vs H κ = some r) : runFn Tryz.prog o N Tryz.f197 .n vs H κ = some r := by
  unfold M197 at h
  split at h
  · rename_i x0 x1
    refine (runFn_at (t := tmk 0 20 [(0, .int .i64 x0), (1, .int .i64 x1)]) (by kernel_rfl) (by kernel_rfl)).trans (Eq.trans ?_ h)
    exact M197_0_ok x0 x1 H
  · cases h
theorem M197_sound {o : Orc} (ho : ∀ f, FSound Tryz.prog f (o f)) (N : Nat) : FSound Tryz.prog 197 (M197 o N) :=
  FSound.sub (runFn_ok (an := .n) (fuel := N) hmix ho (by kernel_rfl) (by kernel_rfl)) (M197_run o N)
/-! 198 ostinato/matrix.Comes -/
def M198_0 (o : Orc) (N : Nat) (κ : Kv) (x0 x1 x2 : Int) (H : Heap) : Ans :=
  cond (decide (x1 > 0)) (
  cond (decide (x0 ≥ 0)) (
  cond (decide (x2 ≥ x0)) (
  cond (decide (x1 = 0)) none (
  κ (.bool ((Int.tmod (IntKind.i64.wrap (x2 - x0)) x1) == 0)) H)) (
  κ (.bool false) H)) (
  κ (.bool false) H)) (
  κ (.bool false) H)
theorem M198_0_ok {o : Orc} {N : Nat} {κ : Kv} (x0 x1 x2 : Int) (H : Heap) :
    run Tryz.prog o N (cAt Tryz.f198 []) .n (env0 Tryz.prog Tryz.f198 κ) (tmk 0 26 [(0, .int .i64 x0), (1, .int .i64 x1), (2, .int .i64 x2)]) H (env0 Tryz.prog Tryz.f198 κ).ret = M198_0 o N κ x0 x1 x2 H := by
  kernel_rfl
def M198 (o : Orc) (N : Nat) : FnM := fun vs H κ => match vs with
  | [.int .i64 x0, .int .i64 x1, .int .i64 x2] => M198_0 o N κ x0 x1 x2 H
  | _ => none
theorem M198_run (o : Orc) (N : Nat) (vs : List V) (H : Heap) (κ : Kv) (r) (h : M198 o N vs H κ = some r) : runFn Tryz.prog o N Tryz.f198 .n vs H κ = some r := by
  unfold M198 at h
  split at h
  · rename_i x0 x1 x2
    refine (runFn_at (t := tmk 0 26 [(0, .int .i64 x0), (1, .int .i64 x1), (2, .int .i64 x2)]) (by kernel_rfl) (by kernel_rfl)).trans (Eq.trans ?_ h)
    exact M198_0_ok x0 x1 x2 H
  · cases h
theorem M198_sound {o : Orc} (ho : ∀ f, FSound Tryz.prog f (o f)) (N : Nat) : FSound Tryz.prog 198 (M198 o N) :=
  FSound.sub (runFn_ok (an := .n) (fuel := N) hmix ho (by kernel_rfl) (by kernel_rfl)) (M198_run o N)
/-! 199 ostinato/level.of -/
def M199_0 (o : Orc) (N : Nat) (κ : Kv) (x0 : Int) (H : Heap) : Ans :=
  newB H (.row [(.bool false), (.bool false)]) fun i1 H2 =>
  o 227 [] H2 fun v3 H4 =>
  asA v3 fun l5 =>
  newB H4 (.row [(.bool false), (.bool false), (.bool false), (.bool false), (.bool false), (.bool false), (.bool false), (.bool false)]) fun i6 H7 =>
  cond (Nat.beq (List.length l5) 8 && Nat.blt 0 8) (
  (stN H7 i6 0 l5).bind fun H8 =>
  cond (decide (x0 ≥ 0)) (
  cond (decide (x0 < 4)) (
  cond (decide (0 ≤ x0) && decide (x0 < (4 : Nat)) && Nat.blt 0 2) (
  ldFlat H8 i6 [.bool, .bool] (0 + Int.toNat x0 * 2) fun l9 =>
  cond (Nat.beq (List.length l9) 2 && Nat.blt 0 2) (
  (stN H8 i1 0 l9).bind fun H10 =>
  ldFlat H10 i1 [.bool, .bool] 0 fun l11 =>
  κ (.agg l11) H10) none) none) (
  (stN H8 i1 0 [(.bool false), (.bool false)]).bind fun H12 =>
  ldFlat H12 i1 [.bool, .bool] 0 fun l13 =>
  κ (.agg l13) H12)) (
  (stN H8 i1 0 [(.bool false), (.bool false)]).bind fun H14 =>
  ldFlat H14 i1 [.bool, .bool] 0 fun l15 =>
  κ (.agg l15) H14)) none
theorem M199_0_ok {o : Orc} {N : Nat} {κ : Kv} (x0 : Int) (H : Heap) :
    run Tryz.prog o N (cAt Tryz.f199 []) .n (env0 Tryz.prog Tryz.f199 κ) (tmk 0 15 [(0, .int .i64 x0)]) H (env0 Tryz.prog Tryz.f199 κ).ret = M199_0 o N κ x0 H := by
  kernel_rfl
def M199 (o : Orc) (N : Nat) : FnM := fun vs H κ => match vs with
  | [.int .i64 x0] => M199_0 o N κ x0 H
  | _ => none
theorem M199_run (o : Orc) (N : Nat) (vs : List V) (H : Heap) (κ : Kv) (r) (h : M199 o N vs H κ = some r) : runFn Tryz.prog o N Tryz.f199 .n vs H κ = some r := by
  unfold M199 at h
  split at h
  · rename_i x0
    refine (runFn_at (t := tmk 0 15 [(0, .int .i64 x0)]) (by kernel_rfl) (by kernel_rfl)).trans (Eq.trans ?_ h)
    exact M199_0_ok x0 H
  · cases h
theorem M199_sound {o : Orc} (ho : ∀ f, FSound Tryz.prog f (o f)) (N : Nat) : FSound Tryz.prog 199 (M199 o N) :=
  FSound.sub (runFn_ok (an := .n) (fuel := N) hmix ho (by kernel_rfl) (by kernel_rfl)) (M199_run o N)
/-! 200 ostinato/matrix.Frame -/
def M200_0 (o : Orc) (N : Nat) (κ : Kv) (x0 : List V) (x1 : Int) (x2 : List Nat) (H : Heap) : Ans :=
  cond (List.all x0 V.one) (
  newB H (.row x0) fun i1 H2 =>
  newB H2 (.row [(.bool false), (.int .u32 0), (.bool false), (.str [])]) fun i3 H4 =>
  cond (decide (x1 < 0)) (
  (stN H4 i3 0 [(.bool false), (.int .u32 0), (.bool false), (.str [])]).bind fun H5 =>
  ldFlat H5 i3 [.bool, .int .u32, .bool, .str] 0 fun l6 =>
  κ (.tup [(.agg l6), (.bool false)]) H5) (
  (ldV H4 i1 9).bind fun v7 =>
  lenS v7 fun n8 =>
  cond (decide (x1 ≥ n8)) (
  (stN H4 i3 0 [(.bool false), (.int .u32 0), (.bool false), (.str [])]).bind fun H9 =>
  ldFlat H9 i3 [.bool, .int .u32, .bool, .str] 0 fun l10 =>
  κ (.tup [(.agg l10), (.bool false)]) H9) (
  cond (decide (((List.length x2 : Nat) : Int) > 8)) (
  (stN H4 i3 0 [(.bool false), (.int .u32 0), (.bool false), (.str [])]).bind fun H11 =>
  ldFlat H11 i3 [.bool, .int .u32, .bool, .str] 0 fun l12 =>
  κ (.tup [(.agg l12), (.bool false)]) H11) (
  (ldV H4 i1 9).bind fun v13 =>
  idxS 3 v13 x1 fun p14 o15 =>
  (ldI H4 .u32 p14 (o15 + 0)).bind fun n16 =>
  (stN H4 i3 0 [(.bool false), (.int .u32 n16), (.bool false), (.str x2)]).bind fun H17 =>
  ldFlat H17 i3 [.bool, .int .u32, .bool, .str] 0 fun l18 =>
  κ (.tup [(.agg l18), (.bool true)]) H17)))) none
theorem M200_0_ok {o : Orc} {N : Nat} {κ : Kv} (x0 : List V) (x1 : Int) (x2 : List Nat) (H : Heap) :
    run Tryz.prog o N (cAt Tryz.f200 []) .n (env0 Tryz.prog Tryz.f200 κ) (tmk 0 31 [(0, .agg x0), (1, .int .i64 x1), (2, .str x2)]) H (env0 Tryz.prog Tryz.f200 κ).ret = M200_0 o N κ x0 x1 x2 H := by
  kernel_rfl
def M200 (o : Orc) (N : Nat) : FnM := fun vs H κ => match vs with
  | [.agg x0, .int .i64 x1, .str x2] => M200_0 o N κ x0 x1 x2 H
  | _ => none
theorem M200_run (o : Orc) (N : Nat) (vs : List V) (H : Heap) (κ : Kv) (r) (h : M200 o N vs H κ = some r) : runFn Tryz.prog o N Tryz.f200 .n vs H κ = some r := by
  unfold M200 at h
  split at h
  · rename_i x0 x1 x2
    refine (runFn_at (t := tmk 0 31 [(0, .agg x0), (1, .int .i64 x1), (2, .str x2)]) (by kernel_rfl) (by kernel_rfl)).trans (Eq.trans ?_ h)
    exact M200_0_ok x0 x1 x2 H
  · cases h
theorem M200_sound {o : Orc} (ho : ∀ f, FSound Tryz.prog f (o f)) (N : Nat) : FSound Tryz.prog 200 (M200 o N) :=
  FSound.sub (runFn_ok (an := .n) (fuel := N) hmix ho (by kernel_rfl) (by kernel_rfl)) (M200_run o N)
/-! 201 (*ostinato/mac.Mac).Ask -/
def A201_0 : An := (.s .n none (.s .n none (.s (.d [0, 1, 2, 3, 4, 5, 6, 7, 8]) none .n)))
def M201_1 (o : Orc) (N : Nat) (κ : Kv) (x0 : V) (x1 : List V) (H : Heap) : Ans :=
  cond (List.all x1 V.one) (
  newB H (.row x1) fun i1 H2 =>
  asP x0 fun p3 o4 =>
  (ldI H2 .i64 p3 (o4 + 0)).bind fun n5 =>
  cond (n5 == 7) (
  κ (.int .i64 73) H2) (
  ldFlat H2 i1 [.bool, .int .u32, .bool, .str] 0 fun l6 =>
  o 228 [(.agg l6)] H2 fun v7 H8 =>
  asB v7 fun b9 =>
  cond (!b9) (
  κ (.int .i64 12) H8) (
  asP x0 fun p10 o11 =>
  (ldB H8 p10 (o11 + 4)).bind fun b12 =>
  cond b12 (
  κ (.int .i64 72) H8) (
  ldFlat (Heap.skip H8 9) i1 [.bool, .int .u32, .bool, .str] 0 fun l13 =>
  asP x0 fun p14 o15 =>
  (stN (Heap.skip H8 9) p14 (o15 + 4) [(.bool true)]).bind fun H16 =>
  ldFlat H16 i1 [.bool, .int .u32, .bool, .str] 0 fun l17 =>
  cond (sameL l13 l17) (
  asP x0 fun p18 o19 =>
  cond (Nat.beq (List.length l13) 4 && Nat.blt 0 4) (
  (stN H16 p18 (o19 + 5) l13).bind fun H20 =>
  κ (.int .i64 0) H20) none) none)))) none
theorem M201_1_ok {o : Orc} {N : Nat} {κ : Kv} (x0 : V) (x1 : List V) (H : Heap) :
    run Tryz.prog o N (cAt Tryz.f201 []) A201_0 (env0 Tryz.prog Tryz.f201 κ) (tmk 0 27 [(0, x0), (1, .agg x1)]) H (env0 Tryz.prog Tryz.f201 κ).ret = M201_1 o N κ x0 x1 H := by
  kernel_rfl
def M201 (o : Orc) (N : Nat) : FnM := fun vs H κ => match vs with
  | [x0, .agg x1] => M201_1 o N κ x0 x1 H
  | _ => none
theorem M201_run (o : Orc) (N : Nat) (vs : List V) (H : Heap) (κ : Kv) (r) (h : M201 o N vs H κ = some r) : runFn Tryz.prog o N Tryz.f201 A201_0 vs H κ = some r := by
  unfold M201 at h
  split at h
  · rename_i x0 x1
    refine (runFn_at (t := tmk 0 27 [(0, x0), (1, .agg x1)]) (by kernel_rfl) (by kernel_rfl)).trans (Eq.trans ?_ h)
    exact M201_1_ok x0 x1 H
  · cases h
theorem M201_sound {o : Orc} (ho : ∀ f, FSound Tryz.prog f (o f)) (N : Nat) : FSound Tryz.prog 201 (M201 o N) :=
  FSound.sub (runFn_ok (an := A201_0) (fuel := N) hmix ho (by kernel_rfl) (by kernel_rfl)) (M201_run o N)
/-! 202 (*ostinato/status.Table).change -/
def A202_0 : An := (.s .n none (.c (.d [0, 1, 2, 3, 4, 5, 6, 7, 8, 9, 10, 11, 12, 13, 14, 15, 16, 17]) .n))
def M202_1 (o : Orc) (N : Nat) (κ : Kv) (x0 : V) (x1 x2 : Int) (H : Heap) : Ans :=
  cond (decide (x1 ≥ 0)) (
  asP x0 fun p1 o2 =>
  (ldV H p1 (o2 + 0)).bind fun v3 =>
  lenS v3 fun n4 =>
  cond (decide (x1 < n4)) (
  asP x0 fun p5 o6 =>
  (ldV (Heap.skip H 18) p5 (o6 + 0)).bind fun v7 =>
  asP x0 fun p8 o9 =>
  (ldV (Heap.skip H 18) p8 (o9 + 0)).bind fun v10 =>
  idxS 1 v10 x1 fun p11 o12 =>
  (ldI (Heap.skip H 18) .i64 p11 o12).bind fun n13 =>
  idxS 1 v7 x1 fun p14 o15 =>
  (stN (Heap.skip H 18) p14 o15 [(.int .i64 (if 7 < (if 0 > (IntKind.i64.wrap (n13 + x2)) then 0 else (IntKind.i64.wrap (n13 + x2))) then 7 else (if 0 > (IntKind.i64.wrap (n13 + x2)) then 0 else (IntKind.i64.wrap (n13 + x2)))))]).bind fun H16 =>
  κ (.tup []) H16) (
  κ (.tup []) H)) (
  κ (.tup []) H)
theorem M202_1_ok {o : Orc} {N : Nat} {κ : Kv} (x0 : V) (x1 x2 : Int) (H : Heap) :
    run Tryz.prog o N (cAt Tryz.f202 []) A202_0 (env0 Tryz.prog Tryz.f202 κ) (tmk 0 34 [(0, x0), (1, .int .i64 x1), (2, .int .i64 x2)]) H (env0 Tryz.prog Tryz.f202 κ).ret = M202_1 o N κ x0 x1 x2 H := by
  kernel_rfl
def M202 (o : Orc) (N : Nat) : FnM := fun vs H κ => match vs with
  | [x0, .int .i64 x1, .int .i64 x2] => M202_1 o N κ x0 x1 x2 H
  | _ => none
theorem M202_run (o : Orc) (N : Nat) (vs : List V) (H : Heap) (κ : Kv) (r) (h : M202 o N vs H κ = some r) : runFn Tryz.prog o N Tryz.f202 A202_0 vs H κ = some r := by
  unfold M202 at h
  split at h
  · rename_i x0 x1 x2
    refine (runFn_at (t := tmk 0 34 [(0, x0), (1, .int .i64 x1), (2, .int .i64 x2)]) (by kernel_rfl) (by kernel_rfl)).trans (Eq.trans ?_ h)
    exact M202_1_ok x0 x1 x2 H
  · cases h
theorem M202_sound {o : Orc} (ho : ∀ f, FSound Tryz.prog f (o f)) (N : Nat) : FSound Tryz.prog 202 (M202 o N) :=
  FSound.sub (runFn_ok (an := A202_0) (fuel := N) hmix ho (by kernel_rfl) (by kernel_rfl)) (M202_run o N)
/-! 203 (*ostinato/queue.Queue).Head -/
def M203_0 (o : Orc) (N : Nat) (κ : Kv) (x0 : V) (H : Heap) : Ans :=
  newB H (.row [(.int .i64 0), (.str [])]) fun i1 H2 =>
  o 229 [x0] H2 fun v3 H4 =>
  lenS v3 fun n5 =>
  cond (n5 == 0) (
  (stN H4 i1 0 [(.int .i64 0), (.str [])]).bind fun H6 =>
  ldFlat H6 i1 [.int .i64, .str] 0 fun l7 =>
  κ (.tup [(.agg l7), (.bool false)]) H6) (
  idxS 2 v3 0 fun p8 o9 =>
  ldFlat H4 p8 [.int .i64, .str] o9 fun l10 =>
  cond (Nat.beq (List.length l10) 2 && Nat.blt 0 2) (
  (stN H4 i1 0 l10).bind fun H11 =>
  ldFlat H11 i1 [.int .i64, .str] 0 fun l12 =>
  κ (.tup [(.agg l12), (.bool true)]) H11) none)
theorem M203_0_ok {o : Orc} {N : Nat} {κ : Kv} (x0 : V) (H : Heap) :
    run Tryz.prog o N (cAt Tryz.f203 []) .n (env0 Tryz.prog Tryz.f203 κ) (tmk 0 14 [(0, x0)]) H (env0 Tryz.prog Tryz.f203 κ).ret = M203_0 o N κ x0 H := by
  kernel_rfl
def M203 (o : Orc) (N : Nat) : FnM := fun vs H κ => match vs with
  | [x0] => M203_0 o N κ x0 H
  | _ => none
theorem M203_run (o : Orc) (N : Nat) (vs : List V) (H : Heap) (κ : Kv) (r) (h : M203 o N vs H κ = some r) : runFn Tryz.prog o N Tryz.f203 .n vs H κ = some r := by
  unfold M203 at h
  split at h
  · rename_i x0
    refine (runFn_at (t := tmk 0 14 [(0, x0)]) (by kernel_rfl) (by kernel_rfl)).trans (Eq.trans ?_ h)
    exact M203_0_ok x0 H
  · cases h
theorem M203_sound {o : Orc} (ho : ∀ f, FSound Tryz.prog f (o f)) (N : Nat) : FSound Tryz.prog 203 (M203 o N) :=
  FSound.sub (runFn_ok (an := .n) (fuel := N) hmix ho (by kernel_rfl) (by kernel_rfl)) (M203_run o N)
/-! 204 (*ostinato/master.Master).Watch -/
def A204_0 : An := (.s .n none (.s (.d [0, 1, 2, 3, 4, 5]) none .n))
def M204_1 (o : Orc) (N : Nat) (κ : Kv) (x0 : V) (H : Heap) : Ans :=
  o 114 [] H fun v1 H2 =>
  asA v1 fun l3 =>
  newB H2 (.row [(.int .i64 0), (.int .i64 0)]) fun i4 H5 =>
  cond (Nat.beq (List.length l3) 2 && Nat.blt 0 2) (
  (stN H5 i4 0 l3).bind fun H6 =>
  asP x0 fun p7 o8 =>
  ldFlat (Heap.skip H6 6) p7 [.int .i64, .int .i64] (o8 + 1) fun l9 =>
  ldFlat (Heap.skip H6 6) i4 [.int .i64, .int .i64] 0 fun l10 =>
  (eqFlat [.int .i64, .int .i64] l9 l10).bind fun b11 =>
  cond (!b11) (
  ldFlat (Heap.skip H6 6) i4 [.int .i64, .int .i64] 0 fun l12 =>
  asP x0 fun p13 o14 =>
  cond (Nat.beq (List.length l12) 2 && Nat.blt 0 2) (
  (stN (Heap.skip H6 6) p13 (o14 + 1) l12).bind fun H15 =>
  κ (.tup []) H15) none) (
  κ (.tup []) (Heap.skip H6 6))) none
theorem M204_1_ok {o : Orc} {N : Nat} {κ : Kv} (x0 : V) (H : Heap) :
    run Tryz.prog o N (cAt Tryz.f204 []) A204_0 (env0 Tryz.prog Tryz.f204 κ) (tmk 0 14 [(0, x0)]) H (env0 Tryz.prog Tryz.f204 κ).ret = M204_1 o N κ x0 H := by
  kernel_rfl
def M204 (o : Orc) (N : Nat) : FnM := fun vs H κ => match vs with
  | [x0] => M204_1 o N κ x0 H
  | _ => none
theorem M204_run (o : Orc) (N : Nat) (vs : List V) (H : Heap) (κ : Kv) (r) (h : M204 o N vs H κ = some r) : runFn Tryz.prog o N Tryz.f204 A204_0 vs H κ = some r := by
  unfold M204 at h
  split at h
  · rename_i x0
    refine (runFn_at (t := tmk 0 14 [(0, x0)]) (by kernel_rfl) (by kernel_rfl)).trans (Eq.trans ?_ h)
    exact M204_1_ok x0 H
  · cases h
theorem M204_sound {o : Orc} (ho : ∀ f, FSound Tryz.prog f (o f)) (N : Nat) : FSound Tryz.prog 204 (M204 o N) :=
  FSound.sub (runFn_ok (an := A204_0) (fuel := N) hmix ho (by kernel_rfl) (by kernel_rfl)) (M204_run o N)
/-! 205 (*ostinato/mark.Mark).Forget -/
def M205_0 (o : Orc) (N : Nat) (κ : Kv) (x0 : V) (H : Heap) : Ans :=
  asP x0 fun p1 o2 =>
  (stN H p1 o2 [(.int .u16 0), (.int .i64 0), (.int .u16 0), (.int .i64 0), (.int .i64 0)]).bind fun H3 =>
  κ (.tup []) H3
theorem M205_0_ok {o : Orc} {N : Nat} {κ : Kv} (x0 : V) (H : Heap) :
    run Tryz.prog o N (cAt Tryz.f205 []) .n (env0 Tryz.prog Tryz.f205 κ) (tmk 0 5 [(0, x0)]) H (env0 Tryz.prog Tryz.f205 κ).ret = M205_0 o N κ x0 H := by
  kernel_rfl
def M205 (o : Orc) (N : Nat) : FnM := fun vs H κ => match vs with
  | [x0] => M205_0 o N κ x0 H
  | _ => none
theorem M205_run (o : Orc) (N : Nat) (vs : List V) (H : Heap) (κ : Kv) (r) (h : M205 o N vs H κ = some r) : runFn Tryz.prog o N Tryz.f205 .n vs H κ = some r := by
  unfold M205 at h
  split at h
  · rename_i x0
    refine (runFn_at (t := tmk 0 5 [(0, x0)]) (by kernel_rfl) (by kernel_rfl)).trans (Eq.trans ?_ h)
    exact M205_0_ok x0 H
  · cases h
theorem M205_sound {o : Orc} (ho : ∀ f, FSound Tryz.prog f (o f)) (N : Nat) : FSound Tryz.prog 205 (M205 o N) :=
  FSound.sub (runFn_ok (an := .n) (fuel := N) hmix ho (by kernel_rfl) (by kernel_rfl)) (M205_run o N)
/-! 206 (*ostinato/global.Global).Forget -/
def M206_0 (o : Orc) (N : Nat) (κ : Kv) (x0 : V) (H : Heap) : Ans :=
  asP x0 fun p1 o2 =>
  (stN H p1 o2 [(.int .i64 0), (.int .u16 0), (.int .u16 0), (.int .i64 0), (.int .u16 0), (.int .u16 0), (.int .i64 0)]).bind fun H3 =>
  κ (.tup []) H3
theorem M206_0_ok {o : Orc} {N : Nat} {κ : Kv} (x0 : V) (H : Heap) :
    run Tryz.prog o N (cAt Tryz.f206 []) .n (env0 Tryz.prog Tryz.f206 κ) (tmk 0 5 [(0, x0)]) H (env0 Tryz.prog Tryz.f206 κ).ret = M206_0 o N κ x0 H := by
  kernel_rfl
def M206 (o : Orc) (N : Nat) : FnM := fun vs H κ => match vs with
  | [x0] => M206_0 o N κ x0 H
  | _ => none
theorem M206_run (o : Orc) (N : Nat) (vs : List V) (H : Heap) (κ : Kv) (r) (h : M206 o N vs H κ = some r) : runFn Tryz.prog o N Tryz.f206 .n vs H κ = some r := by
  unfold M206 at h
  split at h
  · rename_i x0
    refine (runFn_at (t := tmk 0 5 [(0, x0)]) (by kernel_rfl) (by kernel_rfl)).trans (Eq.trans ?_ h)
    exact M206_0_ok x0 H
  · cases h
theorem M206_sound {o : Orc} (ho : ∀ f, FSound Tryz.prog f (o f)) (N : Nat) : FSound Tryz.prog 206 (M206 o N) :=
  FSound.sub (runFn_ok (an := .n) (fuel := N) hmix ho (by kernel_rfl) (by kernel_rfl)) (M206_run o N)
/-! 207 (*ostinato/mac.Mac).done -/
def M207_0 (o : Orc) (N : Nat) (κ : Kv) (x0 : V) (H : Heap) : Ans :=
  asP x0 fun p1 o2 =>
  (stN H p1 (o2 + 4) [(.bool false)]).bind fun H3 =>
  asP x0 fun p4 o5 =>
  (stN H3 p4 (o5 + 5) [(.bool false), (.int .u32 0), (.bool false), (.str [])]).bind fun H6 =>
  asP x0 fun p7 o8 =>
  (stN H6 p7 (o8 + 9) [(.bool false), (.str []), (.int .i64 0), (.int .i64 0)]).bind fun H9 =>
  κ (.tup []) H9
theorem M207_0_ok {o : Orc} {N : Nat} {κ : Kv} (x0 : V) (H : Heap) :
    run Tryz.prog o N (cAt Tryz.f207 []) .n (env0 Tryz.prog Tryz.f207 κ) (tmk 0 13 [(0, x0)]) H (env0 Tryz.prog Tryz.f207 κ).ret = M207_0 o N κ x0 H := by
  kernel_rfl
def M207 (o : Orc) (N : Nat) : FnM := fun vs H κ => match vs with
  | [x0] => M207_0 o N κ x0 H
  | _ => none
theorem M207_run (o : Orc) (N : Nat) (vs : List V) (H : Heap) (κ : Kv) (r) (h : M207 o N vs H κ = some r) : runFn Tryz.prog o N Tryz.f207 .n vs H κ = some r := by
  unfold M207 at h
  split at h
  · rename_i x0
    refine (runFn_at (t := tmk 0 13 [(0, x0)]) (by kernel_rfl) (by kernel_rfl)).trans (Eq.trans ?_ h)
    exact M207_0_ok x0 H
  · cases h
theorem M207_sound {o : Orc} (ho : ∀ f, FSound Tryz.prog f (o f)) (N : Nat) : FSound Tryz.prog 207 (M207 o N) :=
  FSound.sub (runFn_ok (an := .n) (fuel := N) hmix ho (by kernel_rfl) (by kernel_rfl)) (M207_run o N)
/-! 208 (*ostinato/code.Reader).inBits -/
def A208_0 : An := (.s .n none (.s (.d [0, 1, 2, 3, 4, 5, 6, 7, 8, 9, 10, 11, 12, 13, 14, 15, 16, 17]) none .n))
def M208_1 (o : Orc) (N : Nat) (κ : Kv) (x0 : V) (H : Heap) : Ans :=
  asP x0 fun p1 o2 =>
  (ldI (Heap.skip H 18) .i64 p1 (o2 + 131)).bind fun n3 =>
  cond (n3 == 0) (
  κ (.bool true) (Heap.skip H 18)) (
  asP x0 fun p4 o5 =>
  (ldI (Heap.skip H 18) .i64 p4 (o5 + 130)).bind fun n6 =>
  asP x0 fun p7 o8 =>
  (ldI (Heap.skip H 18) .i64 p7 (o8 + 131)).bind fun n9 =>
  κ (.bool (decide (n6 < (IntKind.i64.wrap (n9 + 15))))) (Heap.skip H 18))
theorem M208_1_ok {o : Orc} {N : Nat} {κ : Kv} (x0 : V) (H : Heap) :
    run Tryz.prog o N (cAt Tryz.f208 []) A208_0 (env0 Tryz.prog Tryz.f208 κ) (tmk 0 20 [(0, x0)]) H (env0 Tryz.prog Tryz.f208 κ).ret = M208_1 o N κ x0 H := by
  kernel_rfl
def M208 (o : Orc) (N : Nat) : FnM := fun vs H κ => match vs with
  | [x0] => M208_1 o N κ x0 H
  | _ => none
theorem M208_run (o : Orc) (N : Nat) (vs : List V) (H : Heap) (κ : Kv) (r) (h : M208 o N vs H κ = some r) : runFn Tryz.prog o N Tryz.f208 A208_0 vs H κ = some r := by
  unfold M208 at h
  split at h
  · rename_i x0
    refine (runFn_at (t := tmk 0 20 [(0, x0)]) (by kernel_rfl) (by kernel_rfl)).trans (Eq.trans ?_ h)
    exact M208_1_ok x0 H
  · cases h
theorem M208_sound {o : Orc} (ho : ∀ f, FSound Tryz.prog f (o f)) (N : Nat) : FSound Tryz.prog 208 (M208 o N) :=
  FSound.sub (runFn_ok (an := A208_0) (fuel := N) hmix ho (by kernel_rfl) (by kernel_rfl)) (M208_run o N)
/-! 209 (*ostinato/code.Reader).Push -/
def M209_0 (o : Orc) (N : Nat) (J : V → Int → Heap → Ans) (κ : Kv) (x0 : V) (x1 : Int) (H : Heap) : Ans :=
  J x0 x1 H
theorem M209_0_ok {o : Orc} {N : Nat} {κ : Kv} {J : Kt} {J' : V → Int → Heap → Ans} (hJ : ∀ x0 x1 H, J (tmk 0 57 [(0, x0), (1, .int .u8 x1)]) H = J' x0 x1 H) (x0 : V) (x1 : Int) (H : Heap) :
    run Tryz.prog o N (cAt Tryz.f209 [0]) .n (env0 Tryz.prog Tryz.f209 κ) (tmk 0 57 [(0, x0), (1, .int .u8 x1)]) H (kj [0, 1] J) = M209_0 o N J' κ x0 x1 H := by
  obtain rfl := fx3 hJ
  kernel_rfl
def M209_1 (o : Orc) (N : Nat) (J : V → Int → Bool → Heap → Ans) (κ : Kv) (x0 : V) (x1 : Int) (H : Heap) : Ans :=
  asP x0 fun p1 o2 =>
  o 230 [(.ptr p1 (o2 + 0))] H fun v3 H4 =>
  asB v3 fun b5 =>
  J x0 x1 b5 H4
theorem M209_1_ok {o : Orc} {N : Nat} {κ : Kv} {J : Kt} {J' : V → Int → Bool → Heap → Ans} (hJ : ∀ x0 x1 x5 H, J (tmk 0 57 [(0, x0), (1, .int .u8 x1), (5, .bool x5)]) H = J' x0 x1 x5 H) (x0 : V) (x1 : Int) (H : Heap) :
    run Tryz.prog o N (cAt Tryz.f209 [1, 0]) .n (env0 Tryz.prog Tryz.f209 κ) (tmk 0 57 [(0, x0), (1, .int .u8 x1)]) H (kj [0, 1, 5] J) = M209_1 o N J' κ x0 x1 H := by
  obtain rfl := fx4 hJ
  kernel_rfl
def M209_2 (o : Orc) (N : Nat) (J : V → Int → Bool → Bool → Heap → Ans) (κ : Kv) (x0 : V) (x1 : Int) (x5 : Bool) (H : Heap) : Ans :=
  o 208 [x0] H fun v6 H7 =>
  asB v6 fun b8 =>
  cond b8 (
  J x0 x1 x5 true H7) (
  cond x5 (
  asP x0 fun p9 o10 =>
  (ldB H7 p9 (o10 + 134)).bind fun b11 =>
  cond (!b11) (
  asP x0 fun p12 o13 =>
  (ldI H7 .i64 p12 (o13 + 133)).bind fun n14 =>
  J x0 x1 x5 (n14 == 0) H7) (
  J x0 x1 x5 false H7)) (
  J x0 x1 x5 false H7))
theorem M209_2_ok {o : Orc} {N : Nat} {κ : Kv} {X0 J : Kt} {J' : V → Int → Bool → Bool → Heap → Ans} (hJ : ∀ x0 x1 x5 x10 H, J (tmk 0 57 [(0, x0), (1, .int .u8 x1), (5, .bool x5), (10, .bool x10)]) H = J' x0 x1 x5 x10 H) (x0 : V) (x1 : Int) (x5 : Bool) (H : Heap) :
    run Tryz.prog o N (cAt Tryz.f209 [1, 1, 0, 4, 0]) .n ((env0 Tryz.prog Tryz.f209 κ).block 0 (kj [0, 1] X0)) (tmk 0 57 [(0, x0), (1, .int .u8 x1), (5, .bool x5)]) H (kj [0, 1, 5, 10] J) = M209_2 o N J' κ x0 x1 x5 H := by
  obtain rfl := fx5 hJ
  kernel_rfl
def M209_3 (o : Orc) (N : Nat) (J : V → Int → Heap → Ans) (κ : Kv) (x0 : V) (x1 : Int) (x5 x10 : Bool) (H : Heap) : Ans :=
  cond x10 (
  cond x5 (
  asP x0 fun p15 o16 =>
  o 231 [(.ptr p15 (o16 + 0))] H fun v17 H18 =>
  asI .u8 v17 fun n19 =>
  cond (x1 != n19) (
  κ (.int .i64 20) H18) (
  asP x0 fun p20 o21 =>
  o 232 [(.ptr p20 (o21 + 0)), (.int .u8 x1)] H18 fun v22 H23 =>
  asT0 v22 (
  cond x5 (
  o 208 [x0] H23 fun v24 H25 =>
  asB v24 fun b26 =>
  asP x0 fun p27 o28 =>
  (stN H25 p27 (o28 + 134) [(.bool (!b26))]).bind fun H29 =>
  κ (.int .i64 0) H29) (
  o 233 [x0, (.int .u8 x1)] H23 fun v30 H31 =>
  asI .i64 v30 fun n32 =>
  κ (.int .i64 n32) H31)))) (
  asP x0 fun p33 o34 =>
  o 232 [(.ptr p33 (o34 + 0)), (.int .u8 x1)] H fun v35 H36 =>
  asT0 v35 (
  cond x5 (
  o 208 [x0] H36 fun v37 H38 =>
  asB v37 fun b39 =>
  asP x0 fun p40 o41 =>
  (stN H38 p40 (o41 + 134) [(.bool (!b39))]).bind fun H42 =>
  κ (.int .i64 0) H42) (
  o 233 [x0, (.int .u8 x1)] H36 fun v43 H44 =>
  asI .i64 v43 fun n45 =>
  κ (.int .i64 n45) H44)))) (
  J x0 x1 H)
theorem M209_3_ok {o : Orc} {N : Nat} {κ : Kv} {X0 J : Kt} {J' : V → Int → Heap → Ans} (hJ : ∀ x0 x1 H, J (tmk 0 57 [(0, x0), (1, .int .u8 x1)]) H = J' x0 x1 H) (x0 : V) (x1 : Int) (x5 x10 : Bool) (H : Heap) :
    run Tryz.prog o N (cAt Tryz.f209 [1, 1, 0, 4, 1]) .n ((env0 Tryz.prog Tryz.f209 κ).block 0 (kj [0, 1] X0)) (tmk 0 57 [(0, x0), (1, .int .u8 x1), (5, .bool x5), (10, .bool x10)]) H (kj [0, 1] J) = M209_3 o N J' κ x0 x1 x5 x10 H := by
  obtain rfl := fx3 hJ
  kernel_rfl
def A209_4 : An := .b none (.s .n (some (lvOf [0, 1, 5, 10])) .n)
def M209_5 (o : Orc) (N : Nat) (κ : Kv) (x0 : V) (x1 : Int) (H : Heap) : Ans :=
  o 234 [x0, (.int .u8 x1)] H fun v46 H47 =>
  asI .i64 v46 fun n48 =>
  κ (.int .i64 n48) H47
theorem M209_5_ok {o : Orc} {N : Nat} {κ : Kv} (x0 : V) (x1 : Int) (H : Heap) :
    run Tryz.prog o N (cAt Tryz.f209 [1, 1, 1]) .n (env0 Tryz.prog Tryz.f209 κ) (tmk 0 57 [(0, x0), (1, .int .u8 x1)]) H (env0 Tryz.prog Tryz.f209 κ).ret = M209_5 o N κ x0 x1 H := by
  kernel_rfl
def A209_6 : An := .s .n (some (lvOf [0, 1, 5])) (.s A209_4 (some (lvOf [0, 1])) .n)
def M209 (o : Orc) (N : Nat) : FnM := fun vs H κ => match vs with
  | [x0, .int .u8 x1] => M209_0 o N (fun x0 x1 H => M209_1 o N (fun x0 x1 x5 H => M209_2 o N (fun x0 x1 x5 x10 H => M209_3 o N (fun x0 x1 H => M209_5 o N κ x0 x1 H) κ x0 x1 x5 x10 H) κ x0 x1 x5 H) κ x0 x1 H) κ x0 x1 H
  | _ => none
theorem M209_run (o : Orc) (N : Nat) (vs : List V) (H : Heap) (κ : Kv) (r) (h : M209 o N vs H κ = some r) : runFn Tryz.prog o N Tryz.f209 (.s .n (some (lvOf [0, 1])) A209_6) vs H κ = some r := by
  unfold M209 at h
  split at h
  · rename_i x0 x1
    refine (runFn_at (t := tmk 0 57 [(0, x0), (1, .int .u8 x1)]) (by kernel_rfl) (by kernel_rfl)).trans (Eq.trans ?_ h)
    refine (run_seq (x := (cAt Tryz.f209 [0])) (ax := .n) (y := (cAt Tryz.f209 [1])) (ay := A209_6) (l := [0, 1]) (by kernel_rfl) (by kernel_rfl)).trans ?_
    refine M209_0_ok ?_ x0 x1 H
    intro x0 x1 H
    refine (run_seq (x := (cAt Tryz.f209 [1, 0])) (ax := .n) (y := (cAt Tryz.f209 [1, 1])) (ay := (.s A209_4 (some (lvOf [0, 1])) .n)) (l := [0, 1, 5]) (by kernel_rfl) (by kernel_rfl)).trans ?_
    refine M209_1_ok ?_ x0 x1 H
    intro x0 x1 x5 H
    refine (run_seq (x := (cAt Tryz.f209 [1, 1, 0])) (ax := A209_4) (y := (cAt Tryz.f209 [1, 1, 1])) (ay := .n) (l := [0, 1]) (by kernel_rfl) (by kernel_rfl)).trans ?_
    refine (run_block (id := 0) (x := (cAt Tryz.f209 [1, 1, 0, 4])) (ax := (.s .n (some (lvOf [0, 1, 5, 10])) .n)) (by kernel_rfl) (by kernel_rfl)).trans ?_
    refine (run_seq (x := (cAt Tryz.f209 [1, 1, 0, 4, 0])) (ax := .n) (y := (cAt Tryz.f209 [1, 1, 0, 4, 1])) (ay := .n) (l := [0, 1, 5, 10]) (by kernel_rfl) (by kernel_rfl)).trans ?_
    refine M209_2_ok ?_ x0 x1 x5 H
    intro x0 x1 x5 x10 H
    refine M209_3_ok ?_ x0 x1 x5 x10 H
    intro x0 x1 H
    exact M209_5_ok x0 x1 H
  · cases h
theorem M209_sound {o : Orc} (ho : ∀ f, FSound Tryz.prog f (o f)) (N : Nat) : FSound Tryz.prog 209 (M209 o N) :=
  FSound.sub (runFn_ok (an := (.s .n (some (lvOf [0, 1])) A209_6)) (fuel := N) hmix ho (by kernel_rfl) (by kernel_rfl)) (M209_run o N)
/-! 210 ostinato/code.Encode -/
def M210_0 (o : Orc) (N : Nat) (J : Nat → Heap → Ans) (κ : Kv) (x0 : List V) (H : Heap) : Ans :=
  cond (List.all x0 V.one) (
  newB H (.row x0) fun i1 H2 =>
  J i1 H2) none
theorem M210_0_ok {o : Orc} {N : Nat} {κ : Kv} {J : Kt} {J' : Nat → Heap → Ans} (hJ : ∀ x1 H, J (tmk 0 37 [(1, .ptr x1 0)]) H = J' x1 H) (x0 : List V) (H : Heap) :
    run Tryz.prog o N (cAt Tryz.f210 [0]) .n (env0 Tryz.prog Tryz.f210 κ) (tmk 0 37 [(0, .agg x0)]) H (kj [1] J) = M210_0 o N J' κ x0 H := by
  obtain rfl := fx2 hJ
  kernel_rfl
def M210_1 (o : Orc) (N : Nat) (J : Nat → Heap → Ans) (κ : Kv) (x1 : Nat) (H : Heap) : Ans :=
  ldFlat H x1 [.bool, .int .u32, .bool, .str] 0 fun l3 =>
  o 228 [(.agg l3)] H fun v4 H5 =>
  asB v4 fun b6 =>
  cond (!b6) (
  κ (.str []) H5) (
  J x1 H5)
theorem M210_1_ok {o : Orc} {N : Nat} {κ : Kv} {J : Kt} {J' : Nat → Heap → Ans} (hJ : ∀ x1 H, J (tmk 0 37 [(1, .ptr x1 0)]) H = J' x1 H) (x1 : Nat) (H : Heap) :
    run Tryz.prog o N (cAt Tryz.f210 [1, 0]) .n (env0 Tryz.prog Tryz.f210 κ) (tmk 0 37 [(1, .ptr x1 0)]) H (kj [1] J) = M210_1 o N J' κ x1 H := by
  obtain rfl := fx2 hJ
  kernel_rfl
def M210_2 (o : Orc) (N : Nat) (J : List Nat → Heap → Ans) (κ : Kv) (x1 : Nat) (H : Heap) : Ans :=
  ldFlat H x1 [.bool, .int .u32, .bool, .str] 0 fun l7 =>
  o 235 [(.agg l7)] H fun v8 H9 =>
  asS v8 fun s10 =>
  J s10 H9
theorem M210_2_ok {o : Orc} {N : Nat} {κ : Kv} {J : Kt} {J' : List Nat → Heap → Ans} (hJ : ∀ x3 H, J (tmk 0 37 [(3, .str x3)]) H = J' x3 H) (x1 : Nat) (H : Heap) :
    run Tryz.prog o N (cAt Tryz.f210 [1, 1, 0]) .n (env0 Tryz.prog Tryz.f210 κ) (tmk 0 37 [(1, .ptr x1 0)]) H (kj [3] J) = M210_2 o N J' κ x1 H := by
  obtain rfl := fx2 hJ
  kernel_rfl
def M210_3 (o : Orc) (N : Nat) (J : List Nat → Heap → Ans) (κ : Kv) (x3 : List Nat) (H : Heap) : Ans :=
  o 237 [(.str x3)] H fun v11 H12 =>
  asI .u16 v11 fun n13 =>
  o 236 [(.int .u64 (IntKind.u64.wrap n13)), (.int .i64 15)] H12 fun v14 H15 =>
  asS v14 fun s16 =>
  cond (Nat.ble (List.length x3 + List.length s16) big) (
  o 211 [(.str (x3 ++ s16))] H15 fun v17 H18 =>
  asS v17 fun s19 =>
  J s19 H18) none
theorem M210_3_ok {o : Orc} {N : Nat} {κ : Kv} {J : Kt} {J' : List Nat → Heap → Ans} (hJ : ∀ x4 H, J (tmk 0 37 [(4, .str x4)]) H = J' x4 H) (x3 : List Nat) (H : Heap) :
    run Tryz.prog o N (cAt Tryz.f210 [1, 1, 1, 0]) .n (env0 Tryz.prog Tryz.f210 κ) (tmk 0 37 [(3, .str x3)]) H (kj [4] J) = M210_3 o N J' κ x3 H := by
  obtain rfl := fx2 hJ
  kernel_rfl
def M210_4 (o : Orc) (N : Nat) (J : List Nat → V → Heap → Ans) (κ : Kv) (x4 : List Nat) (H : Heap) : Ans :=
  cond (decide (0 ≤ (IntKind.i64.wrap (((List.length x4 : Nat) : Int) + 10))) && decide ((IntKind.i64.wrap (((List.length x4 : Nat) : Int) + 10)) ≤ (IntKind.i64.wrap (((List.length x4 : Nat) : Int) + 10))) && decide ((IntKind.i64.wrap (((List.length x4 : Nat) : Int) + 10)) ≤ 4294967296) && Nat.ble 1 1024 && Nat.blt 0 1) (
  newB H (.row (List.flatten (List.replicate (Int.toNat (IntKind.i64.wrap (((List.length x4 : Nat) : Int) + 10))) [(.int .u8 0)]))) fun i20 H21 =>
  J x4 (.sl i20 0 (Int.toNat (IntKind.i64.wrap (((List.length x4 : Nat) : Int) + 10))) 1 true) H21) none
theorem M210_4_ok {o : Orc} {N : Nat} {κ : Kv} {J : Kt} {J' : List Nat → V → Heap → Ans} (hJ : ∀ x4 x5 H, J (tmk 0 37 [(4, .str x4), (5, x5)]) H = J' x4 x5 H) (x4 : List Nat) (H : Heap) :
    run Tryz.prog o N (cAt Tryz.f210 [1, 1, 1, 1, 0]) .n (env0 Tryz.prog Tryz.f210 κ) (tmk 0 37 [(4, .str x4)]) H (kj [4, 5] J) = M210_4 o N J' κ x4 H := by
  obtain rfl := fx3 hJ
  kernel_rfl
def M210_5 (o : Orc) (N : Nat) (J : V → Int → Heap → Ans) (κ : Kv) (x4 : List Nat) (x5 : V) (H : Heap) : Ans :=
  cpyV H x5 (.str x4) 1 fun n22 H23 =>
  J x5 n22 H23
theorem M210_5_ok {o : Orc} {N : Nat} {κ : Kv} {J : Kt} {J' : V → Int → Heap → Ans} (hJ : ∀ x5 x6 H, J (tmk 0 37 [(5, x5), (6, .int .i64 x6)]) H = J' x5 x6 H) (x4 : List Nat) (x5 : V) (H : Heap) :
    run Tryz.prog o N (cAt Tryz.f210 [1, 1, 1, 1, 1, 0, 0]) .n (env0 Tryz.prog Tryz.f210 κ) (tmk 0 37 [(4, .str x4), (5, x5)]) H (kj [5, 6] J) = M210_5 o N J' κ x4 x5 H := by
  obtain rfl := fx3 hJ
  kernel_rfl
def M210_6 (o : Orc) (N : Nat) (X0 : V → Heap → Ans) (J : V → Int → Heap → Ans) (κ : Kv) (x5 : V) (x6 : Int) (H : Heap) : Ans :=
  lenS x5 fun n24 =>
  cond (decide (x6 < n24)) (
  idxS 1 x5 x6 fun p25 o26 =>
  (stN H p25 o26 [(.int .u8 49)]).bind fun H27 =>
  J x5 (IntKind.i64.wrap (x6 + 1)) H27) (
  X0 x5 H)
theorem M210_6_ok {o : Orc} {N : Nat} {κ : Kv} {X0 J : Kt} {X0' : V → Heap → Ans} {J' : V → Int → Heap → Ans} (h0 : ∀ x5 H, X0 (tmk 0 37 [(5, x5)]) H = X0' x5 H) (hJ : ∀ x5 x6 H, J (tmk 0 37 [(5, x5), (6, .int .i64 x6)]) H = J' x5 x6 H) (x5 : V) (x6 : Int) (H : Heap) :
    run Tryz.prog o N (cAt Tryz.f210 [1, 1, 1, 1, 1, 0, 1, 4, 4]) .n ((env0 Tryz.prog Tryz.f210 κ).block 0 (kj [5] X0)) (tmk 0 37 [(5, x5), (6, .int .i64 x6)]) H (kj [5, 6] J) = M210_6 o N X0' J' κ x5 x6 H := by
  obtain rfl := fx2 h0
  obtain rfl := fx3 hJ
  kernel_rfl
def M210_7 (o : Orc) (N : Nat) (X0 : V → Heap → Ans) (κ : Kv) (n : Nat) : V → Int → Heap → Ans :=
  Nat.rec (motive := fun _ => V → Int → Heap → Ans) (fun _ _ _ => none) (fun _ ih x5 x6 H => M210_6 o N X0 ih κ x5 x6 H) n
theorem M210_7_s (o : Orc) (N : Nat) (X0 : V → Heap → Ans) (κ : Kv) (n : Nat) (x5 : V) (x6 : Int) (H : Heap) : M210_7 o N X0 κ (n + 1) x5 x6 H = M210_6 o N X0 (M210_7 o N X0 κ n) κ x5 x6 H := rfl
theorem M210_7_ok {o : Orc} {N : Nat} {κ : Kv} {X0 : Kt} {X0' : V → Heap → Ans} (h0 : ∀ x5 H, X0 (tmk 0 37 [(5, x5)]) H = X0' x5 H) (n : Nat) : ∀ (x5 : V) (x6 : Int) (H : Heap),
    rounds (fun a H k => run Tryz.prog o N (cAt Tryz.f210 [1, 1, 1, 1, 1, 0, 1, 4, 4]) .n ((env0 Tryz.prog Tryz.f210 κ).block 0 (kj [5] X0)) a H k) (some (lvOf [5, 6])) n (tmk 0 37 [(5, x5), (6, .int .i64 x6)]) H = M210_7 o N X0' κ n x5 x6 H := by
  induction n with
  | zero => intros; rfl
  | succ n ih =>
    intro x5 x6 H
    refine (run_round.trans ?_).trans (M210_7_s ..).symm
    exact M210_6_ok h0 ih x5 x6 H
def A210_8 : An := .s .n (some (lvOf [5, 6])) (.b none (.l (some (lvOf [5, 6])) .n))
def M210_9 (o : Orc) (N : Nat) (κ : Kv) (x5 : V) (H : Heap) : Ans :=
  bytesV H x5 fun s28 =>
  κ (.str s28) H
theorem M210_9_ok {o : Orc} {N : Nat} {κ : Kv} (x5 : V) (H : Heap) :
    run Tryz.prog o N (cAt Tryz.f210 [1, 1, 1, 1, 1, 1]) .n (env0 Tryz.prog Tryz.f210 κ) (tmk 0 37 [(5, x5)]) H (env0 Tryz.prog Tryz.f210 κ).ret = M210_9 o N κ x5 H := by
  kernel_rfl
def A210_10 : An := .s .n (some (lvOf [4, 5])) (.s A210_8 (some (lvOf [5])) .n)
def A210_11 : An := .s .n (some (lvOf [3])) (.s .n (some (lvOf [4])) A210_10)
def A210_12 : An := .s .n (some (lvOf [1])) (.s .n (some (lvOf [1])) A210_11)
def M210 (o : Orc) (N : Nat) : FnM := fun vs H κ => match vs with
  | [.agg x0] => M210_0 o N (fun x1 H => M210_1 o N (fun x1 H => M210_2 o N (fun x3 H => M210_3 o N (fun x4 H => M210_4 o N (fun x4 x5 H => M210_5 o N (fun x5 x6 H => M210_7 o N (fun x5 H => M210_9 o N κ x5 H) κ N x5 x6 H) κ x4 x5 H) κ x4 H) κ x3 H) κ x1 H) κ x1 H) κ x0 H
  | _ => none
theorem M210_run (o : Orc) (N : Nat) (vs : List V) (H : Heap) (κ : Kv) (r) (h : M210 o N vs H κ = some r) : runFn Tryz.prog o N Tryz.f210 A210_12 vs H κ = some r := by
  unfold M210 at h
  split at h
  · rename_i x0
    refine (runFn_at (t := tmk 0 37 [(0, .agg x0)]) (by kernel_rfl) (by kernel_rfl)).trans (Eq.trans ?_ h)
    refine (run_seq (x := (cAt Tryz.f210 [0])) (ax := .n) (y := (cAt Tryz.f210 [1])) (ay := (.s .n (some (lvOf [1])) A210_11)) (l := [1]) (by kernel_rfl) (by kernel_rfl)).trans ?_
    refine M210_0_ok ?_ x0 H
    intro x1 H
    refine (run_seq (x := (cAt Tryz.f210 [1, 0])) (ax := .n) (y := (cAt Tryz.f210 [1, 1])) (ay := A210_11) (l := [1]) (by kernel_rfl) (by kernel_rfl)).trans ?_
    refine M210_1_ok ?_ x1 H
    intro x1 H
    refine (run_seq (x := (cAt Tryz.f210 [1, 1, 0])) (ax := .n) (y := (cAt Tryz.f210 [1, 1, 1])) (ay := (.s .n (some (lvOf [4])) A210_10)) (l := [3]) (by kernel_rfl) (by kernel_rfl)).trans ?_
    refine M210_2_ok ?_ x1 H
    intro x3 H
    refine (run_seq (x := (cAt Tryz.f210 [1, 1, 1, 0])) (ax := .n) (y := (cAt Tryz.f210 [1, 1, 1, 1])) (ay := A210_10) (l := [4]) (by kernel_rfl) (by kernel_rfl)).trans ?_
    refine M210_3_ok ?_ x3 H
    intro x4 H
    refine (run_seq (x := (cAt Tryz.f210 [1, 1, 1, 1, 0])) (ax := .n) (y := (cAt Tryz.f210 [1, 1, 1, 1, 1])) (ay := (.s A210_8 (some (lvOf [5])) .n)) (l := [4, 5]) (by kernel_rfl) (by kernel_rfl)).trans ?_
    refine M210_4_ok ?_ x4 H
    intro x4 x5 H
    refine (run_seq (x := (cAt Tryz.f210 [1, 1, 1, 1, 1, 0])) (ax := A210_8) (y := (cAt Tryz.f210 [1, 1, 1, 1, 1, 1])) (ay := .n) (l := [5]) (by kernel_rfl) (by kernel_rfl)).trans ?_
    refine (run_seq (x := (cAt Tryz.f210 [1, 1, 1, 1, 1, 0, 0])) (ax := .n) (y := (cAt Tryz.f210 [1, 1, 1, 1, 1, 0, 1])) (ay := (.b none (.l (some (lvOf [5, 6])) .n))) (l := [5, 6]) (by kernel_rfl) (by kernel_rfl)).trans ?_
    refine M210_5_ok ?_ x4 x5 H
    intro x5 x6 H
    refine (run_block (id := 0) (x := (cAt Tryz.f210 [1, 1, 1, 1, 1, 0, 1, 4])) (ax := (.l (some (lvOf [5, 6])) .n)) (by kernel_rfl) (by kernel_rfl)).trans ?_
    refine (run_loop (x := (cAt Tryz.f210 [1, 1, 1, 1, 1, 0, 1, 4, 4])) (ax := .n) (l := [5, 6]) (by kernel_rfl) (by kernel_rfl) (by kernel_rfl)).trans ?_
    refine M210_7_ok ?_ N x5 x6 H
    intro x5 H
    exact M210_9_ok x5 H
  · cases h
theorem M210_sound {o : Orc} (ho : ∀ f, FSound Tryz.prog f (o f)) (N : Nat) : FSound Tryz.prog 210 (M210 o N) :=
  FSound.sub (runFn_ok (an := A210_12) (fuel := N) hmix ho (by kernel_rfl) (by kernel_rfl)) (M210_run o N)
/-! 211 ostinato/stuff.Stuff -/
def M211_0 (o : Orc) (N : Nat) (J : List Nat → Heap → Ans) (κ : Kv) (x0 : List Nat) (H : Heap) : Ans :=
  J x0 H
theorem M211_0_ok {o : Orc} {N : Nat} {κ : Kv} {J : Kt} {J' : List Nat → Heap → Ans} (hJ : ∀ x0 H, J (tmk 0 35 [(0, .str x0)]) H = J' x0 H) (x0 : List Nat) (H : Heap) :
    run Tryz.prog o N (cAt Tryz.f211 [0]) .n (env0 Tryz.prog Tryz.f211 κ) (tmk 0 35 [(0, .str x0)]) H (kj [0] J) = M211_0 o N J' κ x0 H := by
  obtain rfl := fx2 hJ
  kernel_rfl
def M211_1 (o : Orc) (N : Nat) (J : List Nat → V → Heap → Ans) (κ : Kv) (x0 : List Nat) (H : Heap) : Ans :=
  o 238 [(.int .i64 ((List.length x0 : Nat) : Int))] H fun v1 H2 =>
  asI .i64 v1 fun n3 =>
  cond (decide (0 ≤ 0) && decide (0 ≤ n3) && decide (n3 ≤ 4294967296) && Nat.ble 1 1024 && Nat.blt 0 1) (
  newB H2 (.row (List.flatten (List.replicate (Int.toNat 0) [(.int .u8 0)]))) fun i4 H5 =>
  J x0 (.sl i4 0 (Int.toNat 0) 1 true) H5) none
theorem M211_1_ok {o : Orc} {N : Nat} {κ : Kv} {J : Kt} {J' : List Nat → V → Heap → Ans} (hJ : ∀ x0 x3 H, J (tmk 0 35 [(0, .str x0), (3, x3)]) H = J' x0 x3 H) (x0 : List Nat) (H : Heap) :
    run Tryz.prog o N (cAt Tryz.f211 [1, 0]) .n (env0 Tryz.prog Tryz.f211 κ) (tmk 0 35 [(0, .str x0)]) H (kj [0, 3] J) = M211_1 o N J' κ x0 H := by
  obtain rfl := fx3 hJ
  kernel_rfl
def M211_2 (o : Orc) (N : Nat) (J : List Nat → V → Nat → Heap → Ans) (κ : Kv) (x0 : List Nat) (x3 : V) (H : Heap) : Ans :=
  newB H (.row [(.int .u8 0), (.int .i64 0)]) fun i6 H7 =>
  J x0 x3 i6 H7
theorem M211_2_ok {o : Orc} {N : Nat} {κ : Kv} {J : Kt} {J' : List Nat → V → Nat → Heap → Ans} (hJ : ∀ x0 x3 x4 H, J (tmk 0 35 [(0, .str x0), (3, x3), (4, .ptr x4 0)]) H = J' x0 x3 x4 H) (x0 : List Nat) (x3 : V) (H : Heap) :
    run Tryz.prog o N (cAt Tryz.f211 [1, 1, 0]) .n (env0 Tryz.prog Tryz.f211 κ) (tmk 0 35 [(0, .str x0), (3, x3)]) H (kj [0, 3, 4] J) = M211_2 o N J' κ x0 x3 H := by
  obtain rfl := fx4 hJ
  kernel_rfl
def M211_3 (o : Orc) (N : Nat) (J : List Nat → V → Nat → Int → Int → Heap → Ans) (κ : Kv) (x0 : List Nat) (x3 : V) (x4 : Nat) (H : Heap) : Ans :=
  J x0 x3 x4 ((List.length x0 : Nat) : Int) 0 H
theorem M211_3_ok {o : Orc} {N : Nat} {κ : Kv} {J : Kt} {J' : List Nat → V → Nat → Int → Int → Heap → Ans} (hJ : ∀ x0 x3 x4 x12 x13 H, J (tmk 0 35 [(0, .str x0), (3, x3), (4, .ptr x4 0), (12, .int .i64 x12), (13, .int .i64 x13)]) H = J' x0 x3 x4 x12 x13 H) (x0 : List Nat) (x3 : V) (x4 : Nat) (H : Heap) :
    run Tryz.prog o N (cAt Tryz.f211 [1, 1, 1, 0, 0]) .n (env0 Tryz.prog Tryz.f211 κ) (tmk 0 35 [(0, .str x0), (3, x3), (4, .ptr x4 0)]) H (kj [0, 3, 4, 12, 13] J) = M211_3 o N J' κ x0 x3 x4 H := by
  obtain rfl := fx6 hJ
  kernel_rfl
def M211_4 (o : Orc) (N : Nat) (X0 : V → Heap → Ans) (J : List Nat → V → Nat → Int → Int → Heap → Ans) (κ : Kv) (x0 : List Nat) (x3 : V) (x4 : Nat) (x12 x13 : Int) (H : Heap) : Ans :=
  cond (decide (x13 < x12)) (
  o 239 [(.str x0), (.int .i64 x13)] H fun v8 H9 =>
  asI .u8 v8 fun n10 =>
  newB H9 (.row [(.int .u8 n10)]) fun i11 H12 =>
  appV H12 x3 (.sl i11 0 1 1 true) 1 fun v13 H14 =>
  o 232 [(.ptr x4 0), (.int .u8 n10)] H14 fun v15 H16 =>
  asT0 v15 (
  o 230 [(.ptr x4 0)] H16 fun v17 H18 =>
  asB v17 fun b19 =>
  cond b19 (
  o 231 [(.ptr x4 0)] H18 fun v20 H21 =>
  asI .u8 v20 fun n22 =>
  newB H21 (.row [(.int .u8 n22)]) fun i23 H24 =>
  appV H24 v13 (.sl i23 0 1 1 true) 1 fun v25 H26 =>
  o 231 [(.ptr x4 0)] H26 fun v27 H28 =>
  asI .u8 v27 fun n29 =>
  o 232 [(.ptr x4 0), (.int .u8 n29)] H28 fun v30 H31 =>
  asT0 v30 (
  J x0 v25 x4 x12 (IntKind.i64.wrap (x13 + 1)) H31)) (
  J x0 v13 x4 x12 (IntKind.i64.wrap (x13 + 1)) H18))) (
  X0 x3 H)
theorem M211_4_ok {o : Orc} {N : Nat} {κ : Kv} {X0 J : Kt} {X0' : V → Heap → Ans} {J' : List Nat → V → Nat → Int → Int → Heap → Ans} (h0 : ∀ x3 H, X0 (tmk 0 35 [(3, x3)]) H = X0' x3 H) (hJ : ∀ x0 x3 x4 x12 x13 H, J (tmk 0 35 [(0, .str x0), (3, x3), (4, .ptr x4 0), (12, .int .i64 x12), (13, .int .i64 x13)]) H = J' x0 x3 x4 x12 x13 H) (x0 : List Nat) (x3 : V) (x4 : Nat) (x12 x13 : Int) (H : Heap) :
    run Tryz.prog o N (cAt Tryz.f211 [1, 1, 1, 0, 1, 4, 4]) .n ((env0 Tryz.prog Tryz.f211 κ).block 0 (kj [3] X0)) (tmk 0 35 [(0, .str x0), (3, x3), (4, .ptr x4 0), (12, .int .i64 x12), (13, .int .i64 x13)]) H (kj [0, 3, 4, 12, 13] J) = M211_4 o N X0' J' κ x0 x3 x4 x12 x13 H := by
  obtain rfl := fx2 h0
  obtain rfl := fx6 hJ
  kernel_rfl
def M211_5 (o : Orc) (N : Nat) (X0 : V → Heap → Ans) (κ : Kv) (n : Nat) : List Nat → V → Nat → Int → Int → Heap → Ans :=
  Nat.rec (motive := fun _ => List Nat → V → Nat → Int → Int → Heap → Ans) (fun _ _ _ _ _ _ => none) (fun _ ih x0 x3 x4 x12 x13 H => M211_4 o N X0 ih κ x0 x3 x4 x12 x13 H) n
theorem M211_5_s (o : Orc) (N : Nat) (X0 : V → Heap → Ans) (κ : Kv) (n : Nat) (x0 : List Nat) (x3 : V) (x4 : Nat) (x12 x13 : Int) (H : Heap) : M211_5 o N X0 κ (n + 1) x0 x3 x4 x12 x13 H = M211_4 o N X0 (M211_5 o N X0 κ n) κ x0 x3 x4 x12 x13 H := rfl
theorem M211_5_ok {o : Orc} {N : Nat} {κ : Kv} {X0 : Kt} {X0' : V → Heap → Ans} (h0 : ∀ x3 H, X0 (tmk 0 35 [(3, x3)]) H = X0' x3 H) (n : Nat) : ∀ (x0 : List Nat) (x3 : V) (x4 : Nat) (x12 x13 : Int) (H : Heap),
    rounds (fun a H k => run Tryz.prog o N (cAt Tryz.f211 [1, 1, 1, 0, 1, 4, 4]) .n ((env0 Tryz.prog Tryz.f211 κ).block 0 (kj [3] X0)) a H k) (some (lvOf [0, 3, 4, 12, 13])) n (tmk 0 35 [(0, .str x0), (3, x3), (4, .ptr x4 0), (12, .int .i64 x12), (13, .int .i64 x13)]) H = M211_5 o N X0' κ n x0 x3 x4 x12 x13 H := by
  induction n with
  | zero => intros; rfl
  | succ n ih =>
    intro x0 x3 x4 x12 x13 H
    refine (run_round.trans ?_).trans (M211_5_s ..).symm
    exact M211_4_ok h0 ih x0 x3 x4 x12 x13 H
def A211_6 : An := .b none (.l (some (lvOf [0, 3, 4, 12, 13])) .n)
def A211_7 : An := .s .n (some (lvOf [0, 3, 4, 12, 13])) A211_6
def M211_8 (o : Orc) (N : Nat) (κ : Kv) (x3 : V) (H : Heap) : Ans :=
  bytesV H x3 fun s32 =>
  κ (.str s32) H
theorem M211_8_ok {o : Orc} {N : Nat} {κ : Kv} (x3 : V) (H : Heap) :
    run Tryz.prog o N (cAt Tryz.f211 [1, 1, 1, 1]) .n (env0 Tryz.prog Tryz.f211 κ) (tmk 0 35 [(3, x3)]) H (env0 Tryz.prog Tryz.f211 κ).ret = M211_8 o N κ x3 H := by
  kernel_rfl
def A211_9 : An := .s .n (some (lvOf [0, 3, 4])) (.s A211_7 (some (lvOf [3])) .n)
def A211_10 : An := .s .n (some (lvOf [0])) (.s .n (some (lvOf [0, 3])) A211_9)
def M211 (o : Orc) (N : Nat) : FnM := fun vs H κ => match vs with
  | [.str x0] => M211_0 o N (fun x0 H => M211_1 o N (fun x0 x3 H => M211_2 o N (fun x0 x3 x4 H => M211_3 o N (fun x0 x3 x4 x12 x13 H => M211_5 o N (fun x3 H => M211_8 o N κ x3 H) κ N x0 x3 x4 x12 x13 H) κ x0 x3 x4 H) κ x0 x3 H) κ x0 H) κ x0 H
  | _ => none
theorem M211_run (o : Orc) (N : Nat) (vs : List V) (H : Heap) (κ : Kv) (r) (h : M211 o N vs H κ = some r) : runFn Tryz.prog o N Tryz.f211 A211_10 vs H κ = some r := by
  unfold M211 at h
  split at h
  · rename_i x0
    refine (runFn_at (t := tmk 0 35 [(0, .str x0)]) (by kernel_rfl) (by kernel_rfl)).trans (Eq.trans ?_ h)
    refine (run_seq (x := (cAt Tryz.f211 [0])) (ax := .n) (y := (cAt Tryz.f211 [1])) (ay := (.s .n (some (lvOf [0, 3])) A211_9)) (l := [0]) (by kernel_rfl) (by kernel_rfl)).trans ?_
    refine M211_0_ok ?_ x0 H
    intro x0 H
    refine (run_seq (x := (cAt Tryz.f211 [1, 0])) (ax := .n) (y := (cAt Tryz.f211 [1, 1])) (ay := A211_9) (l := [0, 3]) (by kernel_rfl) (by kernel_rfl)).trans ?_
    refine M211_1_ok ?_ x0 H
    intro x0 x3 H
    refine (run_seq (x := (cAt Tryz.f211 [1, 1, 0])) (ax := .n) (y := (cAt Tryz.f211 [1, 1, 1])) (ay := (.s A211_7 (some (lvOf [3])) .n)) (l := [0, 3, 4]) (by kernel_rfl) (by kernel_rfl)).trans ?_
    refine M211_2_ok ?_ x0 x3 H
    intro x0 x3 x4 H
    refine (run_seq (x := (cAt Tryz.f211 [1, 1, 1, 0])) (ax := A211_7) (y := (cAt Tryz.f211 [1, 1, 1, 1])) (ay := .n) (l := [3]) (by kernel_rfl) (by kernel_rfl)).trans ?_
    refine (run_seq (x := (cAt Tryz.f211 [1, 1, 1, 0, 0])) (ax := .n) (y := (cAt Tryz.f211 [1, 1, 1, 0, 1])) (ay := A211_6) (l := [0, 3, 4, 12, 13]) (by kernel_rfl) (by kernel_rfl)).trans ?_
    refine M211_3_ok ?_ x0 x3 x4 H
    intro x0 x3 x4 x12 x13 H
    refine (run_block (id := 0) (x := (cAt Tryz.f211 [1, 1, 1, 0, 1, 4])) (ax := (.l (some (lvOf [0, 3, 4, 12, 13])) .n)) (by kernel_rfl) (by kernel_rfl)).trans ?_
    refine (run_loop (x := (cAt Tryz.f211 [1, 1, 1, 0, 1, 4, 4])) (ax := .n) (l := [0, 3, 4, 12, 13]) (by kernel_rfl) (by kernel_rfl) (by kernel_rfl)).trans ?_
    refine M211_5_ok ?_ N x0 x3 x4 x12 x13 H
    intro x3 H
    exact M211_8_ok x3 H
  · cases h
theorem M211_sound {o : Orc} (ho : ∀ f, FSound Tryz.prog f (o f)) (N : Nat) : FSound Tryz.prog 211 (M211 o N) :=
  FSound.sub (runFn_ok (an := A211_10) (fuel := N) hmix ho (by kernel_rfl) (by kernel_rfl)) (M211_run o N)
/-! 212 ostinato/frame.Arb -/
def A212_0 : An := (.s .n none (.s (.b none (.s .n none (.c .n (.s .n none (.c (.s (.d [0, 1, 2, 3, 8, 9, 10, 13, 14, 4, 5, 6, 7, 11, 12, 15, 16, 17]) none .n) .n))))) none (.s (.d [0, 1, 2, 5, 6, 3, 4, 7, 8, 9, 10]) none .n)))
def M212_1 (o : Orc) (N : Nat) (κ : Kv) (x0 : List V) (H : Heap) : Ans :=
  cond (List.all x0 V.one) (
  newB H (.row x0) fun i1 H2 =>
  ldFlat H2 i1 [.bool, .int .u32, .bool, .str] 0 fun l3 =>
  o 228 [(.agg l3)] H2 fun v4 H5 =>
  asB v4 fun b6 =>
  cond (!b6) (
  κ (.str []) H5) (
  (ldB H5 i1 0).bind fun b7 =>
  cond b7 (
  (ldI (Heap.skip H5 18) .u32 i1 1).bind fun n8 =>
  (ldI (Heap.skip H5 18) .u32 i1 1).bind fun n9 =>
  (ldB (Heap.skip H5 18) i1 2).bind fun b10 =>
  o 236 [(.int .u64 (IntKind.u64.wrap (Int.fdiv n8 (2 ^ (min (Int.toNat 18) (IntKind.bits .u32)))))), (.int .i64 11)] (Heap.skip H5 18) fun v11 H12 =>
  asS v11 fun s13 =>
  (ldB H12 i1 2).bind fun b14 =>
  cond ((b10 == b14)) (
  (ldI H12 .u32 i1 1).bind fun n15 =>
  cond (decide (n9 = n15)) (
  cond (Nat.ble (List.length [48] + List.length s13) big) (
  cond (Nat.ble (List.length ([48] ++ s13) + List.length [49]) big) (
  cond (Nat.ble (List.length (([48] ++ s13) ++ [49]) + List.length [49]) big) (
  o 236 [(.int .u64 (IntKind.u64.wrap n9)), (.int .i64 18)] H12 fun v16 H17 =>
  asS v16 fun s18 =>
  (ldB H17 i1 2).bind fun b19 =>
  cond ((b10 == b19)) (
  cond (Nat.ble (List.length ((([48] ++ s13) ++ [49]) ++ [49]) + List.length s18) big) (
  o 240 [(.bool b10)] H17 fun v20 H21 =>
  asS v20 fun s22 =>
  cond (Nat.ble (List.length (((([48] ++ s13) ++ [49]) ++ [49]) ++ s18) + List.length s22) big) (
  κ (.str ((((([48] ++ s13) ++ [49]) ++ [49]) ++ s18) ++ s22)) H21) none) none) none) none) none) none) none) none) (
  (ldI (Heap.skip H5 11) .u32 i1 1).bind fun n23 =>
  (ldB (Heap.skip H5 11) i1 2).bind fun b24 =>
  o 236 [(.int .u64 (IntKind.u64.wrap n23)), (.int .i64 11)] (Heap.skip H5 11) fun v25 H26 =>
  asS v25 fun s27 =>
  (ldB H26 i1 2).bind fun b28 =>
  cond ((b24 == b28)) (
  cond (Nat.ble (List.length [48] + List.length s27) big) (
  o 240 [(.bool b24)] H26 fun v29 H30 =>
  asS v29 fun s31 =>
  cond (Nat.ble (List.length ([48] ++ s27) + List.length s31) big) (
  cond (Nat.ble (List.length (([48] ++ s27) ++ s31) + List.length [48]) big) (
  κ (.str ((([48] ++ s27) ++ s31) ++ [48])) H30) none) none) none) none))) none
theorem M212_1_ok {o : Orc} {N : Nat} {κ : Kv} (x0 : List V) (H : Heap) :
    run Tryz.prog o N (cAt Tryz.f212 []) A212_0 (env0 Tryz.prog Tryz.f212 κ) (tmk 0 37 [(0, .agg x0)]) H (env0 Tryz.prog Tryz.f212 κ).ret = M212_1 o N κ x0 H := by
  kernel_rfl
def M212 (o : Orc) (N : Nat) : FnM := fun vs H κ => match vs with
  | [.agg x0] => M212_1 o N κ x0 H
  | _ => none
theorem M212_run (o : Orc) (N : Nat) (vs : List V) (H : Heap) (κ : Kv) (r) (h : M212 o N vs H κ = some r) : runFn Tryz.prog o N Tryz.f212 A212_0 vs H κ = some r := by
  unfold M212 at h
  split at h
  · rename_i x0
    refine (runFn_at (t := tmk 0 37 [(0, .agg x0)]) (by kernel_rfl) (by kernel_rfl)).trans (Eq.trans ?_ h)
    exact M212_1_ok x0 H
  · cases h
theorem M212_sound {o : Orc} (ho : ∀ f, FSound Tryz.prog f (o f)) (N : Nat) : FSound Tryz.prog 212 (M212 o N) :=
  FSound.sub (runFn_ok (an := A212_0) (fuel := N) hmix ho (by kernel_rfl) (by kernel_rfl)) (M212_run o N)
/-! 213 (*ostinato/mac.Mac).fails -/
def M213_0 (o : Orc) (N : Nat) (κ : Kv) (x0 : V) (x1 : List V) (x2 : Int) (H : Heap) : Ans :=
  cond (List.all x1 V.one) (
  newB H (.row x1) fun i1 H2 =>
  o 207 [x0] H2 fun v3 H4 =>
  asT0 v3 (
  asP x0 fun p5 o6 =>
  ldFlat H4 p5 [.int .i64, .int .i64] (o6 + 2) fun l7 =>
  o 214 [(.agg l7), (.bool false)] H4 fun v8 H9 =>
  asA v8 fun l10 =>
  asP x0 fun p11 o12 =>
  cond (Nat.beq (List.length l10) 2 && Nat.blt 0 2) (
  (stN H9 p11 (o12 + 2) l10).bind fun H13 =>
  ldFlat H13 i1 [.bool, .int .u32, .bool, .str] 0 fun l14 =>
  (fillV (nth [(0, 1), (1, 4), (5, 1)]) [(.int .i64 0), (.bool false), (.int .u32 0), (.bool false), (.str []), (.int .i64 0)] [(0, (.int .i64 4)), (1, (.agg l14)), (2, (.int .i64 x2))]).bind fun l15 =>
  o 216 [x0, (.agg l15)] H13 fun v16 H17 =>
  κ v16 H17) none)) none
theorem M213_0_ok {o : Orc} {N : Nat} {κ : Kv} (x0 : V) (x1 : List V) (x2 : Int) (H : Heap) :
    run Tryz.prog o N (cAt Tryz.f213 []) .n (env0 Tryz.prog Tryz.f213 κ) (tmk 0 22 [(0, x0), (1, .agg x1), (2, .int .i64 x2)]) H (env0 Tryz.prog Tryz.f213 κ).ret = M213_0 o N κ x0 x1 x2 H := by
  kernel_rfl
def M213 (o : Orc) (N : Nat) : FnM := fun vs H κ => match vs with
  | [x0, .agg x1, .int .i64 x2] => M213_0 o N κ x0 x1 x2 H
  | _ => none
theorem M213_run (o : Orc) (N : Nat) (vs : List V) (H : Heap) (κ : Kv) (r) (h : M213 o N vs H κ = some r) : runFn Tryz.prog o N Tryz.f213 .n vs H κ = some r := by
  unfold M213 at h
  split at h
  · rename_i x0 x1 x2
    refine (runFn_at (t := tmk 0 22 [(0, x0), (1, .agg x1), (2, .int .i64 x2)]) (by kernel_rfl) (by kernel_rfl)).trans (Eq.trans ?_ h)
    exact M213_0_ok x0 x1 x2 H
  · cases h
theorem M213_sound {o : Orc} (ho : ∀ f, FSound Tryz.prog f (o f)) (N : Nat) : FSound Tryz.prog 213 (M213 o N) :=
  FSound.sub (runFn_ok (an := .n) (fuel := N) hmix ho (by kernel_rfl) (by kernel_rfl)) (M213_run o N)
/-! 214 ostinato/confine.Sent -/
def M214_0 (o : Orc) (N : Nat) (κ : Kv) (x0 : List V) (x1 : Bool) (H : Heap) : Ans :=
  cond (List.all x0 V.one) (
  newB H (.row x0) fun i1 H2 =>
  newB H2 (.row [(.int .i64 0), (.int .i64 0)]) fun i3 H4 =>
  ldFlat H4 i1 [.int .i64, .int .i64] 0 fun l5 =>
  o 241 [(.agg l5)] H4 fun v6 H7 =>
  asB v6 fun b8 =>
  cond (!b8) (
  ldFlat H7 i1 [.int .i64, .int .i64] 0 fun l9 =>
  cond (Nat.beq (List.length l9) 2 && Nat.blt 0 2) (
  (stN H7 i3 0 l9).bind fun H10 =>
  ldFlat H10 i3 [.int .i64, .int .i64] 0 fun l11 =>
  κ (.agg l11) H10) none) (
  cond x1 (
  (ldI H7 .i64 i1 0).bind fun n12 =>
  (stN H7 i1 0 [(.int .i64 (if 0 > (IntKind.i64.wrap (n12 - 1)) then 0 else (IntKind.i64.wrap (n12 - 1))))]).bind fun H13 =>
  ldFlat H13 i1 [.int .i64, .int .i64] 0 fun l14 =>
  cond (Nat.beq (List.length l14) 2 && Nat.blt 0 2) (
  (stN H13 i3 0 l14).bind fun H15 =>
  ldFlat H15 i3 [.int .i64, .int .i64] 0 fun l16 =>
  κ (.agg l16) H15) none) (
  (ldI H7 .i64 i1 0).bind fun n17 =>
  (stN H7 i1 0 [(.int .i64 (if 1000 < (IntKind.i64.wrap (n17 + 8)) then 1000 else (IntKind.i64.wrap (n17 + 8))))]).bind fun H18 =>
  ldFlat H18 i1 [.int .i64, .int .i64] 0 fun l19 =>
  cond (Nat.beq (List.length l19) 2 && Nat.blt 0 2) (
  (stN H18 i3 0 l19).bind fun H20 =>
  ldFlat H20 i3 [.int .i64, .int .i64] 0 fun l21 =>
  κ (.agg l21) H20) none))) none
theorem M214_0_ok {o : Orc} {N : Nat} {κ : Kv} (x0 : List V) (x1 : Bool) (H : Heap) :
    run Tryz.prog o N (cAt Tryz.f214 []) .n (env0 Tryz.prog Tryz.f214 κ) (tmk 0 21 [(0, .agg x0), (1, .bool x1)]) H (env0 Tryz.prog Tryz.f214 κ).ret = M214_0 o N κ x0 x1 H := by
  kernel_rfl
def M214 (o : Orc) (N : Nat) : FnM := fun vs H κ => match vs with
  | [.agg x0, .bool x1] => M214_0 o N κ x0 x1 H
  | _ => none
theorem M214_run (o : Orc) (N : Nat) (vs : List V) (H : Heap) (κ : Kv) (r) (h : M214 o N vs H κ = some r) : runFn Tryz.prog o N Tryz.f214 .n vs H κ = some r := by
  unfold M214 at h
  split at h
  · rename_i x0 x1
    refine (runFn_at (t := tmk 0 21 [(0, .agg x0), (1, .bool x1)]) (by kernel_rfl) (by kernel_rfl)).trans (Eq.trans ?_ h)
    exact M214_0_ok x0 x1 H
  · cases h
theorem M214_sound {o : Orc} (ho : ∀ f, FSound Tryz.prog f (o f)) (N : Nat) : FSound Tryz.prog 214 (M214 o N) :=
  FSound.sub (runFn_ok (an := .n) (fuel := N) hmix ho (by kernel_rfl) (by kernel_rfl)) (M214_run o N)
end Go.Proofs.YtfcmdgdjifoecaaGreat.K
