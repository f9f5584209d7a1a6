/- Printed: runs of functions. -/
import Derived.Test.YtminfdcdmgpnjaaK20
set_option linter.unusedVariables false
set_option maxRecDepth 100000
noncomputable section
namespace Go.Proofs.Ytminfdcdmgpnjaa.K
open Go
/-! 30 ostinato/ostinatolaw15.least -/
def M30_0 (o : Orc) (N : Nat) (κ : Kv) (H : Heap) : Ans :=
  newB H (.row [(.int .i64 0), (.int .i64 0), (.int .i64 0), (.int .i64 0), (.int .i64 0), (.int .i64 0), (.int .i64 0), (.int .u32 0), .nils, .nils, .nils]) fun i1 H2 =>
  newB H2 (.row [(.int .i64 0)]) fun i3 H4 =>
  newB H4 (.row [(.int .u32 99), (.int .i64 1), (.bool false)]) fun i5 H6 =>
  newB H6 (.row [(.int .i64 1), (.int .i64 40), (.int .i64 80), (.int .i64 1), (.int .i64 2), (.int .i64 0)]) fun i7 H8 =>
  (stN H8 i1 0 [(.int .i64 1), (.int .i64 2), (.int .i64 2), (.int .i64 400), (.int .i64 2), (.int .i64 16), (.int .i64 0), (.int .u32 8), (.sl i3 0 1 1 true), (.sl i5 0 1 3 true), (.sl i7 0 1 6 true)]).bind fun H9 =>
  ldFlat H9 i1 [.int .i64, .int .i64, .int .i64, .int .i64, .int .i64, .int .i64, .int .i64, .int .u32, .oth, .oth, .oth] 0 fun l10 =>
  κ (.agg l10) H9
theorem M30_0_ok {o : Orc} {N : Nat} {κ : Kv} (H : Heap) :
    run Try.prog o N (cAt Try.f30 []) .n (env0 Try.prog Try.f30 κ) (tmk 0 7 []) H (env0 Try.prog Try.f30 κ).ret = M30_0 o N κ  H := by
  kernel_rfl
def M30 (o : Orc) (N : Nat) : FnM := fun vs H κ => match vs with
  | [] => M30_0 o N κ  H
  | _ => none
theorem M30_run (o : Orc) (N : Nat) (vs : List V) (H : Heap) (κ : Kv) (r) (h : M30 o N vs H κ = some r) : runFn Try.prog o N Try.f30 .n vs H κ = some r := by
  unfold M30 at h
  split at h
  · refine (runFn_at (t := tmk 0 7 []) (by kernel_rfl) (by kernel_rfl)).trans (Eq.trans ?_ h)
    exact M30_0_ok  H
  · cases h
theorem M30_sound {o : Orc} (ho : ∀ f, FSound Try.prog f (o f)) (N : Nat) : FSound Try.prog 30 (M30 o N) :=
  FSound.sub (runFn_ok (an := .n) (fuel := N) hmix ho (by kernel_rfl) (by kernel_rfl)) (M30_run o N)
/-! 31 ostinato/plan.Due -/
def M31_0 (o : Orc) (N : Nat) (J : V → Int → Int → Int → Heap → Ans) (κ : Kv) (x0 : V) (x1 x2 x3 : Int) (H : Heap) : Ans :=
  J x0 x1 x2 x3 H
theorem M31_0_ok {o : Orc} {N : Nat} {κ : Kv} {J : Kt} {J' : V → Int → Int → Int → Heap → Ans} (hJ : ∀ x0 x1 x2 x3 H, J (tmk 0 52 [(0, x0), (1, .int .i64 x1), (2, .int .i64 x2), (3, .int .i64 x3)]) H = J' x0 x1 x2 x3 H) (x0 : V) (x1 x2 x3 : Int) (H : Heap) :
    run Try.prog o N (cAt Try.f31 [0]) .n (env0 Try.prog Try.f31 κ) (tmk 0 52 [(0, x0), (1, .int .i64 x1), (2, .int .i64 x2), (3, .int .i64 x3)]) H (kj [0, 1, 2, 3] J) = M31_0 o N J' κ x0 x1 x2 x3 H := by
  obtain rfl := fx5 hJ
  kernel_rfl
def M31_1 (o : Orc) (N : Nat) (J : V → Int → Int → Int → V → Heap → Ans) (κ : Kv) (x0 : V) (x1 x2 x3 : Int) (H : Heap) : Ans :=
  lenS x0 fun n1 =>
  cond (decide (0 ≤ n1) && decide (n1 ≤ n1) && decide (n1 ≤ 4294967296) && Nat.ble 48 1024 && Nat.blt 0 6) (
  newB H (.row (List.flatten (List.replicate (Int.toNat n1) [(.int .i64 0), (.int .i64 0), (.int .i64 0), (.int .i64 0), (.int .i64 0), (.int .i64 0)]))) fun i2 H3 =>
  J x0 x1 x2 x3 (.sl i2 0 (Int.toNat n1) 6 true) H3) none
theorem M31_1_ok {o : Orc} {N : Nat} {κ : Kv} {J : Kt} {J' : V → Int → Int → Int → V → Heap → Ans} (hJ : ∀ x0 x1 x2 x3 x9 H, J (tmk 0 52 [(0, x0), (1, .int .i64 x1), (2, .int .i64 x2), (3, .int .i64 x3), (9, x9)]) H = J' x0 x1 x2 x3 x9 H) (x0 : V) (x1 x2 x3 : Int) (H : Heap) :
    run Try.prog o N (cAt Try.f31 [1, 0]) .n (env0 Try.prog Try.f31 κ) (tmk 0 52 [(0, x0), (1, .int .i64 x1), (2, .int .i64 x2), (3, .int .i64 x3)]) H (kj [0, 1, 2, 3, 9] J) = M31_1 o N J' κ x0 x1 x2 x3 H := by
  obtain rfl := fx6 hJ
  kernel_rfl
def M31_2 (o : Orc) (N : Nat) (J : V → Int → Int → Int → V → Int → Heap → Ans) (κ : Kv) (x0 : V) (x1 x2 x3 : Int) (x9 : V) (H : Heap) : Ans :=
  J x0 x1 x2 x3 x9 0 H
theorem M31_2_ok {o : Orc} {N : Nat} {κ : Kv} {J : Kt} {J' : V → Int → Int → Int → V → Int → Heap → Ans} (hJ : ∀ x0 x1 x2 x3 x9 x10 H, J (tmk 0 52 [(0, x0), (1, .int .i64 x1), (2, .int .i64 x2), (3, .int .i64 x3), (9, x9), (10, .int .i64 x10)]) H = J' x0 x1 x2 x3 x9 x10 H) (x0 : V) (x1 x2 x3 : Int) (x9 : V) (H : Heap) :
    run Try.prog o N (cAt Try.f31 [1, 1, 0]) .n (env0 Try.prog Try.f31 κ) (tmk 0 52 [(0, x0), (1, .int .i64 x1), (2, .int .i64 x2), (3, .int .i64 x3), (9, x9)]) H (kj [0, 1, 2, 3, 9, 10] J) = M31_2 o N J' κ x0 x1 x2 x3 x9 H := by
  obtain rfl := fx7 hJ
  kernel_rfl
def M31_3 (o : Orc) (N : Nat) (J : Int → Int → Int → V → Int → V → Int → Int → Heap → Ans) (κ : Kv) (x0 : V) (x1 x2 x3 : Int) (x9 : V) (x10 : Int) (H : Heap) : Ans :=
  lenS x0 fun n4 =>
  J x1 x2 x3 x9 x10 x0 n4 0 H
theorem M31_3_ok {o : Orc} {N : Nat} {κ : Kv} {J : Kt} {J' : Int → Int → Int → V → Int → V → Int → Int → Heap → Ans} (hJ : ∀ x1 x2 x3 x9 x10 x16 x17 x18 H, J (tmk 0 52 [(1, .int .i64 x1), (2, .int .i64 x2), (3, .int .i64 x3), (9, x9), (10, .int .i64 x10), (16, x16), (17, .int .i64 x17), (18, .int .i64 x18)]) H = J' x1 x2 x3 x9 x10 x16 x17 x18 H) (x0 : V) (x1 x2 x3 : Int) (x9 : V) (x10 : Int) (H : Heap) :
    run Try.prog o N (cAt Try.f31 [1, 1, 1, 0, 0]) .n (env0 Try.prog Try.f31 κ) (tmk 0 52 [(0, x0), (1, .int .i64 x1), (2, .int .i64 x2), (3, .int .i64 x3), (9, x9), (10, .int .i64 x10)]) H (kj [1, 2, 3, 9, 10, 16, 17, 18] J) = M31_3 o N J' κ x0 x1 x2 x3 x9 x10 H := by
  obtain rfl := fx9 hJ
  kernel_rfl
def A31_4 : An := (.s .n none (.s .n none (.s (.b none (.s .n none (.s .n none (.c (.d [0, 1, 2, 3, 4, 5, 6, 7, 8]) .n)))) none .n)))
def M31_5 (o : Orc) (N : Nat) (X0 : V → Int → Heap → Ans) (J : Int → Int → Int → V → Int → V → Int → Int → Heap → Ans) (κ : Kv) (x1 x2 x3 : Int) (x9 : V) (x10 : Int) (x16 : V) (x17 x18 : Int) (H : Heap) : Ans :=
  cond (decide (x18 < x17)) (
  idxS 6 x16 x18 fun p5 o6 =>
  ldFlat H p5 [.int .i64, .int .i64, .int .i64, .int .i64, .int .i64, .int .i64] o6 fun l7 =>
  newB H (.row [(.int .i64 0), (.int .i64 0), (.int .i64 0), (.int .i64 0), (.int .i64 0), (.int .i64 0)]) fun i8 H9 =>
  cond (Nat.beq (List.length l7) 6 && Nat.blt 0 6) (
  (stN H9 i8 0 l7).bind fun H10 =>
  (ldI H10 .i64 i8 1).bind fun n11 =>
  cond (decide (n11 > x2)) (
  (ldI H10 .i64 i8 1).bind fun n12 =>
  cond (decide (n12 ≤ x3)) (
  (ldI H10 .i64 i8 2).bind fun n13 =>
  (ldI H10 .i64 i8 3).bind fun n14 =>
  o 50 [(.int .i64 n13), (.int .i64 n14), (.int .i64 x1)] H10 fun v15 H16 =>
  asB v15 fun b17 =>
  cond b17 (
  slS 6 x9 (some (.int .i64 x10)) none fun v18 =>
  ldFlat (Heap.skip H16 9) i8 [.int .i64, .int .i64, .int .i64, .int .i64, .int .i64, .int .i64] 0 fun l19 =>
  (fillV (fun i => some (i * 6, 6)) [(.int .i64 0), (.int .i64 0), (.int .i64 0), (.int .i64 0), (.int .i64 0), (.int .i64 0)] [(0, (.agg l19))]).bind fun l20 =>
  cpyV (Heap.newAt (Heap.skip H16 9) (H16.next + 5) (.row l20)) v18 (.sl (H16.next + 5) 0 1 6 true) 6 fun n21 H22 =>
  J x1 x2 x3 x9 (IntKind.i64.wrap (x10 + n21)) x16 x17 (IntKind.i64.wrap (x18 + 1)) H22) (
  J x1 x2 x3 x9 x10 x16 x17 (IntKind.i64.wrap (x18 + 1)) H16)) (
  J x1 x2 x3 x9 x10 x16 x17 (IntKind.i64.wrap (x18 + 1)) H10)) (
  J x1 x2 x3 x9 x10 x16 x17 (IntKind.i64.wrap (x18 + 1)) H10)) none) (
  X0 x9 x10 H)
theorem M31_5_ok {o : Orc} {N : Nat} {κ : Kv} {X0 J : Kt} {X0' : V → Int → Heap → Ans} {J' : Int → Int → Int → V → Int → V → Int → Int → Heap → Ans} (h0 : ∀ x9 x10 H, X0 (tmk 0 52 [(9, x9), (10, .int .i64 x10)]) H = X0' x9 x10 H) (hJ : ∀ x1 x2 x3 x9 x10 x16 x17 x18 H, J (tmk 0 52 [(1, .int .i64 x1), (2, .int .i64 x2), (3, .int .i64 x3), (9, x9), (10, .int .i64 x10), (16, x16), (17, .int .i64 x17), (18, .int .i64 x18)]) H = J' x1 x2 x3 x9 x10 x16 x17 x18 H) (x1 x2 x3 : Int) (x9 : V) (x10 : Int) (x16 : V) (x17 x18 : Int) (H : Heap) :
    run Try.prog o N (cAt Try.f31 [1, 1, 1, 0, 1, 4, 4]) A31_4 ((env0 Try.prog Try.f31 κ).block 0 (kj [9, 10] X0)) (tmk 0 52 [(1, .int .i64 x1), (2, .int .i64 x2), (3, .int .i64 x3), (9, x9), (10, .int .i64 x10), (16, x16), (17, .int .i64 x17), (18, .int .i64 x18)]) H (kj [1, 2, 3, 9, 10, 16, 17, 18] J) = M31_5 o N X0' J' κ x1 x2 x3 x9 x10 x16 x17 x18 H := by
  obtain rfl := fx3 h0
  obtain rfl := fx9 hJ
  kernel_rfl
def A31_6 : An := .l (some (lvOf [1, 2, 3, 9, 10, 16, 17, 18])) A31_4
def M31_7 (o : Orc) (N : Nat) (X0 : V → Int → Heap → Ans) (κ : Kv) (n : Nat) : Int → Int → Int → V → Int → V → Int → Int → Heap → Ans :=
  Nat.rec (motive := fun _ => Int → Int → Int → V → Int → V → Int → Int → Heap → Ans) (fun _ _ _ _ _ _ _ _ _ => none) (fun _ ih x1 x2 x3 x9 x10 x16 x17 x18 H => M31_5 o N X0 ih κ x1 x2 x3 x9 x10 x16 x17 x18 H) n
theorem M31_7_s (o : Orc) (N : Nat) (X0 : V → Int → Heap → Ans) (κ : Kv) (n : Nat) (x1 x2 x3 : Int) (x9 : V) (x10 : Int) (x16 : V) (x17 x18 : Int) (H : Heap) : M31_7 o N X0 κ (n + 1) x1 x2 x3 x9 x10 x16 x17 x18 H = M31_5 o N X0 (M31_7 o N X0 κ n) κ x1 x2 x3 x9 x10 x16 x17 x18 H := rfl
theorem M31_7_ok {o : Orc} {N : Nat} {κ : Kv} {X0 : Kt} {X0' : V → Int → Heap → Ans} (h0 : ∀ x9 x10 H, X0 (tmk 0 52 [(9, x9), (10, .int .i64 x10)]) H = X0' x9 x10 H) (n : Nat) : ∀ (x1 x2 x3 : Int) (x9 : V) (x10 : Int) (x16 : V) (x17 x18 : Int) (H : Heap),
    rounds (fun a H k => run Try.prog o N (cAt Try.f31 [1, 1, 1, 0, 1, 4, 4]) A31_4 ((env0 Try.prog Try.f31 κ).block 0 (kj [9, 10] X0)) a H k) (some (lvOf [1, 2, 3, 9, 10, 16, 17, 18])) n (tmk 0 52 [(1, .int .i64 x1), (2, .int .i64 x2), (3, .int .i64 x3), (9, x9), (10, .int .i64 x10), (16, x16), (17, .int .i64 x17), (18, .int .i64 x18)]) H = M31_7 o N X0' κ n x1 x2 x3 x9 x10 x16 x17 x18 H := by
  induction n with
  | zero => intros; rfl
  | succ n ih =>
    intro x1 x2 x3 x9 x10 x16 x17 x18 H
    refine (run_round.trans ?_).trans (M31_7_s ..).symm
    exact M31_5_ok h0 ih x1 x2 x3 x9 x10 x16 x17 x18 H
def A31_8 : An := .s .n (some (lvOf [1, 2, 3, 9, 10, 16, 17, 18])) (.b none A31_6)
def M31_9 (o : Orc) (N : Nat) (κ : Kv) (x9 : V) (x10 : Int) (H : Heap) : Ans :=
  slS 6 x9 none (some (.int .i64 x10)) fun v23 =>
  κ v23 H
theorem M31_9_ok {o : Orc} {N : Nat} {κ : Kv} (x9 : V) (x10 : Int) (H : Heap) :
    run Try.prog o N (cAt Try.f31 [1, 1, 1, 1]) .n (env0 Try.prog Try.f31 κ) (tmk 0 52 [(9, x9), (10, .int .i64 x10)]) H (env0 Try.prog Try.f31 κ).ret = M31_9 o N κ x9 x10 H := by
  kernel_rfl
def A31_10 : An := .s .n (some (lvOf [0, 1, 2, 3, 9, 10])) (.s A31_8 (some (lvOf [9, 10])) .n)
def A31_11 : An := .s .n (some (lvOf [0, 1, 2, 3, 9])) A31_10
def M31 (o : Orc) (N : Nat) : FnM := fun vs H κ => match vs with
  | [x0, .int .i64 x1, .int .i64 x2, .int .i64 x3] => M31_0 o N (fun x0 x1 x2 x3 H => M31_1 o N (fun x0 x1 x2 x3 x9 H => M31_2 o N (fun x0 x1 x2 x3 x9 x10 H => M31_3 o N (fun x1 x2 x3 x9 x10 x16 x17 x18 H => M31_7 o N (fun x9 x10 H => M31_9 o N κ x9 x10 H) κ N x1 x2 x3 x9 x10 x16 x17 x18 H) κ x0 x1 x2 x3 x9 x10 H) κ x0 x1 x2 x3 x9 H) κ x0 x1 x2 x3 H) κ x0 x1 x2 x3 H
  | _ => none
theorem M31_run (o : Orc) (N : Nat) (vs : List V) (H : Heap) (κ : Kv) (r) (h : M31 o N vs H κ = some r) : runFn Try.prog o N Try.f31 (.s .n (some (lvOf [0, 1, 2, 3])) A31_11) vs H κ = some r := by
  unfold M31 at h
  split at h
  · rename_i x0 x1 x2 x3
    refine (runFn_at (t := tmk 0 52 [(0, x0), (1, .int .i64 x1), (2, .int .i64 x2), (3, .int .i64 x3)]) (by kernel_rfl) (by kernel_rfl)).trans (Eq.trans ?_ h)
    refine (run_seq (x := (cAt Try.f31 [0])) (ax := .n) (y := (cAt Try.f31 [1])) (ay := A31_11) (l := [0, 1, 2, 3]) (by kernel_rfl) (by kernel_rfl)).trans ?_
    refine M31_0_ok ?_ x0 x1 x2 x3 H
    intro x0 x1 x2 x3 H
    refine (run_seq (x := (cAt Try.f31 [1, 0])) (ax := .n) (y := (cAt Try.f31 [1, 1])) (ay := A31_10) (l := [0, 1, 2, 3, 9]) (by kernel_rfl) (by kernel_rfl)).trans ?_
    refine M31_1_ok ?_ x0 x1 x2 x3 H
    intro x0 x1 x2 x3 x9 H
    refine (run_seq (x := (cAt Try.f31 [1, 1, 0])) (ax := .n) (y := (cAt Try.f31 [1, 1, 1])) (ay := (.s A31_8 (some (lvOf [9, 10])) .n)) (l := [0, 1, 2, 3, 9, 10]) (by kernel_rfl) (by kernel_rfl)).trans ?_
    refine M31_2_ok ?_ x0 x1 x2 x3 x9 H
    intro x0 x1 x2 x3 x9 x10 H
    refine (run_seq (x := (cAt Try.f31 [1, 1, 1, 0])) (ax := A31_8) (y := (cAt Try.f31 [1, 1, 1, 1])) (ay := .n) (l := [9, 10]) (by kernel_rfl) (by kernel_rfl)).trans ?_
    refine (run_seq (x := (cAt Try.f31 [1, 1, 1, 0, 0])) (ax := .n) (y := (cAt Try.f31 [1, 1, 1, 0, 1])) (ay := (.b none A31_6)) (l := [1, 2, 3, 9, 10, 16, 17, 18]) (by kernel_rfl) (by kernel_rfl)).trans ?_
    refine M31_3_ok ?_ x0 x1 x2 x3 x9 x10 H
    intro x1 x2 x3 x9 x10 x16 x17 x18 H
    refine (run_block (id := 0) (x := (cAt Try.f31 [1, 1, 1, 0, 1, 4])) (ax := A31_6) (by kernel_rfl) (by kernel_rfl)).trans ?_
    refine (run_loop (x := (cAt Try.f31 [1, 1, 1, 0, 1, 4, 4])) (ax := A31_4) (l := [1, 2, 3, 9, 10, 16, 17, 18]) (by kernel_rfl) (by kernel_rfl) (by kernel_rfl)).trans ?_
    refine M31_7_ok ?_ N x1 x2 x3 x9 x10 x16 x17 x18 H
    intro x9 x10 H
    exact M31_9_ok x9 x10 H
  · cases h
theorem M31_sound {o : Orc} (ho : ∀ f, FSound Try.prog f (o f)) (N : Nat) : FSound Try.prog 31 (M31 o N) :=
  FSound.sub (runFn_ok (an := (.s .n (some (lvOf [0, 1, 2, 3])) A31_11)) (fuel := N) hmix ho (by kernel_rfl) (by kernel_rfl)) (M31_run o N)
/-! 32 ostinato/check.Check -/
def M32_0 (o : Orc) (N : Nat) (J : Nat → Heap → Ans) (κ : Kv) (x0 : List V) (H : Heap) : Ans :=
  cond (List.all x0 V.one) (
  newB H (.row x0) fun i1 H2 =>
  J i1 H2) none
theorem M32_0_ok {o : Orc} {N : Nat} {κ : Kv} {J : Kt} {J' : Nat → Heap → Ans} (hJ : ∀ x1 H, J (tmk 0 35 [(1, .ptr x1 0)]) H = J' x1 H) (x0 : List V) (H : Heap) :
    run Try.prog o N (cAt Try.f32 [0]) .n (env0 Try.prog Try.f32 κ) (tmk 0 35 [(0, .agg x0)]) H (kj [1] J) = M32_0 o N J' κ x0 H := by
  obtain rfl := fx2 hJ
  kernel_rfl
def A32_1 : An := (.b none (.s .n none (.c .n (.s (.d [0, 1, 2, 3, 4, 5]) none .n))))
def M32_2 (o : Orc) (N : Nat) (J : Nat → Heap → Ans) (κ : Kv) (x1 : Nat) (H : Heap) : Ans :=
  ldFlat H x1 [.int .i64, .int .i64, .int .i64, .int .i64, .int .i64, .int .i64, .int .i64, .int .u32, .oth, .oth, .oth] 0 fun l3 =>
  o 42 [(.agg l3)] H fun v4 H5 =>
  asB v4 fun b6 =>
  cond (!b6) (
  κ (.tup [(.int .i64 0), (.int .i64 120)]) H5) (
  (ldI (Heap.skip H5 6) .i64 x1 3).bind fun n7 =>
  ldFlat (Heap.skip H5 6) x1 [.int .i64, .int .i64, .int .i64, .int .i64, .int .i64, .int .i64, .int .i64, .int .u32, .oth, .oth, .oth] 0 fun l8 =>
  o 43 [(.agg l8)] (Heap.skip H5 6) fun v9 H10 =>
  asI .i64 v9 fun n11 =>
  (ldI H10 .i64 x1 3).bind fun n12 =>
  cond (decide (n7 = n12)) (
  cond (decide (n7 < n11)) (
  κ (.tup [(.int .i64 0), (.int .i64 140)]) H10) (
  J x1 H10)) none)
theorem M32_2_ok {o : Orc} {N : Nat} {κ : Kv} {J : Kt} {J' : Nat → Heap → Ans} (hJ : ∀ x1 H, J (tmk 0 35 [(1, .ptr x1 0)]) H = J' x1 H) (x1 : Nat) (H : Heap) :
    run Try.prog o N (cAt Try.f32 [1, 0]) A32_1 (env0 Try.prog Try.f32 κ) (tmk 0 35 [(1, .ptr x1 0)]) H (kj [1] J) = M32_2 o N J' κ x1 H := by
  obtain rfl := fx2 hJ
  kernel_rfl
def M32_3 (o : Orc) (N : Nat) (J : Nat → V → Int → Int → Heap → Ans) (κ : Kv) (x1 : Nat) (H : Heap) : Ans :=
  newB H (.row [(.fn 51 []), (.fn 52 []), (.fn 53 [])]) fun i13 H14 =>
  J x1 (.sl i13 0 3 1 true) ((3 : Nat) : Int) 0 H14
theorem M32_3_ok {o : Orc} {N : Nat} {κ : Kv} {J : Kt} {J' : Nat → V → Int → Int → Heap → Ans} (hJ : ∀ x1 x18 x19 x20 H, J (tmk 0 35 [(1, .ptr x1 0), (18, x18), (19, .int .i64 x19), (20, .int .i64 x20)]) H = J' x1 x18 x19 x20 H) (x1 : Nat) (H : Heap) :
    run Try.prog o N (cAt Try.f32 [1, 1, 0, 0]) .n (env0 Try.prog Try.f32 κ) (tmk 0 35 [(1, .ptr x1 0)]) H (kj [1, 18, 19, 20] J) = M32_3 o N J' κ x1 H := by
  obtain rfl := fx5 hJ
  kernel_rfl
def M32_4 (o : Orc) (N : Nat) (X1 : Heap → Ans) (J : Nat → V → Int → Int → Heap → Ans) (κ : Kv) (x1 : Nat) (x18 : V) (x19 x20 : Int) (H : Heap) : Ans :=
  cond (decide (x20 < x19)) (
  idxS 1 x18 x20 fun p15 o16 =>
  (ldV H p15 o16).bind fun v17 =>
  ldFlat H x1 [.int .i64, .int .i64, .int .i64, .int .i64, .int .i64, .int .i64, .int .i64, .int .u32, .oth, .oth, .oth] 0 fun l18 =>
  callV o v17 [(.agg l18)] H fun v19 H20 =>
  asT2 v19 fun v21 v22 =>
  asI .i64 v21 fun n23 =>
  asI .i64 v22 fun n24 =>
  cond (n24 != 0) (
  κ (.tup [(.int .i64 n23), (.int .i64 n24)]) H20) (
  J x1 x18 x19 (IntKind.i64.wrap (x20 + 1)) H20)) (
  X1  H)
theorem M32_4_ok {o : Orc} {N : Nat} {κ : Kv} {X1 J : Kt} {X1' : Heap → Ans} {J' : Nat → V → Int → Int → Heap → Ans} (h1 : ∀  H, X1 (tmk 0 35 []) H = X1' H) (hJ : ∀ x1 x18 x19 x20 H, J (tmk 0 35 [(1, .ptr x1 0), (18, x18), (19, .int .i64 x19), (20, .int .i64 x20)]) H = J' x1 x18 x19 x20 H) (x1 : Nat) (x18 : V) (x19 x20 : Int) (H : Heap) :
    run Try.prog o N (cAt Try.f32 [1, 1, 0, 1, 4, 4]) .n ((env0 Try.prog Try.f32 κ).block 1 (kj [] X1)) (tmk 0 35 [(1, .ptr x1 0), (18, x18), (19, .int .i64 x19), (20, .int .i64 x20)]) H (kj [1, 18, 19, 20] J) = M32_4 o N X1' J' κ x1 x18 x19 x20 H := by
  obtain rfl := fx1 h1
  obtain rfl := fx5 hJ
  kernel_rfl
def M32_5 (o : Orc) (N : Nat) (X1 : Heap → Ans) (κ : Kv) (n : Nat) : Nat → V → Int → Int → Heap → Ans :=
  Nat.rec (motive := fun _ => Nat → V → Int → Int → Heap → Ans) (fun _ _ _ _ _ => none) (fun _ ih x1 x18 x19 x20 H => M32_4 o N X1 ih κ x1 x18 x19 x20 H) n
theorem M32_5_s (o : Orc) (N : Nat) (X1 : Heap → Ans) (κ : Kv) (n : Nat) (x1 : Nat) (x18 : V) (x19 x20 : Int) (H : Heap) : M32_5 o N X1 κ (n + 1) x1 x18 x19 x20 H = M32_4 o N X1 (M32_5 o N X1 κ n) κ x1 x18 x19 x20 H := rfl
theorem M32_5_ok {o : Orc} {N : Nat} {κ : Kv} {X1 : Kt} {X1' : Heap → Ans} (h1 : ∀  H, X1 (tmk 0 35 []) H = X1' H) (n : Nat) : ∀ (x1 : Nat) (x18 : V) (x19 x20 : Int) (H : Heap),
    rounds (fun a H k => run Try.prog o N (cAt Try.f32 [1, 1, 0, 1, 4, 4]) .n ((env0 Try.prog Try.f32 κ).block 1 (kj [] X1)) a H k) (some (lvOf [1, 18, 19, 20])) n (tmk 0 35 [(1, .ptr x1 0), (18, x18), (19, .int .i64 x19), (20, .int .i64 x20)]) H = M32_5 o N X1' κ n x1 x18 x19 x20 H := by
  induction n with
  | zero => intros; rfl
  | succ n ih =>
    intro x1 x18 x19 x20 H
    refine (run_round.trans ?_).trans (M32_5_s ..).symm
    exact M32_4_ok h1 ih x1 x18 x19 x20 H
def A32_6 : An := .b none (.l (some (lvOf [1, 18, 19, 20])) .n)
def A32_7 : An := .s .n (some (lvOf [1, 18, 19, 20])) A32_6
def M32_8 (o : Orc) (N : Nat) (κ : Kv) (H : Heap) : Ans :=
  κ (.tup [(.int .i64 0), (.int .i64 0)]) H
theorem M32_8_ok {o : Orc} {N : Nat} {κ : Kv} (H : Heap) :
    run Try.prog o N (cAt Try.f32 [1, 1, 1]) .n (env0 Try.prog Try.f32 κ) (tmk 0 35 []) H (env0 Try.prog Try.f32 κ).ret = M32_8 o N κ  H := by
  kernel_rfl
def A32_9 : An := .s A32_1 (some (lvOf [1])) (.s A32_7 (some (lvOf [])) .n)
def M32 (o : Orc) (N : Nat) : FnM := fun vs H κ => match vs with
  | [.agg x0] => M32_0 o N (fun x1 H => M32_2 o N (fun x1 H => M32_3 o N (fun x1 x18 x19 x20 H => M32_5 o N (fun H => M32_8 o N κ  H) κ N x1 x18 x19 x20 H) κ x1 H) κ x1 H) κ x0 H
  | _ => none
theorem M32_run (o : Orc) (N : Nat) (vs : List V) (H : Heap) (κ : Kv) (r) (h : M32 o N vs H κ = some r) : runFn Try.prog o N Try.f32 (.s .n (some (lvOf [1])) A32_9) vs H κ = some r := by
  unfold M32 at h
  split at h
  · rename_i x0
    refine (runFn_at (t := tmk 0 35 [(0, .agg x0)]) (by kernel_rfl) (by kernel_rfl)).trans (Eq.trans ?_ h)
    refine (run_seq (x := (cAt Try.f32 [0])) (ax := .n) (y := (cAt Try.f32 [1])) (ay := A32_9) (l := [1]) (by kernel_rfl) (by kernel_rfl)).trans ?_
    refine M32_0_ok ?_ x0 H
    intro x1 H
    refine (run_seq (x := (cAt Try.f32 [1, 0])) (ax := A32_1) (y := (cAt Try.f32 [1, 1])) (ay := (.s A32_7 (some (lvOf [])) .n)) (l := [1]) (by kernel_rfl) (by kernel_rfl)).trans ?_
    refine M32_2_ok ?_ x1 H
    intro x1 H
    refine (run_seq (x := (cAt Try.f32 [1, 1, 0])) (ax := A32_7) (y := (cAt Try.f32 [1, 1, 1])) (ay := .n) (l := []) (by kernel_rfl) (by kernel_rfl)).trans ?_
    refine (run_seq (x := (cAt Try.f32 [1, 1, 0, 0])) (ax := .n) (y := (cAt Try.f32 [1, 1, 0, 1])) (ay := A32_6) (l := [1, 18, 19, 20]) (by kernel_rfl) (by kernel_rfl)).trans ?_
    refine M32_3_ok ?_ x1 H
    intro x1 x18 x19 x20 H
    refine (run_block (id := 1) (x := (cAt Try.f32 [1, 1, 0, 1, 4])) (ax := (.l (some (lvOf [1, 18, 19, 20])) .n)) (by kernel_rfl) (by kernel_rfl)).trans ?_
    refine (run_loop (x := (cAt Try.f32 [1, 1, 0, 1, 4, 4])) (ax := .n) (l := [1, 18, 19, 20]) (by kernel_rfl) (by kernel_rfl) (by kernel_rfl)).trans ?_
    refine M32_5_ok ?_ N x1 x18 x19 x20 H
    intro H
    exact M32_8_ok  H
  · cases h
theorem M32_sound {o : Orc} (ho : ∀ f, FSound Try.prog f (o f)) (N : Nat) : FSound Try.prog 32 (M32 o N) :=
  FSound.sub (runFn_ok (an := (.s .n (some (lvOf [1])) A32_9)) (fuel := N) hmix ho (by kernel_rfl) (by kernel_rfl)) (M32_run o N)
/-! 33 ostinato/plan.window -/
def A33_0 : An := (.s .n none (.s (.d [0, 1, 2, 3, 4, 5, 6, 7, 8, 9, 10, 11, 12, 13, 14, 15]) none (.s (.b none (.s .n none (.c .n (.s .n none (.c (.d [0, 1, 2, 3, 4, 5, 6, 7, 8]) (.d [0, 1, 2, 3, 4, 5, 6, 7, 8])))))) none .n)))
def M33_1 (o : Orc) (N : Nat) (κ : Kv) (x0 : List V) (x1 : Int) (x2 : List V) (H : Heap) : Ans :=
  cond (List.all x0 V.one) (
  newB H (.row x0) fun i1 H2 =>
  cond (List.all x2 V.one) (
  newB H2 (.row x2) fun i3 H4 =>
  newB H4 (.row [(.int .i64 0), (.int .i64 0), (.int .i64 0), (.int .i64 0), (.int .i64 0), (.int .i64 0)]) fun i5 H6 =>
  (ldI (Heap.skip H6 16) .i64 i3 1).bind fun n7 =>
  (ldI (Heap.skip H6 16) .i64 i3 3).bind fun n8 =>
  (ldI (Heap.skip H6 16) .i64 i3 4).bind fun n9 =>
  (ldI (Heap.skip H6 16) .i64 i3 5).bind fun n10 =>
  (ldI (Heap.skip H6 16) .i64 i3 2).bind fun n11 =>
  ldFlat (Heap.skip H6 16) i1 [.int .i64, .int .i64, .int .i64, .int .i64, .int .i64, .int .i64, .int .i64, .int .u32, .oth, .oth, .oth] 0 fun l12 =>
  o 43 [(.agg l12)] (Heap.skip H6 16) fun v13 H14 =>
  asI .i64 v13 fun n15 =>
  (ldI H14 .i64 i3 2).bind fun n16 =>
  cond (decide (n11 = n16)) (
  (ldI H14 .i64 i3 5).bind fun n17 =>
  cond (decide (n10 = n17)) (
  (ldI H14 .i64 i3 4).bind fun n18 =>
  cond (decide (n9 = n18)) (
  (ldI H14 .i64 i3 3).bind fun n19 =>
  cond (decide (n8 = n19)) (
  (ldI H14 .i64 i3 1).bind fun n20 =>
  cond (decide (n7 = n20)) (
  (stN (Heap.newAt H14 (H6.next + 14) (.row [(.int .i64 0), (.int .i64 0), (.int .i64 0), (.int .i64 0), (.int .i64 0), (.int .i64 0)])) (H6.next + 14) 0 [(.int .i64 2), (.int .i64 n7), (.int .i64 n8), (.int .i64 n9), (.int .i64 n10), (.int .i64 (IntKind.i64.wrap (n11 - n15)))]).bind fun H21 =>
  (ldI H21 .i64 i3 0).bind fun n22 =>
  cond (n22 == 2) (
  ldFlat H21 (H6.next + 14) [.int .i64, .int .i64, .int .i64, .int .i64, .int .i64, .int .i64] 0 fun l23 =>
  cond (Nat.beq (List.length l23) 6 && Nat.blt 0 6) (
  (stN H21 i5 0 l23).bind fun H24 =>
  ldFlat H24 i5 [.int .i64, .int .i64, .int .i64, .int .i64, .int .i64, .int .i64] 0 fun l25 =>
  κ (.agg l25) H24) none) (
  (ldV H21 i1 9).bind fun v26 =>
  (ldI H21 .i64 i3 5).bind fun n27 =>
  idxS 3 v26 n27 fun p28 o29 =>
  (ldI H21 .i64 p28 (o29 + 1)).bind fun n30 =>
  cond (n30 == x1) (
  (ldI (Heap.skip H21 9) .i64 i3 1).bind fun n31 =>
  (ldI (Heap.skip H21 9) .i64 i1 4).bind fun n32 =>
  (stN (Heap.skip H21 9) (H6.next + 14) 0 [(.int .i64 1)]).bind fun H33 =>
  (ldI H33 .i64 i1 4).bind fun n34 =>
  cond (decide (n32 = n34)) (
  (ldI H33 .i64 i3 1).bind fun n35 =>
  cond (decide (n31 = n35)) (
  (stN H33 (H6.next + 14) 5 [(.int .i64 (IntKind.i64.wrap (n31 + n32)))]).bind fun H36 =>
  ldFlat H36 (H6.next + 14) [.int .i64, .int .i64, .int .i64, .int .i64, .int .i64, .int .i64] 0 fun l37 =>
  cond (Nat.beq (List.length l37) 6 && Nat.blt 0 6) (
  (stN H36 i5 0 l37).bind fun H38 =>
  ldFlat H38 i5 [.int .i64, .int .i64, .int .i64, .int .i64, .int .i64, .int .i64] 0 fun l39 =>
  κ (.agg l39) H38) none) none) none) (
  (ldI (Heap.skip H21 9) .i64 i3 2).bind fun n40 =>
  (stN (Heap.skip H21 9) (H6.next + 14) 0 [(.int .i64 3)]).bind fun H41 =>
  (ldI H41 .i64 i3 2).bind fun n42 =>
  cond (decide (n40 = n42)) (
  (stN H41 (H6.next + 14) 1 [(.int .i64 (IntKind.i64.wrap (n40 - 1)))]).bind fun H43 =>
  (stN H43 (H6.next + 14) 5 [(.int .i64 0)]).bind fun H44 =>
  ldFlat H44 (H6.next + 14) [.int .i64, .int .i64, .int .i64, .int .i64, .int .i64, .int .i64] 0 fun l45 =>
  cond (Nat.beq (List.length l45) 6 && Nat.blt 0 6) (
  (stN H44 i5 0 l45).bind fun H46 =>
  ldFlat H46 i5 [.int .i64, .int .i64, .int .i64, .int .i64, .int .i64, .int .i64] 0 fun l47 =>
  κ (.agg l47) H46) none) none))) none) none) none) none) none) none) none
theorem M33_1_ok {o : Orc} {N : Nat} {κ : Kv} (x0 : List V) (x1 : Int) (x2 : List V) (H : Heap) :
    run Try.prog o N (cAt Try.f33 []) A33_0 (env0 Try.prog Try.f33 κ) (tmk 0 50 [(0, .agg x0), (1, .int .i64 x1), (2, .agg x2)]) H (env0 Try.prog Try.f33 κ).ret = M33_1 o N κ x0 x1 x2 H := by
  kernel_rfl
def M33 (o : Orc) (N : Nat) : FnM := fun vs H κ => match vs with
  | [.agg x0, .int .i64 x1, .agg x2] => M33_1 o N κ x0 x1 x2 H
  | _ => none
theorem M33_run (o : Orc) (N : Nat) (vs : List V) (H : Heap) (κ : Kv) (r) (h : M33 o N vs H κ = some r) : runFn Try.prog o N Try.f33 A33_0 vs H κ = some r := by
  unfold M33 at h
  split at h
  · rename_i x0 x1 x2
    refine (runFn_at (t := tmk 0 50 [(0, .agg x0), (1, .int .i64 x1), (2, .agg x2)]) (by kernel_rfl) (by kernel_rfl)).trans (Eq.trans ?_ h)
    exact M33_1_ok x0 x1 x2 H
  · cases h
theorem M33_sound {o : Orc} (ho : ∀ f, FSound Try.prog f (o f)) (N : Nat) : FSound Try.prog 33 (M33 o N) :=
  FSound.sub (runFn_ok (an := A33_0) (fuel := N) hmix ho (by kernel_rfl) (by kernel_rfl)) (M33_run o N)
/-! 34 ostinato/plan.Plan$1 -/
def M34_0 (o : Orc) (N : Nat) (κ : Kv) (x0 x1 x2 : Int) (x3 : V) (H : Heap) : Ans :=
  asP x3 fun p1 o2 =>
  (ldV H p1 o2).bind fun v3 =>
  newB H (.row [(.int .i64 x0), (.int .i64 x1), (.int .i64 0), (.int .i64 1), (.int .i64 x2), (.int .i64 0)]) fun i4 H5 =>
  appV H5 v3 (.sl i4 0 1 6 true) 6 fun v6 H7 =>
  asP x3 fun p8 o9 =>
  cond (Nat.beq (List.length (V.cells v6)) 1 && Nat.blt 0 1) (
  (stN H7 p8 o9 (V.cells v6)).bind fun H10 =>
  κ (.tup []) H10) none
theorem M34_0_ok {o : Orc} {N : Nat} {κ : Kv} (x0 x1 x2 : Int) (x3 : V) (H : Heap) :
    run Try.prog o N (cAt Try.f34 []) .n (env0 Try.prog Try.f34 κ) (tmk 0 14 [(0, .int .i64 x0), (1, .int .i64 x1), (2, .int .i64 x2), (3, x3)]) H (env0 Try.prog Try.f34 κ).ret = M34_0 o N κ x0 x1 x2 x3 H := by
  kernel_rfl
def M34 (o : Orc) (N : Nat) : FnM := fun vs H κ => match vs with
  | [.int .i64 x0, .int .i64 x1, .int .i64 x2, x3] => M34_0 o N κ x0 x1 x2 x3 H
  | _ => none
theorem M34_run (o : Orc) (N : Nat) (vs : List V) (H : Heap) (κ : Kv) (r) (h : M34 o N vs H κ = some r) : runFn Try.prog o N Try.f34 .n vs H κ = some r := by
  unfold M34 at h
  split at h
  · rename_i x0 x1 x2 x3
    refine (runFn_at (t := tmk 0 14 [(0, .int .i64 x0), (1, .int .i64 x1), (2, .int .i64 x2), (3, x3)]) (by kernel_rfl) (by kernel_rfl)).trans (Eq.trans ?_ h)
    exact M34_0_ok x0 x1 x2 x3 H
  · cases h
theorem M34_sound {o : Orc} (ho : ∀ f, FSound Try.prog f (o f)) (N : Nat) : FSound Try.prog 34 (M34 o N) :=
  FSound.sub (runFn_ok (an := .n) (fuel := N) hmix ho (by kernel_rfl) (by kernel_rfl)) (M34_run o N)
/-! 35 ostinato/matrix.Rank -/
def M35_0 (o : Orc) (N : Nat) (κ : Kv) (x0 : List V) (x1 : Int) (H : Heap) : Ans :=
  cond (List.all x0 V.one) (
  newB H (.row x0) fun i1 H2 =>
  (ldV H2 i1 8).bind fun v3 =>
  o 54 [v3, (.int .i64 x1)] H2 fun v4 H5 =>
  asI .i64 v4 fun n6 =>
  κ (.int .i64 n6) H5) none
theorem M35_0_ok {o : Orc} {N : Nat} {κ : Kv} (x0 : List V) (x1 : Int) (H : Heap) :
    run Try.prog o N (cAt Try.f35 []) .n (env0 Try.prog Try.f35 κ) (tmk 0 9 [(0, .agg x0), (1, .int .i64 x1)]) H (env0 Try.prog Try.f35 κ).ret = M35_0 o N κ x0 x1 H := by
  kernel_rfl
def M35 (o : Orc) (N : Nat) : FnM := fun vs H κ => match vs with
  | [.agg x0, .int .i64 x1] => M35_0 o N κ x0 x1 H
  | _ => none
theorem M35_run (o : Orc) (N : Nat) (vs : List V) (H : Heap) (κ : Kv) (r) (h : M35 o N vs H κ = some r) : runFn Try.prog o N Try.f35 .n vs H κ = some r := by
  unfold M35 at h
  split at h
  · rename_i x0 x1
    refine (runFn_at (t := tmk 0 9 [(0, .agg x0), (1, .int .i64 x1)]) (by kernel_rfl) (by kernel_rfl)).trans (Eq.trans ?_ h)
    exact M35_0_ok x0 x1 H
  · cases h
theorem M35_sound {o : Orc} (ho : ∀ f, FSound Try.prog f (o f)) (N : Nat) : FSound Try.prog 35 (M35 o N) :=
  FSound.sub (runFn_ok (an := .n) (fuel := N) hmix ho (by kernel_rfl) (by kernel_rfl)) (M35_run o N)
/-! 36 slices.SortStableFunc[[]ostinato/api.Trigger,ostinato/api.Trigger] -/
def M36_0 (o : Orc) (N : Nat) (κ : Kv) (x0 x1 : V) (H : Heap) : Ans :=
  lenS x0 fun n1 =>
  o 55 [x0, (.int .i64 n1), x1] H fun v2 H3 =>
  asT0 v2 (
  κ (.tup []) H3)
theorem M36_0_ok {o : Orc} {N : Nat} {κ : Kv} (x0 x1 : V) (H : Heap) :
    run Try.prog o N (cAt Try.f36 []) .n (env0 Try.prog Try.f36 κ) (tmk 0 9 [(0, x0), (1, x1)]) H (env0 Try.prog Try.f36 κ).ret = M36_0 o N κ x0 x1 H := by
  kernel_rfl
def M36 (o : Orc) (N : Nat) : FnM := fun vs H κ => match vs with
  | [x0, x1] => M36_0 o N κ x0 x1 H
  | _ => none
theorem M36_run (o : Orc) (N : Nat) (vs : List V) (H : Heap) (κ : Kv) (r) (h : M36 o N vs H κ = some r) : runFn Try.prog o N Try.f36 .n vs H κ = some r := by
  unfold M36 at h
  split at h
  · rename_i x0 x1
    refine (runFn_at (t := tmk 0 9 [(0, x0), (1, x1)]) (by kernel_rfl) (by kernel_rfl)).trans (Eq.trans ?_ h)
    exact M36_0_ok x0 x1 H
  · cases h
theorem M36_sound {o : Orc} (ho : ∀ f, FSound Try.prog f (o f)) (N : Nat) : FSound Try.prog 36 (M36 o N) :=
  FSound.sub (runFn_ok (an := .n) (fuel := N) hmix ho (by kernel_rfl) (by kernel_rfl)) (M36_run o N)
/-! 37 ostinato/plan.Plan$2 -/
def M37_0 (o : Orc) (N : Nat) (κ : Kv) (x0 x1 : List V) (H : Heap) : Ans :=
  cond (List.all x0 V.one) (
  newB H (.row x0) fun i1 H2 =>
  cond (List.all x1 V.one) (
  newB H2 (.row x1) fun i3 H4 =>
  (ldI H4 .i64 i1 1).bind fun n5 =>
  (ldI H4 .i64 i3 1).bind fun n6 =>
  o 38 [(.int .i64 n5), (.int .i64 n6)] H4 fun v7 H8 =>
  asI .i64 v7 fun n9 =>
  κ (.int .i64 n9) H8) none) none
theorem M37_0_ok {o : Orc} {N : Nat} {κ : Kv} (x0 x1 : List V) (H : Heap) :
    run Try.prog o N (cAt Try.f37 []) .n (env0 Try.prog Try.f37 κ) (tmk 0 10 [(0, .agg x0), (1, .agg x1)]) H (env0 Try.prog Try.f37 κ).ret = M37_0 o N κ x0 x1 H := by
  kernel_rfl
def M37 (o : Orc) (N : Nat) : FnM := fun vs H κ => match vs with
  | [.agg x0, .agg x1] => M37_0 o N κ x0 x1 H
  | _ => none
theorem M37_run (o : Orc) (N : Nat) (vs : List V) (H : Heap) (κ : Kv) (r) (h : M37 o N vs H κ = some r) : runFn Try.prog o N Try.f37 .n vs H κ = some r := by
  unfold M37 at h
  split at h
  · rename_i x0 x1
    refine (runFn_at (t := tmk 0 10 [(0, .agg x0), (1, .agg x1)]) (by kernel_rfl) (by kernel_rfl)).trans (Eq.trans ?_ h)
    exact M37_0_ok x0 x1 H
  · cases h
theorem M37_sound {o : Orc} (ho : ∀ f, FSound Try.prog f (o f)) (N : Nat) : FSound Try.prog 37 (M37 o N) :=
  FSound.sub (runFn_ok (an := .n) (fuel := N) hmix ho (by kernel_rfl) (by kernel_rfl)) (M37_run o N)
/-! 38 cmp.Compare[int] -/
def M38_0 (o : Orc) (N : Nat) (κ : Kv) (x0 x1 : Int) (H : Heap) : Ans :=
  o 56 [(.int .i64 x0)] H fun v1 H2 =>
  asB v1 fun b3 =>
  o 56 [(.int .i64 x1)] H2 fun v4 H5 =>
  asB v4 fun b6 =>
  cond b3 (
  cond b6 (
  κ (.int .i64 0) H5) (
  κ (.int .i64 (-1)) H5)) (
  cond b6 (
  κ (.int .i64 1) H5) (
  cond (decide (x0 < x1)) (
  κ (.int .i64 (-1)) H5) (
  cond (decide (x0 > x1)) (
  κ (.int .i64 1) H5) (
  κ (.int .i64 0) H5))))
theorem M38_0_ok {o : Orc} {N : Nat} {κ : Kv} (x0 x1 : Int) (H : Heap) :
    run Try.prog o N (cAt Try.f38 []) .n (env0 Try.prog Try.f38 κ) (tmk 0 20 [(0, .int .i64 x0), (1, .int .i64 x1)]) H (env0 Try.prog Try.f38 κ).ret = M38_0 o N κ x0 x1 H := by
  kernel_rfl
def M38 (o : Orc) (N : Nat) : FnM := fun vs H κ => match vs with
  | [.int .i64 x0, .int .i64 x1] => M38_0 o N κ x0 x1 H
  | _ => none
theorem M38_run (o : Orc) (N : Nat) (vs : List V) (H : Heap) (κ : Kv) (r) (h : M38 o N vs H κ = some r) : runFn Try.prog o N Try.f38 .n vs H κ = some r := by
  unfold M38 at h
  split at h
  · rename_i x0 x1
    refine (runFn_at (t := tmk 0 20 [(0, .int .i64 x0), (1, .int .i64 x1)]) (by kernel_rfl) (by kernel_rfl)).trans (Eq.trans ?_ h)
    exact M38_0_ok x0 x1 H
  · cases h
theorem M38_sound {o : Orc} (ho : ∀ f, FSound Try.prog f (o f)) (N : Nat) : FSound Try.prog 38 (M38 o N) :=
  FSound.sub (runFn_ok (an := .n) (fuel := N) hmix ho (by kernel_rfl) (by kernel_rfl)) (M38_run o N)
/-! 39 ostinato/ostinatoref12.Step -/
def A39_0 : An := (.s .n none (.s .n none (.s (.d [0, 2, 3, 1, 4, 5]) none .n)))
def M39_1 (o : Orc) (N : Nat) (κ : Kv) (x0 : List V) (H : Heap) : Ans :=
  cond (List.all x0 V.one) (
  newB H (.row x0) fun i1 H2 =>
  ldFlat H2 i1 [.int .i64, .int .i64, .int .i64, .int .i64, .int .i64, .int .i64, .int .i64, .int .u32, .oth, .oth, .oth] 0 fun l3 =>
  o 18 [(.agg l3)] H2 fun v4 H5 =>
  asB v4 fun b6 =>
  cond (!b6) (
  κ (.int .i64 0) H5) (
  ldFlat (Heap.skip H5 6) i1 [.int .i64, .int .i64, .int .i64, .int .i64, .int .i64, .int .i64, .int .i64, .int .u32, .oth, .oth, .oth] 0 fun l7 =>
  (ldI (Heap.skip H5 6) .i64 i1 4).bind fun n8 =>
  o 57 [(.agg l7), (.int .i64 140)] (Heap.skip H5 6) fun v9 H10 =>
  asI .i64 v9 fun n11 =>
  (ldI H10 .i64 i1 4).bind fun n12 =>
  cond (decide (n8 = n12)) (
  κ (.int .i64 (IntKind.i64.wrap (n11 + n8))) H10) none)) none
theorem M39_1_ok {o : Orc} {N : Nat} {κ : Kv} (x0 : List V) (H : Heap) :
    run Try.prog o N (cAt Try.f39 []) A39_0 (env0 Try.prog Try.f39 κ) (tmk 0 11 [(0, .agg x0)]) H (env0 Try.prog Try.f39 κ).ret = M39_1 o N κ x0 H := by
  kernel_rfl
def M39 (o : Orc) (N : Nat) : FnM := fun vs H κ => match vs with
  | [.agg x0] => M39_1 o N κ x0 H
  | _ => none
theorem M39_run (o : Orc) (N : Nat) (vs : List V) (H : Heap) (κ : Kv) (r) (h : M39 o N vs H κ = some r) : runFn Try.prog o N Try.f39 A39_0 vs H κ = some r := by
  unfold M39 at h
  split at h
  · rename_i x0
    refine (runFn_at (t := tmk 0 11 [(0, .agg x0)]) (by kernel_rfl) (by kernel_rfl)).trans (Eq.trans ?_ h)
    exact M39_1_ok x0 H
  · cases h
theorem M39_sound {o : Orc} (ho : ∀ f, FSound Try.prog f (o f)) (N : Nat) : FSound Try.prog 39 (M39 o N) :=
  FSound.sub (runFn_ok (an := A39_0) (fuel := N) hmix ho (by kernel_rfl) (by kernel_rfl)) (M39_run o N)
/-! 40 ostinato/ostinatoref12.laid -/
def M40_0 (o : Orc) (N : Nat) (J : V → Nat → Heap → Ans) (κ : Kv) (x0 : V) (x1 : List V) (H : Heap) : Ans :=
  cond (List.all x1 V.one) (
  newB H (.row x1) fun i1 H2 =>
  J x0 i1 H2) none
theorem M40_0_ok {o : Orc} {N : Nat} {κ : Kv} {J : Kt} {J' : V → Nat → Heap → Ans} (hJ : ∀ x0 x3 H, J (tmk 0 35 [(0, x0), (3, .ptr x3 0)]) H = J' x0 x3 H) (x0 : V) (x1 : List V) (H : Heap) :
    run Try.prog o N (cAt Try.f40 [0]) .n (env0 Try.prog Try.f40 κ) (tmk 0 35 [(0, x0), (1, .agg x1)]) H (kj [0, 3] J) = M40_0 o N J' κ x0 x1 H := by
  obtain rfl := fx3 hJ
  kernel_rfl
def M40_1 (o : Orc) (N : Nat) (J : V → Nat → Int → Heap → Ans) (κ : Kv) (x0 : V) (x3 : Nat) (H : Heap) : Ans :=
  J x0 x3 0 H
theorem M40_1_ok {o : Orc} {N : Nat} {κ : Kv} {J : Kt} {J' : V → Nat → Int → Heap → Ans} (hJ : ∀ x0 x3 x5 H, J (tmk 0 35 [(0, x0), (3, .ptr x3 0), (5, .int .i64 x5)]) H = J' x0 x3 x5 H) (x0 : V) (x3 : Nat) (H : Heap) :
    run Try.prog o N (cAt Try.f40 [1, 0]) .n (env0 Try.prog Try.f40 κ) (tmk 0 35 [(0, x0), (3, .ptr x3 0)]) H (kj [0, 3, 5] J) = M40_1 o N J' κ x0 x3 H := by
  obtain rfl := fx4 hJ
  kernel_rfl
def A40_2 : An := (.s (.s (.d [0, 1, 2, 3, 4, 5, 6, 7, 8, 9, 10, 11, 12, 13]) none .n) none .n)
def M40_3 (o : Orc) (N : Nat) (X0 : V → Nat → Int → Heap → Ans) (J : V → Nat → Int → Heap → Ans) (κ : Kv) (x0 : V) (x3 : Nat) (x5 : Int) (H : Heap) : Ans :=
  lenS x0 fun n3 =>
  cond (decide (x5 < n3)) (
  idxS 6 x0 x5 fun p4 o5 =>
  (ldI (Heap.skip H 14) .i64 p4 (o5 + 1)).bind fun n6 =>
  (ldI (Heap.skip H 14) .i64 x3 1).bind fun n7 =>
  cond (decide (n6 ≤ n7)) (
  J x0 x3 (IntKind.i64.wrap (x5 + 1)) (Heap.skip H 14)) (
  X0 x0 x3 x5 (Heap.skip H 14))) (
  X0 x0 x3 x5 (Heap.skip H 14))
theorem M40_3_ok {o : Orc} {N : Nat} {κ : Kv} {X0 J : Kt} {X0' : V → Nat → Int → Heap → Ans} {J' : V → Nat → Int → Heap → Ans} (h0 : ∀ x0 x3 x5 H, X0 (tmk 0 35 [(0, x0), (3, .ptr x3 0), (5, .int .i64 x5)]) H = X0' x0 x3 x5 H) (hJ : ∀ x0 x3 x5 H, J (tmk 0 35 [(0, x0), (3, .ptr x3 0), (5, .int .i64 x5)]) H = J' x0 x3 x5 H) (x0 : V) (x3 : Nat) (x5 : Int) (H : Heap) :
    run Try.prog o N (cAt Try.f40 [1, 1, 0, 4, 4]) A40_2 ((env0 Try.prog Try.f40 κ).block 0 (kj [0, 3, 5] X0)) (tmk 0 35 [(0, x0), (3, .ptr x3 0), (5, .int .i64 x5)]) H (kj [0, 3, 5] J) = M40_3 o N X0' J' κ x0 x3 x5 H := by
  obtain rfl := fx4 h0
  obtain rfl := fx4 hJ
  kernel_rfl
def M40_4 (o : Orc) (N : Nat) (X0 : V → Nat → Int → Heap → Ans) (κ : Kv) (n : Nat) : V → Nat → Int → Heap → Ans :=
  Nat.rec (motive := fun _ => V → Nat → Int → Heap → Ans) (fun _ _ _ _ => none) (fun _ ih x0 x3 x5 H => M40_3 o N X0 ih κ x0 x3 x5 H) n
theorem M40_4_s (o : Orc) (N : Nat) (X0 : V → Nat → Int → Heap → Ans) (κ : Kv) (n : Nat) (x0 : V) (x3 : Nat) (x5 : Int) (H : Heap) : M40_4 o N X0 κ (n + 1) x0 x3 x5 H = M40_3 o N X0 (M40_4 o N X0 κ n) κ x0 x3 x5 H := rfl
theorem M40_4_ok {o : Orc} {N : Nat} {κ : Kv} {X0 : Kt} {X0' : V → Nat → Int → Heap → Ans} (h0 : ∀ x0 x3 x5 H, X0 (tmk 0 35 [(0, x0), (3, .ptr x3 0), (5, .int .i64 x5)]) H = X0' x0 x3 x5 H) (n : Nat) : ∀ (x0 : V) (x3 : Nat) (x5 : Int) (H : Heap),
    rounds (fun a H k => run Try.prog o N (cAt Try.f40 [1, 1, 0, 4, 4]) A40_2 ((env0 Try.prog Try.f40 κ).block 0 (kj [0, 3, 5] X0)) a H k) (some (lvOf [0, 3, 5])) n (tmk 0 35 [(0, x0), (3, .ptr x3 0), (5, .int .i64 x5)]) H = M40_4 o N X0' κ n x0 x3 x5 H := by
  induction n with
  | zero => intros; rfl
  | succ n ih =>
    intro x0 x3 x5 H
    refine (run_round.trans ?_).trans (M40_4_s ..).symm
    exact M40_3_ok h0 ih x0 x3 x5 H
def A40_5 : An := .b none (.l (some (lvOf [0, 3, 5])) A40_2)
def A40_6 : An := (.s (.d [0, 1, 2, 4, 3, 5, 6, 7]) none .n)
def M40_7 (o : Orc) (N : Nat) (κ : Kv) (x0 : V) (x3 : Nat) (x5 : Int) (H : Heap) : Ans :=
  slS 6 x0 none (some (.int .i64 x5)) fun v8 =>
  ldFlat (Heap.skip H 8) x3 [.int .i64, .int .i64, .int .i64, .int .i64, .int .i64, .int .i64] 0 fun l9 =>
  appV (Heap.skip H 8) .nils v8 6 fun v10 H11 =>
  ldFlat H11 x3 [.int .i64, .int .i64, .int .i64, .int .i64, .int .i64, .int .i64] 0 fun l12 =>
  cond (sameL l9 l12) (
  (fillV (fun i => some (i * 6, 6)) [(.int .i64 0), (.int .i64 0), (.int .i64 0), (.int .i64 0), (.int .i64 0), (.int .i64 0)] [(0, (.agg l9))]).bind fun l13 =>
  appV (Heap.newAt H11 (H.next + 5) (.row l13)) v10 (.sl (H.next + 5) 0 1 6 true) 6 fun v14 H15 =>
  slS 6 x0 (some (.int .i64 x5)) none fun v16 =>
  appV H15 v14 v16 6 fun v17 H18 =>
  κ v17 H18) none
theorem M40_7_ok {o : Orc} {N : Nat} {κ : Kv} (x0 : V) (x3 : Nat) (x5 : Int) (H : Heap) :
    run Try.prog o N (cAt Try.f40 [1, 1, 1]) A40_6 (env0 Try.prog Try.f40 κ) (tmk 0 35 [(0, x0), (3, .ptr x3 0), (5, .int .i64 x5)]) H (env0 Try.prog Try.f40 κ).ret = M40_7 o N κ x0 x3 x5 H := by
  kernel_rfl
def A40_8 : An := .s .n (some (lvOf [0, 3, 5])) (.s A40_5 (some (lvOf [0, 3, 5])) A40_6)
def M40 (o : Orc) (N : Nat) : FnM := fun vs H κ => match vs with
  | [x0, .agg x1] => M40_0 o N (fun x0 x3 H => M40_1 o N (fun x0 x3 x5 H => M40_4 o N (fun x0 x3 x5 H => M40_7 o N κ x0 x3 x5 H) κ N x0 x3 x5 H) κ x0 x3 H) κ x0 x1 H
  | _ => none
theorem M40_run (o : Orc) (N : Nat) (vs : List V) (H : Heap) (κ : Kv) (r) (h : M40 o N vs H κ = some r) : runFn Try.prog o N Try.f40 (.s .n (some (lvOf [0, 3])) A40_8) vs H κ = some r := by
  unfold M40 at h
  split at h
  · rename_i x0 x1
    refine (runFn_at (t := tmk 0 35 [(0, x0), (1, .agg x1)]) (by kernel_rfl) (by kernel_rfl)).trans (Eq.trans ?_ h)
    refine (run_seq (x := (cAt Try.f40 [0])) (ax := .n) (y := (cAt Try.f40 [1])) (ay := A40_8) (l := [0, 3]) (by kernel_rfl) (by kernel_rfl)).trans ?_
    refine M40_0_ok ?_ x0 x1 H
    intro x0 x3 H
    refine (run_seq (x := (cAt Try.f40 [1, 0])) (ax := .n) (y := (cAt Try.f40 [1, 1])) (ay := (.s A40_5 (some (lvOf [0, 3, 5])) A40_6)) (l := [0, 3, 5]) (by kernel_rfl) (by kernel_rfl)).trans ?_
    refine M40_1_ok ?_ x0 x3 H
    intro x0 x3 x5 H
    refine (run_seq (x := (cAt Try.f40 [1, 1, 0])) (ax := A40_5) (y := (cAt Try.f40 [1, 1, 1])) (ay := A40_6) (l := [0, 3, 5]) (by kernel_rfl) (by kernel_rfl)).trans ?_
    refine (run_block (id := 0) (x := (cAt Try.f40 [1, 1, 0, 4])) (ax := (.l (some (lvOf [0, 3, 5])) A40_2)) (by kernel_rfl) (by kernel_rfl)).trans ?_
    refine (run_loop (x := (cAt Try.f40 [1, 1, 0, 4, 4])) (ax := A40_2) (l := [0, 3, 5]) (by kernel_rfl) (by kernel_rfl) (by kernel_rfl)).trans ?_
    refine M40_4_ok ?_ N x0 x3 x5 H
    intro x0 x3 x5 H
    exact M40_7_ok x0 x3 x5 H
  · cases h
theorem M40_sound {o : Orc} (ho : ∀ f, FSound Try.prog f (o f)) (N : Nat) : FSound Try.prog 40 (M40 o N) :=
  FSound.sub (runFn_ok (an := (.s .n (some (lvOf [0, 3])) A40_8)) (fuel := N) hmix ho (by kernel_rfl) (by kernel_rfl)) (M40_run o N)
/-! 41 ostinato/ostinatoref12.Rank -/
def M41_0 (o : Orc) (N : Nat) (J : Int → Nat → Heap → Ans) (κ : Kv) (x0 : List V) (x1 : Int) (H : Heap) : Ans :=
  cond (List.all x0 V.one) (
  newB H (.row x0) fun i1 H2 =>
  J x1 i1 H2) none
theorem M41_0_ok {o : Orc} {N : Nat} {κ : Kv} {J : Kt} {J' : Int → Nat → Heap → Ans} (hJ : ∀ x1 x2 H, J (tmk 0 21 [(1, .int .i64 x1), (2, .ptr x2 0)]) H = J' x1 x2 H) (x0 : List V) (x1 : Int) (H : Heap) :
    run Try.prog o N (cAt Try.f41 [0]) .n (env0 Try.prog Try.f41 κ) (tmk 0 21 [(0, .agg x0), (1, .int .i64 x1)]) H (kj [1, 2] J) = M41_0 o N J' κ x0 x1 H := by
  obtain rfl := fx3 hJ
  kernel_rfl
def M41_1 (o : Orc) (N : Nat) (J : Int → Nat → Int → Heap → Ans) (κ : Kv) (x1 : Int) (x2 : Nat) (H : Heap) : Ans :=
  J x1 x2 0 H
theorem M41_1_ok {o : Orc} {N : Nat} {κ : Kv} {J : Kt} {J' : Int → Nat → Int → Heap → Ans} (hJ : ∀ x1 x2 x5 H, J (tmk 0 21 [(1, .int .i64 x1), (2, .ptr x2 0), (5, .int .i64 x5)]) H = J' x1 x2 x5 H) (x1 : Int) (x2 : Nat) (H : Heap) :
    run Try.prog o N (cAt Try.f41 [1, 0, 0]) .n (env0 Try.prog Try.f41 κ) (tmk 0 21 [(1, .int .i64 x1), (2, .ptr x2 0)]) H (kj [1, 2, 5] J) = M41_1 o N J' κ x1 x2 H := by
  obtain rfl := fx4 hJ
  kernel_rfl
def M41_2 (o : Orc) (N : Nat) (X0 : Heap → Ans) (J : Int → Nat → Int → Heap → Ans) (κ : Kv) (x1 : Int) (x2 : Nat) (x5 : Int) (H : Heap) : Ans :=
  (ldV H x2 8).bind fun v3 =>
  lenS v3 fun n4 =>
  cond (decide (x5 < n4)) (
  (ldV H x2 8).bind fun v5 =>
  idxS 1 v5 x5 fun p6 o7 =>
  (ldI H .i64 p6 o7).bind fun n8 =>
  cond (n8 == x1) (
  κ (.int .i64 x5) H) (
  J x1 x2 (IntKind.i64.wrap (x5 + 1)) H)) (
  X0  H)
theorem M41_2_ok {o : Orc} {N : Nat} {κ : Kv} {X0 J : Kt} {X0' : Heap → Ans} {J' : Int → Nat → Int → Heap → Ans} (h0 : ∀  H, X0 (tmk 0 21 []) H = X0' H) (hJ : ∀ x1 x2 x5 H, J (tmk 0 21 [(1, .int .i64 x1), (2, .ptr x2 0), (5, .int .i64 x5)]) H = J' x1 x2 x5 H) (x1 : Int) (x2 : Nat) (x5 : Int) (H : Heap) :
    run Try.prog o N (cAt Try.f41 [1, 0, 1, 4, 4]) .n ((env0 Try.prog Try.f41 κ).block 0 (kj [] X0)) (tmk 0 21 [(1, .int .i64 x1), (2, .ptr x2 0), (5, .int .i64 x5)]) H (kj [1, 2, 5] J) = M41_2 o N X0' J' κ x1 x2 x5 H := by
  obtain rfl := fx1 h0
  obtain rfl := fx4 hJ
  kernel_rfl
def M41_3 (o : Orc) (N : Nat) (X0 : Heap → Ans) (κ : Kv) (n : Nat) : Int → Nat → Int → Heap → Ans :=
  Nat.rec (motive := fun _ => Int → Nat → Int → Heap → Ans) (fun _ _ _ _ => none) (fun _ ih x1 x2 x5 H => M41_2 o N X0 ih κ x1 x2 x5 H) n
theorem M41_3_s (o : Orc) (N : Nat) (X0 : Heap → Ans) (κ : Kv) (n : Nat) (x1 : Int) (x2 : Nat) (x5 : Int) (H : Heap) : M41_3 o N X0 κ (n + 1) x1 x2 x5 H = M41_2 o N X0 (M41_3 o N X0 κ n) κ x1 x2 x5 H := rfl
theorem M41_3_ok {o : Orc} {N : Nat} {κ : Kv} {X0 : Kt} {X0' : Heap → Ans} (h0 : ∀  H, X0 (tmk 0 21 []) H = X0' H) (n : Nat) : ∀ (x1 : Int) (x2 : Nat) (x5 : Int) (H : Heap),
    rounds (fun a H k => run Try.prog o N (cAt Try.f41 [1, 0, 1, 4, 4]) .n ((env0 Try.prog Try.f41 κ).block 0 (kj [] X0)) a H k) (some (lvOf [1, 2, 5])) n (tmk 0 21 [(1, .int .i64 x1), (2, .ptr x2 0), (5, .int .i64 x5)]) H = M41_3 o N X0' κ n x1 x2 x5 H := by
  induction n with
  | zero => intros; rfl
  | succ n ih =>
    intro x1 x2 x5 H
    refine (run_round.trans ?_).trans (M41_3_s ..).symm
    exact M41_2_ok h0 ih x1 x2 x5 H
def A41_4 : An := .s .n (some (lvOf [1, 2, 5])) (.b none (.l (some (lvOf [1, 2, 5])) .n))
def M41_5 (o : Orc) (N : Nat) (κ : Kv) (H : Heap) : Ans :=
  κ (.int .i64 (-1)) H
theorem M41_5_ok {o : Orc} {N : Nat} {κ : Kv} (H : Heap) :
    run Try.prog o N (cAt Try.f41 [1, 1]) .n (env0 Try.prog Try.f41 κ) (tmk 0 21 []) H (env0 Try.prog Try.f41 κ).ret = M41_5 o N κ  H := by
  kernel_rfl
def A41_6 : An := .s .n (some (lvOf [1, 2])) (.s A41_4 (some (lvOf [])) .n)
def M41 (o : Orc) (N : Nat) : FnM := fun vs H κ => match vs with
  | [.agg x0, .int .i64 x1] => M41_0 o N (fun x1 x2 H => M41_1 o N (fun x1 x2 x5 H => M41_3 o N (fun H => M41_5 o N κ  H) κ N x1 x2 x5 H) κ x1 x2 H) κ x0 x1 H
  | _ => none
theorem M41_run (o : Orc) (N : Nat) (vs : List V) (H : Heap) (κ : Kv) (r) (h : M41 o N vs H κ = some r) : runFn Try.prog o N Try.f41 A41_6 vs H κ = some r := by
  unfold M41 at h
  split at h
  · rename_i x0 x1
    refine (runFn_at (t := tmk 0 21 [(0, .agg x0), (1, .int .i64 x1)]) (by kernel_rfl) (by kernel_rfl)).trans (Eq.trans ?_ h)
    refine (run_seq (x := (cAt Try.f41 [0])) (ax := .n) (y := (cAt Try.f41 [1])) (ay := (.s A41_4 (some (lvOf [])) .n)) (l := [1, 2]) (by kernel_rfl) (by kernel_rfl)).trans ?_
    refine M41_0_ok ?_ x0 x1 H
    intro x1 x2 H
    refine (run_seq (x := (cAt Try.f41 [1, 0])) (ax := A41_4) (y := (cAt Try.f41 [1, 1])) (ay := .n) (l := []) (by kernel_rfl) (by kernel_rfl)).trans ?_
    refine (run_seq (x := (cAt Try.f41 [1, 0, 0])) (ax := .n) (y := (cAt Try.f41 [1, 0, 1])) (ay := (.b none (.l (some (lvOf [1, 2, 5])) .n))) (l := [1, 2, 5]) (by kernel_rfl) (by kernel_rfl)).trans ?_
    refine M41_1_ok ?_ x1 x2 H
    intro x1 x2 x5 H
    refine (run_block (id := 0) (x := (cAt Try.f41 [1, 0, 1, 4])) (ax := (.l (some (lvOf [1, 2, 5])) .n)) (by kernel_rfl) (by kernel_rfl)).trans ?_
    refine (run_loop (x := (cAt Try.f41 [1, 0, 1, 4, 4])) (ax := .n) (l := [1, 2, 5]) (by kernel_rfl) (by kernel_rfl) (by kernel_rfl)).trans ?_
    refine M41_3_ok ?_ N x1 x2 x5 H
    intro H
    exact M41_5_ok  H
  · cases h
theorem M41_sound {o : Orc} (ho : ∀ f, FSound Try.prog f (o f)) (N : Nat) : FSound Try.prog 41 (M41 o N) :=
  FSound.sub (runFn_ok (an := A41_6) (fuel := N) hmix ho (by kernel_rfl) (by kernel_rfl)) (M41_run o N)
/-! 42 ostinato/matrix.Is -/
def M42_0 (o : Orc) (N : Nat) (κ : Kv) (x0 : List V) (H : Heap) : Ans :=
  cond (List.all x0 V.one) (
  newB H (.row x0) fun i1 H2 =>
  ldFlat H2 i1 [.int .i64, .int .i64, .int .i64, .int .i64, .int .i64, .int .i64, .int .i64, .int .u32, .oth, .oth, .oth] 0 fun l3 =>
  o 58 [(.agg l3)] H2 fun v4 H5 =>
  asB v4 fun b6 =>
  cond (!b6) (
  κ (.bool false) H5) (
  (ldV H5 i1 8).bind fun v7 =>
  lenS v7 fun n8 =>
  o 59 [(.int .i64 n8), (.int .i64 1), (.int .i64 4)] H5 fun v9 H10 =>
  asB v9 fun b11 =>
  cond (!b11) (
  κ (.bool false) H10) (
  (ldV H10 i1 9).bind fun v12 =>
  lenS v12 fun n13 =>
  cond (decide (n13 > 12)) (
  κ (.bool false) H10) (
  (ldV H10 i1 10).bind fun v14 =>
  lenS v14 fun n15 =>
  cond (decide (n15 > 16)) (
  κ (.bool false) H10) (
  newB H10 (.row [.nilf]) fun i16 H17 =>
  (stN H17 i16 0 [(.fn 60 [])]).bind fun H18 =>
  (ldV H18 i1 8).bind fun v19 =>
  (ldV H18 i16 0).bind fun v20 =>
  o 64 [v19, v20] H18 fun v21 H22 =>
  asB v21 fun b23 =>
  cond (!b23) (
  (ldV H22 i1 9).bind fun v24 =>
  o 65 [v24, (.fn 61 [(.ptr i16 0)])] H22 fun v25 H26 =>
  asB v25 fun b27 =>
  cond (!b27) (
  (ldV H26 i1 10).bind fun v28 =>
  o 66 [v28, (.fn 62 [(.ptr i1 0)])] H26 fun v29 H30 =>
  asB v29 fun b31 =>
  κ (.bool (!b31)) H30) (
  κ (.bool false) H26)) (
  κ (.bool false) H22)))))) none
theorem M42_0_ok {o : Orc} {N : Nat} {κ : Kv} (x0 : List V) (H : Heap) :
    run Try.prog o N (cAt Try.f42 []) .n (env0 Try.prog Try.f42 κ) (tmk 0 49 [(0, .agg x0)]) H (env0 Try.prog Try.f42 κ).ret = M42_0 o N κ x0 H := by
  kernel_rfl
def M42 (o : Orc) (N : Nat) : FnM := fun vs H κ => match vs with
  | [.agg x0] => M42_0 o N κ x0 H
  | _ => none
theorem M42_run (o : Orc) (N : Nat) (vs : List V) (H : Heap) (κ : Kv) (r) (h : M42 o N vs H κ = some r) : runFn Try.prog o N Try.f42 .n vs H κ = some r := by
  unfold M42 at h
  split at h
  · rename_i x0
    refine (runFn_at (t := tmk 0 49 [(0, .agg x0)]) (by kernel_rfl) (by kernel_rfl)).trans (Eq.trans ?_ h)
    exact M42_0_ok x0 H
  · cases h
theorem M42_sound {o : Orc} (ho : ∀ f, FSound Try.prog f (o f)) (N : Nat) : FSound Try.prog 42 (M42 o N) :=
  FSound.sub (runFn_ok (an := .n) (fuel := N) hmix ho (by kernel_rfl) (by kernel_rfl)) (M42_run o N)
/-! 43 ostinato/check.Step -/
def A43_0 : An := (.s .n none (.s .n none (.s (.d [0, 2, 3, 1, 4, 5]) none .n)))
def M43_1 (o : Orc) (N : Nat) (κ : Kv) (x0 : List V) (H : Heap) : Ans :=
  cond (List.all x0 V.one) (
  newB H (.row x0) fun i1 H2 =>
  ldFlat H2 i1 [.int .i64, .int .i64, .int .i64, .int .i64, .int .i64, .int .i64, .int .i64, .int .u32, .oth, .oth, .oth] 0 fun l3 =>
  o 42 [(.agg l3)] H2 fun v4 H5 =>
  asB v4 fun b6 =>
  cond (!b6) (
  κ (.int .i64 0) H5) (
  ldFlat (Heap.skip H5 6) i1 [.int .i64, .int .i64, .int .i64, .int .i64, .int .i64, .int .i64, .int .i64, .int .u32, .oth, .oth, .oth] 0 fun l7 =>
  (ldI (Heap.skip H5 6) .i64 i1 4).bind fun n8 =>
  o 67 [(.agg l7), (.int .i64 140)] (Heap.skip H5 6) fun v9 H10 =>
  asI .i64 v9 fun n11 =>
  (ldI H10 .i64 i1 4).bind fun n12 =>
  cond (decide (n8 = n12)) (
  κ (.int .i64 (IntKind.i64.wrap (n11 + n8))) H10) none)) none
theorem M43_1_ok {o : Orc} {N : Nat} {κ : Kv} (x0 : List V) (H : Heap) :
    run Try.prog o N (cAt Try.f43 []) A43_0 (env0 Try.prog Try.f43 κ) (tmk 0 11 [(0, .agg x0)]) H (env0 Try.prog Try.f43 κ).ret = M43_1 o N κ x0 H := by
  kernel_rfl
def M43 (o : Orc) (N : Nat) : FnM := fun vs H κ => match vs with
  | [.agg x0] => M43_1 o N κ x0 H
  | _ => none
theorem M43_run (o : Orc) (N : Nat) (vs : List V) (H : Heap) (κ : Kv) (r) (h : M43 o N vs H κ = some r) : runFn Try.prog o N Try.f43 A43_0 vs H κ = some r := by
  unfold M43 at h
  split at h
  · rename_i x0
    refine (runFn_at (t := tmk 0 11 [(0, .agg x0)]) (by kernel_rfl) (by kernel_rfl)).trans (Eq.trans ?_ h)
    exact M43_1_ok x0 H
  · cases h
theorem M43_sound {o : Orc} (ho : ∀ f, FSound Try.prog f (o f)) (N : Nat) : FSound Try.prog 43 (M43 o N) :=
  FSound.sub (runFn_ok (an := A43_0) (fuel := N) hmix ho (by kernel_rfl) (by kernel_rfl)) (M43_run o N)
/-! 44 ostinato/ostinatoref12.within -/
def M44_0 (o : Orc) (N : Nat) (κ : Kv) (x0 x1 x2 : Int) (H : Heap) : Ans :=
  cond (decide (x0 ≥ x1)) (
  κ (.bool (decide (x0 ≤ x2))) H) (
  κ (.bool false) H)
theorem M44_0_ok {o : Orc} {N : Nat} {κ : Kv} (x0 x1 x2 : Int) (H : Heap) :
    run Try.prog o N (cAt Try.f44 []) .n (env0 Try.prog Try.f44 κ) (tmk 0 15 [(0, .int .i64 x0), (1, .int .i64 x1), (2, .int .i64 x2)]) H (env0 Try.prog Try.f44 κ).ret = M44_0 o N κ x0 x1 x2 H := by
  kernel_rfl
def M44 (o : Orc) (N : Nat) : FnM := fun vs H κ => match vs with
  | [.int .i64 x0, .int .i64 x1, .int .i64 x2] => M44_0 o N κ x0 x1 x2 H
  | _ => none
theorem M44_run (o : Orc) (N : Nat) (vs : List V) (H : Heap) (κ : Kv) (r) (h : M44 o N vs H κ = some r) : runFn Try.prog o N Try.f44 .n vs H κ = some r := by
  unfold M44 at h
  split at h
  · rename_i x0 x1 x2
    refine (runFn_at (t := tmk 0 15 [(0, .int .i64 x0), (1, .int .i64 x1), (2, .int .i64 x2)]) (by kernel_rfl) (by kernel_rfl)).trans (Eq.trans ?_ h)
    exact M44_0_ok x0 x1 x2 H
  · cases h
theorem M44_sound {o : Orc} (ho : ∀ f, FSound Try.prog f (o f)) (N : Nat) : FSound Try.prog 44 (M44 o N) :=
  FSound.sub (runFn_ok (an := .n) (fuel := N) hmix ho (by kernel_rfl) (by kernel_rfl)) (M44_run o N)
/-! 45 ostinato/ostinatoref12.power -/
def M45_0 (o : Orc) (N : Nat) (κ : Kv) (x0 x1 : Int) (H : Heap) : Ans :=
  cond (x0 == 1) (
  κ (.bool (decide (x0 ≤ x1))) H) (
  cond (x0 == 2) (
  κ (.bool (decide (x0 ≤ x1))) H) (
  cond (x0 == 4) (
  κ (.bool (decide (x0 ≤ x1))) H) (
  cond (x0 == 8) (
  κ (.bool (decide (x0 ≤ x1))) H) (
  κ (.bool false) H))))
theorem M45_0_ok {o : Orc} {N : Nat} {κ : Kv} (x0 x1 : Int) (H : Heap) :
    run Try.prog o N (cAt Try.f45 []) .n (env0 Try.prog Try.f45 κ) (tmk 0 24 [(0, .int .i64 x0), (1, .int .i64 x1)]) H (env0 Try.prog Try.f45 κ).ret = M45_0 o N κ x0 x1 H := by
  kernel_rfl
def M45 (o : Orc) (N : Nat) : FnM := fun vs H κ => match vs with
  | [.int .i64 x0, .int .i64 x1] => M45_0 o N κ x0 x1 H
  | _ => none
theorem M45_run (o : Orc) (N : Nat) (vs : List V) (H : Heap) (κ : Kv) (r) (h : M45 o N vs H κ = some r) : runFn Try.prog o N Try.f45 .n vs H κ = some r := by
  unfold M45 at h
  split at h
  · rename_i x0 x1
    refine (runFn_at (t := tmk 0 24 [(0, .int .i64 x0), (1, .int .i64 x1)]) (by kernel_rfl) (by kernel_rfl)).trans (Eq.trans ?_ h)
    exact M45_0_ok x0 x1 H
  · cases h
theorem M45_sound {o : Orc} (ho : ∀ f, FSound Try.prog f (o f)) (N : Nat) : FSound Try.prog 45 (M45 o N) :=
  FSound.sub (runFn_ok (an := .n) (fuel := N) hmix ho (by kernel_rfl) (by kernel_rfl)) (M45_run o N)
/-! 49 ostinato/ostinatoref12.Comes -/
def M49_0 (o : Orc) (N : Nat) (κ : Kv) (x0 x1 x2 : Int) (H : Heap) : Ans :=
  cond (decide (x1 > 0)) (
  cond (decide (x0 ≥ 0)) (
  cond (decide (x2 ≥ x0)) (
  cond (decide (x1 = 0)) none (
  κ (.bool ((Int.tmod (IntKind.i64.wrap (x2 - x0)) x1) == 0)) H)) (
  κ (.bool false) H)) (
  κ (.bool false) H)) (
  κ (.bool false) H)
theorem M49_0_ok {o : Orc} {N : Nat} {κ : Kv} (x0 x1 x2 : Int) (H : Heap) :
    run Try.prog o N (cAt Try.f49 []) .n (env0 Try.prog Try.f49 κ) (tmk 0 26 [(0, .int .i64 x0), (1, .int .i64 x1), (2, .int .i64 x2)]) H (env0 Try.prog Try.f49 κ).ret = M49_0 o N κ x0 x1 x2 H := by
  kernel_rfl
def M49 (o : Orc) (N : Nat) : FnM := fun vs H κ => match vs with
  | [.int .i64 x0, .int .i64 x1, .int .i64 x2] => M49_0 o N κ x0 x1 x2 H
  | _ => none
theorem M49_run (o : Orc) (N : Nat) (vs : List V) (H : Heap) (κ : Kv) (r) (h : M49 o N vs H κ = some r) : runFn Try.prog o N Try.f49 .n vs H κ = some r := by
  unfold M49 at h
  split at h
  · rename_i x0 x1 x2
    refine (runFn_at (t := tmk 0 26 [(0, .int .i64 x0), (1, .int .i64 x1), (2, .int .i64 x2)]) (by kernel_rfl) (by kernel_rfl)).trans (Eq.trans ?_ h)
    exact M49_0_ok x0 x1 x2 H
  · cases h
theorem M49_sound {o : Orc} (ho : ∀ f, FSound Try.prog f (o f)) (N : Nat) : FSound Try.prog 49 (M49 o N) :=
  FSound.sub (runFn_ok (an := .n) (fuel := N) hmix ho (by kernel_rfl) (by kernel_rfl)) (M49_run o N)
/-! 50 ostinato/matrix.Comes -/
def M50_0 (o : Orc) (N : Nat) (κ : Kv) (x0 x1 x2 : Int) (H : Heap) : Ans :=
  cond (decide (x1 > 0)) (
  cond (decide (x0 ≥ 0)) (
  cond (decide (x2 ≥ x0)) (
  cond (decide (x1 = 0)) none (
  κ (.bool ((Int.tmod (IntKind.i64.wrap (x2 - x0)) x1) == 0)) H)) (
  κ (.bool false) H)) (
  κ (.bool false) H)) (
  κ (.bool false) H)
theorem M50_0_ok {o : Orc} {N : Nat} {κ : Kv} (x0 x1 x2 : Int) (H : Heap) :
    run Try.prog o N (cAt Try.f50 []) .n (env0 Try.prog Try.f50 κ) (tmk 0 26 [(0, .int .i64 x0), (1, .int .i64 x1), (2, .int .i64 x2)]) H (env0 Try.prog Try.f50 κ).ret = M50_0 o N κ x0 x1 x2 H := by
  kernel_rfl
def M50 (o : Orc) (N : Nat) : FnM := fun vs H κ => match vs with
  | [.int .i64 x0, .int .i64 x1, .int .i64 x2] => M50_0 o N κ x0 x1 x2 H
  | _ => none
theorem M50_run (o : Orc) (N : Nat) (vs : List V) (H : Heap) (κ : Kv) (r) (h : M50 o N vs H κ = some r) : runFn Try.prog o N Try.f50 .n vs H κ = some r := by
  unfold M50 at h
  split at h
  · rename_i x0 x1 x2
    refine (runFn_at (t := tmk 0 26 [(0, .int .i64 x0), (1, .int .i64 x1), (2, .int .i64 x2)]) (by kernel_rfl) (by kernel_rfl)).trans (Eq.trans ?_ h)
    exact M50_0_ok x0 x1 x2 H
  · cases h
theorem M50_sound {o : Orc} (ho : ∀ f, FSound Try.prog f (o f)) (N : Nat) : FSound Try.prog 50 (M50 o N) :=
  FSound.sub (runFn_ok (an := .n) (fuel := N) hmix ho (by kernel_rfl) (by kernel_rfl)) (M50_run o N)
/-! 51 ostinato/check.who -/
def M51_0 (o : Orc) (N : Nat) (κ : Kv) (x0 : List V) (H : Heap) : Ans :=
  cond (List.all x0 V.one) (
  newB H (.row x0) fun i1 H2 =>
  (ldV H2 i1 8).bind fun v3 =>
  o 70 [v3, (.fn 71 [(.ptr i1 0)])] H2 fun v4 H5 =>
  asI .i64 v4 fun n6 =>
  cond (decide (n6 ≥ 0)) (
  κ (.tup [(.int .i64 n6), (.int .i64 141)]) H5) (
  (ldV H5 i1 9).bind fun v7 =>
  o 72 [v7, (.fn 73 [(.ptr i1 0)])] H5 fun v8 H9 =>
  asI .i64 v8 fun n10 =>
  cond (decide (n10 ≥ 0)) (
  κ (.tup [(.int .i64 n10), (.int .i64 141)]) H9) (
  κ (.tup [(.int .i64 0), (.int .i64 0)]) H9))) none
theorem M51_0_ok {o : Orc} {N : Nat} {κ : Kv} (x0 : List V) (H : Heap) :
    run Try.prog o N (cAt Try.f51 []) .n (env0 Try.prog Try.f51 κ) (tmk 0 20 [(0, .agg x0)]) H (env0 Try.prog Try.f51 κ).ret = M51_0 o N κ x0 H := by
  kernel_rfl
def M51 (o : Orc) (N : Nat) : FnM := fun vs H κ => match vs with
  | [.agg x0] => M51_0 o N κ x0 H
  | _ => none
theorem M51_run (o : Orc) (N : Nat) (vs : List V) (H : Heap) (κ : Kv) (r) (h : M51 o N vs H κ = some r) : runFn Try.prog o N Try.f51 .n vs H κ = some r := by
  unfold M51 at h
  split at h
  · rename_i x0
    refine (runFn_at (t := tmk 0 20 [(0, .agg x0)]) (by kernel_rfl) (by kernel_rfl)).trans (Eq.trans ?_ h)
    exact M51_0_ok x0 H
  · cases h
theorem M51_sound {o : Orc} (ho : ∀ f, FSound Try.prog f (o f)) (N : Nat) : FSound Try.prog 51 (M51 o N) :=
  FSound.sub (runFn_ok (an := .n) (fuel := N) hmix ho (by kernel_rfl) (by kernel_rfl)) (M51_run o N)
/-! 52 ostinato/check.twice -/
def M52_0 (o : Orc) (N : Nat) (J : Nat → Heap → Ans) (κ : Kv) (x0 : List V) (H : Heap) : Ans :=
  cond (List.all x0 V.one) (
  newB H (.row x0) fun i1 H2 =>
  J i1 H2) none
theorem M52_0_ok {o : Orc} {N : Nat} {κ : Kv} {J : Kt} {J' : Nat → Heap → Ans} (hJ : ∀ x1 H, J (tmk 0 55 [(1, .ptr x1 0)]) H = J' x1 H) (x0 : List V) (H : Heap) :
    run Try.prog o N (cAt Try.f52 [0]) .n (env0 Try.prog Try.f52 κ) (tmk 0 55 [(0, .agg x0)]) H (kj [1] J) = M52_0 o N J' κ x0 H := by
  obtain rfl := fx2 hJ
  kernel_rfl
def M52_1 (o : Orc) (N : Nat) (J : Nat → V → Int → Int → Heap → Ans) (κ : Kv) (x1 : Nat) (H : Heap) : Ans :=
  (ldV H x1 8).bind fun v3 =>
  lenS v3 fun n4 =>
  J x1 v3 n4 0 H
theorem M52_1_ok {o : Orc} {N : Nat} {κ : Kv} {J : Kt} {J' : Nat → V → Int → Int → Heap → Ans} (hJ : ∀ x1 x9 x10 x11 H, J (tmk 0 55 [(1, .ptr x1 0), (9, x9), (10, .int .i64 x10), (11, .int .i64 x11)]) H = J' x1 x9 x10 x11 H) (x1 : Nat) (H : Heap) :
    run Try.prog o N (cAt Try.f52 [1, 0, 0]) .n (env0 Try.prog Try.f52 κ) (tmk 0 55 [(1, .ptr x1 0)]) H (kj [1, 9, 10, 11] J) = M52_1 o N J' κ x1 H := by
  obtain rfl := fx5 hJ
  kernel_rfl
def M52_2 (o : Orc) (N : Nat) (X0 : Nat → Heap → Ans) (J : Nat → V → Int → Int → Heap → Ans) (κ : Kv) (x1 : Nat) (x9 : V) (x10 x11 : Int) (H : Heap) : Ans :=
  cond (decide (x11 < x10)) (
  idxS 1 x9 x11 fun p5 o6 =>
  (ldI H .i64 p5 o6).bind fun n7 =>
  (ldV H x1 8).bind fun v8 =>
  slS 1 v8 none (some (.int .i64 x11)) fun v9 =>
  o 74 [v9, (.int .i64 n7)] H fun v10 H11 =>
  asB v10 fun b12 =>
  cond b12 (
  κ (.tup [(.int .i64 x11), (.int .i64 142)]) H11) (
  J x1 x9 x10 (IntKind.i64.wrap (x11 + 1)) H11)) (
  X0 x1 H)
theorem M52_2_ok {o : Orc} {N : Nat} {κ : Kv} {X0 J : Kt} {X0' : Nat → Heap → Ans} {J' : Nat → V → Int → Int → Heap → Ans} (h0 : ∀ x1 H, X0 (tmk 0 55 [(1, .ptr x1 0)]) H = X0' x1 H) (hJ : ∀ x1 x9 x10 x11 H, J (tmk 0 55 [(1, .ptr x1 0), (9, x9), (10, .int .i64 x10), (11, .int .i64 x11)]) H = J' x1 x9 x10 x11 H) (x1 : Nat) (x9 : V) (x10 x11 : Int) (H : Heap) :
    run Try.prog o N (cAt Try.f52 [1, 0, 1, 4, 4]) .n ((env0 Try.prog Try.f52 κ).block 0 (kj [1] X0)) (tmk 0 55 [(1, .ptr x1 0), (9, x9), (10, .int .i64 x10), (11, .int .i64 x11)]) H (kj [1, 9, 10, 11] J) = M52_2 o N X0' J' κ x1 x9 x10 x11 H := by
  obtain rfl := fx2 h0
  obtain rfl := fx5 hJ
  kernel_rfl
def M52_3 (o : Orc) (N : Nat) (X0 : Nat → Heap → Ans) (κ : Kv) (n : Nat) : Nat → V → Int → Int → Heap → Ans :=
  Nat.rec (motive := fun _ => Nat → V → Int → Int → Heap → Ans) (fun _ _ _ _ _ => none) (fun _ ih x1 x9 x10 x11 H => M52_2 o N X0 ih κ x1 x9 x10 x11 H) n
theorem M52_3_s (o : Orc) (N : Nat) (X0 : Nat → Heap → Ans) (κ : Kv) (n : Nat) (x1 : Nat) (x9 : V) (x10 x11 : Int) (H : Heap) : M52_3 o N X0 κ (n + 1) x1 x9 x10 x11 H = M52_2 o N X0 (M52_3 o N X0 κ n) κ x1 x9 x10 x11 H := rfl
theorem M52_3_ok {o : Orc} {N : Nat} {κ : Kv} {X0 : Kt} {X0' : Nat → Heap → Ans} (h0 : ∀ x1 H, X0 (tmk 0 55 [(1, .ptr x1 0)]) H = X0' x1 H) (n : Nat) : ∀ (x1 : Nat) (x9 : V) (x10 x11 : Int) (H : Heap),
    rounds (fun a H k => run Try.prog o N (cAt Try.f52 [1, 0, 1, 4, 4]) .n ((env0 Try.prog Try.f52 κ).block 0 (kj [1] X0)) a H k) (some (lvOf [1, 9, 10, 11])) n (tmk 0 55 [(1, .ptr x1 0), (9, x9), (10, .int .i64 x10), (11, .int .i64 x11)]) H = M52_3 o N X0' κ n x1 x9 x10 x11 H := by
  induction n with
  | zero => intros; rfl
  | succ n ih =>
    intro x1 x9 x10 x11 H
    refine (run_round.trans ?_).trans (M52_3_s ..).symm
    exact M52_2_ok h0 ih x1 x9 x10 x11 H
def A52_4 : An := .b none (.l (some (lvOf [1, 9, 10, 11])) .n)
def A52_5 : An := .s .n (some (lvOf [1, 9, 10, 11])) A52_4
def M52_6 (o : Orc) (N : Nat) (J : Nat → V → Int → Int → Heap → Ans) (κ : Kv) (x1 : Nat) (H : Heap) : Ans :=
  (ldV H x1 9).bind fun v13 =>
  lenS v13 fun n14 =>
  J x1 v13 n14 0 H
theorem M52_6_ok {o : Orc} {N : Nat} {κ : Kv} {J : Kt} {J' : Nat → V → Int → Int → Heap → Ans} (hJ : ∀ x1 x25 x26 x27 H, J (tmk 0 55 [(1, .ptr x1 0), (25, x25), (26, .int .i64 x26), (27, .int .i64 x27)]) H = J' x1 x25 x26 x27 H) (x1 : Nat) (H : Heap) :
    run Try.prog o N (cAt Try.f52 [1, 1, 0, 0]) .n (env0 Try.prog Try.f52 κ) (tmk 0 55 [(1, .ptr x1 0)]) H (kj [1, 25, 26, 27] J) = M52_6 o N J' κ x1 H := by
  obtain rfl := fx5 hJ
  kernel_rfl
def M52_7 (o : Orc) (N : Nat) (X2 : Heap → Ans) (J : Nat → V → Int → Int → Heap → Ans) (κ : Kv) (x1 : Nat) (x25 : V) (x26 x27 : Int) (H : Heap) : Ans :=
  cond (decide (x27 < x26)) (
  idxS 3 x25 x27 fun p15 o16 =>
  ldFlat H p15 [.int .u32, .int .i64, .bool] o16 fun l17 =>
  newB H (.row [(.int .u32 0), (.int .i64 0), (.bool false)]) fun i18 H19 =>
  cond (Nat.beq (List.length l17) 3 && Nat.blt 0 3) (
  (stN H19 i18 0 l17).bind fun H20 =>
  (ldI H20 .u32 i18 0).bind fun n21 =>
  (ldI H20 .u32 x1 7).bind fun n22 =>
  cond (decide (n21 ≥ n22)) (
  (ldI H20 .u32 i18 0).bind fun n23 =>
  (ldI H20 .u32 x1 7).bind fun n24 =>
  cond (decide ((IntKind.u32.wrap (n23 - n24)) < 8)) (
  κ (.tup [(.int .i64 x27), (.int .i64 142)]) H20) (
  (ldV H20 x1 9).bind fun v25 =>
  slS 3 v25 none (some (.int .i64 x27)) fun v26 =>
  o 65 [v26, (.fn 75 [(.ptr i18 0)])] H20 fun v27 H28 =>
  asB v27 fun b29 =>
  cond b29 (
  κ (.tup [(.int .i64 x27), (.int .i64 142)]) H28) (
  J x1 x25 x26 (IntKind.i64.wrap (x27 + 1)) H28))) (
  (ldV H20 x1 9).bind fun v30 =>
  slS 3 v30 none (some (.int .i64 x27)) fun v31 =>
  o 65 [v31, (.fn 75 [(.ptr i18 0)])] H20 fun v32 H33 =>
  asB v32 fun b34 =>
  cond b34 (
  κ (.tup [(.int .i64 x27), (.int .i64 142)]) H33) (
  J x1 x25 x26 (IntKind.i64.wrap (x27 + 1)) H33))) none) (
  X2  H)
theorem M52_7_ok {o : Orc} {N : Nat} {κ : Kv} {X2 J : Kt} {X2' : Heap → Ans} {J' : Nat → V → Int → Int → Heap → Ans} (h2 : ∀  H, X2 (tmk 0 55 []) H = X2' H) (hJ : ∀ x1 x25 x26 x27 H, J (tmk 0 55 [(1, .ptr x1 0), (25, x25), (26, .int .i64 x26), (27, .int .i64 x27)]) H = J' x1 x25 x26 x27 H) (x1 : Nat) (x25 : V) (x26 x27 : Int) (H : Heap) :
    run Try.prog o N (cAt Try.f52 [1, 1, 0, 1, 4, 4]) .n ((env0 Try.prog Try.f52 κ).block 2 (kj [] X2)) (tmk 0 55 [(1, .ptr x1 0), (25, x25), (26, .int .i64 x26), (27, .int .i64 x27)]) H (kj [1, 25, 26, 27] J) = M52_7 o N X2' J' κ x1 x25 x26 x27 H := by
  obtain rfl := fx1 h2
  obtain rfl := fx5 hJ
  kernel_rfl
def M52_8 (o : Orc) (N : Nat) (X2 : Heap → Ans) (κ : Kv) (n : Nat) : Nat → V → Int → Int → Heap → Ans :=
  Nat.rec (motive := fun _ => Nat → V → Int → Int → Heap → Ans) (fun _ _ _ _ _ => none) (fun _ ih x1 x25 x26 x27 H => M52_7 o N X2 ih κ x1 x25 x26 x27 H) n
theorem M52_8_s (o : Orc) (N : Nat) (X2 : Heap → Ans) (κ : Kv) (n : Nat) (x1 : Nat) (x25 : V) (x26 x27 : Int) (H : Heap) : M52_8 o N X2 κ (n + 1) x1 x25 x26 x27 H = M52_7 o N X2 (M52_8 o N X2 κ n) κ x1 x25 x26 x27 H := rfl
theorem M52_8_ok {o : Orc} {N : Nat} {κ : Kv} {X2 : Kt} {X2' : Heap → Ans} (h2 : ∀  H, X2 (tmk 0 55 []) H = X2' H) (n : Nat) : ∀ (x1 : Nat) (x25 : V) (x26 x27 : Int) (H : Heap),
    rounds (fun a H k => run Try.prog o N (cAt Try.f52 [1, 1, 0, 1, 4, 4]) .n ((env0 Try.prog Try.f52 κ).block 2 (kj [] X2)) a H k) (some (lvOf [1, 25, 26, 27])) n (tmk 0 55 [(1, .ptr x1 0), (25, x25), (26, .int .i64 x26), (27, .int .i64 x27)]) H = M52_8 o N X2' κ n x1 x25 x26 x27 H := by
  induction n with
  | zero => intros; rfl
  | succ n ih =>
    intro x1 x25 x26 x27 H
    refine (run_round.trans ?_).trans (M52_8_s ..).symm
    exact M52_7_ok h2 ih x1 x25 x26 x27 H
def A52_9 : An := .b none (.l (some (lvOf [1, 25, 26, 27])) .n)
def A52_10 : An := .s .n (some (lvOf [1, 25, 26, 27])) A52_9
def M52_11 (o : Orc) (N : Nat) (κ : Kv) (H : Heap) : Ans :=
  κ (.tup [(.int .i64 0), (.int .i64 0)]) H
theorem M52_11_ok {o : Orc} {N : Nat} {κ : Kv} (H : Heap) :
    run Try.prog o N (cAt Try.f52 [1, 1, 1]) .n (env0 Try.prog Try.f52 κ) (tmk 0 55 []) H (env0 Try.prog Try.f52 κ).ret = M52_11 o N κ  H := by
  kernel_rfl
def A52_12 : An := .s A52_5 (some (lvOf [1])) (.s A52_10 (some (lvOf [])) .n)
def M52 (o : Orc) (N : Nat) : FnM := fun vs H κ => match vs with
  | [.agg x0] => M52_0 o N (fun x1 H => M52_1 o N (fun x1 x9 x10 x11 H => M52_3 o N (fun x1 H => M52_6 o N (fun x1 x25 x26 x27 H => M52_8 o N (fun H => M52_11 o N κ  H) κ N x1 x25 x26 x27 H) κ x1 H) κ N x1 x9 x10 x11 H) κ x1 H) κ x0 H
  | _ => none
theorem M52_run (o : Orc) (N : Nat) (vs : List V) (H : Heap) (κ : Kv) (r) (h : M52 o N vs H κ = some r) : runFn Try.prog o N Try.f52 (.s .n (some (lvOf [1])) A52_12) vs H κ = some r := by
  unfold M52 at h
  split at h
  · rename_i x0
    refine (runFn_at (t := tmk 0 55 [(0, .agg x0)]) (by kernel_rfl) (by kernel_rfl)).trans (Eq.trans ?_ h)
    refine (run_seq (x := (cAt Try.f52 [0])) (ax := .n) (y := (cAt Try.f52 [1])) (ay := A52_12) (l := [1]) (by kernel_rfl) (by kernel_rfl)).trans ?_
    refine M52_0_ok ?_ x0 H
    intro x1 H
    refine (run_seq (x := (cAt Try.f52 [1, 0])) (ax := A52_5) (y := (cAt Try.f52 [1, 1])) (ay := (.s A52_10 (some (lvOf [])) .n)) (l := [1]) (by kernel_rfl) (by kernel_rfl)).trans ?_
    refine (run_seq (x := (cAt Try.f52 [1, 0, 0])) (ax := .n) (y := (cAt Try.f52 [1, 0, 1])) (ay := A52_4) (l := [1, 9, 10, 11]) (by kernel_rfl) (by kernel_rfl)).trans ?_
    refine M52_1_ok ?_ x1 H
    intro x1 x9 x10 x11 H
    refine (run_block (id := 0) (x := (cAt Try.f52 [1, 0, 1, 4])) (ax := (.l (some (lvOf [1, 9, 10, 11])) .n)) (by kernel_rfl) (by kernel_rfl)).trans ?_
    refine (run_loop (x := (cAt Try.f52 [1, 0, 1, 4, 4])) (ax := .n) (l := [1, 9, 10, 11]) (by kernel_rfl) (by kernel_rfl) (by kernel_rfl)).trans ?_
    refine M52_3_ok ?_ N x1 x9 x10 x11 H
    intro x1 H
    refine (run_seq (x := (cAt Try.f52 [1, 1, 0])) (ax := A52_10) (y := (cAt Try.f52 [1, 1, 1])) (ay := .n) (l := []) (by kernel_rfl) (by kernel_rfl)).trans ?_
    refine (run_seq (x := (cAt Try.f52 [1, 1, 0, 0])) (ax := .n) (y := (cAt Try.f52 [1, 1, 0, 1])) (ay := A52_9) (l := [1, 25, 26, 27]) (by kernel_rfl) (by kernel_rfl)).trans ?_
    refine M52_6_ok ?_ x1 H
    intro x1 x25 x26 x27 H
    refine (run_block (id := 2) (x := (cAt Try.f52 [1, 1, 0, 1, 4])) (ax := (.l (some (lvOf [1, 25, 26, 27])) .n)) (by kernel_rfl) (by kernel_rfl)).trans ?_
    refine (run_loop (x := (cAt Try.f52 [1, 1, 0, 1, 4, 4])) (ax := .n) (l := [1, 25, 26, 27]) (by kernel_rfl) (by kernel_rfl) (by kernel_rfl)).trans ?_
    refine M52_8_ok ?_ N x1 x25 x26 x27 H
    intro H
    exact M52_11_ok  H
  · cases h
theorem M52_sound {o : Orc} (ho : ∀ f, FSound Try.prog f (o f)) (N : Nat) : FSound Try.prog 52 (M52 o N) :=
  FSound.sub (runFn_ok (an := (.s .n (some (lvOf [1])) A52_12)) (fuel := N) hmix ho (by kernel_rfl) (by kernel_rfl)) (M52_run o N)
/-! 53 ostinato/check.windows -/
def M53_0 (o : Orc) (N : Nat) (J : Nat → Heap → Ans) (κ : Kv) (x0 : List V) (H : Heap) : Ans :=
  cond (List.all x0 V.one) (
  newB H (.row x0) fun i1 H2 =>
  J i1 H2) none
theorem M53_0_ok {o : Orc} {N : Nat} {κ : Kv} {J : Kt} {J' : Nat → Heap → Ans} (hJ : ∀ x1 H, J (tmk 0 74 [(1, .ptr x1 0)]) H = J' x1 H) (x0 : List V) (H : Heap) :
    run Try.prog o N (cAt Try.f53 [0]) .n (env0 Try.prog Try.f53 κ) (tmk 0 74 [(0, .agg x0)]) H (kj [1] J) = M53_0 o N J' κ x0 H := by
  obtain rfl := fx2 hJ
  kernel_rfl
def M53_1 (o : Orc) (N : Nat) (J : Nat → Int → Heap → Ans) (κ : Kv) (x1 : Nat) (H : Heap) : Ans :=
  ldFlat H x1 [.int .i64, .int .i64, .int .i64, .int .i64, .int .i64, .int .i64, .int .i64, .int .u32, .oth, .oth, .oth] 0 fun l3 =>
  o 43 [(.agg l3)] H fun v4 H5 =>
  asI .i64 v4 fun n6 =>
  J x1 n6 H5
theorem M53_1_ok {o : Orc} {N : Nat} {κ : Kv} {J : Kt} {J' : Nat → Int → Heap → Ans} (hJ : ∀ x1 x4 H, J (tmk 0 74 [(1, .ptr x1 0), (4, .int .i64 x4)]) H = J' x1 x4 H) (x1 : Nat) (H : Heap) :
    run Try.prog o N (cAt Try.f53 [1, 4, 0]) .n (env0 Try.prog Try.f53 κ) (tmk 0 74 [(1, .ptr x1 0)]) H (kj [1, 4] J) = M53_1 o N J' κ x1 H := by
  obtain rfl := fx3 hJ
  kernel_rfl
def M53_2 (o : Orc) (N : Nat) (J : Nat → Int → Heap → Ans) (κ : Kv) (x1 : Nat) (x4 : Int) (H : Heap) : Ans :=
  J x1 x4 H
theorem M53_2_ok {o : Orc} {N : Nat} {κ : Kv} {J : Kt} {J' : Nat → Int → Heap → Ans} (hJ : ∀ x1 x4 H, J (tmk 0 74 [(1, .ptr x1 0), (4, .int .i64 x4)]) H = J' x1 x4 H) (x1 : Nat) (x4 : Int) (H : Heap) :
    run Try.prog o N (cAt Try.f53 [1, 4, 1, 0]) .n (env0 Try.prog Try.f53 κ) (tmk 0 74 [(1, .ptr x1 0), (4, .int .i64 x4)]) H (kj [1, 4] J) = M53_2 o N J' κ x1 x4 H := by
  obtain rfl := fx3 hJ
  kernel_rfl
def M53_3 (o : Orc) (N : Nat) (J : Nat → Int → V → Int → Int → Heap → Ans) (κ : Kv) (x1 : Nat) (x4 : Int) (H : Heap) : Ans :=
  (ldV H x1 10).bind fun v7 =>
  lenS v7 fun n8 =>
  J x1 x4 v7 n8 0 H
theorem M53_3_ok {o : Orc} {N : Nat} {κ : Kv} {J : Kt} {J' : Nat → Int → V → Int → Int → Heap → Ans} (hJ : ∀ x1 x4 x12 x13 x14 H, J (tmk 0 74 [(1, .ptr x1 0), (4, .int .i64 x4), (12, x12), (13, .int .i64 x13), (14, .int .i64 x14)]) H = J' x1 x4 x12 x13 x14 H) (x1 : Nat) (x4 : Int) (H : Heap) :
    run Try.prog o N (cAt Try.f53 [1, 4, 1, 1, 0, 0]) .n (env0 Try.prog Try.f53 κ) (tmk 0 74 [(1, .ptr x1 0), (4, .int .i64 x4)]) H (kj [1, 4, 12, 13, 14] J) = M53_3 o N J' κ x1 x4 H := by
  obtain rfl := fx6 hJ
  kernel_rfl
def M53_4 (o : Orc) (N : Nat) (J : Nat → Int → V → Int → Int → Bool → Heap → Ans) (κ : Kv) (x1 : Nat) (x4 : Int) (x12 : V) (x13 x14 : Int) (H : Heap) : Ans :=
  J x1 x4 x12 x13 x14 (decide (x14 < x13)) H
theorem M53_4_ok {o : Orc} {N : Nat} {κ : Kv} {X0 J : Kt} {J' : Nat → Int → V → Int → Int → Bool → Heap → Ans} (hJ : ∀ x1 x4 x12 x13 x14 x15 H, J (tmk 0 74 [(1, .ptr x1 0), (4, .int .i64 x4), (12, x12), (13, .int .i64 x13), (14, .int .i64 x14), (15, .bool x15)]) H = J' x1 x4 x12 x13 x14 x15 H) (x1 : Nat) (x4 : Int) (x12 : V) (x13 x14 : Int) (H : Heap) :
    run Try.prog o N (cAt Try.f53 [1, 4, 1, 1, 0, 1, 4, 4, 0]) .n ((env0 Try.prog Try.f53 κ).block 0 (kj [] X0)) (tmk 0 74 [(1, .ptr x1 0), (4, .int .i64 x4), (12, x12), (13, .int .i64 x13), (14, .int .i64 x14)]) H (kj [1, 4, 12, 13, 14, 15] J) = M53_4 o N J' κ x1 x4 x12 x13 x14 H := by
  obtain rfl := fx7 hJ
  kernel_rfl
def M53_5 (o : Orc) (N : Nat) (X0 : Heap → Ans) (J : Nat → Int → V → Int → Int → Heap → Ans) (κ : Kv) (x1 : Nat) (x4 : Int) (x12 : V) (x13 x14 : Int) (x15 : Bool) (H : Heap) : Ans :=
  cond x15 (
  J x1 x4 x12 x13 x14 H) (
  X0  H)
theorem M53_5_ok {o : Orc} {N : Nat} {κ : Kv} {X0 J : Kt} {X0' : Heap → Ans} {J' : Nat → Int → V → Int → Int → Heap → Ans} (h0 : ∀  H, X0 (tmk 0 74 []) H = X0' H) (hJ : ∀ x1 x4 x12 x13 x14 H, J (tmk 0 74 [(1, .ptr x1 0), (4, .int .i64 x4), (12, x12), (13, .int .i64 x13), (14, .int .i64 x14)]) H = J' x1 x4 x12 x13 x14 H) (x1 : Nat) (x4 : Int) (x12 : V) (x13 x14 : Int) (x15 : Bool) (H : Heap) :
    run Try.prog o N (cAt Try.f53 [1, 4, 1, 1, 0, 1, 4, 4, 1, 0]) .n ((env0 Try.prog Try.f53 κ).block 0 (kj [] X0)) (tmk 0 74 [(1, .ptr x1 0), (4, .int .i64 x4), (12, x12), (13, .int .i64 x13), (14, .int .i64 x14), (15, .bool x15)]) H (kj [1, 4, 12, 13, 14] J) = M53_5 o N X0' J' κ x1 x4 x12 x13 x14 x15 H := by
  obtain rfl := fx1 h0
  obtain rfl := fx6 hJ
  kernel_rfl
def M53_6 (o : Orc) (N : Nat) (J : Nat → Int → Int → Nat → V → Int → Int → Heap → Ans) (κ : Kv) (x1 : Nat) (x4 : Int) (x12 : V) (x13 x14 : Int) (H : Heap) : Ans :=
  idxS 6 x12 x14 fun p9 o10 =>
  ldFlat H p9 [.int .i64, .int .i64, .int .i64, .int .i64, .int .i64, .int .i64] o10 fun l11 =>
  newB H (.row [(.int .i64 0), (.int .i64 0), (.int .i64 0), (.int .i64 0), (.int .i64 0), (.int .i64 0)]) fun i12 H13 =>
  cond (Nat.beq (List.length l11) 6 && Nat.blt 0 6) (
  (stN H13 i12 0 l11).bind fun H14 =>
  J x1 x4 x14 i12 x12 x13 x14 H14) none
theorem M53_6_ok {o : Orc} {N : Nat} {κ : Kv} {X0 X1 J : Kt} {J' : Nat → Int → Int → Nat → V → Int → Int → Heap → Ans} (hJ : ∀ x1 x4 x5 x6 x12 x13 x14 H, J (tmk 0 74 [(1, .ptr x1 0), (4, .int .i64 x4), (5, .int .i64 x5), (6, .ptr x6 0), (12, x12), (13, .int .i64 x13), (14, .int .i64 x14)]) H = J' x1 x4 x5 x6 x12 x13 x14 H) (x1 : Nat) (x4 : Int) (x12 : V) (x13 x14 : Int) (H : Heap) :
    run Try.prog o N (cAt Try.f53 [1, 4, 1, 1, 0, 1, 4, 4, 1, 1, 0, 4, 0]) .n (((env0 Try.prog Try.f53 κ).block 0 (kj [] X0)).block 1 (kj [1, 4, 12, 13, 14] X1)) (tmk 0 74 [(1, .ptr x1 0), (4, .int .i64 x4), (12, x12), (13, .int .i64 x13), (14, .int .i64 x14)]) H (kj [1, 4, 5, 6, 12, 13, 14] J) = M53_6 o N J' κ x1 x4 x12 x13 x14 H := by
  obtain rfl := fx8 hJ
  kernel_rfl
def M53_7 (o : Orc) (N : Nat) (J : Nat → Int → Int → Nat → Bool → V → Int → Int → Heap → Ans) (κ : Kv) (x1 : Nat) (x4 x5 : Int) (x6 : Nat) (x12 : V) (x13 x14 : Int) (H : Heap) : Ans :=
  (ldI H .i64 x6 0).bind fun n15 =>
  J x1 x4 x5 x6 (n15 == 1) x12 x13 x14 H
theorem M53_7_ok {o : Orc} {N : Nat} {κ : Kv} {X0 X1 J : Kt} {J' : Nat → Int → Int → Nat → Bool → V → Int → Int → Heap → Ans} (hJ : ∀ x1 x4 x5 x6 x7 x12 x13 x14 H, J (tmk 0 74 [(1, .ptr x1 0), (4, .int .i64 x4), (5, .int .i64 x5), (6, .ptr x6 0), (7, .bool x7), (12, x12), (13, .int .i64 x13), (14, .int .i64 x14)]) H = J' x1 x4 x5 x6 x7 x12 x13 x14 H) (x1 : Nat) (x4 x5 : Int) (x6 : Nat) (x12 : V) (x13 x14 : Int) (H : Heap) :
    run Try.prog o N (cAt Try.f53 [1, 4, 1, 1, 0, 1, 4, 4, 1, 1, 0, 4, 1, 0]) .n (((env0 Try.prog Try.f53 κ).block 0 (kj [] X0)).block 1 (kj [1, 4, 12, 13, 14] X1)) (tmk 0 74 [(1, .ptr x1 0), (4, .int .i64 x4), (5, .int .i64 x5), (6, .ptr x6 0), (12, x12), (13, .int .i64 x13), (14, .int .i64 x14)]) H (kj [1, 4, 5, 6, 7, 12, 13, 14] J) = M53_7 o N J' κ x1 x4 x5 x6 x12 x13 x14 H := by
  obtain rfl := fx9 hJ
  kernel_rfl
def M53_8 (o : Orc) (N : Nat) (J : Nat → Int → Int → Nat → V → Int → Int → Bool → Heap → Ans) (κ : Kv) (x1 : Nat) (x4 x5 : Int) (x6 : Nat) (x7 : Bool) (x12 : V) (x13 x14 : Int) (H : Heap) : Ans :=
  cond x7 (
  (ldI H .i64 x6 5).bind fun n16 =>
  (ldV H x1 9).bind fun v17 =>
  lenS v17 fun n18 =>
  cond (decide (n16 ≥ n18)) (
  J x1 x4 x5 x6 x12 x13 x14 true H) (
  (ldV H x1 9).bind fun v19 =>
  (ldI H .i64 x6 5).bind fun n20 =>
  idxS 3 v19 n20 fun p21 o22 =>
  (ldB H p21 (o22 + 2)).bind fun b23 =>
  J x1 x4 x5 x6 x12 x13 x14 b23 H)) (
  J x1 x4 x5 x6 x12 x13 x14 false H)
theorem M53_8_ok {o : Orc} {N : Nat} {κ : Kv} {X0 X1 X2 J : Kt} {J' : Nat → Int → Int → Nat → V → Int → Int → Bool → Heap → Ans} (hJ : ∀ x1 x4 x5 x6 x12 x13 x14 x22 H, J (tmk 0 74 [(1, .ptr x1 0), (4, .int .i64 x4), (5, .int .i64 x5), (6, .ptr x6 0), (12, x12), (13, .int .i64 x13), (14, .int .i64 x14), (22, .bool x22)]) H = J' x1 x4 x5 x6 x12 x13 x14 x22 H) (x1 : Nat) (x4 x5 : Int) (x6 : Nat) (x7 : Bool) (x12 : V) (x13 x14 : Int) (H : Heap) :
    run Try.prog o N (cAt Try.f53 [1, 4, 1, 1, 0, 1, 4, 4, 1, 1, 0, 4, 1, 1, 0, 4, 0]) .n ((((env0 Try.prog Try.f53 κ).block 0 (kj [] X0)).block 1 (kj [1, 4, 12, 13, 14] X1)).block 2 (kj [1, 4, 5, 12, 13, 14] X2)) (tmk 0 74 [(1, .ptr x1 0), (4, .int .i64 x4), (5, .int .i64 x5), (6, .ptr x6 0), (7, .bool x7), (12, x12), (13, .int .i64 x13), (14, .int .i64 x14)]) H (kj [1, 4, 5, 6, 12, 13, 14, 22] J) = M53_8 o N J' κ x1 x4 x5 x6 x7 x12 x13 x14 H := by
  obtain rfl := fx9 hJ
  kernel_rfl
def M53_9 (o : Orc) (N : Nat) (J : Nat → Int → Int → V → Int → Int → Heap → Ans) (κ : Kv) (x1 : Nat) (x4 x5 : Int) (x6 : Nat) (x12 : V) (x13 x14 : Int) (x22 : Bool) (H : Heap) : Ans :=
  cond x22 (
  κ (.tup [(.int .i64 x5), (.int .i64 145)]) H) (
  (ldI H .i64 x6 1).bind fun n24 =>
  cond (decide (n24 < x4)) (
  κ (.tup [(.int .i64 x5), (.int .i64 144)]) H) (
  (ldI H .i64 x6 0).bind fun n25 =>
  cond (n25 != 3) (
  (ldI H .i64 x6 2).bind fun n26 =>
  (ldI H .i64 x6 1).bind fun n27 =>
  cond (decide ((IntKind.i64.wrap (n26 - n27)) < x4)) (
  κ (.tup [(.int .i64 x5), (.int .i64 144)]) H) (
  J x1 x4 x5 x12 x13 x14 H)) (
  J x1 x4 x5 x12 x13 x14 H)))
theorem M53_9_ok {o : Orc} {N : Nat} {κ : Kv} {X0 X1 X2 J : Kt} {J' : Nat → Int → Int → V → Int → Int → Heap → Ans} (hJ : ∀ x1 x4 x5 x12 x13 x14 H, J (tmk 0 74 [(1, .ptr x1 0), (4, .int .i64 x4), (5, .int .i64 x5), (12, x12), (13, .int .i64 x13), (14, .int .i64 x14)]) H = J' x1 x4 x5 x12 x13 x14 H) (x1 : Nat) (x4 x5 : Int) (x6 : Nat) (x12 : V) (x13 x14 : Int) (x22 : Bool) (H : Heap) :
    run Try.prog o N (cAt Try.f53 [1, 4, 1, 1, 0, 1, 4, 4, 1, 1, 0, 4, 1, 1, 0, 4, 1]) .n ((((env0 Try.prog Try.f53 κ).block 0 (kj [] X0)).block 1 (kj [1, 4, 12, 13, 14] X1)).block 2 (kj [1, 4, 5, 12, 13, 14] X2)) (tmk 0 74 [(1, .ptr x1 0), (4, .int .i64 x4), (5, .int .i64 x5), (6, .ptr x6 0), (12, x12), (13, .int .i64 x13), (14, .int .i64 x14), (22, .bool x22)]) H (kj [1, 4, 5, 12, 13, 14] J) = M53_9 o N J' κ x1 x4 x5 x6 x12 x13 x14 x22 H := by
  obtain rfl := fx7 hJ
  kernel_rfl
def A53_10 : An := .s .n (some (lvOf [1, 4, 5, 6, 12, 13, 14, 22])) .n
def M53_11 (o : Orc) (N : Nat) (J : Nat → Int → Int → V → Int → Int → Int → Int → Heap → Ans) (κ : Kv) (x1 : Nat) (x4 x5 : Int) (x12 : V) (x13 x14 : Int) (H : Heap) : Ans :=
  J x1 x4 x5 x12 x13 x14 x5 0 H
theorem M53_11_ok {o : Orc} {N : Nat} {κ : Kv} {X0 X1 J : Kt} {J' : Nat → Int → Int → V → Int → Int → Int → Int → Heap → Ans} (hJ : ∀ x1 x4 x5 x12 x13 x14 x62 x63 H, J (tmk 0 74 [(1, .ptr x1 0), (4, .int .i64 x4), (5, .int .i64 x5), (12, x12), (13, .int .i64 x13), (14, .int .i64 x14), (62, .int .i64 x62), (63, .int .i64 x63)]) H = J' x1 x4 x5 x12 x13 x14 x62 x63 H) (x1 : Nat) (x4 x5 : Int) (x12 : V) (x13 x14 : Int) (H : Heap) :
    run Try.prog o N (cAt Try.f53 [1, 4, 1, 1, 0, 1, 4, 4, 1, 1, 0, 4, 1, 1, 1, 0, 0]) .n (((env0 Try.prog Try.f53 κ).block 0 (kj [] X0)).block 1 (kj [1, 4, 12, 13, 14] X1)) (tmk 0 74 [(1, .ptr x1 0), (4, .int .i64 x4), (5, .int .i64 x5), (12, x12), (13, .int .i64 x13), (14, .int .i64 x14)]) H (kj [1, 4, 5, 12, 13, 14, 62, 63] J) = M53_11 o N J' κ x1 x4 x5 x12 x13 x14 H := by
  obtain rfl := fx9 hJ
  kernel_rfl
def M53_12 (o : Orc) (N : Nat) (X3 : Nat → Int → V → Int → Int → Heap → Ans) (J : Nat → Int → Int → V → Int → Int → Int → Int → Heap → Ans) (κ : Kv) (x1 : Nat) (x4 x5 : Int) (x12 : V) (x13 x14 x62 x63 : Int) (H : Heap) : Ans :=
  cond (decide (x63 < x62)) (
  ldFlat H x1 [.int .i64, .int .i64, .int .i64, .int .i64, .int .i64, .int .i64, .int .i64, .int .u32, .oth, .oth, .oth] 0 fun l28 =>
  o 76 [(.agg l28), (.int .i64 x5), (.int .i64 x63)] H fun v29 H30 =>
  asB v29 fun b31 =>
  cond (!b31) (
  J x1 x4 x5 x12 x13 x14 x62 (IntKind.i64.wrap (x63 + 1)) H30) (
  κ (.tup [(.int .i64 x5), (.int .i64 143)]) H30)) (
  X3 x1 x4 x12 x13 x14 H)
theorem M53_12_ok {o : Orc} {N : Nat} {κ : Kv} {X0 X1 X3 J : Kt} {X3' : Nat → Int → V → Int → Int → Heap → Ans} {J' : Nat → Int → Int → V → Int → Int → Int → Int → Heap → Ans} (h3 : ∀ x1 x4 x12 x13 x14 H, X3 (tmk 0 74 [(1, .ptr x1 0), (4, .int .i64 x4), (12, x12), (13, .int .i64 x13), (14, .int .i64 x14)]) H = X3' x1 x4 x12 x13 x14 H) (hJ : ∀ x1 x4 x5 x12 x13 x14 x62 x63 H, J (tmk 0 74 [(1, .ptr x1 0), (4, .int .i64 x4), (5, .int .i64 x5), (12, x12), (13, .int .i64 x13), (14, .int .i64 x14), (62, .int .i64 x62), (63, .int .i64 x63)]) H = J' x1 x4 x5 x12 x13 x14 x62 x63 H) (x1 : Nat) (x4 x5 : Int) (x12 : V) (x13 x14 x62 x63 : Int) (H : Heap) :
    run Try.prog o N (cAt Try.f53 [1, 4, 1, 1, 0, 1, 4, 4, 1, 1, 0, 4, 1, 1, 1, 0, 1, 4, 4]) .n ((((env0 Try.prog Try.f53 κ).block 0 (kj [] X0)).block 1 (kj [1, 4, 12, 13, 14] X1)).block 3 (kj [1, 4, 12, 13, 14] X3)) (tmk 0 74 [(1, .ptr x1 0), (4, .int .i64 x4), (5, .int .i64 x5), (12, x12), (13, .int .i64 x13), (14, .int .i64 x14), (62, .int .i64 x62), (63, .int .i64 x63)]) H (kj [1, 4, 5, 12, 13, 14, 62, 63] J) = M53_12 o N X3' J' κ x1 x4 x5 x12 x13 x14 x62 x63 H := by
  obtain rfl := fx6 h3
  obtain rfl := fx9 hJ
  kernel_rfl
def A53_13 : An := .l (some (lvOf [1, 4, 5, 12, 13, 14, 62, 63])) .n
def M53_14 (o : Orc) (N : Nat) (X3 : Nat → Int → V → Int → Int → Heap → Ans) (κ : Kv) (n : Nat) : Nat → Int → Int → V → Int → Int → Int → Int → Heap → Ans :=
  Nat.rec (motive := fun _ => Nat → Int → Int → V → Int → Int → Int → Int → Heap → Ans) (fun _ _ _ _ _ _ _ _ _ => none) (fun _ ih x1 x4 x5 x12 x13 x14 x62 x63 H => M53_12 o N X3 ih κ x1 x4 x5 x12 x13 x14 x62 x63 H) n
theorem M53_14_s (o : Orc) (N : Nat) (X3 : Nat → Int → V → Int → Int → Heap → Ans) (κ : Kv) (n : Nat) (x1 : Nat) (x4 x5 : Int) (x12 : V) (x13 x14 x62 x63 : Int) (H : Heap) : M53_14 o N X3 κ (n + 1) x1 x4 x5 x12 x13 x14 x62 x63 H = M53_12 o N X3 (M53_14 o N X3 κ n) κ x1 x4 x5 x12 x13 x14 x62 x63 H := rfl
theorem M53_14_ok {o : Orc} {N : Nat} {κ : Kv} {X0 X1 X3 : Kt} {X3' : Nat → Int → V → Int → Int → Heap → Ans} (h3 : ∀ x1 x4 x12 x13 x14 H, X3 (tmk 0 74 [(1, .ptr x1 0), (4, .int .i64 x4), (12, x12), (13, .int .i64 x13), (14, .int .i64 x14)]) H = X3' x1 x4 x12 x13 x14 H) (n : Nat) : ∀ (x1 : Nat) (x4 x5 : Int) (x12 : V) (x13 x14 x62 x63 : Int) (H : Heap),
    rounds (fun a H k => run Try.prog o N (cAt Try.f53 [1, 4, 1, 1, 0, 1, 4, 4, 1, 1, 0, 4, 1, 1, 1, 0, 1, 4, 4]) .n ((((env0 Try.prog Try.f53 κ).block 0 (kj [] X0)).block 1 (kj [1, 4, 12, 13, 14] X1)).block 3 (kj [1, 4, 12, 13, 14] X3)) a H k) (some (lvOf [1, 4, 5, 12, 13, 14, 62, 63])) n (tmk 0 74 [(1, .ptr x1 0), (4, .int .i64 x4), (5, .int .i64 x5), (12, x12), (13, .int .i64 x13), (14, .int .i64 x14), (62, .int .i64 x62), (63, .int .i64 x63)]) H = M53_14 o N X3' κ n x1 x4 x5 x12 x13 x14 x62 x63 H := by
  induction n with
  | zero => intros; rfl
  | succ n ih =>
    intro x1 x4 x5 x12 x13 x14 x62 x63 H
    refine (run_round.trans ?_).trans (M53_14_s ..).symm
    exact M53_12_ok h3 ih x1 x4 x5 x12 x13 x14 x62 x63 H
def A53_15 : An := .s .n (some (lvOf [1, 4, 5, 12, 13, 14, 62, 63])) (.b none A53_13)
def M53_16 (o : Orc) (N : Nat) (X1 : Nat → Int → V → Int → Int → Heap → Ans) (κ : Kv) (x1 : Nat) (x4 : Int) (x12 : V) (x13 x14 : Int) (H : Heap) : Ans :=
  X1 x1 x4 x12 x13 x14 H
theorem M53_16_ok {o : Orc} {N : Nat} {κ : Kv} {X0 X1 J : Kt} {X1' : Nat → Int → V → Int → Int → Heap → Ans} (h1 : ∀ x1 x4 x12 x13 x14 H, X1 (tmk 0 74 [(1, .ptr x1 0), (4, .int .i64 x4), (12, x12), (13, .int .i64 x13), (14, .int .i64 x14)]) H = X1' x1 x4 x12 x13 x14 H) (x1 : Nat) (x4 : Int) (x12 : V) (x13 x14 : Int) (H : Heap) :
    run Try.prog o N (cAt Try.f53 [1, 4, 1, 1, 0, 1, 4, 4, 1, 1, 0, 4, 1, 1, 1, 1]) .n (((env0 Try.prog Try.f53 κ).block 0 (kj [] X0)).block 1 (kj [1, 4, 12, 13, 14] X1)) (tmk 0 74 [(1, .ptr x1 0), (4, .int .i64 x4), (12, x12), (13, .int .i64 x13), (14, .int .i64 x14)]) H (kj [1, 4, 12, 13, 14] J) = M53_16 o N X1' κ x1 x4 x12 x13 x14 H := by
  obtain rfl := fx6 h1
  kernel_rfl
def A53_17 : An := .s A53_15 (some (lvOf [1, 4, 12, 13, 14])) .n
def A53_18 : An := .s (.b none A53_10) (some (lvOf [1, 4, 5, 12, 13, 14])) A53_17
def A53_19 : An := .s .n (some (lvOf [1, 4, 5, 6, 7, 12, 13, 14])) A53_18
def A53_20 : An := .s .n (some (lvOf [1, 4, 5, 6, 12, 13, 14])) A53_19
def M53_21 (o : Orc) (N : Nat) (J : Nat → Int → V → Int → Int → Heap → Ans) (κ : Kv) (x1 : Nat) (x4 : Int) (x12 : V) (x13 x14 : Int) (H : Heap) : Ans :=
  J x1 x4 x12 x13 (IntKind.i64.wrap (x14 + 1)) H
theorem M53_21_ok {o : Orc} {N : Nat} {κ : Kv} {X0 J : Kt} {J' : Nat → Int → V → Int → Int → Heap → Ans} (hJ : ∀ x1 x4 x12 x13 x14 H, J (tmk 0 74 [(1, .ptr x1 0), (4, .int .i64 x4), (12, x12), (13, .int .i64 x13), (14, .int .i64 x14)]) H = J' x1 x4 x12 x13 x14 H) (x1 : Nat) (x4 : Int) (x12 : V) (x13 x14 : Int) (H : Heap) :
    run Try.prog o N (cAt Try.f53 [1, 4, 1, 1, 0, 1, 4, 4, 1, 1, 1]) .n ((env0 Try.prog Try.f53 κ).block 0 (kj [] X0)) (tmk 0 74 [(1, .ptr x1 0), (4, .int .i64 x4), (12, x12), (13, .int .i64 x13), (14, .int .i64 x14)]) H (kj [1, 4, 12, 13, 14] J) = M53_21 o N J' κ x1 x4 x12 x13 x14 H := by
  obtain rfl := fx6 hJ
  kernel_rfl
def A53_22 : An := .s (.b none A53_20) (some (lvOf [1, 4, 12, 13, 14])) .n
def A53_23 : An := .s .n (some (lvOf [1, 4, 12, 13, 14])) A53_22
def A53_24 : An := .s .n (some (lvOf [1, 4, 12, 13, 14, 15])) A53_23
def M53_25 (o : Orc) (N : Nat) (X0 : Heap → Ans) (J : Nat → Int → V → Int → Int → Heap → Ans) (κ : Kv) (x1 : Nat) (x4 : Int) (x12 : V) (x13 x14 : Int) (H : Heap) : Ans :=
  M53_4 o N (fun x1 x4 x12 x13 x14 x15 H => M53_5 o N X0 (fun x1 x4 x12 x13 x14 H => M53_6 o N (fun x1 x4 x5 x6 x12 x13 x14 H => M53_7 o N (fun x1 x4 x5 x6 x7 x12 x13 x14 H => M53_8 o N (fun x1 x4 x5 x6 x12 x13 x14 x22 H => M53_9 o N (fun x1 x4 x5 x12 x13 x14 H => M53_11 o N (fun x1 x4 x5 x12 x13 x14 x62 x63 H => M53_14 o N (fun x1 x4 x12 x13 x14 H => M53_16 o N (fun x1 x4 x12 x13 x14 H => M53_21 o N J κ x1 x4 x12 x13 x14 H) κ x1 x4 x12 x13 x14 H) κ N x1 x4 x5 x12 x13 x14 x62 x63 H) κ x1 x4 x5 x12 x13 x14 H) κ x1 x4 x5 x6 x12 x13 x14 x22 H) κ x1 x4 x5 x6 x7 x12 x13 x14 H) κ x1 x4 x5 x6 x12 x13 x14 H) κ x1 x4 x12 x13 x14 H) κ x1 x4 x12 x13 x14 x15 H) κ x1 x4 x12 x13 x14 H
theorem M53_25_ok {o : Orc} {N : Nat} {κ : Kv} {X0 J : Kt} {X0' : Heap → Ans} {J' : Nat → Int → V → Int → Int → Heap → Ans} (h0 : ∀  H, X0 (tmk 0 74 []) H = X0' H) (hJ : ∀ x1 x4 x12 x13 x14 H, J (tmk 0 74 [(1, .ptr x1 0), (4, .int .i64 x4), (12, x12), (13, .int .i64 x13), (14, .int .i64 x14)]) H = J' x1 x4 x12 x13 x14 H) (x1 : Nat) (x4 : Int) (x12 : V) (x13 x14 : Int) (H : Heap) :
    run Try.prog o N (cAt Try.f53 [1, 4, 1, 1, 0, 1, 4, 4]) A53_24 ((env0 Try.prog Try.f53 κ).block 0 (kj [] X0)) (tmk 0 74 [(1, .ptr x1 0), (4, .int .i64 x4), (12, x12), (13, .int .i64 x13), (14, .int .i64 x14)]) H (kj [1, 4, 12, 13, 14] J) = M53_25 o N X0' J' κ x1 x4 x12 x13 x14 H := by
  refine (run_seq (x := (cAt Try.f53 [1, 4, 1, 1, 0, 1, 4, 4, 0])) (ax := .n) (y := (cAt Try.f53 [1, 4, 1, 1, 0, 1, 4, 4, 1])) (ay := A53_23) (l := [1, 4, 12, 13, 14, 15]) (by kernel_rfl) (by kernel_rfl)).trans ?_
  refine M53_4_ok ?_ x1 x4 x12 x13 x14 H
  intro x1 x4 x12 x13 x14 x15 H
  refine (run_seq (x := (cAt Try.f53 [1, 4, 1, 1, 0, 1, 4, 4, 1, 0])) (ax := .n) (y := (cAt Try.f53 [1, 4, 1, 1, 0, 1, 4, 4, 1, 1])) (ay := A53_22) (l := [1, 4, 12, 13, 14]) (by kernel_rfl) (by kernel_rfl)).trans ?_
  refine M53_5_ok h0 ?_ x1 x4 x12 x13 x14 x15 H
  intro x1 x4 x12 x13 x14 H
  refine (run_seq (x := (cAt Try.f53 [1, 4, 1, 1, 0, 1, 4, 4, 1, 1, 0])) (ax := (.b none A53_20)) (y := (cAt Try.f53 [1, 4, 1, 1, 0, 1, 4, 4, 1, 1, 1])) (ay := .n) (l := [1, 4, 12, 13, 14]) (by kernel_rfl) (by kernel_rfl)).trans ?_
  refine (run_block (id := 1) (x := (cAt Try.f53 [1, 4, 1, 1, 0, 1, 4, 4, 1, 1, 0, 4])) (ax := A53_20) (by kernel_rfl) (by kernel_rfl)).trans ?_
  refine (run_seq (x := (cAt Try.f53 [1, 4, 1, 1, 0, 1, 4, 4, 1, 1, 0, 4, 0])) (ax := .n) (y := (cAt Try.f53 [1, 4, 1, 1, 0, 1, 4, 4, 1, 1, 0, 4, 1])) (ay := A53_19) (l := [1, 4, 5, 6, 12, 13, 14]) (by kernel_rfl) (by kernel_rfl)).trans ?_
  refine M53_6_ok ?_ x1 x4 x12 x13 x14 H
  intro x1 x4 x5 x6 x12 x13 x14 H
  refine (run_seq (x := (cAt Try.f53 [1, 4, 1, 1, 0, 1, 4, 4, 1, 1, 0, 4, 1, 0])) (ax := .n) (y := (cAt Try.f53 [1, 4, 1, 1, 0, 1, 4, 4, 1, 1, 0, 4, 1, 1])) (ay := A53_18) (l := [1, 4, 5, 6, 7, 12, 13, 14]) (by kernel_rfl) (by kernel_rfl)).trans ?_
  refine M53_7_ok ?_ x1 x4 x5 x6 x12 x13 x14 H
  intro x1 x4 x5 x6 x7 x12 x13 x14 H
  refine (run_seq (x := (cAt Try.f53 [1, 4, 1, 1, 0, 1, 4, 4, 1, 1, 0, 4, 1, 1, 0])) (ax := (.b none A53_10)) (y := (cAt Try.f53 [1, 4, 1, 1, 0, 1, 4, 4, 1, 1, 0, 4, 1, 1, 1])) (ay := A53_17) (l := [1, 4, 5, 12, 13, 14]) (by kernel_rfl) (by kernel_rfl)).trans ?_
  refine (run_block (id := 2) (x := (cAt Try.f53 [1, 4, 1, 1, 0, 1, 4, 4, 1, 1, 0, 4, 1, 1, 0, 4])) (ax := A53_10) (by kernel_rfl) (by kernel_rfl)).trans ?_
  refine (run_seq (x := (cAt Try.f53 [1, 4, 1, 1, 0, 1, 4, 4, 1, 1, 0, 4, 1, 1, 0, 4, 0])) (ax := .n) (y := (cAt Try.f53 [1, 4, 1, 1, 0, 1, 4, 4, 1, 1, 0, 4, 1, 1, 0, 4, 1])) (ay := .n) (l := [1, 4, 5, 6, 12, 13, 14, 22]) (by kernel_rfl) (by kernel_rfl)).trans ?_
  refine M53_8_ok ?_ x1 x4 x5 x6 x7 x12 x13 x14 H
  intro x1 x4 x5 x6 x12 x13 x14 x22 H
  refine M53_9_ok ?_ x1 x4 x5 x6 x12 x13 x14 x22 H
  intro x1 x4 x5 x12 x13 x14 H
  refine (run_seq (x := (cAt Try.f53 [1, 4, 1, 1, 0, 1, 4, 4, 1, 1, 0, 4, 1, 1, 1, 0])) (ax := A53_15) (y := (cAt Try.f53 [1, 4, 1, 1, 0, 1, 4, 4, 1, 1, 0, 4, 1, 1, 1, 1])) (ay := .n) (l := [1, 4, 12, 13, 14]) (by kernel_rfl) (by kernel_rfl)).trans ?_
  refine (run_seq (x := (cAt Try.f53 [1, 4, 1, 1, 0, 1, 4, 4, 1, 1, 0, 4, 1, 1, 1, 0, 0])) (ax := .n) (y := (cAt Try.f53 [1, 4, 1, 1, 0, 1, 4, 4, 1, 1, 0, 4, 1, 1, 1, 0, 1])) (ay := (.b none A53_13)) (l := [1, 4, 5, 12, 13, 14, 62, 63]) (by kernel_rfl) (by kernel_rfl)).trans ?_
  refine M53_11_ok ?_ x1 x4 x5 x12 x13 x14 H
  intro x1 x4 x5 x12 x13 x14 x62 x63 H
  refine (run_block (id := 3) (x := (cAt Try.f53 [1, 4, 1, 1, 0, 1, 4, 4, 1, 1, 0, 4, 1, 1, 1, 0, 1, 4])) (ax := A53_13) (by kernel_rfl) (by kernel_rfl)).trans ?_
  refine (run_loop (x := (cAt Try.f53 [1, 4, 1, 1, 0, 1, 4, 4, 1, 1, 0, 4, 1, 1, 1, 0, 1, 4, 4])) (ax := .n) (l := [1, 4, 5, 12, 13, 14, 62, 63]) (by kernel_rfl) (by kernel_rfl) (by kernel_rfl)).trans ?_
  refine M53_14_ok ?_ N x1 x4 x5 x12 x13 x14 x62 x63 H
  intro x1 x4 x12 x13 x14 H
  refine M53_16_ok ?_ x1 x4 x12 x13 x14 H
  intro x1 x4 x12 x13 x14 H
  exact M53_21_ok hJ x1 x4 x12 x13 x14 H
def A53_26 : An := .l (some (lvOf [1, 4, 12, 13, 14])) A53_24
def M53_27 (o : Orc) (N : Nat) (X0 : Heap → Ans) (κ : Kv) (n : Nat) : Nat → Int → V → Int → Int → Heap → Ans :=
  Nat.rec (motive := fun _ => Nat → Int → V → Int → Int → Heap → Ans) (fun _ _ _ _ _ _ => none) (fun _ ih x1 x4 x12 x13 x14 H => M53_25 o N X0 ih κ x1 x4 x12 x13 x14 H) n
theorem M53_27_s (o : Orc) (N : Nat) (X0 : Heap → Ans) (κ : Kv) (n : Nat) (x1 : Nat) (x4 : Int) (x12 : V) (x13 x14 : Int) (H : Heap) : M53_27 o N X0 κ (n + 1) x1 x4 x12 x13 x14 H = M53_25 o N X0 (M53_27 o N X0 κ n) κ x1 x4 x12 x13 x14 H := rfl
theorem M53_27_ok {o : Orc} {N : Nat} {κ : Kv} {X0 : Kt} {X0' : Heap → Ans} (h0 : ∀  H, X0 (tmk 0 74 []) H = X0' H) (n : Nat) : ∀ (x1 : Nat) (x4 : Int) (x12 : V) (x13 x14 : Int) (H : Heap),
    rounds (fun a H k => run Try.prog o N (cAt Try.f53 [1, 4, 1, 1, 0, 1, 4, 4]) A53_24 ((env0 Try.prog Try.f53 κ).block 0 (kj [] X0)) a H k) (some (lvOf [1, 4, 12, 13, 14])) n (tmk 0 74 [(1, .ptr x1 0), (4, .int .i64 x4), (12, x12), (13, .int .i64 x13), (14, .int .i64 x14)]) H = M53_27 o N X0' κ n x1 x4 x12 x13 x14 H := by
  induction n with
  | zero => intros; rfl
  | succ n ih =>
    intro x1 x4 x12 x13 x14 H
    refine (run_round.trans ?_).trans (M53_27_s ..).symm
    exact M53_25_ok h0 ih x1 x4 x12 x13 x14 H
def A53_28 : An := .s .n (some (lvOf [1, 4, 12, 13, 14])) (.b none A53_26)
def M53_29 (o : Orc) (N : Nat) (κ : Kv) (H : Heap) : Ans :=
  κ (.tup [(.int .i64 0), (.int .i64 0)]) H
theorem M53_29_ok {o : Orc} {N : Nat} {κ : Kv} (H : Heap) :
    run Try.prog o N (cAt Try.f53 [1, 4, 1, 1, 1]) .n (env0 Try.prog Try.f53 κ) (tmk 0 74 []) H (env0 Try.prog Try.f53 κ).ret = M53_29 o N κ  H := by
  kernel_rfl
def A53_30 : An := .s .n (some (lvOf [1, 4])) (.s A53_28 (some (lvOf [])) .n)
def A53_31 : An := .s .n (some (lvOf [1])) (.s .n (some (lvOf [1, 4])) A53_30)
def M53 (o : Orc) (N : Nat) : FnM := fun vs H κ => match vs with
  | [.agg x0] => M53_0 o N (fun x1 H => M53_1 o N (fun x1 x4 H => M53_2 o N (fun x1 x4 H => M53_3 o N (fun x1 x4 x12 x13 x14 H => M53_27 o N (fun H => M53_29 o N κ  H) κ N x1 x4 x12 x13 x14 H) κ x1 x4 H) κ x1 x4 H) κ x1 H) κ x0 H
  | _ => none
theorem M53_run (o : Orc) (N : Nat) (vs : List V) (H : Heap) (κ : Kv) (r) (h : M53 o N vs H κ = some r) : runFn Try.prog o N Try.f53 A53_31 vs H κ = some r := by
  unfold M53 at h
  split at h
  · rename_i x0
    refine (runFn_at (t := tmk 0 74 [(0, .agg x0)]) (by kernel_rfl) (by kernel_rfl)).trans (Eq.trans ?_ h)
    refine (run_seq (x := (cAt Try.f53 [0])) (ax := .n) (y := (cAt Try.f53 [1])) (ay := (.s .n (some (lvOf [1, 4])) A53_30)) (l := [1]) (by kernel_rfl) (by kernel_rfl)).trans ?_
    refine M53_0_ok ?_ x0 H
    intro x1 H
    refine (run_scope (x := (cAt Try.f53 [1, 4])) (by kernel_rfl)).trans ?_
    refine (run_seq (x := (cAt Try.f53 [1, 4, 0])) (ax := .n) (y := (cAt Try.f53 [1, 4, 1])) (ay := A53_30) (l := [1, 4]) (by kernel_rfl) (by kernel_rfl)).trans ?_
    refine M53_1_ok ?_ x1 H
    intro x1 x4 H
    refine (run_seq (x := (cAt Try.f53 [1, 4, 1, 0])) (ax := .n) (y := (cAt Try.f53 [1, 4, 1, 1])) (ay := (.s A53_28 (some (lvOf [])) .n)) (l := [1, 4]) (by kernel_rfl) (by kernel_rfl)).trans ?_
    refine M53_2_ok ?_ x1 x4 H
    intro x1 x4 H
    refine (run_seq (x := (cAt Try.f53 [1, 4, 1, 1, 0])) (ax := A53_28) (y := (cAt Try.f53 [1, 4, 1, 1, 1])) (ay := .n) (l := []) (by kernel_rfl) (by kernel_rfl)).trans ?_
    refine (run_seq (x := (cAt Try.f53 [1, 4, 1, 1, 0, 0])) (ax := .n) (y := (cAt Try.f53 [1, 4, 1, 1, 0, 1])) (ay := (.b none A53_26)) (l := [1, 4, 12, 13, 14]) (by kernel_rfl) (by kernel_rfl)).trans ?_
    refine M53_3_ok ?_ x1 x4 H
    intro x1 x4 x12 x13 x14 H
    refine (run_block (id := 0) (x := (cAt Try.f53 [1, 4, 1, 1, 0, 1, 4])) (ax := A53_26) (by kernel_rfl) (by kernel_rfl)).trans ?_
    refine (run_loop (x := (cAt Try.f53 [1, 4, 1, 1, 0, 1, 4, 4])) (ax := A53_24) (l := [1, 4, 12, 13, 14]) (by kernel_rfl) (by kernel_rfl) (by kernel_rfl)).trans ?_
    refine M53_27_ok ?_ N x1 x4 x12 x13 x14 H
    intro H
    exact M53_29_ok  H
  · cases h
theorem M53_sound {o : Orc} (ho : ∀ f, FSound Try.prog f (o f)) (N : Nat) : FSound Try.prog 53 (M53 o N) :=
  FSound.sub (runFn_ok (an := A53_31) (fuel := N) hmix ho (by kernel_rfl) (by kernel_rfl)) (M53_run o N)
/-! 54 slices.Index[[]int,int] -/
def M54_0 (o : Orc) (N : Nat) (J : V → Int → Heap → Ans) (κ : Kv) (x0 : V) (x1 : Int) (H : Heap) : Ans :=
  J x0 x1 H
theorem M54_0_ok {o : Orc} {N : Nat} {κ : Kv} {J : Kt} {J' : V → Int → Heap → Ans} (hJ : ∀ x0 x1 H, J (tmk 0 19 [(0, x0), (1, .int .i64 x1)]) H = J' x0 x1 H) (x0 : V) (x1 : Int) (H : Heap) :
    run Try.prog o N (cAt Try.f54 [0]) .n (env0 Try.prog Try.f54 κ) (tmk 0 19 [(0, x0), (1, .int .i64 x1)]) H (kj [0, 1] J) = M54_0 o N J' κ x0 x1 H := by
  obtain rfl := fx3 hJ
  kernel_rfl
def M54_1 (o : Orc) (N : Nat) (J : V → Int → Int → Int → Heap → Ans) (κ : Kv) (x0 : V) (x1 : Int) (H : Heap) : Ans :=
  lenS x0 fun n1 =>
  J x0 x1 n1 0 H
theorem M54_1_ok {o : Orc} {N : Nat} {κ : Kv} {J : Kt} {J' : V → Int → Int → Int → Heap → Ans} (hJ : ∀ x0 x1 x7 x8 H, J (tmk 0 19 [(0, x0), (1, .int .i64 x1), (7, .int .i64 x7), (8, .int .i64 x8)]) H = J' x0 x1 x7 x8 H) (x0 : V) (x1 : Int) (H : Heap) :
    run Try.prog o N (cAt Try.f54 [1, 0, 0]) .n (env0 Try.prog Try.f54 κ) (tmk 0 19 [(0, x0), (1, .int .i64 x1)]) H (kj [0, 1, 7, 8] J) = M54_1 o N J' κ x0 x1 H := by
  obtain rfl := fx5 hJ
  kernel_rfl
def M54_2 (o : Orc) (N : Nat) (X0 : Heap → Ans) (J : V → Int → Int → Int → Heap → Ans) (κ : Kv) (x0 : V) (x1 x7 x8 : Int) (H : Heap) : Ans :=
  cond (decide (x8 < x7)) (
  idxS 1 x0 x8 fun p2 o3 =>
  (ldI H .i64 p2 o3).bind fun n4 =>
  cond (x1 == n4) (
  κ (.int .i64 x8) H) (
  J x0 x1 x7 (IntKind.i64.wrap (x8 + 1)) H)) (
  X0  H)
theorem M54_2_ok {o : Orc} {N : Nat} {κ : Kv} {X0 J : Kt} {X0' : Heap → Ans} {J' : V → Int → Int → Int → Heap → Ans} (h0 : ∀  H, X0 (tmk 0 19 []) H = X0' H) (hJ : ∀ x0 x1 x7 x8 H, J (tmk 0 19 [(0, x0), (1, .int .i64 x1), (7, .int .i64 x7), (8, .int .i64 x8)]) H = J' x0 x1 x7 x8 H) (x0 : V) (x1 x7 x8 : Int) (H : Heap) :
    run Try.prog o N (cAt Try.f54 [1, 0, 1, 4, 4]) .n ((env0 Try.prog Try.f54 κ).block 0 (kj [] X0)) (tmk 0 19 [(0, x0), (1, .int .i64 x1), (7, .int .i64 x7), (8, .int .i64 x8)]) H (kj [0, 1, 7, 8] J) = M54_2 o N X0' J' κ x0 x1 x7 x8 H := by
  obtain rfl := fx1 h0
  obtain rfl := fx5 hJ
  kernel_rfl
def M54_3 (o : Orc) (N : Nat) (X0 : Heap → Ans) (κ : Kv) (n : Nat) : V → Int → Int → Int → Heap → Ans :=
  Nat.rec (motive := fun _ => V → Int → Int → Int → Heap → Ans) (fun _ _ _ _ _ => none) (fun _ ih x0 x1 x7 x8 H => M54_2 o N X0 ih κ x0 x1 x7 x8 H) n
theorem M54_3_s (o : Orc) (N : Nat) (X0 : Heap → Ans) (κ : Kv) (n : Nat) (x0 : V) (x1 x7 x8 : Int) (H : Heap) : M54_3 o N X0 κ (n + 1) x0 x1 x7 x8 H = M54_2 o N X0 (M54_3 o N X0 κ n) κ x0 x1 x7 x8 H := rfl
theorem M54_3_ok {o : Orc} {N : Nat} {κ : Kv} {X0 : Kt} {X0' : Heap → Ans} (h0 : ∀  H, X0 (tmk 0 19 []) H = X0' H) (n : Nat) : ∀ (x0 : V) (x1 x7 x8 : Int) (H : Heap),
    rounds (fun a H k => run Try.prog o N (cAt Try.f54 [1, 0, 1, 4, 4]) .n ((env0 Try.prog Try.f54 κ).block 0 (kj [] X0)) a H k) (some (lvOf [0, 1, 7, 8])) n (tmk 0 19 [(0, x0), (1, .int .i64 x1), (7, .int .i64 x7), (8, .int .i64 x8)]) H = M54_3 o N X0' κ n x0 x1 x7 x8 H := by
  induction n with
  | zero => intros; rfl
  | succ n ih =>
    intro x0 x1 x7 x8 H
    refine (run_round.trans ?_).trans (M54_3_s ..).symm
    exact M54_2_ok h0 ih x0 x1 x7 x8 H
def A54_4 : An := .b none (.l (some (lvOf [0, 1, 7, 8])) .n)
def M54_5 (o : Orc) (N : Nat) (κ : Kv) (H : Heap) : Ans :=
  κ (.int .i64 (-1)) H
theorem M54_5_ok {o : Orc} {N : Nat} {κ : Kv} (H : Heap) :
    run Try.prog o N (cAt Try.f54 [1, 1]) .n (env0 Try.prog Try.f54 κ) (tmk 0 19 []) H (env0 Try.prog Try.f54 κ).ret = M54_5 o N κ  H := by
  kernel_rfl
def A54_6 : An := .s (.s .n (some (lvOf [0, 1, 7, 8])) A54_4) (some (lvOf [])) .n
def M54 (o : Orc) (N : Nat) : FnM := fun vs H κ => match vs with
  | [x0, .int .i64 x1] => M54_0 o N (fun x0 x1 H => M54_1 o N (fun x0 x1 x7 x8 H => M54_3 o N (fun H => M54_5 o N κ  H) κ N x0 x1 x7 x8 H) κ x0 x1 H) κ x0 x1 H
  | _ => none
theorem M54_run (o : Orc) (N : Nat) (vs : List V) (H : Heap) (κ : Kv) (r) (h : M54 o N vs H κ = some r) : runFn Try.prog o N Try.f54 (.s .n (some (lvOf [0, 1])) A54_6) vs H κ = some r := by
  unfold M54 at h
  split at h
  · rename_i x0 x1
    refine (runFn_at (t := tmk 0 19 [(0, x0), (1, .int .i64 x1)]) (by kernel_rfl) (by kernel_rfl)).trans (Eq.trans ?_ h)
    refine (run_seq (x := (cAt Try.f54 [0])) (ax := .n) (y := (cAt Try.f54 [1])) (ay := A54_6) (l := [0, 1]) (by kernel_rfl) (by kernel_rfl)).trans ?_
    refine M54_0_ok ?_ x0 x1 H
    intro x0 x1 H
    refine (run_seq (x := (cAt Try.f54 [1, 0])) (ax := (.s .n (some (lvOf [0, 1, 7, 8])) A54_4)) (y := (cAt Try.f54 [1, 1])) (ay := .n) (l := []) (by kernel_rfl) (by kernel_rfl)).trans ?_
    refine (run_seq (x := (cAt Try.f54 [1, 0, 0])) (ax := .n) (y := (cAt Try.f54 [1, 0, 1])) (ay := A54_4) (l := [0, 1, 7, 8]) (by kernel_rfl) (by kernel_rfl)).trans ?_
    refine M54_1_ok ?_ x0 x1 H
    intro x0 x1 x7 x8 H
    refine (run_block (id := 0) (x := (cAt Try.f54 [1, 0, 1, 4])) (ax := (.l (some (lvOf [0, 1, 7, 8])) .n)) (by kernel_rfl) (by kernel_rfl)).trans ?_
    refine (run_loop (x := (cAt Try.f54 [1, 0, 1, 4, 4])) (ax := .n) (l := [0, 1, 7, 8]) (by kernel_rfl) (by kernel_rfl) (by kernel_rfl)).trans ?_
    refine M54_3_ok ?_ N x0 x1 x7 x8 H
    intro H
    exact M54_5_ok  H
  · cases h
theorem M54_sound {o : Orc} (ho : ∀ f, FSound Try.prog f (o f)) (N : Nat) : FSound Try.prog 54 (M54 o N) :=
  FSound.sub (runFn_ok (an := (.s .n (some (lvOf [0, 1])) A54_6)) (fuel := N) hmix ho (by kernel_rfl) (by kernel_rfl)) (M54_run o N)
/-! 56 cmp.isNaN[int] -/
def M56_0 (o : Orc) (N : Nat) (κ : Kv) (x0 : Int) (H : Heap) : Ans :=
  κ (.bool (x0 != x0)) H
theorem M56_0_ok {o : Orc} {N : Nat} {κ : Kv} (x0 : Int) (H : Heap) :
    run Try.prog o N (cAt Try.f56 []) .n (env0 Try.prog Try.f56 κ) (tmk 0 6 [(0, .int .i64 x0)]) H (env0 Try.prog Try.f56 κ).ret = M56_0 o N κ x0 H := by
  kernel_rfl
def M56 (o : Orc) (N : Nat) : FnM := fun vs H κ => match vs with
  | [.int .i64 x0] => M56_0 o N κ x0 H
  | _ => none
theorem M56_run (o : Orc) (N : Nat) (vs : List V) (H : Heap) (κ : Kv) (r) (h : M56 o N vs H κ = some r) : runFn Try.prog o N Try.f56 .n vs H κ = some r := by
  unfold M56 at h
  split at h
  · rename_i x0
    refine (runFn_at (t := tmk 0 6 [(0, .int .i64 x0)]) (by kernel_rfl) (by kernel_rfl)).trans (Eq.trans ?_ h)
    exact M56_0_ok x0 H
  · cases h
theorem M56_sound {o : Orc} (ho : ∀ f, FSound Try.prog f (o f)) (N : Nat) : FSound Try.prog 56 (M56 o N) :=
  FSound.sub (runFn_ok (an := .n) (fuel := N) hmix ho (by kernel_rfl) (by kernel_rfl)) (M56_run o N)
/-! 57 ostinato/ostinatoref12.Units -/
def M57_0 (o : Orc) (N : Nat) (κ : Kv) (x0 : List V) (x1 : Int) (H : Heap) : Ans :=
  cond (List.all x0 V.one) (
  newB H (.row x0) fun i1 H2 =>
  (ldI H2 .i64 i1 5).bind fun n3 =>
  cond (decide ((if n3 > 1 then n3 else 1) = 0)) none (
  cond (decide ((if n3 > 1 then n3 else 1) = 0)) none (
  cond ((Int.tmod (IntKind.i64.wrap (4 * (if (if 1000 < x1 then 1000 else x1) > 0 then (if 1000 < x1 then 1000 else x1) else 0))) (if n3 > 1 then n3 else 1)) != 0) (
  κ (.int .i64 (IntKind.i64.wrap ((IntKind.i64.wrap ((IntKind.i64.wrap (Int.tdiv (IntKind.i64.wrap (4 * (if (if 1000 < x1 then 1000 else x1) > 0 then (if 1000 < x1 then 1000 else x1) else 0))) (if n3 > 1 then n3 else 1))) + 1)) + 1))) H2) (
  κ (.int .i64 (IntKind.i64.wrap ((IntKind.i64.wrap (Int.tdiv (IntKind.i64.wrap (4 * (if (if 1000 < x1 then 1000 else x1) > 0 then (if 1000 < x1 then 1000 else x1) else 0))) (if n3 > 1 then n3 else 1))) + 1))) H2)))) none
theorem M57_0_ok {o : Orc} {N : Nat} {κ : Kv} (x0 : List V) (x1 : Int) (H : Heap) :
    run Try.prog o N (cAt Try.f57 []) .n (env0 Try.prog Try.f57 κ) (tmk 0 26 [(0, .agg x0), (1, .int .i64 x1)]) H (env0 Try.prog Try.f57 κ).ret = M57_0 o N κ x0 x1 H := by
  kernel_rfl
def M57 (o : Orc) (N : Nat) : FnM := fun vs H κ => match vs with
  | [.agg x0, .int .i64 x1] => M57_0 o N κ x0 x1 H
  | _ => none
theorem M57_run (o : Orc) (N : Nat) (vs : List V) (H : Heap) (κ : Kv) (r) (h : M57 o N vs H κ = some r) : runFn Try.prog o N Try.f57 .n vs H κ = some r := by
  unfold M57 at h
  split at h
  · rename_i x0 x1
    refine (runFn_at (t := tmk 0 26 [(0, .agg x0), (1, .int .i64 x1)]) (by kernel_rfl) (by kernel_rfl)).trans (Eq.trans ?_ h)
    exact M57_0_ok x0 x1 H
  · cases h
theorem M57_sound {o : Orc} (ho : ∀ f, FSound Try.prog f (o f)) (N : Nat) : FSound Try.prog 57 (M57 o N) :=
  FSound.sub (runFn_ok (an := .n) (fuel := N) hmix ho (by kernel_rfl) (by kernel_rfl)) (M57_run o N)
/-! 58 ostinato/matrix.head -/
def M58_0 (o : Orc) (N : Nat) (J : Nat → Heap → Ans) (κ : Kv) (x0 : List V) (H : Heap) : Ans :=
  cond (List.all x0 V.one) (
  newB H (.row x0) fun i1 H2 =>
  J i1 H2) none
theorem M58_0_ok {o : Orc} {N : Nat} {κ : Kv} {J : Kt} {J' : Nat → Heap → Ans} (hJ : ∀ x1 H, J (tmk 0 47 [(1, .ptr x1 0)]) H = J' x1 H) (x0 : List V) (H : Heap) :
    run Try.prog o N (cAt Try.f58 [0]) .n (env0 Try.prog Try.f58 κ) (tmk 0 47 [(0, .agg x0)]) H (kj [1] J) = M58_0 o N J' κ x0 H := by
  obtain rfl := fx2 hJ
  kernel_rfl
def M58_1 (o : Orc) (N : Nat) (J : Bool → Heap → Ans) (κ : Kv) (x1 : Nat) (H : Heap) : Ans :=
  (ldI H .i64 x1 0).bind fun n3 =>
  o 59 [(.int .i64 n3), (.int .i64 1), (.int .i64 2)] H fun v4 H5 =>
  asB v4 fun b6 =>
  cond b6 (
  (ldI H5 .i64 x1 1).bind fun n7 =>
  o 59 [(.int .i64 n7), (.int .i64 1), (.int .i64 8)] H5 fun v8 H9 =>
  asB v8 fun b10 =>
  cond b10 (
  (ldI H9 .i64 x1 2).bind fun n11 =>
  o 79 [(.int .i64 n11)] H9 fun v12 H13 =>
  asB v12 fun b14 =>
  cond b14 (
  (ldI H13 .i64 x1 3).bind fun n15 =>
  o 59 [(.int .i64 n15), (.int .i64 1), (.int .i64 4000)] H13 fun v16 H17 =>
  asB v16 fun b18 =>
  cond b18 (
  (ldI H17 .i64 x1 4).bind fun n19 =>
  o 59 [(.int .i64 n19), (.int .i64 1), (.int .i64 16)] H17 fun v20 H21 =>
  asB v20 fun b22 =>
  cond b22 (
  (ldI H21 .i64 x1 5).bind fun n23 =>
  o 59 [(.int .i64 n23), (.int .i64 1), (.int .i64 64)] H21 fun v24 H25 =>
  asB v24 fun b26 =>
  cond b26 (
  (ldI H25 .i64 x1 6).bind fun n27 =>
  o 59 [(.int .i64 n27), (.int .i64 0), (.int .i64 8000)] H25 fun v28 H29 =>
  asB v28 fun b30 =>
  cond b30 (
  (ldI H29 .u32 x1 7).bind fun n31 =>
  cond (decide (n31 < 2048)) (
  (ldI H29 .u32 x1 7).bind fun n32 =>
  J ((Int.tmod n32 8) == 0) H29) (
  J false H29)) (
  J false H29)) (
  J false H25)) (
  J false H21)) (
  J false H17)) (
  J false H13)) (
  J false H9)) (
  J false H5)
theorem M58_1_ok {o : Orc} {N : Nat} {κ : Kv} {J : Kt} {J' : Bool → Heap → Ans} (hJ : ∀ x2 H, J (tmk 0 47 [(2, .bool x2)]) H = J' x2 H) (x1 : Nat) (H : Heap) :
    run Try.prog o N (cAt Try.f58 [1, 0]) .n (env0 Try.prog Try.f58 κ) (tmk 0 47 [(1, .ptr x1 0)]) H (kj [2] J) = M58_1 o N J' κ x1 H := by
  obtain rfl := fx2 hJ
  kernel_rfl
def M58_2 (o : Orc) (N : Nat) (κ : Kv) (x2 : Bool) (H : Heap) : Ans :=
  κ (.bool x2) H
theorem M58_2_ok {o : Orc} {N : Nat} {κ : Kv} (x2 : Bool) (H : Heap) :
    run Try.prog o N (cAt Try.f58 [1, 1]) .n (env0 Try.prog Try.f58 κ) (tmk 0 47 [(2, .bool x2)]) H (env0 Try.prog Try.f58 κ).ret = M58_2 o N κ x2 H := by
  kernel_rfl
def A58_3 : An := .s .n (some (lvOf [1])) (.s .n (some (lvOf [2])) .n)
def M58 (o : Orc) (N : Nat) : FnM := fun vs H κ => match vs with
  | [.agg x0] => M58_0 o N (fun x1 H => M58_1 o N (fun x2 H => M58_2 o N κ x2 H) κ x1 H) κ x0 H
  | _ => none
theorem M58_run (o : Orc) (N : Nat) (vs : List V) (H : Heap) (κ : Kv) (r) (h : M58 o N vs H κ = some r) : runFn Try.prog o N Try.f58 A58_3 vs H κ = some r := by
  unfold M58 at h
  split at h
  · rename_i x0
    refine (runFn_at (t := tmk 0 47 [(0, .agg x0)]) (by kernel_rfl) (by kernel_rfl)).trans (Eq.trans ?_ h)
    refine (run_seq (x := (cAt Try.f58 [0])) (ax := .n) (y := (cAt Try.f58 [1])) (ay := (.s .n (some (lvOf [2])) .n)) (l := [1]) (by kernel_rfl) (by kernel_rfl)).trans ?_
    refine M58_0_ok ?_ x0 H
    intro x1 H
    refine (run_seq (x := (cAt Try.f58 [1, 0])) (ax := .n) (y := (cAt Try.f58 [1, 1])) (ay := .n) (l := [2]) (by kernel_rfl) (by kernel_rfl)).trans ?_
    refine M58_1_ok ?_ x1 H
    intro x2 H
    exact M58_2_ok x2 H
  · cases h
theorem M58_sound {o : Orc} (ho : ∀ f, FSound Try.prog f (o f)) (N : Nat) : FSound Try.prog 58 (M58 o N) :=
  FSound.sub (runFn_ok (an := A58_3) (fuel := N) hmix ho (by kernel_rfl) (by kernel_rfl)) (M58_run o N)
/-! 59 ostinato/matrix.within -/
def M59_0 (o : Orc) (N : Nat) (κ : Kv) (x0 x1 x2 : Int) (H : Heap) : Ans :=
  cond (decide (x0 ≥ x1)) (
  κ (.bool (decide (x0 ≤ x2))) H) (
  κ (.bool false) H)
theorem M59_0_ok {o : Orc} {N : Nat} {κ : Kv} (x0 x1 x2 : Int) (H : Heap) :
    run Try.prog o N (cAt Try.f59 []) .n (env0 Try.prog Try.f59 κ) (tmk 0 15 [(0, .int .i64 x0), (1, .int .i64 x1), (2, .int .i64 x2)]) H (env0 Try.prog Try.f59 κ).ret = M59_0 o N κ x0 x1 x2 H := by
  kernel_rfl
def M59 (o : Orc) (N : Nat) : FnM := fun vs H κ => match vs with
  | [.int .i64 x0, .int .i64 x1, .int .i64 x2] => M59_0 o N κ x0 x1 x2 H
  | _ => none
theorem M59_run (o : Orc) (N : Nat) (vs : List V) (H : Heap) (κ : Kv) (r) (h : M59 o N vs H κ = some r) : runFn Try.prog o N Try.f59 .n vs H κ = some r := by
  unfold M59 at h
  split at h
  · rename_i x0 x1 x2
    refine (runFn_at (t := tmk 0 15 [(0, .int .i64 x0), (1, .int .i64 x1), (2, .int .i64 x2)]) (by kernel_rfl) (by kernel_rfl)).trans (Eq.trans ?_ h)
    exact M59_0_ok x0 x1 x2 H
  · cases h
theorem M59_sound {o : Orc} (ho : ∀ f, FSound Try.prog f (o f)) (N : Nat) : FSound Try.prog 59 (M59 o N) :=
  FSound.sub (runFn_ok (an := .n) (fuel := N) hmix ho (by kernel_rfl) (by kernel_rfl)) (M59_run o N)
/-! 60 ostinato/matrix.Is$1 -/
def M60_0 (o : Orc) (N : Nat) (κ : Kv) (x0 : Int) (H : Heap) : Ans :=
  o 59 [(.int .i64 x0), (.int .i64 0), (.int .i64 99)] H fun v1 H2 =>
  asB v1 fun b3 =>
  κ (.bool (!b3)) H2
theorem M60_0_ok {o : Orc} {N : Nat} {κ : Kv} (x0 : Int) (H : Heap) :
    run Try.prog o N (cAt Try.f60 []) .n (env0 Try.prog Try.f60 κ) (tmk 0 6 [(0, .int .i64 x0)]) H (env0 Try.prog Try.f60 κ).ret = M60_0 o N κ x0 H := by
  kernel_rfl
def M60 (o : Orc) (N : Nat) : FnM := fun vs H κ => match vs with
  | [.int .i64 x0] => M60_0 o N κ x0 H
  | _ => none
theorem M60_run (o : Orc) (N : Nat) (vs : List V) (H : Heap) (κ : Kv) (r) (h : M60 o N vs H κ = some r) : runFn Try.prog o N Try.f60 .n vs H κ = some r := by
  unfold M60 at h
  split at h
  · rename_i x0
    refine (runFn_at (t := tmk 0 6 [(0, .int .i64 x0)]) (by kernel_rfl) (by kernel_rfl)).trans (Eq.trans ?_ h)
    exact M60_0_ok x0 H
  · cases h
theorem M60_sound {o : Orc} (ho : ∀ f, FSound Try.prog f (o f)) (N : Nat) : FSound Try.prog 60 (M60 o N) :=
  FSound.sub (runFn_ok (an := .n) (fuel := N) hmix ho (by kernel_rfl) (by kernel_rfl)) (M60_run o N)
/-! 61 ostinato/matrix.Is$2 -/
def M61_0 (o : Orc) (N : Nat) (κ : Kv) (x0 : List V) (x1 : V) (H : Heap) : Ans :=
  cond (List.all x0 V.one) (
  newB H (.row x0) fun i1 H2 =>
  (ldI H2 .u32 i1 0).bind fun n3 =>
  cond (decide (n3 ≥ 2048)) (
  κ (.bool true) H2) (
  asP x1 fun p4 o5 =>
  (ldV H2 p4 o5).bind fun v6 =>
  (ldI H2 .i64 i1 1).bind fun n7 =>
  callV o v6 [(.int .i64 n7)] H2 fun v8 H9 =>
  asB v8 fun b10 =>
  κ (.bool b10) H9)) none
theorem M61_0_ok {o : Orc} {N : Nat} {κ : Kv} (x0 : List V) (x1 : V) (H : Heap) :
    run Try.prog o N (cAt Try.f61 []) .n (env0 Try.prog Try.f61 κ) (tmk 0 13 [(0, .agg x0), (1, x1)]) H (env0 Try.prog Try.f61 κ).ret = M61_0 o N κ x0 x1 H := by
  kernel_rfl
def M61 (o : Orc) (N : Nat) : FnM := fun vs H κ => match vs with
  | [.agg x0, x1] => M61_0 o N κ x0 x1 H
  | _ => none
theorem M61_run (o : Orc) (N : Nat) (vs : List V) (H : Heap) (κ : Kv) (r) (h : M61 o N vs H κ = some r) : runFn Try.prog o N Try.f61 .n vs H κ = some r := by
  unfold M61 at h
  split at h
  · rename_i x0 x1
    refine (runFn_at (t := tmk 0 13 [(0, .agg x0), (1, x1)]) (by kernel_rfl) (by kernel_rfl)).trans (Eq.trans ?_ h)
    exact M61_0_ok x0 x1 H
  · cases h
theorem M61_sound {o : Orc} (ho : ∀ f, FSound Try.prog f (o f)) (N : Nat) : FSound Try.prog 61 (M61 o N) :=
  FSound.sub (runFn_ok (an := .n) (fuel := N) hmix ho (by kernel_rfl) (by kernel_rfl)) (M61_run o N)
/-! 62 ostinato/matrix.Is$3 -/
def M62_0 (o : Orc) (N : Nat) (κ : Kv) (x0 : List V) (x1 : V) (H : Heap) : Ans :=
  cond (List.all x0 V.one) (
  newB H (.row x0) fun i1 H2 =>
  asP x1 fun p3 o4 =>
  ldFlat H2 p3 [.int .i64, .int .i64, .int .i64, .int .i64, .int .i64, .int .i64, .int .i64, .int .u32, .oth, .oth, .oth] o4 fun l5 =>
  ldFlat H2 i1 [.int .i64, .int .i64, .int .i64, .int .i64, .int .i64, .int .i64] 0 fun l6 =>
  o 63 [(.agg l5), (.agg l6)] H2 fun v7 H8 =>
  asB v7 fun b9 =>
  κ (.bool (!b9)) H8) none
theorem M62_0_ok {o : Orc} {N : Nat} {κ : Kv} (x0 : List V) (x1 : V) (H : Heap) :
    run Try.prog o N (cAt Try.f62 []) .n (env0 Try.prog Try.f62 κ) (tmk 0 8 [(0, .agg x0), (1, x1)]) H (env0 Try.prog Try.f62 κ).ret = M62_0 o N κ x0 x1 H := by
  kernel_rfl
def M62 (o : Orc) (N : Nat) : FnM := fun vs H κ => match vs with
  | [.agg x0, x1] => M62_0 o N κ x0 x1 H
  | _ => none
theorem M62_run (o : Orc) (N : Nat) (vs : List V) (H : Heap) (κ : Kv) (r) (h : M62 o N vs H κ = some r) : runFn Try.prog o N Try.f62 .n vs H κ = some r := by
  unfold M62 at h
  split at h
  · rename_i x0 x1
    refine (runFn_at (t := tmk 0 8 [(0, .agg x0), (1, x1)]) (by kernel_rfl) (by kernel_rfl)).trans (Eq.trans ?_ h)
    exact M62_0_ok x0 x1 H
  · cases h
theorem M62_sound {o : Orc} (ho : ∀ f, FSound Try.prog f (o f)) (N : Nat) : FSound Try.prog 62 (M62 o N) :=
  FSound.sub (runFn_ok (an := .n) (fuel := N) hmix ho (by kernel_rfl) (by kernel_rfl)) (M62_run o N)
/-! 63 ostinato/matrix.window -/
def M63_0 (o : Orc) (N : Nat) (κ : Kv) (x0 x1 : List V) (H : Heap) : Ans :=
  cond (List.all x0 V.one) (
  newB H (.row x0) fun i1 H2 =>
  cond (List.all x1 V.one) (
  newB H2 (.row x1) fun i3 H4 =>
  (ldI H4 .i64 i3 0).bind fun n5 =>
  o 59 [(.int .i64 n5), (.int .i64 1), (.int .i64 3)] H4 fun v6 H7 =>
  asB v6 fun b8 =>
  cond (!b8) (
  κ (.bool false) H7) (
  (ldI H7 .i64 i3 1).bind fun n9 =>
  (ldI H7 .i64 i1 3).bind fun n10 =>
  o 59 [(.int .i64 n9), (.int .i64 0), (.int .i64 n10)] H7 fun v11 H12 =>
  asB v11 fun b13 =>
  cond (!b13) (
  κ (.bool false) H12) (
  (ldI H12 .i64 i3 2).bind fun n14 =>
  (ldI H12 .i64 i1 3).bind fun n15 =>
  o 59 [(.int .i64 n14), (.int .i64 0), (.int .i64 n15)] H12 fun v16 H17 =>
  asB v16 fun b18 =>
  cond (!b18) (
  κ (.bool false) H17) (
  (ldI H17 .i64 i3 1).bind fun n19 =>
  (ldI H17 .i64 i3 2).bind fun n20 =>
  cond (decide (n19 ≥ n20)) (
  κ (.bool false) H17) (
  (ldI H17 .i64 i3 4).bind fun n21 =>
  o 79 [(.int .i64 n21)] H17 fun v22 H23 =>
  asB v22 fun b24 =>
  cond (!b24) (
  κ (.bool false) H23) (
  (ldI H23 .i64 i3 4).bind fun n25 =>
  (ldI H23 .i64 i1 2).bind fun n26 =>
  cond (decide (n25 > n26)) (
  κ (.bool false) H23) (
  (ldI H23 .i64 i3 3).bind fun n27 =>
  (ldI H23 .i64 i3 4).bind fun n28 =>
  o 59 [(.int .i64 n27), (.int .i64 0), (.int .i64 (IntKind.i64.wrap (n28 - 1)))] H23 fun v29 H30 =>
  asB v29 fun b31 =>
  cond (!b31) (
  κ (.bool false) H30) (
  (ldI H30 .i64 i3 5).bind fun n32 =>
  o 59 [(.int .i64 n32), (.int .i64 0), (.int .i64 99)] H30 fun v33 H34 =>
  asB v33 fun b35 =>
  cond b35 (
  (ldI H34 .i64 i3 5).bind fun n36 =>
  cond (n36 == 0) (
  κ (.bool true) H34) (
  (ldI H34 .i64 i3 0).bind fun n37 =>
  κ (.bool (n37 == 1)) H34)) (
  κ (.bool false) H34))))))))) none) none
theorem M63_0_ok {o : Orc} {N : Nat} {κ : Kv} (x0 x1 : List V) (H : Heap) :
    run Try.prog o N (cAt Try.f63 []) .n (env0 Try.prog Try.f63 κ) (tmk 0 65 [(0, .agg x0), (1, .agg x1)]) H (env0 Try.prog Try.f63 κ).ret = M63_0 o N κ x0 x1 H := by
  kernel_rfl
def M63 (o : Orc) (N : Nat) : FnM := fun vs H κ => match vs with
  | [.agg x0, .agg x1] => M63_0 o N κ x0 x1 H
  | _ => none
theorem M63_run (o : Orc) (N : Nat) (vs : List V) (H : Heap) (κ : Kv) (r) (h : M63 o N vs H κ = some r) : runFn Try.prog o N Try.f63 .n vs H κ = some r := by
  unfold M63 at h
  split at h
  · rename_i x0 x1
    refine (runFn_at (t := tmk 0 65 [(0, .agg x0), (1, .agg x1)]) (by kernel_rfl) (by kernel_rfl)).trans (Eq.trans ?_ h)
    exact M63_0_ok x0 x1 H
  · cases h
theorem M63_sound {o : Orc} (ho : ∀ f, FSound Try.prog f (o f)) (N : Nat) : FSound Try.prog 63 (M63 o N) :=
  FSound.sub (runFn_ok (an := .n) (fuel := N) hmix ho (by kernel_rfl) (by kernel_rfl)) (M63_run o N)
/-! 64 slices.ContainsFunc[[]int,int] -/
def M64_0 (o : Orc) (N : Nat) (κ : Kv) (x0 x1 : V) (H : Heap) : Ans :=
  o 70 [x0, x1] H fun v1 H2 =>
  asI .i64 v1 fun n3 =>
  κ (.bool (decide (n3 ≥ 0))) H2
theorem M64_0_ok {o : Orc} {N : Nat} {κ : Kv} (x0 x1 : V) (H : Heap) :
    run Try.prog o N (cAt Try.f64 []) .n (env0 Try.prog Try.f64 κ) (tmk 0 9 [(0, x0), (1, x1)]) H (env0 Try.prog Try.f64 κ).ret = M64_0 o N κ x0 x1 H := by
  kernel_rfl
def M64 (o : Orc) (N : Nat) : FnM := fun vs H κ => match vs with
  | [x0, x1] => M64_0 o N κ x0 x1 H
  | _ => none
theorem M64_run (o : Orc) (N : Nat) (vs : List V) (H : Heap) (κ : Kv) (r) (h : M64 o N vs H κ = some r) : runFn Try.prog o N Try.f64 .n vs H κ = some r := by
  unfold M64 at h
  split at h
  · rename_i x0 x1
    refine (runFn_at (t := tmk 0 9 [(0, x0), (1, x1)]) (by kernel_rfl) (by kernel_rfl)).trans (Eq.trans ?_ h)
    exact M64_0_ok x0 x1 H
  · cases h
theorem M64_sound {o : Orc} (ho : ∀ f, FSound Try.prog f (o f)) (N : Nat) : FSound Try.prog 64 (M64 o N) :=
  FSound.sub (runFn_ok (an := .n) (fuel := N) hmix ho (by kernel_rfl) (by kernel_rfl)) (M64_run o N)
/-! 65 slices.ContainsFunc[[]ostinato/api.Message,ostinato/api.Message] -/
def M65_0 (o : Orc) (N : Nat) (κ : Kv) (x0 x1 : V) (H : Heap) : Ans :=
  o 72 [x0, x1] H fun v1 H2 =>
  asI .i64 v1 fun n3 =>
  κ (.bool (decide (n3 ≥ 0))) H2
theorem M65_0_ok {o : Orc} {N : Nat} {κ : Kv} (x0 x1 : V) (H : Heap) :
    run Try.prog o N (cAt Try.f65 []) .n (env0 Try.prog Try.f65 κ) (tmk 0 9 [(0, x0), (1, x1)]) H (env0 Try.prog Try.f65 κ).ret = M65_0 o N κ x0 x1 H := by
  kernel_rfl
def M65 (o : Orc) (N : Nat) : FnM := fun vs H κ => match vs with
  | [x0, x1] => M65_0 o N κ x0 x1 H
  | _ => none
theorem M65_run (o : Orc) (N : Nat) (vs : List V) (H : Heap) (κ : Kv) (r) (h : M65 o N vs H κ = some r) : runFn Try.prog o N Try.f65 .n vs H κ = some r := by
  unfold M65 at h
  split at h
  · rename_i x0 x1
    refine (runFn_at (t := tmk 0 9 [(0, x0), (1, x1)]) (by kernel_rfl) (by kernel_rfl)).trans (Eq.trans ?_ h)
    exact M65_0_ok x0 x1 H
  · cases h
theorem M65_sound {o : Orc} (ho : ∀ f, FSound Try.prog f (o f)) (N : Nat) : FSound Try.prog 65 (M65 o N) :=
  FSound.sub (runFn_ok (an := .n) (fuel := N) hmix ho (by kernel_rfl) (by kernel_rfl)) (M65_run o N)
/-! 66 slices.ContainsFunc[[]ostinato/api.Window,ostinato/api.Window] -/
def M66_0 (o : Orc) (N : Nat) (κ : Kv) (x0 x1 : V) (H : Heap) : Ans :=
  o 80 [x0, x1] H fun v1 H2 =>
  asI .i64 v1 fun n3 =>
  κ (.bool (decide (n3 ≥ 0))) H2
theorem M66_0_ok {o : Orc} {N : Nat} {κ : Kv} (x0 x1 : V) (H : Heap) :
    run Try.prog o N (cAt Try.f66 []) .n (env0 Try.prog Try.f66 κ) (tmk 0 9 [(0, x0), (1, x1)]) H (env0 Try.prog Try.f66 κ).ret = M66_0 o N κ x0 x1 H := by
  kernel_rfl
def M66 (o : Orc) (N : Nat) : FnM := fun vs H κ => match vs with
  | [x0, x1] => M66_0 o N κ x0 x1 H
  | _ => none
theorem M66_run (o : Orc) (N : Nat) (vs : List V) (H : Heap) (κ : Kv) (r) (h : M66 o N vs H κ = some r) : runFn Try.prog o N Try.f66 .n vs H κ = some r := by
  unfold M66 at h
  split at h
  · rename_i x0 x1
    refine (runFn_at (t := tmk 0 9 [(0, x0), (1, x1)]) (by kernel_rfl) (by kernel_rfl)).trans (Eq.trans ?_ h)
    exact M66_0_ok x0 x1 H
  · cases h
theorem M66_sound {o : Orc} (ho : ∀ f, FSound Try.prog f (o f)) (N : Nat) : FSound Try.prog 66 (M66 o N) :=
  FSound.sub (runFn_ok (an := .n) (fuel := N) hmix ho (by kernel_rfl) (by kernel_rfl)) (M66_run o N)
/-! 67 ostinato/check.Units -/
def M67_0 (o : Orc) (N : Nat) (κ : Kv) (x0 : List V) (x1 : Int) (H : Heap) : Ans :=
  cond (List.all x0 V.one) (
  newB H (.row x0) fun i1 H2 =>
  (ldI H2 .i64 i1 5).bind fun n3 =>
  cond (decide ((if 1 > n3 then 1 else n3) = 0)) none (
  cond (decide ((if 1 > n3 then 1 else n3) = 0)) none (
  cond ((Int.tmod (IntKind.i64.wrap ((if 1000 < (if 0 > x1 then 0 else x1) then 1000 else (if 0 > x1 then 0 else x1)) * 4)) (if 1 > n3 then 1 else n3)) != 0) (
  κ (.int .i64 (IntKind.i64.wrap ((IntKind.i64.wrap ((IntKind.i64.wrap (Int.tdiv (IntKind.i64.wrap ((if 1000 < (if 0 > x1 then 0 else x1) then 1000 else (if 0 > x1 then 0 else x1)) * 4)) (if 1 > n3 then 1 else n3))) + 1)) + 1))) H2) (
  κ (.int .i64 (IntKind.i64.wrap ((IntKind.i64.wrap (Int.tdiv (IntKind.i64.wrap ((if 1000 < (if 0 > x1 then 0 else x1) then 1000 else (if 0 > x1 then 0 else x1)) * 4)) (if 1 > n3 then 1 else n3))) + 1))) H2)))) none
theorem M67_0_ok {o : Orc} {N : Nat} {κ : Kv} (x0 : List V) (x1 : Int) (H : Heap) :
    run Try.prog o N (cAt Try.f67 []) .n (env0 Try.prog Try.f67 κ) (tmk 0 26 [(0, .agg x0), (1, .int .i64 x1)]) H (env0 Try.prog Try.f67 κ).ret = M67_0 o N κ x0 x1 H := by
  kernel_rfl
def M67 (o : Orc) (N : Nat) : FnM := fun vs H κ => match vs with
  | [.agg x0, .int .i64 x1] => M67_0 o N κ x0 x1 H
  | _ => none
theorem M67_run (o : Orc) (N : Nat) (vs : List V) (H : Heap) (κ : Kv) (r) (h : M67 o N vs H κ = some r) : runFn Try.prog o N Try.f67 .n vs H κ = some r := by
  unfold M67 at h
  split at h
  · rename_i x0 x1
    refine (runFn_at (t := tmk 0 26 [(0, .agg x0), (1, .int .i64 x1)]) (by kernel_rfl) (by kernel_rfl)).trans (Eq.trans ?_ h)
    exact M67_0_ok x0 x1 H
  · cases h
theorem M67_sound {o : Orc} (ho : ∀ f, FSound Try.prog f (o f)) (N : Nat) : FSound Try.prog 67 (M67 o N) :=
  FSound.sub (runFn_ok (an := .n) (fuel := N) hmix ho (by kernel_rfl) (by kernel_rfl)) (M67_run o N)
/-! 68 ostinato/ostinatoref12.Find -/
def M68_0 (o : Orc) (N : Nat) (J : Nat → Nat → Heap → Ans) (κ : Kv) (x0 x1 : List V) (H : Heap) : Ans :=
  cond (List.all x0 V.one) (
  newB H (.row x0) fun i1 H2 =>
  cond (List.all x1 V.one) (
  newB H2 (.row x1) fun i3 H4 =>
  J i1 i3 H4) none) none
theorem M68_0_ok {o : Orc} {N : Nat} {κ : Kv} {J : Kt} {J' : Nat → Nat → Heap → Ans} (hJ : ∀ x2 x3 H, J (tmk 0 33 [(2, .ptr x2 0), (3, .ptr x3 0)]) H = J' x2 x3 H) (x0 x1 : List V) (H : Heap) :
    run Try.prog o N (cAt Try.f68 [0]) .n (env0 Try.prog Try.f68 κ) (tmk 0 33 [(0, .agg x0), (1, .agg x1)]) H (kj [2, 3] J) = M68_0 o N J' κ x0 x1 H := by
  obtain rfl := fx3 hJ
  kernel_rfl
def M68_1 (o : Orc) (N : Nat) (J : Nat → Nat → Int → Heap → Ans) (κ : Kv) (x2 x3 : Nat) (H : Heap) : Ans :=
  J x2 x3 0 H
theorem M68_1_ok {o : Orc} {N : Nat} {κ : Kv} {J : Kt} {J' : Nat → Nat → Int → Heap → Ans} (hJ : ∀ x2 x3 x5 H, J (tmk 0 33 [(2, .ptr x2 0), (3, .ptr x3 0), (5, .int .i64 x5)]) H = J' x2 x3 x5 H) (x2 x3 : Nat) (H : Heap) :
    run Try.prog o N (cAt Try.f68 [1, 0, 0]) .n (env0 Try.prog Try.f68 κ) (tmk 0 33 [(2, .ptr x2 0), (3, .ptr x3 0)]) H (kj [2, 3, 5] J) = M68_1 o N J' κ x2 x3 H := by
  obtain rfl := fx4 hJ
  kernel_rfl
def A68_2 : An := (.s .n none (.s (.b none (.s (.d [0, 1, 2, 3, 4, 5, 6, 7, 8, 9, 10, 11, 12, 13, 14, 15, 16, 17, 18]) none .n)) none .n))
def M68_3 (o : Orc) (N : Nat) (X0 : Heap → Ans) (J : Nat → Nat → Int → Heap → Ans) (κ : Kv) (x2 x3 : Nat) (x5 : Int) (H : Heap) : Ans :=
  (ldV H x2 9).bind fun v5 =>
  lenS v5 fun n6 =>
  cond (decide (x5 < n6)) (
  (ldB (Heap.skip H 19) x3 0).bind fun b7 =>
  cond (!b7) (
  (ldB (Heap.skip H 19) x3 2).bind fun b8 =>
  cond (!b8) (
  (ldV (Heap.skip H 19) x2 9).bind fun v9 =>
  idxS 3 v9 x5 fun p10 o11 =>
  (ldI (Heap.skip H 19) .u32 p10 (o11 + 0)).bind fun n12 =>
  (ldI (Heap.skip H 19) .u32 x3 1).bind fun n13 =>
  cond (n12 == n13) (
  κ (.int .i64 x5) (Heap.skip H 19)) (
  J x2 x3 (IntKind.i64.wrap (x5 + 1)) (Heap.skip H 19))) (
  J x2 x3 (IntKind.i64.wrap (x5 + 1)) (Heap.skip H 19))) (
  J x2 x3 (IntKind.i64.wrap (x5 + 1)) (Heap.skip H 19))) (
  X0  H)
theorem M68_3_ok {o : Orc} {N : Nat} {κ : Kv} {X0 J : Kt} {X0' : Heap → Ans} {J' : Nat → Nat → Int → Heap → Ans} (h0 : ∀  H, X0 (tmk 0 33 []) H = X0' H) (hJ : ∀ x2 x3 x5 H, J (tmk 0 33 [(2, .ptr x2 0), (3, .ptr x3 0), (5, .int .i64 x5)]) H = J' x2 x3 x5 H) (x2 x3 : Nat) (x5 : Int) (H : Heap) :
    run Try.prog o N (cAt Try.f68 [1, 0, 1, 4, 4]) A68_2 ((env0 Try.prog Try.f68 κ).block 0 (kj [] X0)) (tmk 0 33 [(2, .ptr x2 0), (3, .ptr x3 0), (5, .int .i64 x5)]) H (kj [2, 3, 5] J) = M68_3 o N X0' J' κ x2 x3 x5 H := by
  obtain rfl := fx1 h0
  obtain rfl := fx4 hJ
  kernel_rfl
def M68_4 (o : Orc) (N : Nat) (X0 : Heap → Ans) (κ : Kv) (n : Nat) : Nat → Nat → Int → Heap → Ans :=
  Nat.rec (motive := fun _ => Nat → Nat → Int → Heap → Ans) (fun _ _ _ _ => none) (fun _ ih x2 x3 x5 H => M68_3 o N X0 ih κ x2 x3 x5 H) n
theorem M68_4_s (o : Orc) (N : Nat) (X0 : Heap → Ans) (κ : Kv) (n : Nat) (x2 x3 : Nat) (x5 : Int) (H : Heap) : M68_4 o N X0 κ (n + 1) x2 x3 x5 H = M68_3 o N X0 (M68_4 o N X0 κ n) κ x2 x3 x5 H := rfl
theorem M68_4_ok {o : Orc} {N : Nat} {κ : Kv} {X0 : Kt} {X0' : Heap → Ans} (h0 : ∀  H, X0 (tmk 0 33 []) H = X0' H) (n : Nat) : ∀ (x2 x3 : Nat) (x5 : Int) (H : Heap),
    rounds (fun a H k => run Try.prog o N (cAt Try.f68 [1, 0, 1, 4, 4]) A68_2 ((env0 Try.prog Try.f68 κ).block 0 (kj [] X0)) a H k) (some (lvOf [2, 3, 5])) n (tmk 0 33 [(2, .ptr x2 0), (3, .ptr x3 0), (5, .int .i64 x5)]) H = M68_4 o N X0' κ n x2 x3 x5 H := by
  induction n with
  | zero => intros; rfl
  | succ n ih =>
    intro x2 x3 x5 H
    refine (run_round.trans ?_).trans (M68_4_s ..).symm
    exact M68_3_ok h0 ih x2 x3 x5 H
def A68_5 : An := .b none (.l (some (lvOf [2, 3, 5])) A68_2)
def M68_6 (o : Orc) (N : Nat) (κ : Kv) (H : Heap) : Ans :=
  κ (.int .i64 (-1)) H
theorem M68_6_ok {o : Orc} {N : Nat} {κ : Kv} (H : Heap) :
    run Try.prog o N (cAt Try.f68 [1, 1]) .n (env0 Try.prog Try.f68 κ) (tmk 0 33 []) H (env0 Try.prog Try.f68 κ).ret = M68_6 o N κ  H := by
  kernel_rfl
def A68_7 : An := .s (.s .n (some (lvOf [2, 3, 5])) A68_5) (some (lvOf [])) .n
def M68 (o : Orc) (N : Nat) : FnM := fun vs H κ => match vs with
  | [.agg x0, .agg x1] => M68_0 o N (fun x2 x3 H => M68_1 o N (fun x2 x3 x5 H => M68_4 o N (fun H => M68_6 o N κ  H) κ N x2 x3 x5 H) κ x2 x3 H) κ x0 x1 H
  | _ => none
theorem M68_run (o : Orc) (N : Nat) (vs : List V) (H : Heap) (κ : Kv) (r) (h : M68 o N vs H κ = some r) : runFn Try.prog o N Try.f68 (.s .n (some (lvOf [2, 3])) A68_7) vs H κ = some r := by
  unfold M68 at h
  split at h
  · rename_i x0 x1
    refine (runFn_at (t := tmk 0 33 [(0, .agg x0), (1, .agg x1)]) (by kernel_rfl) (by kernel_rfl)).trans (Eq.trans ?_ h)
    refine (run_seq (x := (cAt Try.f68 [0])) (ax := .n) (y := (cAt Try.f68 [1])) (ay := A68_7) (l := [2, 3]) (by kernel_rfl) (by kernel_rfl)).trans ?_
    refine M68_0_ok ?_ x0 x1 H
    intro x2 x3 H
    refine (run_seq (x := (cAt Try.f68 [1, 0])) (ax := (.s .n (some (lvOf [2, 3, 5])) A68_5)) (y := (cAt Try.f68 [1, 1])) (ay := .n) (l := []) (by kernel_rfl) (by kernel_rfl)).trans ?_
    refine (run_seq (x := (cAt Try.f68 [1, 0, 0])) (ax := .n) (y := (cAt Try.f68 [1, 0, 1])) (ay := A68_5) (l := [2, 3, 5]) (by kernel_rfl) (by kernel_rfl)).trans ?_
    refine M68_1_ok ?_ x2 x3 H
    intro x2 x3 x5 H
    refine (run_block (id := 0) (x := (cAt Try.f68 [1, 0, 1, 4])) (ax := (.l (some (lvOf [2, 3, 5])) A68_2)) (by kernel_rfl) (by kernel_rfl)).trans ?_
    refine (run_loop (x := (cAt Try.f68 [1, 0, 1, 4, 4])) (ax := A68_2) (l := [2, 3, 5]) (by kernel_rfl) (by kernel_rfl) (by kernel_rfl)).trans ?_
    refine M68_4_ok ?_ N x2 x3 x5 H
    intro H
    exact M68_6_ok  H
  · cases h
theorem M68_sound {o : Orc} (ho : ∀ f, FSound Try.prog f (o f)) (N : Nat) : FSound Try.prog 68 (M68 o N) :=
  FSound.sub (runFn_ok (an := (.s .n (some (lvOf [2, 3])) A68_7)) (fuel := N) hmix ho (by kernel_rfl) (by kernel_rfl)) (M68_run o N)
/-! 69 ostinato/ostinatoref12.Meet -/
def M69_0 (o : Orc) (N : Nat) (J : Int → Int → Nat → Heap → Ans) (κ : Kv) (x0 : List V) (x1 x2 : Int) (H : Heap) : Ans :=
  cond (List.all x0 V.one) (
  newB H (.row x0) fun i1 H2 =>
  J x1 x2 i1 H2) none
theorem M69_0_ok {o : Orc} {N : Nat} {κ : Kv} {J : Kt} {J' : Int → Int → Nat → Heap → Ans} (hJ : ∀ x1 x2 x3 H, J (tmk 0 72 [(1, .int .i64 x1), (2, .int .i64 x2), (3, .ptr x3 0)]) H = J' x1 x2 x3 H) (x0 : List V) (x1 x2 : Int) (H : Heap) :
    run Try.prog o N (cAt Try.f69 [0]) .n (env0 Try.prog Try.f69 κ) (tmk 0 72 [(0, .agg x0), (1, .int .i64 x1), (2, .int .i64 x2)]) H (kj [1, 2, 3] J) = M69_0 o N J' κ x0 x1 x2 H := by
  obtain rfl := fx4 hJ
  kernel_rfl
def M69_1 (o : Orc) (N : Nat) (J : Int → Int → Nat → Heap → Ans) (κ : Kv) (x1 x2 : Int) (x3 : Nat) (H : Heap) : Ans :=
  (ldV H x3 10).bind fun v3 =>
  lenS v3 fun n4 =>
  o 44 [(.int .i64 x1), (.int .i64 0), (.int .i64 (IntKind.i64.wrap (n4 - 1)))] H fun v5 H6 =>
  asB v5 fun b7 =>
  cond (!b7) (
  κ (.bool false) H6) (
  (ldV H6 x3 10).bind fun v8 =>
  lenS v8 fun n9 =>
  o 44 [(.int .i64 x2), (.int .i64 0), (.int .i64 (IntKind.i64.wrap (n9 - 1)))] H6 fun v10 H11 =>
  asB v10 fun b12 =>
  cond (!b12) (
  κ (.bool false) H11) (
  J x1 x2 x3 H11))
theorem M69_1_ok {o : Orc} {N : Nat} {κ : Kv} {J : Kt} {J' : Int → Int → Nat → Heap → Ans} (hJ : ∀ x1 x2 x3 H, J (tmk 0 72 [(1, .int .i64 x1), (2, .int .i64 x2), (3, .ptr x3 0)]) H = J' x1 x2 x3 H) (x1 x2 : Int) (x3 : Nat) (H : Heap) :
    run Try.prog o N (cAt Try.f69 [1, 0]) .n (env0 Try.prog Try.f69 κ) (tmk 0 72 [(1, .int .i64 x1), (2, .int .i64 x2), (3, .ptr x3 0)]) H (kj [1, 2, 3] J) = M69_1 o N J' κ x1 x2 x3 H := by
  obtain rfl := fx4 hJ
  kernel_rfl
def A69_2 : An := (.d [0, 1, 2, 3, 4, 5, 6, 7, 8, 9, 10, 11, 12, 13])
def M69_3 (o : Orc) (N : Nat) (J : Nat → Nat → Nat → Heap → Ans) (κ : Kv) (x1 x2 : Int) (x3 : Nat) (H : Heap) : Ans :=
  (ldV (Heap.skip H 14) x3 10).bind fun v13 =>
  idxS 6 v13 x1 fun p14 o15 =>
  ldFlat (Heap.skip H 14) p14 [.int .i64, .int .i64, .int .i64, .int .i64, .int .i64, .int .i64] o15 fun l16 =>
  (ldV (Heap.skip H 14) x3 10).bind fun v17 =>
  idxS 6 v17 x2 fun p18 o19 =>
  ldFlat (Heap.skip H 14) p18 [.int .i64, .int .i64, .int .i64, .int .i64, .int .i64, .int .i64] o19 fun l20 =>
  cond (Nat.beq (List.length l16) 6 && Nat.blt 0 6) (
  (stN (Heap.newAt (Heap.newAt (Heap.skip H 14) (H.next + 10) (.row [(.int .i64 0), (.int .i64 0), (.int .i64 0), (.int .i64 0), (.int .i64 0), (.int .i64 0)])) (H.next + 11) (.row [(.int .i64 0), (.int .i64 0), (.int .i64 0), (.int .i64 0), (.int .i64 0), (.int .i64 0)])) (H.next + 10) 0 l16).bind fun H21 =>
  ldFlat H21 p18 [.int .i64, .int .i64, .int .i64, .int .i64, .int .i64, .int .i64] o19 fun l22 =>
  cond (sameL l20 l22) (
  (ldV H21 x3 10).bind fun v23 =>
  cond (V.same v17 v23) (
  cond (Nat.beq (List.length l20) 6 && Nat.blt 0 6) (
  (stN H21 (H.next + 11) 0 l20).bind fun H24 =>
  J x3 (H.next + 10) (H.next + 11) H24) none) none) none) none
theorem M69_3_ok {o : Orc} {N : Nat} {κ : Kv} {J : Kt} {J' : Nat → Nat → Nat → Heap → Ans} (hJ : ∀ x3 x7 x8 H, J (tmk 0 72 [(3, .ptr x3 0), (7, .ptr x7 0), (8, .ptr x8 0)]) H = J' x3 x7 x8 H) (x1 x2 : Int) (x3 : Nat) (H : Heap) :
    run Try.prog o N (cAt Try.f69 [1, 1, 0]) A69_2 (env0 Try.prog Try.f69 κ) (tmk 0 72 [(1, .int .i64 x1), (2, .int .i64 x2), (3, .ptr x3 0)]) H (kj [3, 7, 8] J) = M69_3 o N J' κ x1 x2 x3 H := by
  obtain rfl := fx4 hJ
  kernel_rfl
def M69_4 (o : Orc) (N : Nat) (J : Nat → Nat → Nat → Heap → Ans) (κ : Kv) (x3 x7 x8 : Nat) (H : Heap) : Ans :=
  (ldI H .i64 x7 1).bind fun n25 =>
  (ldI H .i64 x8 2).bind fun n26 =>
  cond (decide (n25 ≥ n26)) (
  κ (.bool false) H) (
  (ldI H .i64 x8 1).bind fun n27 =>
  (ldI H .i64 x7 2).bind fun n28 =>
  cond (decide (n27 ≥ n28)) (
  κ (.bool false) H) (
  J x3 x7 x8 H))
theorem M69_4_ok {o : Orc} {N : Nat} {κ : Kv} {J : Kt} {J' : Nat → Nat → Nat → Heap → Ans} (hJ : ∀ x3 x7 x8 H, J (tmk 0 72 [(3, .ptr x3 0), (7, .ptr x7 0), (8, .ptr x8 0)]) H = J' x3 x7 x8 H) (x3 x7 x8 : Nat) (H : Heap) :
    run Try.prog o N (cAt Try.f69 [1, 1, 1, 0]) .n (env0 Try.prog Try.f69 κ) (tmk 0 72 [(3, .ptr x3 0), (7, .ptr x7 0), (8, .ptr x8 0)]) H (kj [3, 7, 8] J) = M69_4 o N J' κ x3 x7 x8 H := by
  obtain rfl := fx4 hJ
  kernel_rfl
def M69_5 (o : Orc) (N : Nat) (J : Nat → Nat → Nat → Int → Heap → Ans) (κ : Kv) (x3 x7 x8 : Nat) (H : Heap) : Ans :=
  J x3 x7 x8 0 H
theorem M69_5_ok {o : Orc} {N : Nat} {κ : Kv} {J : Kt} {J' : Nat → Nat → Nat → Int → Heap → Ans} (hJ : ∀ x3 x7 x8 x9 H, J (tmk 0 72 [(3, .ptr x3 0), (7, .ptr x7 0), (8, .ptr x8 0), (9, .int .i64 x9)]) H = J' x3 x7 x8 x9 H) (x3 x7 x8 : Nat) (H : Heap) :
    run Try.prog o N (cAt Try.f69 [1, 1, 1, 1, 0, 0]) .n (env0 Try.prog Try.f69 κ) (tmk 0 72 [(3, .ptr x3 0), (7, .ptr x7 0), (8, .ptr x8 0)]) H (kj [3, 7, 8, 9] J) = M69_5 o N J' κ x3 x7 x8 H := by
  obtain rfl := fx5 hJ
  kernel_rfl
def M69_6 (o : Orc) (N : Nat) (X0 : Heap → Ans) (J : Nat → Nat → Nat → Int → Heap → Ans) (κ : Kv) (x3 x7 x8 : Nat) (x9 : Int) (H : Heap) : Ans :=
  (ldI H .i64 x3 2).bind fun n29 =>
  cond (decide (x9 < n29)) (
  cond (decide (x9 < 8)) (
  (ldI H .i64 x7 3).bind fun n30 =>
  (ldI H .i64 x7 4).bind fun n31 =>
  o 49 [(.int .i64 n30), (.int .i64 n31), (.int .i64 x9)] H fun v32 H33 =>
  asB v32 fun b34 =>
  cond b34 (
  (ldI H33 .i64 x8 3).bind fun n35 =>
  (ldI H33 .i64 x8 4).bind fun n36 =>
  o 49 [(.int .i64 n35), (.int .i64 n36), (.int .i64 x9)] H33 fun v37 H38 =>
  asB v37 fun b39 =>
  cond b39 (
  κ (.bool true) H38) (
  J x3 x7 x8 (IntKind.i64.wrap (x9 + 1)) H38)) (
  J x3 x7 x8 (IntKind.i64.wrap (x9 + 1)) H33)) (
  X0  H)) (
  X0  H)
theorem M69_6_ok {o : Orc} {N : Nat} {κ : Kv} {X0 J : Kt} {X0' : Heap → Ans} {J' : Nat → Nat → Nat → Int → Heap → Ans} (h0 : ∀  H, X0 (tmk 0 72 []) H = X0' H) (hJ : ∀ x3 x7 x8 x9 H, J (tmk 0 72 [(3, .ptr x3 0), (7, .ptr x7 0), (8, .ptr x8 0), (9, .int .i64 x9)]) H = J' x3 x7 x8 x9 H) (x3 x7 x8 : Nat) (x9 : Int) (H : Heap) :
    run Try.prog o N (cAt Try.f69 [1, 1, 1, 1, 0, 1, 4, 4]) .n ((env0 Try.prog Try.f69 κ).block 0 (kj [] X0)) (tmk 0 72 [(3, .ptr x3 0), (7, .ptr x7 0), (8, .ptr x8 0), (9, .int .i64 x9)]) H (kj [3, 7, 8, 9] J) = M69_6 o N X0' J' κ x3 x7 x8 x9 H := by
  obtain rfl := fx1 h0
  obtain rfl := fx5 hJ
  kernel_rfl
def M69_7 (o : Orc) (N : Nat) (X0 : Heap → Ans) (κ : Kv) (n : Nat) : Nat → Nat → Nat → Int → Heap → Ans :=
  Nat.rec (motive := fun _ => Nat → Nat → Nat → Int → Heap → Ans) (fun _ _ _ _ _ => none) (fun _ ih x3 x7 x8 x9 H => M69_6 o N X0 ih κ x3 x7 x8 x9 H) n
theorem M69_7_s (o : Orc) (N : Nat) (X0 : Heap → Ans) (κ : Kv) (n : Nat) (x3 x7 x8 : Nat) (x9 : Int) (H : Heap) : M69_7 o N X0 κ (n + 1) x3 x7 x8 x9 H = M69_6 o N X0 (M69_7 o N X0 κ n) κ x3 x7 x8 x9 H := rfl
theorem M69_7_ok {o : Orc} {N : Nat} {κ : Kv} {X0 : Kt} {X0' : Heap → Ans} (h0 : ∀  H, X0 (tmk 0 72 []) H = X0' H) (n : Nat) : ∀ (x3 x7 x8 : Nat) (x9 : Int) (H : Heap),
    rounds (fun a H k => run Try.prog o N (cAt Try.f69 [1, 1, 1, 1, 0, 1, 4, 4]) .n ((env0 Try.prog Try.f69 κ).block 0 (kj [] X0)) a H k) (some (lvOf [3, 7, 8, 9])) n (tmk 0 72 [(3, .ptr x3 0), (7, .ptr x7 0), (8, .ptr x8 0), (9, .int .i64 x9)]) H = M69_7 o N X0' κ n x3 x7 x8 x9 H := by
  induction n with
  | zero => intros; rfl
  | succ n ih =>
    intro x3 x7 x8 x9 H
    refine (run_round.trans ?_).trans (M69_7_s ..).symm
    exact M69_6_ok h0 ih x3 x7 x8 x9 H
def A69_8 : An := .b none (.l (some (lvOf [3, 7, 8, 9])) .n)
def M69_9 (o : Orc) (N : Nat) (κ : Kv) (H : Heap) : Ans :=
  κ (.bool false) H
theorem M69_9_ok {o : Orc} {N : Nat} {κ : Kv} (H : Heap) :
    run Try.prog o N (cAt Try.f69 [1, 1, 1, 1, 1]) .n (env0 Try.prog Try.f69 κ) (tmk 0 72 []) H (env0 Try.prog Try.f69 κ).ret = M69_9 o N κ  H := by
  kernel_rfl
def A69_10 : An := .s (.s .n (some (lvOf [3, 7, 8, 9])) A69_8) (some (lvOf [])) .n
def A69_11 : An := .s A69_2 (some (lvOf [3, 7, 8])) (.s .n (some (lvOf [3, 7, 8])) A69_10)
def A69_12 : An := .s .n (some (lvOf [1, 2, 3])) (.s .n (some (lvOf [1, 2, 3])) A69_11)
def M69 (o : Orc) (N : Nat) : FnM := fun vs H κ => match vs with
  | [.agg x0, .int .i64 x1, .int .i64 x2] => M69_0 o N (fun x1 x2 x3 H => M69_1 o N (fun x1 x2 x3 H => M69_3 o N (fun x3 x7 x8 H => M69_4 o N (fun x3 x7 x8 H => M69_5 o N (fun x3 x7 x8 x9 H => M69_7 o N (fun H => M69_9 o N κ  H) κ N x3 x7 x8 x9 H) κ x3 x7 x8 H) κ x3 x7 x8 H) κ x1 x2 x3 H) κ x1 x2 x3 H) κ x0 x1 x2 H
  | _ => none
theorem M69_run (o : Orc) (N : Nat) (vs : List V) (H : Heap) (κ : Kv) (r) (h : M69 o N vs H κ = some r) : runFn Try.prog o N Try.f69 A69_12 vs H κ = some r := by
  unfold M69 at h
  split at h
  · rename_i x0 x1 x2
    refine (runFn_at (t := tmk 0 72 [(0, .agg x0), (1, .int .i64 x1), (2, .int .i64 x2)]) (by kernel_rfl) (by kernel_rfl)).trans (Eq.trans ?_ h)
    refine (run_seq (x := (cAt Try.f69 [0])) (ax := .n) (y := (cAt Try.f69 [1])) (ay := (.s .n (some (lvOf [1, 2, 3])) A69_11)) (l := [1, 2, 3]) (by kernel_rfl) (by kernel_rfl)).trans ?_
    refine M69_0_ok ?_ x0 x1 x2 H
    intro x1 x2 x3 H
    refine (run_seq (x := (cAt Try.f69 [1, 0])) (ax := .n) (y := (cAt Try.f69 [1, 1])) (ay := A69_11) (l := [1, 2, 3]) (by kernel_rfl) (by kernel_rfl)).trans ?_
    refine M69_1_ok ?_ x1 x2 x3 H
    intro x1 x2 x3 H
    refine (run_seq (x := (cAt Try.f69 [1, 1, 0])) (ax := A69_2) (y := (cAt Try.f69 [1, 1, 1])) (ay := (.s .n (some (lvOf [3, 7, 8])) A69_10)) (l := [3, 7, 8]) (by kernel_rfl) (by kernel_rfl)).trans ?_
    refine M69_3_ok ?_ x1 x2 x3 H
    intro x3 x7 x8 H
    refine (run_seq (x := (cAt Try.f69 [1, 1, 1, 0])) (ax := .n) (y := (cAt Try.f69 [1, 1, 1, 1])) (ay := A69_10) (l := [3, 7, 8]) (by kernel_rfl) (by kernel_rfl)).trans ?_
    refine M69_4_ok ?_ x3 x7 x8 H
    intro x3 x7 x8 H
    refine (run_seq (x := (cAt Try.f69 [1, 1, 1, 1, 0])) (ax := (.s .n (some (lvOf [3, 7, 8, 9])) A69_8)) (y := (cAt Try.f69 [1, 1, 1, 1, 1])) (ay := .n) (l := []) (by kernel_rfl) (by kernel_rfl)).trans ?_
    refine (run_seq (x := (cAt Try.f69 [1, 1, 1, 1, 0, 0])) (ax := .n) (y := (cAt Try.f69 [1, 1, 1, 1, 0, 1])) (ay := A69_8) (l := [3, 7, 8, 9]) (by kernel_rfl) (by kernel_rfl)).trans ?_
    refine M69_5_ok ?_ x3 x7 x8 H
    intro x3 x7 x8 x9 H
    refine (run_block (id := 0) (x := (cAt Try.f69 [1, 1, 1, 1, 0, 1, 4])) (ax := (.l (some (lvOf [3, 7, 8, 9])) .n)) (by kernel_rfl) (by kernel_rfl)).trans ?_
    refine (run_loop (x := (cAt Try.f69 [1, 1, 1, 1, 0, 1, 4, 4])) (ax := .n) (l := [3, 7, 8, 9]) (by kernel_rfl) (by kernel_rfl) (by kernel_rfl)).trans ?_
    refine M69_7_ok ?_ N x3 x7 x8 x9 H
    intro H
    exact M69_9_ok  H
  · cases h
theorem M69_sound {o : Orc} (ho : ∀ f, FSound Try.prog f (o f)) (N : Nat) : FSound Try.prog 69 (M69 o N) :=
  FSound.sub (runFn_ok (an := A69_12) (fuel := N) hmix ho (by kernel_rfl) (by kernel_rfl)) (M69_run o N)
/-! 70 slices.IndexFunc[[]int,int] -/
def M70_0 (o : Orc) (N : Nat) (J : V → V → Heap → Ans) (κ : Kv) (x0 x1 : V) (H : Heap) : Ans :=
  J x0 x1 H
theorem M70_0_ok {o : Orc} {N : Nat} {κ : Kv} {J : Kt} {J' : V → V → Heap → Ans} (hJ : ∀ x0 x1 H, J (tmk 0 19 [(0, x0), (1, x1)]) H = J' x0 x1 H) (x0 x1 : V) (H : Heap) :
    run Try.prog o N (cAt Try.f70 [0]) .n (env0 Try.prog Try.f70 κ) (tmk 0 19 [(0, x0), (1, x1)]) H (kj [0, 1] J) = M70_0 o N J' κ x0 x1 H := by
  obtain rfl := fx3 hJ
  kernel_rfl
def M70_1 (o : Orc) (N : Nat) (J : V → V → Int → Int → Heap → Ans) (κ : Kv) (x0 x1 : V) (H : Heap) : Ans :=
  lenS x0 fun n1 =>
  J x0 x1 n1 0 H
theorem M70_1_ok {o : Orc} {N : Nat} {κ : Kv} {J : Kt} {J' : V → V → Int → Int → Heap → Ans} (hJ : ∀ x0 x1 x7 x8 H, J (tmk 0 19 [(0, x0), (1, x1), (7, .int .i64 x7), (8, .int .i64 x8)]) H = J' x0 x1 x7 x8 H) (x0 x1 : V) (H : Heap) :
    run Try.prog o N (cAt Try.f70 [1, 0, 0]) .n (env0 Try.prog Try.f70 κ) (tmk 0 19 [(0, x0), (1, x1)]) H (kj [0, 1, 7, 8] J) = M70_1 o N J' κ x0 x1 H := by
  obtain rfl := fx5 hJ
  kernel_rfl
def M70_2 (o : Orc) (N : Nat) (X0 : Heap → Ans) (J : V → V → Int → Int → Heap → Ans) (κ : Kv) (x0 x1 : V) (x7 x8 : Int) (H : Heap) : Ans :=
  cond (decide (x8 < x7)) (
  idxS 1 x0 x8 fun p2 o3 =>
  (ldI H .i64 p2 o3).bind fun n4 =>
  callV o x1 [(.int .i64 n4)] H fun v5 H6 =>
  asB v5 fun b7 =>
  cond b7 (
  κ (.int .i64 x8) H6) (
  J x0 x1 x7 (IntKind.i64.wrap (x8 + 1)) H6)) (
  X0  H)
theorem M70_2_ok {o : Orc} {N : Nat} {κ : Kv} {X0 J : Kt} {X0' : Heap → Ans} {J' : V → V → Int → Int → Heap → Ans} (h0 : ∀  H, X0 (tmk 0 19 []) H = X0' H) (hJ : ∀ x0 x1 x7 x8 H, J (tmk 0 19 [(0, x0), (1, x1), (7, .int .i64 x7), (8, .int .i64 x8)]) H = J' x0 x1 x7 x8 H) (x0 x1 : V) (x7 x8 : Int) (H : Heap) :
    run Try.prog o N (cAt Try.f70 [1, 0, 1, 4, 4]) .n ((env0 Try.prog Try.f70 κ).block 0 (kj [] X0)) (tmk 0 19 [(0, x0), (1, x1), (7, .int .i64 x7), (8, .int .i64 x8)]) H (kj [0, 1, 7, 8] J) = M70_2 o N X0' J' κ x0 x1 x7 x8 H := by
  obtain rfl := fx1 h0
  obtain rfl := fx5 hJ
  kernel_rfl
def M70_3 (o : Orc) (N : Nat) (X0 : Heap → Ans) (κ : Kv) (n : Nat) : V → V → Int → Int → Heap → Ans :=
  Nat.rec (motive := fun _ => V → V → Int → Int → Heap → Ans) (fun _ _ _ _ _ => none) (fun _ ih x0 x1 x7 x8 H => M70_2 o N X0 ih κ x0 x1 x7 x8 H) n
theorem M70_3_s (o : Orc) (N : Nat) (X0 : Heap → Ans) (κ : Kv) (n : Nat) (x0 x1 : V) (x7 x8 : Int) (H : Heap) : M70_3 o N X0 κ (n + 1) x0 x1 x7 x8 H = M70_2 o N X0 (M70_3 o N X0 κ n) κ x0 x1 x7 x8 H := rfl
theorem M70_3_ok {o : Orc} {N : Nat} {κ : Kv} {X0 : Kt} {X0' : Heap → Ans} (h0 : ∀  H, X0 (tmk 0 19 []) H = X0' H) (n : Nat) : ∀ (x0 x1 : V) (x7 x8 : Int) (H : Heap),
    rounds (fun a H k => run Try.prog o N (cAt Try.f70 [1, 0, 1, 4, 4]) .n ((env0 Try.prog Try.f70 κ).block 0 (kj [] X0)) a H k) (some (lvOf [0, 1, 7, 8])) n (tmk 0 19 [(0, x0), (1, x1), (7, .int .i64 x7), (8, .int .i64 x8)]) H = M70_3 o N X0' κ n x0 x1 x7 x8 H := by
  induction n with
  | zero => intros; rfl
  | succ n ih =>
    intro x0 x1 x7 x8 H
    refine (run_round.trans ?_).trans (M70_3_s ..).symm
    exact M70_2_ok h0 ih x0 x1 x7 x8 H
def A70_4 : An := .b none (.l (some (lvOf [0, 1, 7, 8])) .n)
def M70_5 (o : Orc) (N : Nat) (κ : Kv) (H : Heap) : Ans :=
  κ (.int .i64 (-1)) H
theorem M70_5_ok {o : Orc} {N : Nat} {κ : Kv} (H : Heap) :
    run Try.prog o N (cAt Try.f70 [1, 1]) .n (env0 Try.prog Try.f70 κ) (tmk 0 19 []) H (env0 Try.prog Try.f70 κ).ret = M70_5 o N κ  H := by
  kernel_rfl
def A70_6 : An := .s (.s .n (some (lvOf [0, 1, 7, 8])) A70_4) (some (lvOf [])) .n
def M70 (o : Orc) (N : Nat) : FnM := fun vs H κ => match vs with
  | [x0, x1] => M70_0 o N (fun x0 x1 H => M70_1 o N (fun x0 x1 x7 x8 H => M70_3 o N (fun H => M70_5 o N κ  H) κ N x0 x1 x7 x8 H) κ x0 x1 H) κ x0 x1 H
  | _ => none
theorem M70_run (o : Orc) (N : Nat) (vs : List V) (H : Heap) (κ : Kv) (r) (h : M70 o N vs H κ = some r) : runFn Try.prog o N Try.f70 (.s .n (some (lvOf [0, 1])) A70_6) vs H κ = some r := by
  unfold M70 at h
  split at h
  · rename_i x0 x1
    refine (runFn_at (t := tmk 0 19 [(0, x0), (1, x1)]) (by kernel_rfl) (by kernel_rfl)).trans (Eq.trans ?_ h)
    refine (run_seq (x := (cAt Try.f70 [0])) (ax := .n) (y := (cAt Try.f70 [1])) (ay := A70_6) (l := [0, 1]) (by kernel_rfl) (by kernel_rfl)).trans ?_
    refine M70_0_ok ?_ x0 x1 H
    intro x0 x1 H
    refine (run_seq (x := (cAt Try.f70 [1, 0])) (ax := (.s .n (some (lvOf [0, 1, 7, 8])) A70_4)) (y := (cAt Try.f70 [1, 1])) (ay := .n) (l := []) (by kernel_rfl) (by kernel_rfl)).trans ?_
    refine (run_seq (x := (cAt Try.f70 [1, 0, 0])) (ax := .n) (y := (cAt Try.f70 [1, 0, 1])) (ay := A70_4) (l := [0, 1, 7, 8]) (by kernel_rfl) (by kernel_rfl)).trans ?_
    refine M70_1_ok ?_ x0 x1 H
    intro x0 x1 x7 x8 H
    refine (run_block (id := 0) (x := (cAt Try.f70 [1, 0, 1, 4])) (ax := (.l (some (lvOf [0, 1, 7, 8])) .n)) (by kernel_rfl) (by kernel_rfl)).trans ?_
    refine (run_loop (x := (cAt Try.f70 [1, 0, 1, 4, 4])) (ax := .n) (l := [0, 1, 7, 8]) (by kernel_rfl) (by kernel_rfl) (by kernel_rfl)).trans ?_
    refine M70_3_ok ?_ N x0 x1 x7 x8 H
    intro H
    exact M70_5_ok  H
  · cases h
theorem M70_sound {o : Orc} (ho : ∀ f, FSound Try.prog f (o f)) (N : Nat) : FSound Try.prog 70 (M70 o N) :=
  FSound.sub (runFn_ok (an := (.s .n (some (lvOf [0, 1])) A70_6)) (fuel := N) hmix ho (by kernel_rfl) (by kernel_rfl)) (M70_run o N)
/-! 71 ostinato/check.who$1 -/
def M71_0 (o : Orc) (N : Nat) (κ : Kv) (x0 : Int) (x1 : V) (H : Heap) : Ans :=
  asP x1 fun p1 o2 =>
  (ldI H .i64 p1 (o2 + 1)).bind fun n3 =>
  κ (.bool (decide (x0 ≥ n3))) H
theorem M71_0_ok {o : Orc} {N : Nat} {κ : Kv} (x0 : Int) (x1 : V) (H : Heap) :
    run Try.prog o N (cAt Try.f71 []) .n (env0 Try.prog Try.f71 κ) (tmk 0 8 [(0, .int .i64 x0), (1, x1)]) H (env0 Try.prog Try.f71 κ).ret = M71_0 o N κ x0 x1 H := by
  kernel_rfl
def M71 (o : Orc) (N : Nat) : FnM := fun vs H κ => match vs with
  | [.int .i64 x0, x1] => M71_0 o N κ x0 x1 H
  | _ => none
theorem M71_run (o : Orc) (N : Nat) (vs : List V) (H : Heap) (κ : Kv) (r) (h : M71 o N vs H κ = some r) : runFn Try.prog o N Try.f71 .n vs H κ = some r := by
  unfold M71 at h
  split at h
  · rename_i x0 x1
    refine (runFn_at (t := tmk 0 8 [(0, .int .i64 x0), (1, x1)]) (by kernel_rfl) (by kernel_rfl)).trans (Eq.trans ?_ h)
    exact M71_0_ok x0 x1 H
  · cases h
theorem M71_sound {o : Orc} (ho : ∀ f, FSound Try.prog f (o f)) (N : Nat) : FSound Try.prog 71 (M71 o N) :=
  FSound.sub (runFn_ok (an := .n) (fuel := N) hmix ho (by kernel_rfl) (by kernel_rfl)) (M71_run o N)
/-! 72 slices.IndexFunc[[]ostinato/api.Message,ostinato/api.Message] -/
def M72_0 (o : Orc) (N : Nat) (J : V → V → Heap → Ans) (κ : Kv) (x0 x1 : V) (H : Heap) : Ans :=
  J x0 x1 H
theorem M72_0_ok {o : Orc} {N : Nat} {κ : Kv} {J : Kt} {J' : V → V → Heap → Ans} (hJ : ∀ x0 x1 H, J (tmk 0 19 [(0, x0), (1, x1)]) H = J' x0 x1 H) (x0 x1 : V) (H : Heap) :
    run Try.prog o N (cAt Try.f72 [0]) .n (env0 Try.prog Try.f72 κ) (tmk 0 19 [(0, x0), (1, x1)]) H (kj [0, 1] J) = M72_0 o N J' κ x0 x1 H := by
  obtain rfl := fx3 hJ
  kernel_rfl
def M72_1 (o : Orc) (N : Nat) (J : V → V → Int → Int → Heap → Ans) (κ : Kv) (x0 x1 : V) (H : Heap) : Ans :=
  lenS x0 fun n1 =>
  J x0 x1 n1 0 H
theorem M72_1_ok {o : Orc} {N : Nat} {κ : Kv} {J : Kt} {J' : V → V → Int → Int → Heap → Ans} (hJ : ∀ x0 x1 x7 x8 H, J (tmk 0 19 [(0, x0), (1, x1), (7, .int .i64 x7), (8, .int .i64 x8)]) H = J' x0 x1 x7 x8 H) (x0 x1 : V) (H : Heap) :
    run Try.prog o N (cAt Try.f72 [1, 0, 0]) .n (env0 Try.prog Try.f72 κ) (tmk 0 19 [(0, x0), (1, x1)]) H (kj [0, 1, 7, 8] J) = M72_1 o N J' κ x0 x1 H := by
  obtain rfl := fx5 hJ
  kernel_rfl
def M72_2 (o : Orc) (N : Nat) (X0 : Heap → Ans) (J : V → V → Int → Int → Heap → Ans) (κ : Kv) (x0 x1 : V) (x7 x8 : Int) (H : Heap) : Ans :=
  cond (decide (x8 < x7)) (
  idxS 3 x0 x8 fun p2 o3 =>
  ldFlat H p2 [.int .u32, .int .i64, .bool] o3 fun l4 =>
  callV o x1 [(.agg l4)] H fun v5 H6 =>
  asB v5 fun b7 =>
  cond b7 (
  κ (.int .i64 x8) H6) (
  J x0 x1 x7 (IntKind.i64.wrap (x8 + 1)) H6)) (
  X0  H)
theorem M72_2_ok {o : Orc} {N : Nat} {κ : Kv} {X0 J : Kt} {X0' : Heap → Ans} {J' : V → V → Int → Int → Heap → Ans} (h0 : ∀  H, X0 (tmk 0 19 []) H = X0' H) (hJ : ∀ x0 x1 x7 x8 H, J (tmk 0 19 [(0, x0), (1, x1), (7, .int .i64 x7), (8, .int .i64 x8)]) H = J' x0 x1 x7 x8 H) (x0 x1 : V) (x7 x8 : Int) (H : Heap) :
    run Try.prog o N (cAt Try.f72 [1, 0, 1, 4, 4]) .n ((env0 Try.prog Try.f72 κ).block 0 (kj [] X0)) (tmk 0 19 [(0, x0), (1, x1), (7, .int .i64 x7), (8, .int .i64 x8)]) H (kj [0, 1, 7, 8] J) = M72_2 o N X0' J' κ x0 x1 x7 x8 H := by
  obtain rfl := fx1 h0
  obtain rfl := fx5 hJ
  kernel_rfl
def M72_3 (o : Orc) (N : Nat) (X0 : Heap → Ans) (κ : Kv) (n : Nat) : V → V → Int → Int → Heap → Ans :=
  Nat.rec (motive := fun _ => V → V → Int → Int → Heap → Ans) (fun _ _ _ _ _ => none) (fun _ ih x0 x1 x7 x8 H => M72_2 o N X0 ih κ x0 x1 x7 x8 H) n
theorem M72_3_s (o : Orc) (N : Nat) (X0 : Heap → Ans) (κ : Kv) (n : Nat) (x0 x1 : V) (x7 x8 : Int) (H : Heap) : M72_3 o N X0 κ (n + 1) x0 x1 x7 x8 H = M72_2 o N X0 (M72_3 o N X0 κ n) κ x0 x1 x7 x8 H := rfl
theorem M72_3_ok {o : Orc} {N : Nat} {κ : Kv} {X0 : Kt} {X0' : Heap → Ans} (h0 : ∀  H, X0 (tmk 0 19 []) H = X0' H) (n : Nat) : ∀ (x0 x1 : V) (x7 x8 : Int) (H : Heap),
    rounds (fun a H k => run Try.prog o N (cAt Try.f72 [1, 0, 1, 4, 4]) .n ((env0 Try.prog Try.f72 κ).block 0 (kj [] X0)) a H k) (some (lvOf [0, 1, 7, 8])) n (tmk 0 19 [(0, x0), (1, x1), (7, .int .i64 x7), (8, .int .i64 x8)]) H = M72_3 o N X0' κ n x0 x1 x7 x8 H := by
  induction n with
  | zero => intros; rfl
  | succ n ih =>
    intro x0 x1 x7 x8 H
    refine (run_round.trans ?_).trans (M72_3_s ..).symm
    exact M72_2_ok h0 ih x0 x1 x7 x8 H
def A72_4 : An := .b none (.l (some (lvOf [0, 1, 7, 8])) .n)
def M72_5 (o : Orc) (N : Nat) (κ : Kv) (H : Heap) : Ans :=
  κ (.int .i64 (-1)) H
theorem M72_5_ok {o : Orc} {N : Nat} {κ : Kv} (H : Heap) :
    run Try.prog o N (cAt Try.f72 [1, 1]) .n (env0 Try.prog Try.f72 κ) (tmk 0 19 []) H (env0 Try.prog Try.f72 κ).ret = M72_5 o N κ  H := by
  kernel_rfl
def A72_6 : An := .s (.s .n (some (lvOf [0, 1, 7, 8])) A72_4) (some (lvOf [])) .n
def M72 (o : Orc) (N : Nat) : FnM := fun vs H κ => match vs with
  | [x0, x1] => M72_0 o N (fun x0 x1 H => M72_1 o N (fun x0 x1 x7 x8 H => M72_3 o N (fun H => M72_5 o N κ  H) κ N x0 x1 x7 x8 H) κ x0 x1 H) κ x0 x1 H
  | _ => none
theorem M72_run (o : Orc) (N : Nat) (vs : List V) (H : Heap) (κ : Kv) (r) (h : M72 o N vs H κ = some r) : runFn Try.prog o N Try.f72 (.s .n (some (lvOf [0, 1])) A72_6) vs H κ = some r := by
  unfold M72 at h
  split at h
  · rename_i x0 x1
    refine (runFn_at (t := tmk 0 19 [(0, x0), (1, x1)]) (by kernel_rfl) (by kernel_rfl)).trans (Eq.trans ?_ h)
    refine (run_seq (x := (cAt Try.f72 [0])) (ax := .n) (y := (cAt Try.f72 [1])) (ay := A72_6) (l := [0, 1]) (by kernel_rfl) (by kernel_rfl)).trans ?_
    refine M72_0_ok ?_ x0 x1 H
    intro x0 x1 H
    refine (run_seq (x := (cAt Try.f72 [1, 0])) (ax := (.s .n (some (lvOf [0, 1, 7, 8])) A72_4)) (y := (cAt Try.f72 [1, 1])) (ay := .n) (l := []) (by kernel_rfl) (by kernel_rfl)).trans ?_
    refine (run_seq (x := (cAt Try.f72 [1, 0, 0])) (ax := .n) (y := (cAt Try.f72 [1, 0, 1])) (ay := A72_4) (l := [0, 1, 7, 8]) (by kernel_rfl) (by kernel_rfl)).trans ?_
    refine M72_1_ok ?_ x0 x1 H
    intro x0 x1 x7 x8 H
    refine (run_block (id := 0) (x := (cAt Try.f72 [1, 0, 1, 4])) (ax := (.l (some (lvOf [0, 1, 7, 8])) .n)) (by kernel_rfl) (by kernel_rfl)).trans ?_
    refine (run_loop (x := (cAt Try.f72 [1, 0, 1, 4, 4])) (ax := .n) (l := [0, 1, 7, 8]) (by kernel_rfl) (by kernel_rfl) (by kernel_rfl)).trans ?_
    refine M72_3_ok ?_ N x0 x1 x7 x8 H
    intro H
    exact M72_5_ok  H
  · cases h
theorem M72_sound {o : Orc} (ho : ∀ f, FSound Try.prog f (o f)) (N : Nat) : FSound Try.prog 72 (M72 o N) :=
  FSound.sub (runFn_ok (an := (.s .n (some (lvOf [0, 1])) A72_6)) (fuel := N) hmix ho (by kernel_rfl) (by kernel_rfl)) (M72_run o N)
/-! 73 ostinato/check.who$2 -/
def M73_0 (o : Orc) (N : Nat) (κ : Kv) (x0 : List V) (x1 : V) (H : Heap) : Ans :=
  cond (List.all x0 V.one) (
  newB H (.row x0) fun i1 H2 =>
  (ldI H2 .i64 i1 1).bind fun n3 =>
  asP x1 fun p4 o5 =>
  (ldI H2 .i64 p4 (o5 + 1)).bind fun n6 =>
  κ (.bool (decide (n3 ≥ n6))) H2) none
theorem M73_0_ok {o : Orc} {N : Nat} {κ : Kv} (x0 : List V) (x1 : V) (H : Heap) :
    run Try.prog o N (cAt Try.f73 []) .n (env0 Try.prog Try.f73 κ) (tmk 0 9 [(0, .agg x0), (1, x1)]) H (env0 Try.prog Try.f73 κ).ret = M73_0 o N κ x0 x1 H := by
  kernel_rfl
def M73 (o : Orc) (N : Nat) : FnM := fun vs H κ => match vs with
  | [.agg x0, x1] => M73_0 o N κ x0 x1 H
  | _ => none
theorem M73_run (o : Orc) (N : Nat) (vs : List V) (H : Heap) (κ : Kv) (r) (h : M73 o N vs H κ = some r) : runFn Try.prog o N Try.f73 .n vs H κ = some r := by
  unfold M73 at h
  split at h
  · rename_i x0 x1
    refine (runFn_at (t := tmk 0 9 [(0, .agg x0), (1, x1)]) (by kernel_rfl) (by kernel_rfl)).trans (Eq.trans ?_ h)
    exact M73_0_ok x0 x1 H
  · cases h
theorem M73_sound {o : Orc} (ho : ∀ f, FSound Try.prog f (o f)) (N : Nat) : FSound Try.prog 73 (M73 o N) :=
  FSound.sub (runFn_ok (an := .n) (fuel := N) hmix ho (by kernel_rfl) (by kernel_rfl)) (M73_run o N)
/-! 74 slices.Contains[[]int,int] -/
def M74_0 (o : Orc) (N : Nat) (κ : Kv) (x0 : V) (x1 : Int) (H : Heap) : Ans :=
  o 54 [x0, (.int .i64 x1)] H fun v1 H2 =>
  asI .i64 v1 fun n3 =>
  κ (.bool (decide (n3 ≥ 0))) H2
theorem M74_0_ok {o : Orc} {N : Nat} {κ : Kv} (x0 : V) (x1 : Int) (H : Heap) :
    run Try.prog o N (cAt Try.f74 []) .n (env0 Try.prog Try.f74 κ) (tmk 0 9 [(0, x0), (1, .int .i64 x1)]) H (env0 Try.prog Try.f74 κ).ret = M74_0 o N κ x0 x1 H := by
  kernel_rfl
def M74 (o : Orc) (N : Nat) : FnM := fun vs H κ => match vs with
  | [x0, .int .i64 x1] => M74_0 o N κ x0 x1 H
  | _ => none
theorem M74_run (o : Orc) (N : Nat) (vs : List V) (H : Heap) (κ : Kv) (r) (h : M74 o N vs H κ = some r) : runFn Try.prog o N Try.f74 .n vs H κ = some r := by
  unfold M74 at h
  split at h
  · rename_i x0 x1
    refine (runFn_at (t := tmk 0 9 [(0, x0), (1, .int .i64 x1)]) (by kernel_rfl) (by kernel_rfl)).trans (Eq.trans ?_ h)
    exact M74_0_ok x0 x1 H
  · cases h
theorem M74_sound {o : Orc} (ho : ∀ f, FSound Try.prog f (o f)) (N : Nat) : FSound Try.prog 74 (M74 o N) :=
  FSound.sub (runFn_ok (an := .n) (fuel := N) hmix ho (by kernel_rfl) (by kernel_rfl)) (M74_run o N)
/-! 75 ostinato/check.twice$1 -/
def M75_0 (o : Orc) (N : Nat) (κ : Kv) (x0 : List V) (x1 : V) (H : Heap) : Ans :=
  cond (List.all x0 V.one) (
  newB H (.row x0) fun i1 H2 =>
  (ldI H2 .u32 i1 0).bind fun n3 =>
  asP x1 fun p4 o5 =>
  (ldI H2 .u32 p4 (o5 + 0)).bind fun n6 =>
  κ (.bool (n3 == n6)) H2) none
theorem M75_0_ok {o : Orc} {N : Nat} {κ : Kv} (x0 : List V) (x1 : V) (H : Heap) :
    run Try.prog o N (cAt Try.f75 []) .n (env0 Try.prog Try.f75 κ) (tmk 0 9 [(0, .agg x0), (1, x1)]) H (env0 Try.prog Try.f75 κ).ret = M75_0 o N κ x0 x1 H := by
  kernel_rfl
def M75 (o : Orc) (N : Nat) : FnM := fun vs H κ => match vs with
  | [.agg x0, x1] => M75_0 o N κ x0 x1 H
  | _ => none
theorem M75_run (o : Orc) (N : Nat) (vs : List V) (H : Heap) (κ : Kv) (r) (h : M75 o N vs H κ = some r) : runFn Try.prog o N Try.f75 .n vs H κ = some r := by
  unfold M75 at h
  split at h
  · rename_i x0 x1
    refine (runFn_at (t := tmk 0 9 [(0, .agg x0), (1, x1)]) (by kernel_rfl) (by kernel_rfl)).trans (Eq.trans ?_ h)
    exact M75_0_ok x0 x1 H
  · cases h
theorem M75_sound {o : Orc} (ho : ∀ f, FSound Try.prog f (o f)) (N : Nat) : FSound Try.prog 75 (M75 o N) :=
  FSound.sub (runFn_ok (an := .n) (fuel := N) hmix ho (by kernel_rfl) (by kernel_rfl)) (M75_run o N)
/-! 76 ostinato/check.Meet -/
def M76_0 (o : Orc) (N : Nat) (J : Int → Int → Nat → Heap → Ans) (κ : Kv) (x0 : List V) (x1 x2 : Int) (H : Heap) : Ans :=
  cond (List.all x0 V.one) (
  newB H (.row x0) fun i1 H2 =>
  J x1 x2 i1 H2) none
theorem M76_0_ok {o : Orc} {N : Nat} {κ : Kv} {J : Kt} {J' : Int → Int → Nat → Heap → Ans} (hJ : ∀ x1 x2 x3 H, J (tmk 0 66 [(1, .int .i64 x1), (2, .int .i64 x2), (3, .ptr x3 0)]) H = J' x1 x2 x3 H) (x0 : List V) (x1 x2 : Int) (H : Heap) :
    run Try.prog o N (cAt Try.f76 [0]) .n (env0 Try.prog Try.f76 κ) (tmk 0 66 [(0, .agg x0), (1, .int .i64 x1), (2, .int .i64 x2)]) H (kj [1, 2, 3] J) = M76_0 o N J' κ x0 x1 x2 H := by
  obtain rfl := fx4 hJ
  kernel_rfl
def M76_1 (o : Orc) (N : Nat) (J : Int → Nat → Nat → Bool → Heap → Ans) (κ : Kv) (x1 x2 : Int) (x3 : Nat) (H : Heap) : Ans :=
  ldFlat H x3 [.int .i64, .int .i64, .int .i64, .int .i64, .int .i64, .int .i64, .int .i64, .int .u32, .oth, .oth, .oth] 0 fun l3 =>
  o 81 [(.agg l3), (.int .i64 x1)] H fun v4 H5 =>
  asT2 v4 fun v6 v7 =>
  asA v6 fun l8 =>
  asB v7 fun b9 =>
  newB H5 (.row [(.int .i64 0), (.int .i64 0), (.int .i64 0), (.int .i64 0), (.int .i64 0), (.int .i64 0)]) fun i10 H11 =>
  cond (Nat.beq (List.length l8) 6 && Nat.blt 0 6) (
  (stN H11 i10 0 l8).bind fun H12 =>
  J x2 x3 i10 b9 H12) none
theorem M76_1_ok {o : Orc} {N : Nat} {κ : Kv} {J : Kt} {J' : Int → Nat → Nat → Bool → Heap → Ans} (hJ : ∀ x2 x3 x7 x8 H, J (tmk 0 66 [(2, .int .i64 x2), (3, .ptr x3 0), (7, .ptr x7 0), (8, .bool x8)]) H = J' x2 x3 x7 x8 H) (x1 x2 : Int) (x3 : Nat) (H : Heap) :
    run Try.prog o N (cAt Try.f76 [1, 0]) .n (env0 Try.prog Try.f76 κ) (tmk 0 66 [(1, .int .i64 x1), (2, .int .i64 x2), (3, .ptr x3 0)]) H (kj [2, 3, 7, 8] J) = M76_1 o N J' κ x1 x2 x3 H := by
  obtain rfl := fx5 hJ
  kernel_rfl
def M76_2 (o : Orc) (N : Nat) (J : Nat → Nat → Bool → Nat → Bool → Heap → Ans) (κ : Kv) (x2 : Int) (x3 x7 : Nat) (x8 : Bool) (H : Heap) : Ans :=
  ldFlat H x3 [.int .i64, .int .i64, .int .i64, .int .i64, .int .i64, .int .i64, .int .i64, .int .u32, .oth, .oth, .oth] 0 fun l13 =>
  o 81 [(.agg l13), (.int .i64 x2)] H fun v14 H15 =>
  asT2 v14 fun v16 v17 =>
  asA v16 fun l18 =>
  asB v17 fun b19 =>
  newB H15 (.row [(.int .i64 0), (.int .i64 0), (.int .i64 0), (.int .i64 0), (.int .i64 0), (.int .i64 0)]) fun i20 H21 =>
  cond (Nat.beq (List.length l18) 6 && Nat.blt 0 6) (
  (stN H21 i20 0 l18).bind fun H22 =>
  J x3 x7 x8 i20 b19 H22) none
theorem M76_2_ok {o : Orc} {N : Nat} {κ : Kv} {J : Kt} {J' : Nat → Nat → Bool → Nat → Bool → Heap → Ans} (hJ : ∀ x3 x7 x8 x9 x10 H, J (tmk 0 66 [(3, .ptr x3 0), (7, .ptr x7 0), (8, .bool x8), (9, .ptr x9 0), (10, .bool x10)]) H = J' x3 x7 x8 x9 x10 H) (x2 : Int) (x3 x7 : Nat) (x8 : Bool) (H : Heap) :
    run Try.prog o N (cAt Try.f76 [1, 1, 0]) .n (env0 Try.prog Try.f76 κ) (tmk 0 66 [(2, .int .i64 x2), (3, .ptr x3 0), (7, .ptr x7 0), (8, .bool x8)]) H (kj [3, 7, 8, 9, 10] J) = M76_2 o N J' κ x2 x3 x7 x8 H := by
  obtain rfl := fx6 hJ
  kernel_rfl
def M76_3 (o : Orc) (N : Nat) (J : Nat → Nat → Nat → Heap → Ans) (κ : Kv) (x3 x7 : Nat) (x8 : Bool) (x9 : Nat) (x10 : Bool) (H : Heap) : Ans :=
  cond (!x8) (
  κ (.bool false) H) (
  cond (!x10) (
  κ (.bool false) H) (
  (ldI H .i64 x7 1).bind fun n23 =>
  (ldI H .i64 x9 2).bind fun n24 =>
  cond (decide (n23 ≥ n24)) (
  κ (.bool false) H) (
  (ldI H .i64 x9 1).bind fun n25 =>
  (ldI H .i64 x7 2).bind fun n26 =>
  cond (decide (n25 ≥ n26)) (
  κ (.bool false) H) (
  J x3 x7 x9 H))))
theorem M76_3_ok {o : Orc} {N : Nat} {κ : Kv} {J : Kt} {J' : Nat → Nat → Nat → Heap → Ans} (hJ : ∀ x3 x7 x9 H, J (tmk 0 66 [(3, .ptr x3 0), (7, .ptr x7 0), (9, .ptr x9 0)]) H = J' x3 x7 x9 H) (x3 x7 : Nat) (x8 : Bool) (x9 : Nat) (x10 : Bool) (H : Heap) :
    run Try.prog o N (cAt Try.f76 [1, 1, 1, 0]) .n (env0 Try.prog Try.f76 κ) (tmk 0 66 [(3, .ptr x3 0), (7, .ptr x7 0), (8, .bool x8), (9, .ptr x9 0), (10, .bool x10)]) H (kj [3, 7, 9] J) = M76_3 o N J' κ x3 x7 x8 x9 x10 H := by
  obtain rfl := fx4 hJ
  kernel_rfl
def M76_4 (o : Orc) (N : Nat) (J : Nat → Nat → Int → Int → Heap → Ans) (κ : Kv) (x3 x7 x9 : Nat) (H : Heap) : Ans :=
  (ldI H .i64 x3 2).bind fun n27 =>
  J x7 x9 (if 8 < (if 0 > n27 then 0 else n27) then 8 else (if 0 > n27 then 0 else n27)) 0 H
theorem M76_4_ok {o : Orc} {N : Nat} {κ : Kv} {J : Kt} {J' : Nat → Nat → Int → Int → Heap → Ans} (hJ : ∀ x7 x9 x47 x48 H, J (tmk 0 66 [(7, .ptr x7 0), (9, .ptr x9 0), (47, .int .i64 x47), (48, .int .i64 x48)]) H = J' x7 x9 x47 x48 H) (x3 x7 x9 : Nat) (H : Heap) :
    run Try.prog o N (cAt Try.f76 [1, 1, 1, 1, 0, 0]) .n (env0 Try.prog Try.f76 κ) (tmk 0 66 [(3, .ptr x3 0), (7, .ptr x7 0), (9, .ptr x9 0)]) H (kj [7, 9, 47, 48] J) = M76_4 o N J' κ x3 x7 x9 H := by
  obtain rfl := fx5 hJ
  kernel_rfl
def M76_5 (o : Orc) (N : Nat) (X0 : Heap → Ans) (J : Nat → Nat → Int → Int → Heap → Ans) (κ : Kv) (x7 x9 : Nat) (x47 x48 : Int) (H : Heap) : Ans :=
  cond (decide (x48 < x47)) (
  (ldI H .i64 x7 3).bind fun n28 =>
  (ldI H .i64 x7 4).bind fun n29 =>
  o 50 [(.int .i64 n28), (.int .i64 n29), (.int .i64 x48)] H fun v30 H31 =>
  asB v30 fun b32 =>
  cond b32 (
  (ldI H31 .i64 x9 3).bind fun n33 =>
  (ldI H31 .i64 x9 4).bind fun n34 =>
  o 50 [(.int .i64 n33), (.int .i64 n34), (.int .i64 x48)] H31 fun v35 H36 =>
  asB v35 fun b37 =>
  cond b37 (
  κ (.bool true) H36) (
  J x7 x9 x47 (IntKind.i64.wrap (x48 + 1)) H36)) (
  J x7 x9 x47 (IntKind.i64.wrap (x48 + 1)) H31)) (
  X0  H)
theorem M76_5_ok {o : Orc} {N : Nat} {κ : Kv} {X0 J : Kt} {X0' : Heap → Ans} {J' : Nat → Nat → Int → Int → Heap → Ans} (h0 : ∀  H, X0 (tmk 0 66 []) H = X0' H) (hJ : ∀ x7 x9 x47 x48 H, J (tmk 0 66 [(7, .ptr x7 0), (9, .ptr x9 0), (47, .int .i64 x47), (48, .int .i64 x48)]) H = J' x7 x9 x47 x48 H) (x7 x9 : Nat) (x47 x48 : Int) (H : Heap) :
    run Try.prog o N (cAt Try.f76 [1, 1, 1, 1, 0, 1, 4, 4]) .n ((env0 Try.prog Try.f76 κ).block 0 (kj [] X0)) (tmk 0 66 [(7, .ptr x7 0), (9, .ptr x9 0), (47, .int .i64 x47), (48, .int .i64 x48)]) H (kj [7, 9, 47, 48] J) = M76_5 o N X0' J' κ x7 x9 x47 x48 H := by
  obtain rfl := fx1 h0
  obtain rfl := fx5 hJ
  kernel_rfl
def M76_6 (o : Orc) (N : Nat) (X0 : Heap → Ans) (κ : Kv) (n : Nat) : Nat → Nat → Int → Int → Heap → Ans :=
  Nat.rec (motive := fun _ => Nat → Nat → Int → Int → Heap → Ans) (fun _ _ _ _ _ => none) (fun _ ih x7 x9 x47 x48 H => M76_5 o N X0 ih κ x7 x9 x47 x48 H) n
theorem M76_6_s (o : Orc) (N : Nat) (X0 : Heap → Ans) (κ : Kv) (n : Nat) (x7 x9 : Nat) (x47 x48 : Int) (H : Heap) : M76_6 o N X0 κ (n + 1) x7 x9 x47 x48 H = M76_5 o N X0 (M76_6 o N X0 κ n) κ x7 x9 x47 x48 H := rfl
theorem M76_6_ok {o : Orc} {N : Nat} {κ : Kv} {X0 : Kt} {X0' : Heap → Ans} (h0 : ∀  H, X0 (tmk 0 66 []) H = X0' H) (n : Nat) : ∀ (x7 x9 : Nat) (x47 x48 : Int) (H : Heap),
    rounds (fun a H k => run Try.prog o N (cAt Try.f76 [1, 1, 1, 1, 0, 1, 4, 4]) .n ((env0 Try.prog Try.f76 κ).block 0 (kj [] X0)) a H k) (some (lvOf [7, 9, 47, 48])) n (tmk 0 66 [(7, .ptr x7 0), (9, .ptr x9 0), (47, .int .i64 x47), (48, .int .i64 x48)]) H = M76_6 o N X0' κ n x7 x9 x47 x48 H := by
  induction n with
  | zero => intros; rfl
  | succ n ih =>
    intro x7 x9 x47 x48 H
    refine (run_round.trans ?_).trans (M76_6_s ..).symm
    exact M76_5_ok h0 ih x7 x9 x47 x48 H
def A76_7 : An := .b none (.l (some (lvOf [7, 9, 47, 48])) .n)
def A76_8 : An := .s .n (some (lvOf [7, 9, 47, 48])) A76_7
def M76_9 (o : Orc) (N : Nat) (κ : Kv) (H : Heap) : Ans :=
  κ (.bool false) H
theorem M76_9_ok {o : Orc} {N : Nat} {κ : Kv} (H : Heap) :
    run Try.prog o N (cAt Try.f76 [1, 1, 1, 1, 1]) .n (env0 Try.prog Try.f76 κ) (tmk 0 66 []) H (env0 Try.prog Try.f76 κ).ret = M76_9 o N κ  H := by
  kernel_rfl
def A76_10 : An := .s .n (some (lvOf [3, 7, 9])) (.s A76_8 (some (lvOf [])) .n)
def A76_11 : An := .s .n (some (lvOf [3, 7, 8, 9, 10])) A76_10
def A76_12 : An := .s .n (some (lvOf [1, 2, 3])) (.s .n (some (lvOf [2, 3, 7, 8])) A76_11)
def M76 (o : Orc) (N : Nat) : FnM := fun vs H κ => match vs with
  | [.agg x0, .int .i64 x1, .int .i64 x2] => M76_0 o N (fun x1 x2 x3 H => M76_1 o N (fun x2 x3 x7 x8 H => M76_2 o N (fun x3 x7 x8 x9 x10 H => M76_3 o N (fun x3 x7 x9 H => M76_4 o N (fun x7 x9 x47 x48 H => M76_6 o N (fun H => M76_9 o N κ  H) κ N x7 x9 x47 x48 H) κ x3 x7 x9 H) κ x3 x7 x8 x9 x10 H) κ x2 x3 x7 x8 H) κ x1 x2 x3 H) κ x0 x1 x2 H
  | _ => none
theorem M76_run (o : Orc) (N : Nat) (vs : List V) (H : Heap) (κ : Kv) (r) (h : M76 o N vs H κ = some r) : runFn Try.prog o N Try.f76 A76_12 vs H κ = some r := by
  unfold M76 at h
  split at h
  · rename_i x0 x1 x2
    refine (runFn_at (t := tmk 0 66 [(0, .agg x0), (1, .int .i64 x1), (2, .int .i64 x2)]) (by kernel_rfl) (by kernel_rfl)).trans (Eq.trans ?_ h)
    refine (run_seq (x := (cAt Try.f76 [0])) (ax := .n) (y := (cAt Try.f76 [1])) (ay := (.s .n (some (lvOf [2, 3, 7, 8])) A76_11)) (l := [1, 2, 3]) (by kernel_rfl) (by kernel_rfl)).trans ?_
    refine M76_0_ok ?_ x0 x1 x2 H
    intro x1 x2 x3 H
    refine (run_seq (x := (cAt Try.f76 [1, 0])) (ax := .n) (y := (cAt Try.f76 [1, 1])) (ay := A76_11) (l := [2, 3, 7, 8]) (by kernel_rfl) (by kernel_rfl)).trans ?_
    refine M76_1_ok ?_ x1 x2 x3 H
    intro x2 x3 x7 x8 H
    refine (run_seq (x := (cAt Try.f76 [1, 1, 0])) (ax := .n) (y := (cAt Try.f76 [1, 1, 1])) (ay := A76_10) (l := [3, 7, 8, 9, 10]) (by kernel_rfl) (by kernel_rfl)).trans ?_
    refine M76_2_ok ?_ x2 x3 x7 x8 H
    intro x3 x7 x8 x9 x10 H
    refine (run_seq (x := (cAt Try.f76 [1, 1, 1, 0])) (ax := .n) (y := (cAt Try.f76 [1, 1, 1, 1])) (ay := (.s A76_8 (some (lvOf [])) .n)) (l := [3, 7, 9]) (by kernel_rfl) (by kernel_rfl)).trans ?_
    refine M76_3_ok ?_ x3 x7 x8 x9 x10 H
    intro x3 x7 x9 H
    refine (run_seq (x := (cAt Try.f76 [1, 1, 1, 1, 0])) (ax := A76_8) (y := (cAt Try.f76 [1, 1, 1, 1, 1])) (ay := .n) (l := []) (by kernel_rfl) (by kernel_rfl)).trans ?_
    refine (run_seq (x := (cAt Try.f76 [1, 1, 1, 1, 0, 0])) (ax := .n) (y := (cAt Try.f76 [1, 1, 1, 1, 0, 1])) (ay := A76_7) (l := [7, 9, 47, 48]) (by kernel_rfl) (by kernel_rfl)).trans ?_
    refine M76_4_ok ?_ x3 x7 x9 H
    intro x7 x9 x47 x48 H
    refine (run_block (id := 0) (x := (cAt Try.f76 [1, 1, 1, 1, 0, 1, 4])) (ax := (.l (some (lvOf [7, 9, 47, 48])) .n)) (by kernel_rfl) (by kernel_rfl)).trans ?_
    refine (run_loop (x := (cAt Try.f76 [1, 1, 1, 1, 0, 1, 4, 4])) (ax := .n) (l := [7, 9, 47, 48]) (by kernel_rfl) (by kernel_rfl) (by kernel_rfl)).trans ?_
    refine M76_6_ok ?_ N x7 x9 x47 x48 H
    intro H
    exact M76_9_ok  H
  · cases h
theorem M76_sound {o : Orc} (ho : ∀ f, FSound Try.prog f (o f)) (N : Nat) : FSound Try.prog 76 (M76 o N) :=
  FSound.sub (runFn_ok (an := A76_12) (fuel := N) hmix ho (by kernel_rfl) (by kernel_rfl)) (M76_run o N)
/-! 77 slices.insertionSortCmpFunc[ostinato/api.Trigger] -/
def M77_0 (o : Orc) (N : Nat) (J : V → Int → Int → V → Int → Heap → Ans) (κ : Kv) (x0 : V) (x1 x2 : Int) (x3 : V) (H : Heap) : Ans :=
  J x0 x1 x2 x3 (IntKind.i64.wrap (x1 + 1)) H
theorem M77_0_ok {o : Orc} {N : Nat} {κ : Kv} {J : Kt} {J' : V → Int → Int → V → Int → Heap → Ans} (hJ : ∀ x0 x1 x2 x3 x8 H, J (tmk 0 53 [(0, x0), (1, .int .i64 x1), (2, .int .i64 x2), (3, x3), (8, .int .i64 x8)]) H = J' x0 x1 x2 x3 x8 H) (x0 : V) (x1 x2 : Int) (x3 : V) (H : Heap) :
    run Try.prog o N (cAt Try.f77 [0]) .n (env0 Try.prog Try.f77 κ) (tmk 0 53 [(0, x0), (1, .int .i64 x1), (2, .int .i64 x2), (3, x3)]) H (kj [0, 1, 2, 3, 8] J) = M77_0 o N J' κ x0 x1 x2 x3 H := by
  obtain rfl := fx6 hJ
  kernel_rfl
def M77_1 (o : Orc) (N : Nat) (J : V → Int → Int → V → Int → Heap → Ans) (κ : Kv) (x0 : V) (x1 x2 : Int) (x3 : V) (x8 : Int) (H : Heap) : Ans :=
  cond (decide (x8 < x2)) (
  J x0 x1 x2 x3 x8 H) (
  κ (.tup []) H)
theorem M77_1_ok {o : Orc} {N : Nat} {κ : Kv} {J : Kt} {J' : V → Int → Int → V → Int → Heap → Ans} (hJ : ∀ x0 x1 x2 x3 x8 H, J (tmk 0 53 [(0, x0), (1, .int .i64 x1), (2, .int .i64 x2), (3, x3), (8, .int .i64 x8)]) H = J' x0 x1 x2 x3 x8 H) (x0 : V) (x1 x2 : Int) (x3 : V) (x8 : Int) (H : Heap) :
    run Try.prog o N (cAt Try.f77 [1, 4, 4, 0]) .n ((env0 Try.prog Try.f77 κ).block 0 (env0 Try.prog Try.f77 κ).ret) (tmk 0 53 [(0, x0), (1, .int .i64 x1), (2, .int .i64 x2), (3, x3), (8, .int .i64 x8)]) H (kj [0, 1, 2, 3, 8] J) = M77_1 o N J' κ x0 x1 x2 x3 x8 H := by
  obtain rfl := fx6 hJ
  kernel_rfl
def M77_2 (o : Orc) (N : Nat) (J : V → Int → Int → V → Int → Int → Heap → Ans) (κ : Kv) (x0 : V) (x1 x2 : Int) (x3 : V) (x8 : Int) (H : Heap) : Ans :=
  J x0 x1 x2 x3 x8 x8 H
theorem M77_2_ok {o : Orc} {N : Nat} {κ : Kv} {X1 J : Kt} {J' : V → Int → Int → V → Int → Int → Heap → Ans} (hJ : ∀ x0 x1 x2 x3 x8 x9 H, J (tmk 0 53 [(0, x0), (1, .int .i64 x1), (2, .int .i64 x2), (3, x3), (8, .int .i64 x8), (9, .int .i64 x9)]) H = J' x0 x1 x2 x3 x8 x9 H) (x0 : V) (x1 x2 : Int) (x3 : V) (x8 : Int) (H : Heap) :
    run Try.prog o N (cAt Try.f77 [1, 4, 4, 1, 0, 4, 0]) .n (((env0 Try.prog Try.f77 κ).block 0 (env0 Try.prog Try.f77 κ).ret).block 1 (kj [0, 1, 2, 3, 8] X1)) (tmk 0 53 [(0, x0), (1, .int .i64 x1), (2, .int .i64 x2), (3, x3), (8, .int .i64 x8)]) H (kj [0, 1, 2, 3, 8, 9] J) = M77_2 o N J' κ x0 x1 x2 x3 x8 H := by
  obtain rfl := fx7 hJ
  kernel_rfl
def A77_3 : An := (.s (.s (.d [0, 1, 2, 3, 4, 5, 6, 7, 8, 9, 10, 11, 12, 13, 14, 15, 16]) none .n) none (.s (.b none (.d [0, 1, 2, 3, 4, 5, 6, 7, 8, 9, 10, 11, 12, 13, 14, 15, 16, 17])) none .n))
def M77_4 (o : Orc) (N : Nat) (X2 : V → Int → Int → V → Int → Heap → Ans) (J : V → Int → Int → V → Int → Int → Heap → Ans) (κ : Kv) (x0 : V) (x1 x2 : Int) (x3 : V) (x8 x9 : Int) (H : Heap) : Ans :=
  cond (decide (x9 > x1)) (
  idxS 6 x0 x9 fun p1 o2 =>
  ldFlat (Heap.skip H 17) p1 [.int .i64, .int .i64, .int .i64, .int .i64, .int .i64, .int .i64] o2 fun l3 =>
  idxS 6 x0 (IntKind.i64.wrap (x9 - 1)) fun p4 o5 =>
  ldFlat (Heap.skip H 17) p4 [.int .i64, .int .i64, .int .i64, .int .i64, .int .i64, .int .i64] o5 fun l6 =>
  callV o x3 [(.agg l3), (.agg l6)] (Heap.skip H 17) fun v7 H8 =>
  asI .i64 v7 fun n9 =>
  cond (decide (n9 < 0)) (
  idxS 6 x0 (IntKind.i64.wrap (x9 - 1)) fun p10 o11 =>
  ldFlat (Heap.skip H8 18) p10 [.int .i64, .int .i64, .int .i64, .int .i64, .int .i64, .int .i64] o11 fun l12 =>
  idxS 6 x0 x9 fun p13 o14 =>
  ldFlat (Heap.skip H8 18) p13 [.int .i64, .int .i64, .int .i64, .int .i64, .int .i64, .int .i64] o14 fun l15 =>
  idxS 6 x0 x9 fun p16 o17 =>
  cond (Nat.beq (List.length l12) 6 && Nat.blt 0 6) (
  (stN (Heap.skip H8 18) p16 o17 l12).bind fun H18 =>
  idxS 6 x0 (IntKind.i64.wrap (x9 - 1)) fun p19 o20 =>
  cond (Nat.beq (List.length l15) 6 && Nat.blt 0 6) (
  (stN H18 p19 o20 l15).bind fun H21 =>
  J x0 x1 x2 x3 x8 (IntKind.i64.wrap (x9 - 1)) H21) none) none) (
  X2 x0 x1 x2 x3 x8 H8)) (
  X2 x0 x1 x2 x3 x8 (Heap.skip H 17))
theorem M77_4_ok {o : Orc} {N : Nat} {κ : Kv} {X1 X2 J : Kt} {X2' : V → Int → Int → V → Int → Heap → Ans} {J' : V → Int → Int → V → Int → Int → Heap → Ans} (h2 : ∀ x0 x1 x2 x3 x8 H, X2 (tmk 0 53 [(0, x0), (1, .int .i64 x1), (2, .int .i64 x2), (3, x3), (8, .int .i64 x8)]) H = X2' x0 x1 x2 x3 x8 H) (hJ : ∀ x0 x1 x2 x3 x8 x9 H, J (tmk 0 53 [(0, x0), (1, .int .i64 x1), (2, .int .i64 x2), (3, x3), (8, .int .i64 x8), (9, .int .i64 x9)]) H = J' x0 x1 x2 x3 x8 x9 H) (x0 : V) (x1 x2 : Int) (x3 : V) (x8 x9 : Int) (H : Heap) :
    run Try.prog o N (cAt Try.f77 [1, 4, 4, 1, 0, 4, 1, 4, 4]) A77_3 ((((env0 Try.prog Try.f77 κ).block 0 (env0 Try.prog Try.f77 κ).ret).block 1 (kj [0, 1, 2, 3, 8] X1)).block 2 (kj [0, 1, 2, 3, 8] X2)) (tmk 0 53 [(0, x0), (1, .int .i64 x1), (2, .int .i64 x2), (3, x3), (8, .int .i64 x8), (9, .int .i64 x9)]) H (kj [0, 1, 2, 3, 8, 9] J) = M77_4 o N X2' J' κ x0 x1 x2 x3 x8 x9 H := by
  obtain rfl := fx6 h2
  obtain rfl := fx7 hJ
  kernel_rfl
def A77_5 : An := .l (some (lvOf [0, 1, 2, 3, 8, 9])) A77_3
def M77_6 (o : Orc) (N : Nat) (X2 : V → Int → Int → V → Int → Heap → Ans) (κ : Kv) (n : Nat) : V → Int → Int → V → Int → Int → Heap → Ans :=
  Nat.rec (motive := fun _ => V → Int → Int → V → Int → Int → Heap → Ans) (fun _ _ _ _ _ _ _ => none) (fun _ ih x0 x1 x2 x3 x8 x9 H => M77_4 o N X2 ih κ x0 x1 x2 x3 x8 x9 H) n
theorem M77_6_s (o : Orc) (N : Nat) (X2 : V → Int → Int → V → Int → Heap → Ans) (κ : Kv) (n : Nat) (x0 : V) (x1 x2 : Int) (x3 : V) (x8 x9 : Int) (H : Heap) : M77_6 o N X2 κ (n + 1) x0 x1 x2 x3 x8 x9 H = M77_4 o N X2 (M77_6 o N X2 κ n) κ x0 x1 x2 x3 x8 x9 H := rfl
theorem M77_6_ok {o : Orc} {N : Nat} {κ : Kv} {X1 X2 : Kt} {X2' : V → Int → Int → V → Int → Heap → Ans} (h2 : ∀ x0 x1 x2 x3 x8 H, X2 (tmk 0 53 [(0, x0), (1, .int .i64 x1), (2, .int .i64 x2), (3, x3), (8, .int .i64 x8)]) H = X2' x0 x1 x2 x3 x8 H) (n : Nat) : ∀ (x0 : V) (x1 x2 : Int) (x3 : V) (x8 x9 : Int) (H : Heap),
    rounds (fun a H k => run Try.prog o N (cAt Try.f77 [1, 4, 4, 1, 0, 4, 1, 4, 4]) A77_3 ((((env0 Try.prog Try.f77 κ).block 0 (env0 Try.prog Try.f77 κ).ret).block 1 (kj [0, 1, 2, 3, 8] X1)).block 2 (kj [0, 1, 2, 3, 8] X2)) a H k) (some (lvOf [0, 1, 2, 3, 8, 9])) n (tmk 0 53 [(0, x0), (1, .int .i64 x1), (2, .int .i64 x2), (3, x3), (8, .int .i64 x8), (9, .int .i64 x9)]) H = M77_6 o N X2' κ n x0 x1 x2 x3 x8 x9 H := by
  induction n with
  | zero => intros; rfl
  | succ n ih =>
    intro x0 x1 x2 x3 x8 x9 H
    refine (run_round.trans ?_).trans (M77_6_s ..).symm
    exact M77_4_ok h2 ih x0 x1 x2 x3 x8 x9 H
def A77_7 : An := .s .n (some (lvOf [0, 1, 2, 3, 8, 9])) (.b none A77_5)
def M77_8 (o : Orc) (N : Nat) (J : V → Int → Int → V → Int → Heap → Ans) (κ : Kv) (x0 : V) (x1 x2 : Int) (x3 : V) (x8 : Int) (H : Heap) : Ans :=
  J x0 x1 x2 x3 (IntKind.i64.wrap (x8 + 1)) H
theorem M77_8_ok {o : Orc} {N : Nat} {κ : Kv} {J : Kt} {J' : V → Int → Int → V → Int → Heap → Ans} (hJ : ∀ x0 x1 x2 x3 x8 H, J (tmk 0 53 [(0, x0), (1, .int .i64 x1), (2, .int .i64 x2), (3, x3), (8, .int .i64 x8)]) H = J' x0 x1 x2 x3 x8 H) (x0 : V) (x1 x2 : Int) (x3 : V) (x8 : Int) (H : Heap) :
    run Try.prog o N (cAt Try.f77 [1, 4, 4, 1, 1]) .n ((env0 Try.prog Try.f77 κ).block 0 (env0 Try.prog Try.f77 κ).ret) (tmk 0 53 [(0, x0), (1, .int .i64 x1), (2, .int .i64 x2), (3, x3), (8, .int .i64 x8)]) H (kj [0, 1, 2, 3, 8] J) = M77_8 o N J' κ x0 x1 x2 x3 x8 H := by
  obtain rfl := fx6 hJ
  kernel_rfl
def A77_9 : An := .s (.b none A77_7) (some (lvOf [0, 1, 2, 3, 8])) .n
def A77_10 : An := .s .n (some (lvOf [0, 1, 2, 3, 8])) A77_9
def M77_11 (o : Orc) (N : Nat) (κ : Kv) (n : Nat) : V → Int → Int → V → Int → Heap → Ans :=
  Nat.rec (motive := fun _ => V → Int → Int → V → Int → Heap → Ans) (fun _ _ _ _ _ _ => none) (fun _ ih x0 x1 x2 x3 x8 H => M77_1 o N (fun x0 x1 x2 x3 x8 H => M77_2 o N (fun x0 x1 x2 x3 x8 x9 H => M77_6 o N (fun x0 x1 x2 x3 x8 H => M77_8 o N ih κ x0 x1 x2 x3 x8 H) κ N x0 x1 x2 x3 x8 x9 H) κ x0 x1 x2 x3 x8 H) κ x0 x1 x2 x3 x8 H) n
theorem M77_11_s (o : Orc) (N : Nat) (κ : Kv) (n : Nat) (x0 : V) (x1 x2 : Int) (x3 : V) (x8 : Int) (H : Heap) : M77_11 o N κ (n + 1) x0 x1 x2 x3 x8 H = M77_1 o N (fun x0 x1 x2 x3 x8 H => M77_2 o N (fun x0 x1 x2 x3 x8 x9 H => M77_6 o N (fun x0 x1 x2 x3 x8 H => M77_8 o N (M77_11 o N κ n) κ x0 x1 x2 x3 x8 H) κ N x0 x1 x2 x3 x8 x9 H) κ x0 x1 x2 x3 x8 H) κ x0 x1 x2 x3 x8 H := rfl
theorem M77_11_ok {o : Orc} {N : Nat} {κ : Kv} (n : Nat) : ∀ (x0 : V) (x1 x2 : Int) (x3 : V) (x8 : Int) (H : Heap),
    rounds (fun a H k => run Try.prog o N (cAt Try.f77 [1, 4, 4]) A77_10 ((env0 Try.prog Try.f77 κ).block 0 (env0 Try.prog Try.f77 κ).ret) a H k) (some (lvOf [0, 1, 2, 3, 8])) n (tmk 0 53 [(0, x0), (1, .int .i64 x1), (2, .int .i64 x2), (3, x3), (8, .int .i64 x8)]) H = M77_11 o N κ n x0 x1 x2 x3 x8 H := by
  induction n with
  | zero => intros; rfl
  | succ n ih =>
    intro x0 x1 x2 x3 x8 H
    refine (run_round.trans ?_).trans (M77_11_s ..).symm
    refine (run_seq (x := (cAt Try.f77 [1, 4, 4, 0])) (ax := .n) (y := (cAt Try.f77 [1, 4, 4, 1])) (ay := A77_9) (l := [0, 1, 2, 3, 8]) (by kernel_rfl) (by kernel_rfl)).trans ?_
    refine M77_1_ok ?_ x0 x1 x2 x3 x8 H
    intro x0 x1 x2 x3 x8 H
    refine (run_seq (x := (cAt Try.f77 [1, 4, 4, 1, 0])) (ax := (.b none A77_7)) (y := (cAt Try.f77 [1, 4, 4, 1, 1])) (ay := .n) (l := [0, 1, 2, 3, 8]) (by kernel_rfl) (by kernel_rfl)).trans ?_
    refine (run_block (id := 1) (x := (cAt Try.f77 [1, 4, 4, 1, 0, 4])) (ax := A77_7) (by kernel_rfl) (by kernel_rfl)).trans ?_
    refine (run_seq (x := (cAt Try.f77 [1, 4, 4, 1, 0, 4, 0])) (ax := .n) (y := (cAt Try.f77 [1, 4, 4, 1, 0, 4, 1])) (ay := (.b none A77_5)) (l := [0, 1, 2, 3, 8, 9]) (by kernel_rfl) (by kernel_rfl)).trans ?_
    refine M77_2_ok ?_ x0 x1 x2 x3 x8 H
    intro x0 x1 x2 x3 x8 x9 H
    refine (run_block (id := 2) (x := (cAt Try.f77 [1, 4, 4, 1, 0, 4, 1, 4])) (ax := A77_5) (by kernel_rfl) (by kernel_rfl)).trans ?_
    refine (run_loop (x := (cAt Try.f77 [1, 4, 4, 1, 0, 4, 1, 4, 4])) (ax := A77_3) (l := [0, 1, 2, 3, 8, 9]) (by kernel_rfl) (by kernel_rfl) (by kernel_rfl)).trans ?_
    refine M77_6_ok ?_ N x0 x1 x2 x3 x8 x9 H
    intro x0 x1 x2 x3 x8 H
    exact M77_8_ok ih x0 x1 x2 x3 x8 H
def A77_12 : An := .b none (.l (some (lvOf [0, 1, 2, 3, 8])) A77_10)
def A77_13 : An := .s .n (some (lvOf [0, 1, 2, 3, 8])) A77_12
def M77 (o : Orc) (N : Nat) : FnM := fun vs H κ => match vs with
  | [x0, .int .i64 x1, .int .i64 x2, x3] => M77_0 o N (fun x0 x1 x2 x3 x8 H => M77_11 o N κ N x0 x1 x2 x3 x8 H) κ x0 x1 x2 x3 H
  | _ => none
theorem M77_run (o : Orc) (N : Nat) (vs : List V) (H : Heap) (κ : Kv) (r) (h : M77 o N vs H κ = some r) : runFn Try.prog o N Try.f77 A77_13 vs H κ = some r := by
  unfold M77 at h
  split at h
  · rename_i x0 x1 x2 x3
    refine (runFn_at (t := tmk 0 53 [(0, x0), (1, .int .i64 x1), (2, .int .i64 x2), (3, x3)]) (by kernel_rfl) (by kernel_rfl)).trans (Eq.trans ?_ h)
    refine (run_seq (x := (cAt Try.f77 [0])) (ax := .n) (y := (cAt Try.f77 [1])) (ay := A77_12) (l := [0, 1, 2, 3, 8]) (by kernel_rfl) (by kernel_rfl)).trans ?_
    refine M77_0_ok ?_ x0 x1 x2 x3 H
    intro x0 x1 x2 x3 x8 H
    refine (run_block (id := 0) (x := (cAt Try.f77 [1, 4])) (ax := (.l (some (lvOf [0, 1, 2, 3, 8])) A77_10)) (by kernel_rfl) (by kernel_rfl)).trans ?_
    refine (run_loop (x := (cAt Try.f77 [1, 4, 4])) (ax := A77_10) (l := [0, 1, 2, 3, 8]) (by kernel_rfl) (by kernel_rfl) (by kernel_rfl)).trans ?_
    exact M77_11_ok N x0 x1 x2 x3 x8 H
  · cases h
theorem M77_sound {o : Orc} (ho : ∀ f, FSound Try.prog f (o f)) (N : Nat) : FSound Try.prog 77 (M77 o N) :=
  FSound.sub (runFn_ok (an := A77_13) (fuel := N) hmix ho (by kernel_rfl) (by kernel_rfl)) (M77_run o N)
/-! 79 ostinato/matrix.power -/
def M79_0 (o : Orc) (N : Nat) (κ : Kv) (x0 : Int) (H : Heap) : Ans :=
  newB H (.row [(.int .i64 1), (.int .i64 2), (.int .i64 4), (.int .i64 8)]) fun i1 H2 =>
  o 74 [(.sl i1 0 4 1 true), (.int .i64 x0)] H2 fun v3 H4 =>
  asB v3 fun b5 =>
  κ (.bool b5) H4
theorem M79_0_ok {o : Orc} {N : Nat} {κ : Kv} (x0 : Int) (H : Heap) :
    run Try.prog o N (cAt Try.f79 []) .n (env0 Try.prog Try.f79 κ) (tmk 0 6 [(0, .int .i64 x0)]) H (env0 Try.prog Try.f79 κ).ret = M79_0 o N κ x0 H := by
  kernel_rfl
def M79 (o : Orc) (N : Nat) : FnM := fun vs H κ => match vs with
  | [.int .i64 x0] => M79_0 o N κ x0 H
  | _ => none
theorem M79_run (o : Orc) (N : Nat) (vs : List V) (H : Heap) (κ : Kv) (r) (h : M79 o N vs H κ = some r) : runFn Try.prog o N Try.f79 .n vs H κ = some r := by
  unfold M79 at h
  split at h
  · rename_i x0
    refine (runFn_at (t := tmk 0 6 [(0, .int .i64 x0)]) (by kernel_rfl) (by kernel_rfl)).trans (Eq.trans ?_ h)
    exact M79_0_ok x0 H
  · cases h
theorem M79_sound {o : Orc} (ho : ∀ f, FSound Try.prog f (o f)) (N : Nat) : FSound Try.prog 79 (M79 o N) :=
  FSound.sub (runFn_ok (an := .n) (fuel := N) hmix ho (by kernel_rfl) (by kernel_rfl)) (M79_run o N)
/-! 80 slices.IndexFunc[[]ostinato/api.Window,ostinato/api.Window] -/
def M80_0 (o : Orc) (N : Nat) (J : V → V → Heap → Ans) (κ : Kv) (x0 x1 : V) (H : Heap) : Ans :=
  J x0 x1 H
theorem M80_0_ok {o : Orc} {N : Nat} {κ : Kv} {J : Kt} {J' : V → V → Heap → Ans} (hJ : ∀ x0 x1 H, J (tmk 0 19 [(0, x0), (1, x1)]) H = J' x0 x1 H) (x0 x1 : V) (H : Heap) :
    run Try.prog o N (cAt Try.f80 [0]) .n (env0 Try.prog Try.f80 κ) (tmk 0 19 [(0, x0), (1, x1)]) H (kj [0, 1] J) = M80_0 o N J' κ x0 x1 H := by
  obtain rfl := fx3 hJ
  kernel_rfl
def M80_1 (o : Orc) (N : Nat) (J : V → V → Int → Int → Heap → Ans) (κ : Kv) (x0 x1 : V) (H : Heap) : Ans :=
  lenS x0 fun n1 =>
  J x0 x1 n1 0 H
theorem M80_1_ok {o : Orc} {N : Nat} {κ : Kv} {J : Kt} {J' : V → V → Int → Int → Heap → Ans} (hJ : ∀ x0 x1 x7 x8 H, J (tmk 0 19 [(0, x0), (1, x1), (7, .int .i64 x7), (8, .int .i64 x8)]) H = J' x0 x1 x7 x8 H) (x0 x1 : V) (H : Heap) :
    run Try.prog o N (cAt Try.f80 [1, 0, 0]) .n (env0 Try.prog Try.f80 κ) (tmk 0 19 [(0, x0), (1, x1)]) H (kj [0, 1, 7, 8] J) = M80_1 o N J' κ x0 x1 H := by
  obtain rfl := fx5 hJ
  kernel_rfl
def M80_2 (o : Orc) (N : Nat) (X0 : Heap → Ans) (J : V → V → Int → Int → Heap → Ans) (κ : Kv) (x0 x1 : V) (x7 x8 : Int) (H : Heap) : Ans :=
  cond (decide (x8 < x7)) (
  idxS 6 x0 x8 fun p2 o3 =>
  ldFlat H p2 [.int .i64, .int .i64, .int .i64, .int .i64, .int .i64, .int .i64] o3 fun l4 =>
  callV o x1 [(.agg l4)] H fun v5 H6 =>
  asB v5 fun b7 =>
  cond b7 (
  κ (.int .i64 x8) H6) (
  J x0 x1 x7 (IntKind.i64.wrap (x8 + 1)) H6)) (
  X0  H)
theorem M80_2_ok {o : Orc} {N : Nat} {κ : Kv} {X0 J : Kt} {X0' : Heap → Ans} {J' : V → V → Int → Int → Heap → Ans} (h0 : ∀  H, X0 (tmk 0 19 []) H = X0' H) (hJ : ∀ x0 x1 x7 x8 H, J (tmk 0 19 [(0, x0), (1, x1), (7, .int .i64 x7), (8, .int .i64 x8)]) H = J' x0 x1 x7 x8 H) (x0 x1 : V) (x7 x8 : Int) (H : Heap) :
    run Try.prog o N (cAt Try.f80 [1, 0, 1, 4, 4]) .n ((env0 Try.prog Try.f80 κ).block 0 (kj [] X0)) (tmk 0 19 [(0, x0), (1, x1), (7, .int .i64 x7), (8, .int .i64 x8)]) H (kj [0, 1, 7, 8] J) = M80_2 o N X0' J' κ x0 x1 x7 x8 H := by
  obtain rfl := fx1 h0
  obtain rfl := fx5 hJ
  kernel_rfl
def M80_3 (o : Orc) (N : Nat) (X0 : Heap → Ans) (κ : Kv) (n : Nat) : V → V → Int → Int → Heap → Ans :=
  Nat.rec (motive := fun _ => V → V → Int → Int → Heap → Ans) (fun _ _ _ _ _ => none) (fun _ ih x0 x1 x7 x8 H => M80_2 o N X0 ih κ x0 x1 x7 x8 H) n
theorem M80_3_s (o : Orc) (N : Nat) (X0 : Heap → Ans) (κ : Kv) (n : Nat) (x0 x1 : V) (x7 x8 : Int) (H : Heap) : M80_3 o N X0 κ (n + 1) x0 x1 x7 x8 H = M80_2 o N X0 (M80_3 o N X0 κ n) κ x0 x1 x7 x8 H := rfl
theorem M80_3_ok {o : Orc} {N : Nat} {κ : Kv} {X0 : Kt} {X0' : Heap → Ans} (h0 : ∀  H, X0 (tmk 0 19 []) H = X0' H) (n : Nat) : ∀ (x0 x1 : V) (x7 x8 : Int) (H : Heap),
    rounds (fun a H k => run Try.prog o N (cAt Try.f80 [1, 0, 1, 4, 4]) .n ((env0 Try.prog Try.f80 κ).block 0 (kj [] X0)) a H k) (some (lvOf [0, 1, 7, 8])) n (tmk 0 19 [(0, x0), (1, x1), (7, .int .i64 x7), (8, .int .i64 x8)]) H = M80_3 o N X0' κ n x0 x1 x7 x8 H := by
  induction n with
  | zero => intros; rfl
  | succ n ih =>
    intro x0 x1 x7 x8 H
    refine (run_round.trans ?_).trans (M80_3_s ..).symm
    exact M80_2_ok h0 ih x0 x1 x7 x8 H
def A80_4 : An := .b none (.l (some (lvOf [0, 1, 7, 8])) .n)
def M80_5 (o : Orc) (N : Nat) (κ : Kv) (H : Heap) : Ans :=
  κ (.int .i64 (-1)) H
theorem M80_5_ok {o : Orc} {N : Nat} {κ : Kv} (H : Heap) :
    run Try.prog o N (cAt Try.f80 [1, 1]) .n (env0 Try.prog Try.f80 κ) (tmk 0 19 []) H (env0 Try.prog Try.f80 κ).ret = M80_5 o N κ  H := by
  kernel_rfl
def A80_6 : An := .s (.s .n (some (lvOf [0, 1, 7, 8])) A80_4) (some (lvOf [])) .n
def M80 (o : Orc) (N : Nat) : FnM := fun vs H κ => match vs with
  | [x0, x1] => M80_0 o N (fun x0 x1 H => M80_1 o N (fun x0 x1 x7 x8 H => M80_3 o N (fun H => M80_5 o N κ  H) κ N x0 x1 x7 x8 H) κ x0 x1 H) κ x0 x1 H
  | _ => none
theorem M80_run (o : Orc) (N : Nat) (vs : List V) (H : Heap) (κ : Kv) (r) (h : M80 o N vs H κ = some r) : runFn Try.prog o N Try.f80 (.s .n (some (lvOf [0, 1])) A80_6) vs H κ = some r := by
  unfold M80 at h
  split at h
  · rename_i x0 x1
    refine (runFn_at (t := tmk 0 19 [(0, x0), (1, x1)]) (by kernel_rfl) (by kernel_rfl)).trans (Eq.trans ?_ h)
    refine (run_seq (x := (cAt Try.f80 [0])) (ax := .n) (y := (cAt Try.f80 [1])) (ay := A80_6) (l := [0, 1]) (by kernel_rfl) (by kernel_rfl)).trans ?_
    refine M80_0_ok ?_ x0 x1 H
    intro x0 x1 H
    refine (run_seq (x := (cAt Try.f80 [1, 0])) (ax := (.s .n (some (lvOf [0, 1, 7, 8])) A80_4)) (y := (cAt Try.f80 [1, 1])) (ay := .n) (l := []) (by kernel_rfl) (by kernel_rfl)).trans ?_
    refine (run_seq (x := (cAt Try.f80 [1, 0, 0])) (ax := .n) (y := (cAt Try.f80 [1, 0, 1])) (ay := A80_4) (l := [0, 1, 7, 8]) (by kernel_rfl) (by kernel_rfl)).trans ?_
    refine M80_1_ok ?_ x0 x1 H
    intro x0 x1 x7 x8 H
    refine (run_block (id := 0) (x := (cAt Try.f80 [1, 0, 1, 4])) (ax := (.l (some (lvOf [0, 1, 7, 8])) .n)) (by kernel_rfl) (by kernel_rfl)).trans ?_
    refine (run_loop (x := (cAt Try.f80 [1, 0, 1, 4, 4])) (ax := .n) (l := [0, 1, 7, 8]) (by kernel_rfl) (by kernel_rfl) (by kernel_rfl)).trans ?_
    refine M80_3_ok ?_ N x0 x1 x7 x8 H
    intro H
    exact M80_5_ok  H
  · cases h
theorem M80_sound {o : Orc} (ho : ∀ f, FSound Try.prog f (o f)) (N : Nat) : FSound Try.prog 80 (M80 o N) :=
  FSound.sub (runFn_ok (an := (.s .n (some (lvOf [0, 1])) A80_6)) (fuel := N) hmix ho (by kernel_rfl) (by kernel_rfl)) (M80_run o N)
/-! 81 ostinato/check.there -/
def M81_0 (o : Orc) (N : Nat) (κ : Kv) (x0 : List V) (x1 : Int) (H : Heap) : Ans :=
  cond (List.all x0 V.one) (
  newB H (.row x0) fun i1 H2 =>
  newB H2 (.row [(.int .i64 0), (.int .i64 0), (.int .i64 0), (.int .i64 0), (.int .i64 0), (.int .i64 0)]) fun i3 H4 =>
  cond (decide (x1 < 0)) (
  (stN H4 i3 0 [(.int .i64 0), (.int .i64 0), (.int .i64 0), (.int .i64 0), (.int .i64 0), (.int .i64 0)]).bind fun H5 =>
  ldFlat H5 i3 [.int .i64, .int .i64, .int .i64, .int .i64, .int .i64, .int .i64] 0 fun l6 =>
  κ (.tup [(.agg l6), (.bool false)]) H5) (
  (ldV H4 i1 10).bind fun v7 =>
  lenS v7 fun n8 =>
  cond (decide (x1 ≥ n8)) (
  (stN H4 i3 0 [(.int .i64 0), (.int .i64 0), (.int .i64 0), (.int .i64 0), (.int .i64 0), (.int .i64 0)]).bind fun H9 =>
  ldFlat H9 i3 [.int .i64, .int .i64, .int .i64, .int .i64, .int .i64, .int .i64] 0 fun l10 =>
  κ (.tup [(.agg l10), (.bool false)]) H9) (
  (ldV H4 i1 10).bind fun v11 =>
  idxS 6 v11 x1 fun p12 o13 =>
  ldFlat H4 p12 [.int .i64, .int .i64, .int .i64, .int .i64, .int .i64, .int .i64] o13 fun l14 =>
  cond (Nat.beq (List.length l14) 6 && Nat.blt 0 6) (
  (stN H4 i3 0 l14).bind fun H15 =>
  ldFlat H15 i3 [.int .i64, .int .i64, .int .i64, .int .i64, .int .i64, .int .i64] 0 fun l16 =>
  κ (.tup [(.agg l16), (.bool true)]) H15) none))) none
theorem M81_0_ok {o : Orc} {N : Nat} {κ : Kv} (x0 : List V) (x1 : Int) (H : Heap) :
    run Try.prog o N (cAt Try.f81 []) .n (env0 Try.prog Try.f81 κ) (tmk 0 21 [(0, .agg x0), (1, .int .i64 x1)]) H (env0 Try.prog Try.f81 κ).ret = M81_0 o N κ x0 x1 H := by
  kernel_rfl
def M81 (o : Orc) (N : Nat) : FnM := fun vs H κ => match vs with
  | [.agg x0, .int .i64 x1] => M81_0 o N κ x0 x1 H
  | _ => none
theorem M81_run (o : Orc) (N : Nat) (vs : List V) (H : Heap) (κ : Kv) (r) (h : M81 o N vs H κ = some r) : runFn Try.prog o N Try.f81 .n vs H κ = some r := by
  unfold M81 at h
  split at h
  · rename_i x0 x1
    refine (runFn_at (t := tmk 0 21 [(0, .agg x0), (1, .int .i64 x1)]) (by kernel_rfl) (by kernel_rfl)).trans (Eq.trans ?_ h)
    exact M81_0_ok x0 x1 H
  · cases h
theorem M81_sound {o : Orc} (ho : ∀ f, FSound Try.prog f (o f)) (N : Nat) : FSound Try.prog 81 (M81 o N) :=
  FSound.sub (runFn_ok (an := .n) (fuel := N) hmix ho (by kernel_rfl) (by kernel_rfl)) (M81_run o N)
end Go.Proofs.Ytminfdcdmgpnjaa.K
