/- Printed: runs of functions. -/
import Derived.Test.YtminfdcdmgpnjaaK20
set_option linter.unusedVariables false
set_option maxRecDepth 100000
noncomputable section
namespace Go.Proofs.Ytminfdcdmgpnjaa.K
open Go
/-! 3 ostinato/ostinatolaw15.PlanTells -/
def A3_0 : An := (.s .n none (.s .n none (.s .n none (.s (.d [0, 1, 3, 4, 2, 5, 6, 7, 8, 9, 11, 12, 10, 13, 14, 15, 16, 17, 19, 18, 20, 21, 22, 23]) none .n))))
def M3_1 (o : Orc) (N : Nat) (κ : Kv) (x0 : List V) (x1 x2 : Int) (H : Heap) : Ans :=
  cond (List.all x0 V.one) (
  newB H (.row x0) fun i1 H2 =>
  o 9 [] H2 fun v3 H4 =>
  asB v3 fun b5 =>
  cond (!b5) (
  κ (.bool false) H4) (
  ldFlat H4 i1 [.int .i64, .int .i64, .int .i64, .int .i64, .int .i64, .int .i64, .int .i64, .int .u32, .oth, .oth, .oth] 0 fun l6 =>
  o 10 [(.agg l6)] H4 fun v7 H8 =>
  asB v7 fun b9 =>
  cond (!b9) (
  κ (.bool true) H8) (
  ldFlat (Heap.skip H8 24) i1 [.int .i64, .int .i64, .int .i64, .int .i64, .int .i64, .int .i64, .int .i64, .int .u32, .oth, .oth, .oth] 0 fun l10 =>
  ldFlat (Heap.skip H8 24) i1 [.int .i64, .int .i64, .int .i64, .int .i64, .int .i64, .int .i64, .int .i64, .int .u32, .oth, .oth, .oth] 0 fun l11 =>
  o 12 [(.agg l10), (.int .i64 x1)] (Heap.skip H8 24) fun v12 H13 =>
  ldFlat H13 i1 [.int .i64, .int .i64, .int .i64, .int .i64, .int .i64, .int .i64, .int .i64, .int .u32, .oth, .oth, .oth] 0 fun l14 =>
  cond (sameL l11 l14) (
  o 13 [(.agg l11), (.int .i64 x1)] H13 fun v15 H16 =>
  o 11 [v12, v15] H16 fun v17 H18 =>
  asB v17 fun b19 =>
  cond b19 (
  ldFlat H18 i1 [.int .i64, .int .i64, .int .i64, .int .i64, .int .i64, .int .i64, .int .i64, .int .u32, .oth, .oth, .oth] 0 fun l20 =>
  ldFlat H18 i1 [.int .i64, .int .i64, .int .i64, .int .i64, .int .i64, .int .i64, .int .i64, .int .u32, .oth, .oth, .oth] 0 fun l21 =>
  o 14 [(.agg l20), (.int .i64 x2)] H18 fun v22 H23 =>
  asI .i64 v22 fun n24 =>
  ldFlat H23 i1 [.int .i64, .int .i64, .int .i64, .int .i64, .int .i64, .int .i64, .int .i64, .int .u32, .oth, .oth, .oth] 0 fun l25 =>
  cond (sameL l21 l25) (
  o 15 [(.agg l21), (.int .i64 x2)] H23 fun v26 H27 =>
  asI .i64 v26 fun n28 =>
  cond (n24 == n28) (
  ldFlat H27 i1 [.int .i64, .int .i64, .int .i64, .int .i64, .int .i64, .int .i64, .int .i64, .int .u32, .oth, .oth, .oth] 0 fun l29 =>
  ldFlat H27 i1 [.int .i64, .int .i64, .int .i64, .int .i64, .int .i64, .int .i64, .int .i64, .int .u32, .oth, .oth, .oth] 0 fun l30 =>
  o 16 [(.agg l29)] H27 fun v31 H32 =>
  asI .i64 v31 fun n33 =>
  ldFlat H32 i1 [.int .i64, .int .i64, .int .i64, .int .i64, .int .i64, .int .i64, .int .i64, .int .u32, .oth, .oth, .oth] 0 fun l34 =>
  cond (sameL l30 l34) (
  o 17 [(.agg l30)] H32 fun v35 H36 =>
  asI .i64 v35 fun n37 =>
  κ (.bool (n33 == n37)) H36) none) (
  κ (.bool false) H27)) none) (
  κ (.bool false) H18)) none))) none
theorem M3_1_ok {o : Orc} {N : Nat} {κ : Kv} (x0 : List V) (x1 x2 : Int) (H : Heap) :
    run Try.prog o N (cAt Try.f3 []) A3_0 (env0 Try.prog Try.f3 κ) (tmk 0 35 [(0, .agg x0), (1, .int .i64 x1), (2, .int .i64 x2)]) H (env0 Try.prog Try.f3 κ).ret = M3_1 o N κ x0 x1 x2 H := by
  kernel_rfl
def M3 (o : Orc) (N : Nat) : FnM := fun vs H κ => match vs with
  | [.agg x0, .int .i64 x1, .int .i64 x2] => M3_1 o N κ x0 x1 x2 H
  | _ => none
theorem M3_run (o : Orc) (N : Nat) (vs : List V) (H : Heap) (κ : Kv) (r) (h : M3 o N vs H κ = some r) : runFn Try.prog o N Try.f3 A3_0 vs H κ = some r := by
  unfold M3 at h
  split at h
  · rename_i x0 x1 x2
    refine (runFn_at (t := tmk 0 35 [(0, .agg x0), (1, .int .i64 x1), (2, .int .i64 x2)]) (by kernel_rfl) (by kernel_rfl)).trans (Eq.trans ?_ h)
    exact M3_1_ok x0 x1 x2 H
  · cases h
theorem M3_sound {o : Orc} (ho : ∀ f, FSound Try.prog f (o f)) (N : Nat) : FSound Try.prog 3 (M3 o N) :=
  FSound.sub (runFn_ok (an := A3_0) (fuel := N) hmix ho (by kernel_rfl) (by kernel_rfl)) (M3_run o N)
/-! 9 ostinato/ostinatolaw15.known -/
def M9_0 (o : Orc) (N : Nat) (J : Heap → Ans) (κ : Kv) (H : Heap) : Ans :=
  J  H
theorem M9_0_ok {o : Orc} {N : Nat} {κ : Kv} {J : Kt} {J' : Heap → Ans} (hJ : ∀  H, J (tmk 0 71 []) H = J' H) (H : Heap) :
    run Try.prog o N (cAt Try.f9 [0]) .n (env0 Try.prog Try.f9 κ) (tmk 0 71 []) H (kj [] J) = M9_0 o N J' κ  H := by
  obtain rfl := fx1 hJ
  kernel_rfl
def M9_1 (o : Orc) (N : Nat) (J : Nat → Heap → Ans) (κ : Kv) (H : Heap) : Ans :=
  o 30 [] H fun v1 H2 =>
  asA v1 fun l3 =>
  newB H2 (.row [(.int .i64 0), (.int .i64 0), (.int .i64 0), (.int .i64 0), (.int .i64 0), (.int .i64 0), (.int .i64 0), (.int .u32 0), .nils, .nils, .nils]) fun i4 H5 =>
  cond (Nat.beq (List.length l3) 11 && Nat.blt 0 11) (
  (stN H5 i4 0 l3).bind fun H6 =>
  J i4 H6) none
theorem M9_1_ok {o : Orc} {N : Nat} {κ : Kv} {J : Kt} {J' : Nat → Heap → Ans} (hJ : ∀ x1 H, J (tmk 0 71 [(1, .ptr x1 0)]) H = J' x1 H) (H : Heap) :
    run Try.prog o N (cAt Try.f9 [1, 0]) .n (env0 Try.prog Try.f9 κ) (tmk 0 71 []) H (kj [1] J) = M9_1 o N J' κ  H := by
  obtain rfl := fx2 hJ
  kernel_rfl
def M9_2 (o : Orc) (N : Nat) (J : V → V → Heap → Ans) (κ : Kv) (x1 : Nat) (H : Heap) : Ans :=
  ldFlat (Heap.skip H 6) x1 [.int .i64, .int .i64, .int .i64, .int .i64, .int .i64, .int .i64, .int .i64, .int .u32, .oth, .oth, .oth] 0 fun l7 =>
  ldFlat (Heap.skip H 6) x1 [.int .i64, .int .i64, .int .i64, .int .i64, .int .i64, .int .i64, .int .i64, .int .u32, .oth, .oth, .oth] 0 fun l8 =>
  o 12 [(.agg l7), (.int .i64 0)] (Heap.skip H 6) fun v9 H10 =>
  ldFlat H10 x1 [.int .i64, .int .i64, .int .i64, .int .i64, .int .i64, .int .i64, .int .i64, .int .u32, .oth, .oth, .oth] 0 fun l11 =>
  cond (sameL l8 l11) (
  o 12 [(.agg l8), (.int .i64 1)] H10 fun v12 H13 =>
  J v9 v12 H13) none
theorem M9_2_ok {o : Orc} {N : Nat} {κ : Kv} {J : Kt} {J' : V → V → Heap → Ans} (hJ : ∀ x2 x3 H, J (tmk 0 71 [(2, x2), (3, x3)]) H = J' x2 x3 H) (x1 : Nat) (H : Heap) :
    run Try.prog o N (cAt Try.f9 [1, 1, 0]) (.d [0, 2, 1, 3, 4, 5]) (env0 Try.prog Try.f9 κ) (tmk 0 71 [(1, .ptr x1 0)]) H (kj [2, 3] J) = M9_2 o N J' κ x1 H := by
  obtain rfl := fx3 hJ
  kernel_rfl
def M9_3 (o : Orc) (N : Nat) (J : Bool → Heap → Ans) (κ : Kv) (x2 x3 : V) (H : Heap) : Ans :=
  lenS x2 fun n14 =>
  cond (n14 == 4) (
  idxS 6 x2 0 fun p15 o16 =>
  ldFlat H p15 [.int .i64, .int .i64, .int .i64, .int .i64, .int .i64, .int .i64] o16 fun l17 =>
  (eqFlat [.int .i64, .int .i64, .int .i64, .int .i64, .int .i64, .int .i64] l17 [(.int .i64 3), (.int .i64 79), (.int .i64 1), (.int .i64 2), (.int .i64 0), (.int .i64 0)]).bind fun b18 =>
  cond b18 (
  idxS 6 x2 1 fun p19 o20 =>
  ldFlat H p19 [.int .i64, .int .i64, .int .i64, .int .i64, .int .i64, .int .i64] o20 fun l21 =>
  (eqFlat [.int .i64, .int .i64, .int .i64, .int .i64, .int .i64, .int .i64] l21 [(.int .i64 4), (.int .i64 400), (.int .i64 0), (.int .i64 1), (.int .i64 0), (.int .i64 0)]).bind fun b22 =>
  cond b22 (
  idxS 6 x2 2 fun p23 o24 =>
  (ldI H .i64 p23 (o24 + 4)).bind fun n25 =>
  cond (n25 == 1) (
  idxS 6 x2 2 fun p26 o27 =>
  (ldI H .i64 p26 (o27 + 1)).bind fun n28 =>
  cond (n28 == 438) (
  idxS 6 x2 3 fun p29 o30 =>
  ldFlat H p29 [.int .i64, .int .i64, .int .i64, .int .i64, .int .i64, .int .i64] o30 fun l31 =>
  (eqFlat [.int .i64, .int .i64, .int .i64, .int .i64, .int .i64, .int .i64] l31 [(.int .i64 5), (.int .i64 514), (.int .i64 0), (.int .i64 1), (.int .i64 0), (.int .i64 0)]).bind fun b32 =>
  cond b32 (
  lenS x3 fun n33 =>
  cond (n33 == 2) (
  idxS 6 x3 0 fun p34 o35 =>
  ldFlat H p34 [.int .i64, .int .i64, .int .i64, .int .i64, .int .i64, .int .i64] o35 fun l36 =>
  (eqFlat [.int .i64, .int .i64, .int .i64, .int .i64, .int .i64, .int .i64] l36 [(.int .i64 1), (.int .i64 40), (.int .i64 1), (.int .i64 2), (.int .i64 0), (.int .i64 42)]).bind fun b37 =>
  cond b37 (
  o 31 [x2, (.int .i64 1), (.int .i64 0), (.int .i64 79)] H fun v38 H39 =>
  lenS v38 fun n40 =>
  cond (n40 == 1) (
  o 31 [x2, (.int .i64 0), (.int .i64 0), (.int .i64 399)] H39 fun v41 H42 =>
  lenS v41 fun n43 =>
  J (n43 == 0) H42) (
  J false H39)) (
  J false H)) (
  J false H)) (
  J false H)) (
  J false H)) (
  J false H)) (
  J false H)) (
  J false H)) (
  J false H)
theorem M9_3_ok {o : Orc} {N : Nat} {κ : Kv} {J : Kt} {J' : Bool → Heap → Ans} (hJ : ∀ x0 H, J (tmk 0 71 [(0, .bool x0)]) H = J' x0 H) (x2 x3 : V) (H : Heap) :
    run Try.prog o N (cAt Try.f9 [1, 1, 1, 0]) .n (env0 Try.prog Try.f9 κ) (tmk 0 71 [(2, x2), (3, x3)]) H (kj [0] J) = M9_3 o N J' κ x2 x3 H := by
  obtain rfl := fx2 hJ
  kernel_rfl
def M9_4 (o : Orc) (N : Nat) (κ : Kv) (x0 : Bool) (H : Heap) : Ans :=
  κ (.bool x0) H
theorem M9_4_ok {o : Orc} {N : Nat} {κ : Kv} (x0 : Bool) (H : Heap) :
    run Try.prog o N (cAt Try.f9 [1, 1, 1, 1]) .n (env0 Try.prog Try.f9 κ) (tmk 0 71 [(0, .bool x0)]) H (env0 Try.prog Try.f9 κ).ret = M9_4 o N κ x0 H := by
  kernel_rfl
def A9_5 : An := .s (.d [0, 2, 1, 3, 4, 5]) (some (lvOf [2, 3])) (.s .n (some (lvOf [0])) .n)
def A9_6 : An := .s .n (some (lvOf [])) (.s .n (some (lvOf [1])) A9_5)
def M9 (o : Orc) (N : Nat) : FnM := fun vs H κ => match vs with
  | [] => M9_0 o N (fun H => M9_1 o N (fun x1 H => M9_2 o N (fun x2 x3 H => M9_3 o N (fun x0 H => M9_4 o N κ x0 H) κ x2 x3 H) κ x1 H) κ  H) κ  H
  | _ => none
theorem M9_run (o : Orc) (N : Nat) (vs : List V) (H : Heap) (κ : Kv) (r) (h : M9 o N vs H κ = some r) : runFn Try.prog o N Try.f9 A9_6 vs H κ = some r := by
  unfold M9 at h
  split at h
  · refine (runFn_at (t := tmk 0 71 []) (by kernel_rfl) (by kernel_rfl)).trans (Eq.trans ?_ h)
    refine (run_seq (x := (cAt Try.f9 [0])) (ax := .n) (y := (cAt Try.f9 [1])) (ay := (.s .n (some (lvOf [1])) A9_5)) (l := []) (by kernel_rfl) (by kernel_rfl)).trans ?_
    refine M9_0_ok ?_  H
    intro H
    refine (run_seq (x := (cAt Try.f9 [1, 0])) (ax := .n) (y := (cAt Try.f9 [1, 1])) (ay := A9_5) (l := [1]) (by kernel_rfl) (by kernel_rfl)).trans ?_
    refine M9_1_ok ?_  H
    intro x1 H
    refine (run_seq (x := (cAt Try.f9 [1, 1, 0])) (ax := (.d [0, 2, 1, 3, 4, 5])) (y := (cAt Try.f9 [1, 1, 1])) (ay := (.s .n (some (lvOf [0])) .n)) (l := [2, 3]) (by kernel_rfl) (by kernel_rfl)).trans ?_
    refine M9_2_ok ?_ x1 H
    intro x2 x3 H
    refine (run_seq (x := (cAt Try.f9 [1, 1, 1, 0])) (ax := .n) (y := (cAt Try.f9 [1, 1, 1, 1])) (ay := .n) (l := [0]) (by kernel_rfl) (by kernel_rfl)).trans ?_
    refine M9_3_ok ?_ x2 x3 H
    intro x0 H
    exact M9_4_ok x0 H
  · cases h
theorem M9_sound {o : Orc} (ho : ∀ f, FSound Try.prog f (o f)) (N : Nat) : FSound Try.prog 9 (M9 o N) :=
  FSound.sub (runFn_ok (an := A9_6) (fuel := N) hmix ho (by kernel_rfl) (by kernel_rfl)) (M9_run o N)
/-! 10 ostinato/ostinatolaw15.few -/
def M10_0 (o : Orc) (N : Nat) (κ : Kv) (x0 : List V) (H : Heap) : Ans :=
  cond (List.all x0 V.one) (
  newB H (.row x0) fun i1 H2 =>
  (ldV H2 i1 8).bind fun v3 =>
  lenS v3 fun n4 =>
  cond (decide (n4 ≤ 10)) (
  (ldV H2 i1 9).bind fun v5 =>
  lenS v5 fun n6 =>
  cond (decide (n6 ≤ 20)) (
  (ldV H2 i1 10).bind fun v7 =>
  lenS v7 fun n8 =>
  κ (.bool (decide (n8 ≤ 25))) H2) (
  κ (.bool false) H2)) (
  κ (.bool false) H2)) none
theorem M10_0_ok {o : Orc} {N : Nat} {κ : Kv} (x0 : List V) (H : Heap) :
    run Try.prog o N (cAt Try.f10 []) .n (env0 Try.prog Try.f10 κ) (tmk 0 19 [(0, .agg x0)]) H (env0 Try.prog Try.f10 κ).ret = M10_0 o N κ x0 H := by
  kernel_rfl
def M10 (o : Orc) (N : Nat) : FnM := fun vs H κ => match vs with
  | [.agg x0] => M10_0 o N κ x0 H
  | _ => none
theorem M10_run (o : Orc) (N : Nat) (vs : List V) (H : Heap) (κ : Kv) (r) (h : M10 o N vs H κ = some r) : runFn Try.prog o N Try.f10 .n vs H κ = some r := by
  unfold M10 at h
  split at h
  · rename_i x0
    refine (runFn_at (t := tmk 0 19 [(0, .agg x0)]) (by kernel_rfl) (by kernel_rfl)).trans (Eq.trans ?_ h)
    exact M10_0_ok x0 H
  · cases h
theorem M10_sound {o : Orc} (ho : ∀ f, FSound Try.prog f (o f)) (N : Nat) : FSound Try.prog 10 (M10 o N) :=
  FSound.sub (runFn_ok (an := .n) (fuel := N) hmix ho (by kernel_rfl) (by kernel_rfl)) (M10_run o N)
/-! 11 ostinato/ostinatolaw15.same -/
def M11_0 (o : Orc) (N : Nat) (J : V → V → Heap → Ans) (κ : Kv) (x0 x1 : V) (H : Heap) : Ans :=
  J x0 x1 H
theorem M11_0_ok {o : Orc} {N : Nat} {κ : Kv} {J : Kt} {J' : V → V → Heap → Ans} (hJ : ∀ x0 x1 H, J (tmk 0 26 [(0, x0), (1, x1)]) H = J' x0 x1 H) (x0 x1 : V) (H : Heap) :
    run Try.prog o N (cAt Try.f11 [0]) .n (env0 Try.prog Try.f11 κ) (tmk 0 26 [(0, x0), (1, x1)]) H (kj [0, 1] J) = M11_0 o N J' κ x0 x1 H := by
  obtain rfl := fx3 hJ
  kernel_rfl
def M11_1 (o : Orc) (N : Nat) (J : V → V → Heap → Ans) (κ : Kv) (x0 x1 : V) (H : Heap) : Ans :=
  lenS x0 fun n1 =>
  lenS x1 fun n2 =>
  cond (n1 != n2) (
  κ (.bool false) H) (
  J x0 x1 H)
theorem M11_1_ok {o : Orc} {N : Nat} {κ : Kv} {J : Kt} {J' : V → V → Heap → Ans} (hJ : ∀ x0 x1 H, J (tmk 0 26 [(0, x0), (1, x1)]) H = J' x0 x1 H) (x0 x1 : V) (H : Heap) :
    run Try.prog o N (cAt Try.f11 [1, 0]) .n (env0 Try.prog Try.f11 κ) (tmk 0 26 [(0, x0), (1, x1)]) H (kj [0, 1] J) = M11_1 o N J' κ x0 x1 H := by
  obtain rfl := fx3 hJ
  kernel_rfl
def M11_2 (o : Orc) (N : Nat) (J : V → V → Int → Heap → Ans) (κ : Kv) (x0 x1 : V) (H : Heap) : Ans :=
  J x0 x1 0 H
theorem M11_2_ok {o : Orc} {N : Nat} {κ : Kv} {J : Kt} {J' : V → V → Int → Heap → Ans} (hJ : ∀ x0 x1 x5 H, J (tmk 0 26 [(0, x0), (1, x1), (5, .int .i64 x5)]) H = J' x0 x1 x5 H) (x0 x1 : V) (H : Heap) :
    run Try.prog o N (cAt Try.f11 [1, 1, 0, 0]) .n (env0 Try.prog Try.f11 κ) (tmk 0 26 [(0, x0), (1, x1)]) H (kj [0, 1, 5] J) = M11_2 o N J' κ x0 x1 H := by
  obtain rfl := fx4 hJ
  kernel_rfl
def A11_3 : An := (.s .n none (.s (.b none (.s (.d [0, 1, 2, 3, 4, 5, 6, 7, 8]) none .n)) none .n))
def M11_4 (o : Orc) (N : Nat) (X0 : Heap → Ans) (J : V → V → Int → Heap → Ans) (κ : Kv) (x0 x1 : V) (x5 : Int) (H : Heap) : Ans :=
  lenS x0 fun n3 =>
  cond (decide (x5 < n3)) (
  idxS 6 x0 x5 fun p4 o5 =>
  ldFlat (Heap.skip H 9) p4 [.int .i64, .int .i64, .int .i64, .int .i64, .int .i64, .int .i64] o5 fun l6 =>
  idxS 6 x1 x5 fun p7 o8 =>
  ldFlat (Heap.skip H 9) p7 [.int .i64, .int .i64, .int .i64, .int .i64, .int .i64, .int .i64] o8 fun l9 =>
  (eqFlat [.int .i64, .int .i64, .int .i64, .int .i64, .int .i64, .int .i64] l6 l9).bind fun b10 =>
  cond (!b10) (
  κ (.bool false) (Heap.skip H 9)) (
  J x0 x1 (IntKind.i64.wrap (x5 + 1)) (Heap.skip H 9))) (
  X0  H)
theorem M11_4_ok {o : Orc} {N : Nat} {κ : Kv} {X0 J : Kt} {X0' : Heap → Ans} {J' : V → V → Int → Heap → Ans} (h0 : ∀  H, X0 (tmk 0 26 []) H = X0' H) (hJ : ∀ x0 x1 x5 H, J (tmk 0 26 [(0, x0), (1, x1), (5, .int .i64 x5)]) H = J' x0 x1 x5 H) (x0 x1 : V) (x5 : Int) (H : Heap) :
    run Try.prog o N (cAt Try.f11 [1, 1, 0, 1, 4, 4]) A11_3 ((env0 Try.prog Try.f11 κ).block 0 (kj [] X0)) (tmk 0 26 [(0, x0), (1, x1), (5, .int .i64 x5)]) H (kj [0, 1, 5] J) = M11_4 o N X0' J' κ x0 x1 x5 H := by
  obtain rfl := fx1 h0
  obtain rfl := fx4 hJ
  kernel_rfl
def M11_5 (o : Orc) (N : Nat) (X0 : Heap → Ans) (κ : Kv) (n : Nat) : V → V → Int → Heap → Ans :=
  Nat.rec (motive := fun _ => V → V → Int → Heap → Ans) (fun _ _ _ _ => none) (fun _ ih x0 x1 x5 H => M11_4 o N X0 ih κ x0 x1 x5 H) n
theorem M11_5_s (o : Orc) (N : Nat) (X0 : Heap → Ans) (κ : Kv) (n : Nat) (x0 x1 : V) (x5 : Int) (H : Heap) : M11_5 o N X0 κ (n + 1) x0 x1 x5 H = M11_4 o N X0 (M11_5 o N X0 κ n) κ x0 x1 x5 H := rfl
theorem M11_5_ok {o : Orc} {N : Nat} {κ : Kv} {X0 : Kt} {X0' : Heap → Ans} (h0 : ∀  H, X0 (tmk 0 26 []) H = X0' H) (n : Nat) : ∀ (x0 x1 : V) (x5 : Int) (H : Heap),
    rounds (fun a H k => run Try.prog o N (cAt Try.f11 [1, 1, 0, 1, 4, 4]) A11_3 ((env0 Try.prog Try.f11 κ).block 0 (kj [] X0)) a H k) (some (lvOf [0, 1, 5])) n (tmk 0 26 [(0, x0), (1, x1), (5, .int .i64 x5)]) H = M11_5 o N X0' κ n x0 x1 x5 H := by
  induction n with
  | zero => intros; rfl
  | succ n ih =>
    intro x0 x1 x5 H
    refine (run_round.trans ?_).trans (M11_5_s ..).symm
    exact M11_4_ok h0 ih x0 x1 x5 H
def A11_6 : An := .b none (.l (some (lvOf [0, 1, 5])) A11_3)
def M11_7 (o : Orc) (N : Nat) (κ : Kv) (H : Heap) : Ans :=
  κ (.bool true) H
theorem M11_7_ok {o : Orc} {N : Nat} {κ : Kv} (H : Heap) :
    run Try.prog o N (cAt Try.f11 [1, 1, 1]) .n (env0 Try.prog Try.f11 κ) (tmk 0 26 []) H (env0 Try.prog Try.f11 κ).ret = M11_7 o N κ  H := by
  kernel_rfl
def A11_8 : An := .s (.s .n (some (lvOf [0, 1, 5])) A11_6) (some (lvOf [])) .n
def A11_9 : An := .s .n (some (lvOf [0, 1])) (.s .n (some (lvOf [0, 1])) A11_8)
def M11 (o : Orc) (N : Nat) : FnM := fun vs H κ => match vs with
  | [x0, x1] => M11_0 o N (fun x0 x1 H => M11_1 o N (fun x0 x1 H => M11_2 o N (fun x0 x1 x5 H => M11_5 o N (fun H => M11_7 o N κ  H) κ N x0 x1 x5 H) κ x0 x1 H) κ x0 x1 H) κ x0 x1 H
  | _ => none
theorem M11_run (o : Orc) (N : Nat) (vs : List V) (H : Heap) (κ : Kv) (r) (h : M11 o N vs H κ = some r) : runFn Try.prog o N Try.f11 A11_9 vs H κ = some r := by
  unfold M11 at h
  split at h
  · rename_i x0 x1
    refine (runFn_at (t := tmk 0 26 [(0, x0), (1, x1)]) (by kernel_rfl) (by kernel_rfl)).trans (Eq.trans ?_ h)
    refine (run_seq (x := (cAt Try.f11 [0])) (ax := .n) (y := (cAt Try.f11 [1])) (ay := (.s .n (some (lvOf [0, 1])) A11_8)) (l := [0, 1]) (by kernel_rfl) (by kernel_rfl)).trans ?_
    refine M11_0_ok ?_ x0 x1 H
    intro x0 x1 H
    refine (run_seq (x := (cAt Try.f11 [1, 0])) (ax := .n) (y := (cAt Try.f11 [1, 1])) (ay := A11_8) (l := [0, 1]) (by kernel_rfl) (by kernel_rfl)).trans ?_
    refine M11_1_ok ?_ x0 x1 H
    intro x0 x1 H
    refine (run_seq (x := (cAt Try.f11 [1, 1, 0])) (ax := (.s .n (some (lvOf [0, 1, 5])) A11_6)) (y := (cAt Try.f11 [1, 1, 1])) (ay := .n) (l := []) (by kernel_rfl) (by kernel_rfl)).trans ?_
    refine (run_seq (x := (cAt Try.f11 [1, 1, 0, 0])) (ax := .n) (y := (cAt Try.f11 [1, 1, 0, 1])) (ay := A11_6) (l := [0, 1, 5]) (by kernel_rfl) (by kernel_rfl)).trans ?_
    refine M11_2_ok ?_ x0 x1 H
    intro x0 x1 x5 H
    refine (run_block (id := 0) (x := (cAt Try.f11 [1, 1, 0, 1, 4])) (ax := (.l (some (lvOf [0, 1, 5])) A11_3)) (by kernel_rfl) (by kernel_rfl)).trans ?_
    refine (run_loop (x := (cAt Try.f11 [1, 1, 0, 1, 4, 4])) (ax := A11_3) (l := [0, 1, 5]) (by kernel_rfl) (by kernel_rfl) (by kernel_rfl)).trans ?_
    refine M11_5_ok ?_ N x0 x1 x5 H
    intro H
    exact M11_7_ok  H
  · cases h
theorem M11_sound {o : Orc} (ho : ∀ f, FSound Try.prog f (o f)) (N : Nat) : FSound Try.prog 11 (M11 o N) :=
  FSound.sub (runFn_ok (an := A11_9) (fuel := N) hmix ho (by kernel_rfl) (by kernel_rfl)) (M11_run o N)
/-! 12 ostinato/plan.Plan -/
def M12_0 (o : Orc) (N : Nat) (J : Int → Nat → Heap → Ans) (κ : Kv) (x0 : List V) (x1 : Int) (H : Heap) : Ans :=
  cond (List.all x0 V.one) (
  newB H (.row x0) fun i1 H2 =>
  J x1 i1 H2) none
theorem M12_0_ok {o : Orc} {N : Nat} {κ : Kv} {J : Kt} {J' : Int → Nat → Heap → Ans} (hJ : ∀ x1 x2 H, J (tmk 0 59 [(1, .int .i64 x1), (2, .ptr x2 0)]) H = J' x1 x2 H) (x0 : List V) (x1 : Int) (H : Heap) :
    run Try.prog o N (cAt Try.f12 [0]) .n (env0 Try.prog Try.f12 κ) (tmk 0 59 [(0, .agg x0), (1, .int .i64 x1)]) H (kj [1, 2] J) = M12_0 o N J' κ x0 x1 H := by
  obtain rfl := fx3 hJ
  kernel_rfl
def M12_1 (o : Orc) (N : Nat) (J : Int → Nat → Heap → Ans) (κ : Kv) (x1 : Int) (x2 : Nat) (H : Heap) : Ans :=
  ldFlat H x2 [.int .i64, .int .i64, .int .i64, .int .i64, .int .i64, .int .i64, .int .i64, .int .u32, .oth, .oth, .oth] 0 fun l3 =>
  o 32 [(.agg l3)] H fun v4 H5 =>
  asT2 v4 fun v6 v7 =>
  asI .i64 v6 fun n8 =>
  asI .i64 v7 fun n9 =>
  cond (n9 != 0) (
  κ .nils H5) (
  J x1 x2 H5)
theorem M12_1_ok {o : Orc} {N : Nat} {κ : Kv} {J : Kt} {J' : Int → Nat → Heap → Ans} (hJ : ∀ x1 x2 H, J (tmk 0 59 [(1, .int .i64 x1), (2, .ptr x2 0)]) H = J' x1 x2 H) (x1 : Int) (x2 : Nat) (H : Heap) :
    run Try.prog o N (cAt Try.f12 [1, 4, 0]) .n (env0 Try.prog Try.f12 κ) (tmk 0 59 [(1, .int .i64 x1), (2, .ptr x2 0)]) H (kj [1, 2] J) = M12_1 o N J' κ x1 x2 H := by
  obtain rfl := fx3 hJ
  kernel_rfl
def M12_2 (o : Orc) (N : Nat) (J : Int → Nat → Nat → Heap → Ans) (κ : Kv) (x1 : Int) (x2 : Nat) (H : Heap) : Ans :=
  newB H (.row [.nils]) fun i10 H11 =>
  J x1 x2 i10 H11
theorem M12_2_ok {o : Orc} {N : Nat} {κ : Kv} {J : Kt} {J' : Int → Nat → Nat → Heap → Ans} (hJ : ∀ x1 x2 x7 H, J (tmk 0 59 [(1, .int .i64 x1), (2, .ptr x2 0), (7, .ptr x7 0)]) H = J' x1 x2 x7 H) (x1 : Int) (x2 : Nat) (H : Heap) :
    run Try.prog o N (cAt Try.f12 [1, 4, 1, 0]) .n (env0 Try.prog Try.f12 κ) (tmk 0 59 [(1, .int .i64 x1), (2, .ptr x2 0)]) H (kj [1, 2, 7] J) = M12_2 o N J' κ x1 x2 H := by
  obtain rfl := fx4 hJ
  kernel_rfl
def M12_3 (o : Orc) (N : Nat) (J : Int → Nat → Nat → Heap → Ans) (κ : Kv) (x1 : Int) (x2 x7 : Nat) (H : Heap) : Ans :=
  J x1 x2 x7 H
theorem M12_3_ok {o : Orc} {N : Nat} {κ : Kv} {J : Kt} {J' : Int → Nat → Nat → Heap → Ans} (hJ : ∀ x1 x2 x7 H, J (tmk 0 59 [(1, .int .i64 x1), (2, .ptr x2 0), (7, .ptr x7 0)]) H = J' x1 x2 x7 H) (x1 : Int) (x2 x7 : Nat) (H : Heap) :
    run Try.prog o N (cAt Try.f12 [1, 4, 1, 1, 0]) .n (env0 Try.prog Try.f12 κ) (tmk 0 59 [(1, .int .i64 x1), (2, .ptr x2 0), (7, .ptr x7 0)]) H (kj [1, 2, 7] J) = M12_3 o N J' κ x1 x2 x7 H := by
  obtain rfl := fx4 hJ
  kernel_rfl
def M12_4 (o : Orc) (N : Nat) (J : Int → Nat → Nat → V → Int → Int → Heap → Ans) (κ : Kv) (x1 : Int) (x2 x7 : Nat) (H : Heap) : Ans :=
  (ldV H x2 10).bind fun v12 =>
  lenS v12 fun n13 =>
  J x1 x2 x7 v12 n13 0 H
theorem M12_4_ok {o : Orc} {N : Nat} {κ : Kv} {J : Kt} {J' : Int → Nat → Nat → V → Int → Int → Heap → Ans} (hJ : ∀ x1 x2 x7 x20 x21 x22 H, J (tmk 0 59 [(1, .int .i64 x1), (2, .ptr x2 0), (7, .ptr x7 0), (20, x20), (21, .int .i64 x21), (22, .int .i64 x22)]) H = J' x1 x2 x7 x20 x21 x22 H) (x1 : Int) (x2 x7 : Nat) (H : Heap) :
    run Try.prog o N (cAt Try.f12 [1, 4, 1, 1, 1, 0, 0]) .n (env0 Try.prog Try.f12 κ) (tmk 0 59 [(1, .int .i64 x1), (2, .ptr x2 0), (7, .ptr x7 0)]) H (kj [1, 2, 7, 20, 21, 22] J) = M12_4 o N J' κ x1 x2 x7 H := by
  obtain rfl := fx7 hJ
  kernel_rfl
def A12_5 : An := (.s .n none (.s .n none (.s (.b none (.s .n none (.s .n none (.d [0, 1, 2, 3, 4, 5, 6, 7])))) none .n)))
def M12_6 (o : Orc) (N : Nat) (X0 : Int → Nat → Nat → Heap → Ans) (J : Int → Nat → Nat → V → Int → Int → Heap → Ans) (κ : Kv) (x1 : Int) (x2 x7 : Nat) (x20 : V) (x21 x22 : Int) (H : Heap) : Ans :=
  cond (decide (x22 < x21)) (
  idxS 6 x20 x22 fun p14 o15 =>
  ldFlat H p14 [.int .i64, .int .i64, .int .i64, .int .i64, .int .i64, .int .i64] o15 fun l16 =>
  newB H (.row [(.int .i64 0), (.int .i64 0), (.int .i64 0), (.int .i64 0), (.int .i64 0), (.int .i64 0)]) fun i17 H18 =>
  cond (Nat.beq (List.length l16) 6 && Nat.blt 0 6) (
  (stN H18 i17 0 l16).bind fun H19 =>
  (ldI H19 .i64 i17 0).bind fun n20 =>
  cond (n20 == 3) (
  J x1 x2 x7 x20 x21 (IntKind.i64.wrap (x22 + 1)) H19) (
  (ldV (Heap.skip H19 8) x7 0).bind fun v21 =>
  ldFlat (Heap.skip H19 8) x2 [.int .i64, .int .i64, .int .i64, .int .i64, .int .i64, .int .i64, .int .i64, .int .u32, .oth, .oth, .oth] 0 fun l22 =>
  ldFlat (Heap.skip H19 8) i17 [.int .i64, .int .i64, .int .i64, .int .i64, .int .i64, .int .i64] 0 fun l23 =>
  o 33 [(.agg l22), (.int .i64 x1), (.agg l23)] (Heap.skip H19 8) fun v24 H25 =>
  asA v24 fun l26 =>
  (ldV H25 x7 0).bind fun v27 =>
  cond (V.same v21 v27) (
  (fillV (fun i => some (i * 6, 6)) [(.int .i64 0), (.int .i64 0), (.int .i64 0), (.int .i64 0), (.int .i64 0), (.int .i64 0)] [(0, (.agg l26))]).bind fun l28 =>
  appV (Heap.newAt H25 (H19.next + 5) (.row l28)) v21 (.sl (H19.next + 5) 0 1 6 true) 6 fun v29 H30 =>
  cond (Nat.beq (List.length (V.cells v29)) 1 && Nat.blt 0 1) (
  (stN H30 x7 0 (V.cells v29)).bind fun H31 =>
  J x1 x2 x7 x20 x21 (IntKind.i64.wrap (x22 + 1)) H31) none) none)) none) (
  X0 x1 x2 x7 H)
theorem M12_6_ok {o : Orc} {N : Nat} {κ : Kv} {X0 J : Kt} {X0' : Int → Nat → Nat → Heap → Ans} {J' : Int → Nat → Nat → V → Int → Int → Heap → Ans} (h0 : ∀ x1 x2 x7 H, X0 (tmk 0 59 [(1, .int .i64 x1), (2, .ptr x2 0), (7, .ptr x7 0)]) H = X0' x1 x2 x7 H) (hJ : ∀ x1 x2 x7 x20 x21 x22 H, J (tmk 0 59 [(1, .int .i64 x1), (2, .ptr x2 0), (7, .ptr x7 0), (20, x20), (21, .int .i64 x21), (22, .int .i64 x22)]) H = J' x1 x2 x7 x20 x21 x22 H) (x1 : Int) (x2 x7 : Nat) (x20 : V) (x21 x22 : Int) (H : Heap) :
    run Try.prog o N (cAt Try.f12 [1, 4, 1, 1, 1, 0, 1, 4, 4]) A12_5 ((env0 Try.prog Try.f12 κ).block 0 (kj [1, 2, 7] X0)) (tmk 0 59 [(1, .int .i64 x1), (2, .ptr x2 0), (7, .ptr x7 0), (20, x20), (21, .int .i64 x21), (22, .int .i64 x22)]) H (kj [1, 2, 7, 20, 21, 22] J) = M12_6 o N X0' J' κ x1 x2 x7 x20 x21 x22 H := by
  obtain rfl := fx4 h0
  obtain rfl := fx7 hJ
  kernel_rfl
def A12_7 : An := .l (some (lvOf [1, 2, 7, 20, 21, 22])) A12_5
def M12_8 (o : Orc) (N : Nat) (X0 : Int → Nat → Nat → Heap → Ans) (κ : Kv) (n : Nat) : Int → Nat → Nat → V → Int → Int → Heap → Ans :=
  Nat.rec (motive := fun _ => Int → Nat → Nat → V → Int → Int → Heap → Ans) (fun _ _ _ _ _ _ _ => none) (fun _ ih x1 x2 x7 x20 x21 x22 H => M12_6 o N X0 ih κ x1 x2 x7 x20 x21 x22 H) n
theorem M12_8_s (o : Orc) (N : Nat) (X0 : Int → Nat → Nat → Heap → Ans) (κ : Kv) (n : Nat) (x1 : Int) (x2 x7 : Nat) (x20 : V) (x21 x22 : Int) (H : Heap) : M12_8 o N X0 κ (n + 1) x1 x2 x7 x20 x21 x22 H = M12_6 o N X0 (M12_8 o N X0 κ n) κ x1 x2 x7 x20 x21 x22 H := rfl
theorem M12_8_ok {o : Orc} {N : Nat} {κ : Kv} {X0 : Kt} {X0' : Int → Nat → Nat → Heap → Ans} (h0 : ∀ x1 x2 x7 H, X0 (tmk 0 59 [(1, .int .i64 x1), (2, .ptr x2 0), (7, .ptr x7 0)]) H = X0' x1 x2 x7 H) (n : Nat) : ∀ (x1 : Int) (x2 x7 : Nat) (x20 : V) (x21 x22 : Int) (H : Heap),
    rounds (fun a H k => run Try.prog o N (cAt Try.f12 [1, 4, 1, 1, 1, 0, 1, 4, 4]) A12_5 ((env0 Try.prog Try.f12 κ).block 0 (kj [1, 2, 7] X0)) a H k) (some (lvOf [1, 2, 7, 20, 21, 22])) n (tmk 0 59 [(1, .int .i64 x1), (2, .ptr x2 0), (7, .ptr x7 0), (20, x20), (21, .int .i64 x21), (22, .int .i64 x22)]) H = M12_8 o N X0' κ n x1 x2 x7 x20 x21 x22 H := by
  induction n with
  | zero => intros; rfl
  | succ n ih =>
    intro x1 x2 x7 x20 x21 x22 H
    refine (run_round.trans ?_).trans (M12_8_s ..).symm
    exact M12_6_ok h0 ih x1 x2 x7 x20 x21 x22 H
def A12_9 : An := .s .n (some (lvOf [1, 2, 7, 20, 21, 22])) (.b none A12_7)
def M12_10 (o : Orc) (N : Nat) (κ : Kv) (x1 : Int) (x2 x7 : Nat) (H : Heap) : Ans :=
  ldFlat H x2 [.int .i64, .int .i64, .int .i64, .int .i64, .int .i64, .int .i64, .int .i64, .int .u32, .oth, .oth, .oth] 0 fun l32 =>
  o 35 [(.agg l32), (.int .i64 x1)] H fun v33 H34 =>
  asI .i64 v33 fun n35 =>
  cond (decide (n35 ≥ 0)) (
  (ldI H34 .i64 x2 3).bind fun n36 =>
  o 34 [(.int .i64 4), (.int .i64 n36), (.int .i64 0), (.ptr x7 0)] H34 fun v37 H38 =>
  asT0 v37 (
  ldFlat H38 x2 [.int .i64, .int .i64, .int .i64, .int .i64, .int .i64, .int .i64, .int .i64, .int .u32, .oth, .oth, .oth] 0 fun l39 =>
  o 14 [(.agg l39), (.int .i64 n35)] H38 fun v40 H41 =>
  asI .i64 v40 fun n42 =>
  o 34 [(.int .i64 4), (.int .i64 n42), (.int .i64 1), (.ptr x7 0)] H41 fun v43 H44 =>
  asT0 v43 (
  ldFlat H44 x2 [.int .i64, .int .i64, .int .i64, .int .i64, .int .i64, .int .i64, .int .i64, .int .u32, .oth, .oth, .oth] 0 fun l45 =>
  o 16 [(.agg l45)] H44 fun v46 H47 =>
  asI .i64 v46 fun n48 =>
  o 34 [(.int .i64 5), (.int .i64 n48), (.int .i64 0), (.ptr x7 0)] H47 fun v49 H50 =>
  asT0 v49 (
  (ldV H50 x7 0).bind fun v51 =>
  o 36 [v51, (.fn 37 [])] H50 fun v52 H53 =>
  asT0 v52 (
  (ldV H53 x7 0).bind fun v54 =>
  κ v54 H53))))) (
  ldFlat H34 x2 [.int .i64, .int .i64, .int .i64, .int .i64, .int .i64, .int .i64, .int .i64, .int .u32, .oth, .oth, .oth] 0 fun l55 =>
  o 16 [(.agg l55)] H34 fun v56 H57 =>
  asI .i64 v56 fun n58 =>
  o 34 [(.int .i64 5), (.int .i64 n58), (.int .i64 0), (.ptr x7 0)] H57 fun v59 H60 =>
  asT0 v59 (
  (ldV H60 x7 0).bind fun v61 =>
  o 36 [v61, (.fn 37 [])] H60 fun v62 H63 =>
  asT0 v62 (
  (ldV H63 x7 0).bind fun v64 =>
  κ v64 H63)))
theorem M12_10_ok {o : Orc} {N : Nat} {κ : Kv} (x1 : Int) (x2 x7 : Nat) (H : Heap) :
    run Try.prog o N (cAt Try.f12 [1, 4, 1, 1, 1, 1]) .n (env0 Try.prog Try.f12 κ) (tmk 0 59 [(1, .int .i64 x1), (2, .ptr x2 0), (7, .ptr x7 0)]) H (env0 Try.prog Try.f12 κ).ret = M12_10 o N κ x1 x2 x7 H := by
  kernel_rfl
def A12_11 : An := .s .n (some (lvOf [1, 2, 7])) (.s A12_9 (some (lvOf [1, 2, 7])) .n)
def A12_12 : An := .s .n (some (lvOf [1, 2])) (.s .n (some (lvOf [1, 2, 7])) A12_11)
def M12 (o : Orc) (N : Nat) : FnM := fun vs H κ => match vs with
  | [.agg x0, .int .i64 x1] => M12_0 o N (fun x1 x2 H => M12_1 o N (fun x1 x2 H => M12_2 o N (fun x1 x2 x7 H => M12_3 o N (fun x1 x2 x7 H => M12_4 o N (fun x1 x2 x7 x20 x21 x22 H => M12_8 o N (fun x1 x2 x7 H => M12_10 o N κ x1 x2 x7 H) κ N x1 x2 x7 x20 x21 x22 H) κ x1 x2 x7 H) κ x1 x2 x7 H) κ x1 x2 H) κ x1 x2 H) κ x0 x1 H
  | _ => none
theorem M12_run (o : Orc) (N : Nat) (vs : List V) (H : Heap) (κ : Kv) (r) (h : M12 o N vs H κ = some r) : runFn Try.prog o N Try.f12 (.s .n (some (lvOf [1, 2])) A12_12) vs H κ = some r := by
  unfold M12 at h
  split at h
  · rename_i x0 x1
    refine (runFn_at (t := tmk 0 59 [(0, .agg x0), (1, .int .i64 x1)]) (by kernel_rfl) (by kernel_rfl)).trans (Eq.trans ?_ h)
    refine (run_seq (x := (cAt Try.f12 [0])) (ax := .n) (y := (cAt Try.f12 [1])) (ay := A12_12) (l := [1, 2]) (by kernel_rfl) (by kernel_rfl)).trans ?_
    refine M12_0_ok ?_ x0 x1 H
    intro x1 x2 H
    refine (run_scope (x := (cAt Try.f12 [1, 4])) (by kernel_rfl)).trans ?_
    refine (run_seq (x := (cAt Try.f12 [1, 4, 0])) (ax := .n) (y := (cAt Try.f12 [1, 4, 1])) (ay := (.s .n (some (lvOf [1, 2, 7])) A12_11)) (l := [1, 2]) (by kernel_rfl) (by kernel_rfl)).trans ?_
    refine M12_1_ok ?_ x1 x2 H
    intro x1 x2 H
    refine (run_seq (x := (cAt Try.f12 [1, 4, 1, 0])) (ax := .n) (y := (cAt Try.f12 [1, 4, 1, 1])) (ay := A12_11) (l := [1, 2, 7]) (by kernel_rfl) (by kernel_rfl)).trans ?_
    refine M12_2_ok ?_ x1 x2 H
    intro x1 x2 x7 H
    refine (run_seq (x := (cAt Try.f12 [1, 4, 1, 1, 0])) (ax := .n) (y := (cAt Try.f12 [1, 4, 1, 1, 1])) (ay := (.s A12_9 (some (lvOf [1, 2, 7])) .n)) (l := [1, 2, 7]) (by kernel_rfl) (by kernel_rfl)).trans ?_
    refine M12_3_ok ?_ x1 x2 x7 H
    intro x1 x2 x7 H
    refine (run_seq (x := (cAt Try.f12 [1, 4, 1, 1, 1, 0])) (ax := A12_9) (y := (cAt Try.f12 [1, 4, 1, 1, 1, 1])) (ay := .n) (l := [1, 2, 7]) (by kernel_rfl) (by kernel_rfl)).trans ?_
    refine (run_seq (x := (cAt Try.f12 [1, 4, 1, 1, 1, 0, 0])) (ax := .n) (y := (cAt Try.f12 [1, 4, 1, 1, 1, 0, 1])) (ay := (.b none A12_7)) (l := [1, 2, 7, 20, 21, 22]) (by kernel_rfl) (by kernel_rfl)).trans ?_
    refine M12_4_ok ?_ x1 x2 x7 H
    intro x1 x2 x7 x20 x21 x22 H
    refine (run_block (id := 0) (x := (cAt Try.f12 [1, 4, 1, 1, 1, 0, 1, 4])) (ax := A12_7) (by kernel_rfl) (by kernel_rfl)).trans ?_
    refine (run_loop (x := (cAt Try.f12 [1, 4, 1, 1, 1, 0, 1, 4, 4])) (ax := A12_5) (l := [1, 2, 7, 20, 21, 22]) (by kernel_rfl) (by kernel_rfl) (by kernel_rfl)).trans ?_
    refine M12_8_ok ?_ N x1 x2 x7 x20 x21 x22 H
    intro x1 x2 x7 H
    exact M12_10_ok x1 x2 x7 H
  · cases h
theorem M12_sound {o : Orc} (ho : ∀ f, FSound Try.prog f (o f)) (N : Nat) : FSound Try.prog 12 (M12 o N) :=
  FSound.sub (runFn_ok (an := (.s .n (some (lvOf [1, 2])) A12_12)) (fuel := N) hmix ho (by kernel_rfl) (by kernel_rfl)) (M12_run o N)
/-! 13 ostinato/ostinatoref12.Plan -/
def M13_0 (o : Orc) (N : Nat) (J : Int → Nat → Heap → Ans) (κ : Kv) (x0 : List V) (x1 : Int) (H : Heap) : Ans :=
  cond (List.all x0 V.one) (
  newB H (.row x0) fun i1 H2 =>
  J x1 i1 H2) none
theorem M13_0_ok {o : Orc} {N : Nat} {κ : Kv} {J : Kt} {J' : Int → Nat → Heap → Ans} (hJ : ∀ x1 x2 H, J (tmk 0 110 [(1, .int .i64 x1), (2, .ptr x2 0)]) H = J' x1 x2 H) (x0 : List V) (x1 : Int) (H : Heap) :
    run Try.prog o N (cAt Try.f13 [0]) .n (env0 Try.prog Try.f13 κ) (tmk 0 110 [(0, .agg x0), (1, .int .i64 x1)]) H (kj [1, 2] J) = M13_0 o N J' κ x0 x1 H := by
  obtain rfl := fx3 hJ
  kernel_rfl
def M13_1 (o : Orc) (N : Nat) (J : Int → Nat → Int → Heap → Ans) (κ : Kv) (x1 : Int) (x2 : Nat) (H : Heap) : Ans :=
  ldFlat H x2 [.int .i64, .int .i64, .int .i64, .int .i64, .int .i64, .int .i64, .int .i64, .int .u32, .oth, .oth, .oth] 0 fun l3 =>
  o 19 [(.agg l3)] H fun v4 H5 =>
  asT2 v4 fun v6 v7 =>
  asI .i64 v6 fun n8 =>
  asI .i64 v7 fun n9 =>
  J x1 x2 n9 H5
theorem M13_1_ok {o : Orc} {N : Nat} {κ : Kv} {J : Kt} {J' : Int → Nat → Int → Heap → Ans} (hJ : ∀ x1 x2 x6 H, J (tmk 0 110 [(1, .int .i64 x1), (2, .ptr x2 0), (6, .int .i64 x6)]) H = J' x1 x2 x6 H) (x1 : Int) (x2 : Nat) (H : Heap) :
    run Try.prog o N (cAt Try.f13 [1, 0]) .n (env0 Try.prog Try.f13 κ) (tmk 0 110 [(1, .int .i64 x1), (2, .ptr x2 0)]) H (kj [1, 2, 6] J) = M13_1 o N J' κ x1 x2 H := by
  obtain rfl := fx4 hJ
  kernel_rfl
def M13_2 (o : Orc) (N : Nat) (J : Int → Nat → Heap → Ans) (κ : Kv) (x1 : Int) (x2 : Nat) (x6 : Int) (H : Heap) : Ans :=
  cond (x6 != 0) (
  κ .nils H) (
  J x1 x2 H)
theorem M13_2_ok {o : Orc} {N : Nat} {κ : Kv} {J : Kt} {J' : Int → Nat → Heap → Ans} (hJ : ∀ x1 x2 H, J (tmk 0 110 [(1, .int .i64 x1), (2, .ptr x2 0)]) H = J' x1 x2 H) (x1 : Int) (x2 : Nat) (x6 : Int) (H : Heap) :
    run Try.prog o N (cAt Try.f13 [1, 1, 0]) .n (env0 Try.prog Try.f13 κ) (tmk 0 110 [(1, .int .i64 x1), (2, .ptr x2 0), (6, .int .i64 x6)]) H (kj [1, 2] J) = M13_2 o N J' κ x1 x2 x6 H := by
  obtain rfl := fx3 hJ
  kernel_rfl
def M13_3 (o : Orc) (N : Nat) (J : Int → Nat → V → Heap → Ans) (κ : Kv) (x1 : Int) (x2 : Nat) (H : Heap) : Ans :=
  J x1 x2 .nils H
theorem M13_3_ok {o : Orc} {N : Nat} {κ : Kv} {J : Kt} {J' : Int → Nat → V → Heap → Ans} (hJ : ∀ x1 x2 x7 H, J (tmk 0 110 [(1, .int .i64 x1), (2, .ptr x2 0), (7, x7)]) H = J' x1 x2 x7 H) (x1 : Int) (x2 : Nat) (H : Heap) :
    run Try.prog o N (cAt Try.f13 [1, 1, 1, 0]) .n (env0 Try.prog Try.f13 κ) (tmk 0 110 [(1, .int .i64 x1), (2, .ptr x2 0)]) H (kj [1, 2, 7] J) = M13_3 o N J' κ x1 x2 H := by
  obtain rfl := fx4 hJ
  kernel_rfl
def M13_4 (o : Orc) (N : Nat) (J : Int → Nat → V → Int → Heap → Ans) (κ : Kv) (x1 : Int) (x2 : Nat) (x7 : V) (H : Heap) : Ans :=
  J x1 x2 x7 0 H
theorem M13_4_ok {o : Orc} {N : Nat} {κ : Kv} {J : Kt} {J' : Int → Nat → V → Int → Heap → Ans} (hJ : ∀ x1 x2 x7 x8 H, J (tmk 0 110 [(1, .int .i64 x1), (2, .ptr x2 0), (7, x7), (8, .int .i64 x8)]) H = J' x1 x2 x7 x8 H) (x1 : Int) (x2 : Nat) (x7 : V) (H : Heap) :
    run Try.prog o N (cAt Try.f13 [1, 1, 1, 1, 0, 0]) .n (env0 Try.prog Try.f13 κ) (tmk 0 110 [(1, .int .i64 x1), (2, .ptr x2 0), (7, x7)]) H (kj [1, 2, 7, 8] J) = M13_4 o N J' κ x1 x2 x7 H := by
  obtain rfl := fx5 hJ
  kernel_rfl
def A13_5 : An := (.s .n none (.s (.b none (.s .n none (.s .n none (.s (.b none (.s .n none (.c (.d [0, 1, 2, 3, 4, 5, 6, 7, 8, 9, 10, 11, 12]) (.s .n none (.c (.d [0, 1, 2, 3, 4, 5, 6]) (.s .n none (.c (.d [0, 1, 2, 3, 4, 7, 5, 6, 8, 9, 10, 11, 12]) .n))))))) none .n)))) none .n))
def M13_6 (o : Orc) (N : Nat) (X0 : Int → Nat → V → Heap → Ans) (J : Int → Nat → V → Int → Heap → Ans) (κ : Kv) (x1 : Int) (x2 : Nat) (x7 : V) (x8 : Int) (H : Heap) : Ans :=
  (ldV H x2 10).bind fun v10 =>
  lenS v10 fun n11 =>
  cond (decide (x8 < n11)) (
  (ldV H x2 10).bind fun v12 =>
  idxS 6 v12 x8 fun p13 o14 =>
  ldFlat H p13 [.int .i64, .int .i64, .int .i64, .int .i64, .int .i64, .int .i64] o14 fun l15 =>
  newB H (.row [(.int .i64 0), (.int .i64 0), (.int .i64 0), (.int .i64 0), (.int .i64 0), (.int .i64 0)]) fun i16 H17 =>
  cond (Nat.beq (List.length l15) 6 && Nat.blt 0 6) (
  (stN H17 i16 0 l15).bind fun H18 =>
  (ldI H18 .i64 i16 3).bind fun n19 =>
  (ldI H18 .i64 i16 4).bind fun n20 =>
  (ldI H18 .i64 i16 5).bind fun n21 =>
  newB H18 (.row [(.int .i64 0), (.int .i64 0), (.int .i64 0), (.int .i64 0), (.int .i64 0), (.int .i64 0)]) fun i22 H23 =>
  (stN H23 i22 0 [(.int .i64 0), (.int .i64 0), (.int .i64 n19), (.int .i64 n20), (.int .i64 n21), (.int .i64 0)]).bind fun H24 =>
  (ldI H24 .i64 i16 0).bind fun n25 =>
  cond (n25 == 1) (
  (ldV H24 x2 9).bind fun v26 =>
  (ldI H24 .i64 i16 5).bind fun n27 =>
  idxS 3 v26 n27 fun p28 o29 =>
  (ldI H24 .i64 p28 (o29 + 1)).bind fun n30 =>
  cond (n30 == x1) (
  (ldI (Heap.skip H24 13) .i64 i16 1).bind fun n31 =>
  (ldI (Heap.skip H24 13) .i64 i16 1).bind fun n32 =>
  (ldI (Heap.skip H24 13) .i64 x2 4).bind fun n33 =>
  (stN (Heap.skip H24 13) i22 0 [(.int .i64 1)]).bind fun H34 =>
  (ldI H34 .i64 x2 4).bind fun n35 =>
  cond (decide (n33 = n35)) (
  (ldI H34 .i64 i16 1).bind fun n36 =>
  cond (decide (n32 = n36)) (
  (ldI H34 .i64 i16 1).bind fun n37 =>
  cond (decide (n31 = n37)) (
  (stN H34 i22 1 [(.int .i64 n31)]).bind fun H38 =>
  (ldI H38 .i64 x2 4).bind fun n39 =>
  cond (decide (n33 = n39)) (
  (ldI H38 .i64 i16 1).bind fun n40 =>
  cond (decide (n32 = n40)) (
  (stN H38 i22 5 [(.int .i64 (IntKind.i64.wrap (n32 + n33)))]).bind fun H41 =>
  ldFlat H41 i22 [.int .i64, .int .i64, .int .i64, .int .i64, .int .i64, .int .i64] 0 fun l42 =>
  o 40 [x7, (.agg l42)] H41 fun v43 H44 =>
  J x1 x2 v43 (IntKind.i64.wrap (x8 + 1)) H44) none) none) none) none) none) (
  (ldI H24 .i64 i16 0).bind fun n45 =>
  cond (n45 == 1) (
  (ldI (Heap.skip H24 7) .i64 i16 2).bind fun n46 =>
  (stN (Heap.skip H24 7) i22 0 [(.int .i64 3)]).bind fun H47 =>
  (ldI H47 .i64 i16 2).bind fun n48 =>
  cond (decide (n46 = n48)) (
  (stN H47 i22 1 [(.int .i64 (IntKind.i64.wrap (n46 - 1)))]).bind fun H49 =>
  ldFlat H49 i22 [.int .i64, .int .i64, .int .i64, .int .i64, .int .i64, .int .i64] 0 fun l50 =>
  o 40 [x7, (.agg l50)] H49 fun v51 H52 =>
  J x1 x2 v51 (IntKind.i64.wrap (x8 + 1)) H52) none) (
  (ldI H24 .i64 i16 0).bind fun n53 =>
  cond (n53 == 2) (
  (ldI (Heap.skip H24 13) .i64 i16 1).bind fun n54 =>
  (ldI (Heap.skip H24 13) .i64 i16 2).bind fun n55 =>
  ldFlat (Heap.skip H24 13) x2 [.int .i64, .int .i64, .int .i64, .int .i64, .int .i64, .int .i64, .int .i64, .int .u32, .oth, .oth, .oth] 0 fun l56 =>
  o 39 [(.agg l56)] (Heap.skip H24 13) fun v57 H58 =>
  asI .i64 v57 fun n59 =>
  (ldI H58 .i64 i16 2).bind fun n60 =>
  cond (decide (n55 = n60)) (
  (ldI H58 .i64 i16 1).bind fun n61 =>
  cond (decide (n54 = n61)) (
  (stN H58 i22 0 [(.int .i64 2)]).bind fun H62 =>
  (ldI H62 .i64 i16 2).bind fun n63 =>
  cond (decide (n55 = n63)) (
  (ldI H62 .i64 i16 1).bind fun n64 =>
  cond (decide (n54 = n64)) (
  (stN H62 i22 1 [(.int .i64 n54)]).bind fun H65 =>
  (ldI H65 .i64 i16 2).bind fun n66 =>
  cond (decide (n55 = n66)) (
  (stN H65 i22 5 [(.int .i64 (IntKind.i64.wrap (n55 - n59)))]).bind fun H67 =>
  ldFlat H67 i22 [.int .i64, .int .i64, .int .i64, .int .i64, .int .i64, .int .i64] 0 fun l68 =>
  o 40 [x7, (.agg l68)] H67 fun v69 H70 =>
  J x1 x2 v69 (IntKind.i64.wrap (x8 + 1)) H70) none) none) none) none) none) (
  J x1 x2 x7 (IntKind.i64.wrap (x8 + 1)) H24)))) (
  (ldI H24 .i64 i16 0).bind fun n71 =>
  cond (n71 == 1) (
  (ldI (Heap.skip H24 7) .i64 i16 2).bind fun n72 =>
  (stN (Heap.skip H24 7) i22 0 [(.int .i64 3)]).bind fun H73 =>
  (ldI H73 .i64 i16 2).bind fun n74 =>
  cond (decide (n72 = n74)) (
  (stN H73 i22 1 [(.int .i64 (IntKind.i64.wrap (n72 - 1)))]).bind fun H75 =>
  ldFlat H75 i22 [.int .i64, .int .i64, .int .i64, .int .i64, .int .i64, .int .i64] 0 fun l76 =>
  o 40 [x7, (.agg l76)] H75 fun v77 H78 =>
  J x1 x2 v77 (IntKind.i64.wrap (x8 + 1)) H78) none) (
  (ldI H24 .i64 i16 0).bind fun n79 =>
  cond (n79 == 2) (
  (ldI (Heap.skip H24 13) .i64 i16 1).bind fun n80 =>
  (ldI (Heap.skip H24 13) .i64 i16 2).bind fun n81 =>
  ldFlat (Heap.skip H24 13) x2 [.int .i64, .int .i64, .int .i64, .int .i64, .int .i64, .int .i64, .int .i64, .int .u32, .oth, .oth, .oth] 0 fun l82 =>
  o 39 [(.agg l82)] (Heap.skip H24 13) fun v83 H84 =>
  asI .i64 v83 fun n85 =>
  (ldI H84 .i64 i16 2).bind fun n86 =>
  cond (decide (n81 = n86)) (
  (ldI H84 .i64 i16 1).bind fun n87 =>
  cond (decide (n80 = n87)) (
  (stN H84 i22 0 [(.int .i64 2)]).bind fun H88 =>
  (ldI H88 .i64 i16 2).bind fun n89 =>
  cond (decide (n81 = n89)) (
  (ldI H88 .i64 i16 1).bind fun n90 =>
  cond (decide (n80 = n90)) (
  (stN H88 i22 1 [(.int .i64 n80)]).bind fun H91 =>
  (ldI H91 .i64 i16 2).bind fun n92 =>
  cond (decide (n81 = n92)) (
  (stN H91 i22 5 [(.int .i64 (IntKind.i64.wrap (n81 - n85)))]).bind fun H93 =>
  ldFlat H93 i22 [.int .i64, .int .i64, .int .i64, .int .i64, .int .i64, .int .i64] 0 fun l94 =>
  o 40 [x7, (.agg l94)] H93 fun v95 H96 =>
  J x1 x2 v95 (IntKind.i64.wrap (x8 + 1)) H96) none) none) none) none) none) (
  J x1 x2 x7 (IntKind.i64.wrap (x8 + 1)) H24)))) none) (
  X0 x1 x2 x7 H)
theorem M13_6_ok {o : Orc} {N : Nat} {κ : Kv} {X0 J : Kt} {X0' : Int → Nat → V → Heap → Ans} {J' : Int → Nat → V → Int → Heap → Ans} (h0 : ∀ x1 x2 x7 H, X0 (tmk 0 110 [(1, .int .i64 x1), (2, .ptr x2 0), (7, x7)]) H = X0' x1 x2 x7 H) (hJ : ∀ x1 x2 x7 x8 H, J (tmk 0 110 [(1, .int .i64 x1), (2, .ptr x2 0), (7, x7), (8, .int .i64 x8)]) H = J' x1 x2 x7 x8 H) (x1 : Int) (x2 : Nat) (x7 : V) (x8 : Int) (H : Heap) :
    run Try.prog o N (cAt Try.f13 [1, 1, 1, 1, 0, 1, 4, 4]) A13_5 ((env0 Try.prog Try.f13 κ).block 0 (kj [1, 2, 7] X0)) (tmk 0 110 [(1, .int .i64 x1), (2, .ptr x2 0), (7, x7), (8, .int .i64 x8)]) H (kj [1, 2, 7, 8] J) = M13_6 o N X0' J' κ x1 x2 x7 x8 H := by
  obtain rfl := fx4 h0
  obtain rfl := fx5 hJ
  kernel_rfl
def M13_7 (o : Orc) (N : Nat) (X0 : Int → Nat → V → Heap → Ans) (κ : Kv) (n : Nat) : Int → Nat → V → Int → Heap → Ans :=
  Nat.rec (motive := fun _ => Int → Nat → V → Int → Heap → Ans) (fun _ _ _ _ _ => none) (fun _ ih x1 x2 x7 x8 H => M13_6 o N X0 ih κ x1 x2 x7 x8 H) n
theorem M13_7_s (o : Orc) (N : Nat) (X0 : Int → Nat → V → Heap → Ans) (κ : Kv) (n : Nat) (x1 : Int) (x2 : Nat) (x7 : V) (x8 : Int) (H : Heap) : M13_7 o N X0 κ (n + 1) x1 x2 x7 x8 H = M13_6 o N X0 (M13_7 o N X0 κ n) κ x1 x2 x7 x8 H := rfl
theorem M13_7_ok {o : Orc} {N : Nat} {κ : Kv} {X0 : Kt} {X0' : Int → Nat → V → Heap → Ans} (h0 : ∀ x1 x2 x7 H, X0 (tmk 0 110 [(1, .int .i64 x1), (2, .ptr x2 0), (7, x7)]) H = X0' x1 x2 x7 H) (n : Nat) : ∀ (x1 : Int) (x2 : Nat) (x7 : V) (x8 : Int) (H : Heap),
    rounds (fun a H k => run Try.prog o N (cAt Try.f13 [1, 1, 1, 1, 0, 1, 4, 4]) A13_5 ((env0 Try.prog Try.f13 κ).block 0 (kj [1, 2, 7] X0)) a H k) (some (lvOf [1, 2, 7, 8])) n (tmk 0 110 [(1, .int .i64 x1), (2, .ptr x2 0), (7, x7), (8, .int .i64 x8)]) H = M13_7 o N X0' κ n x1 x2 x7 x8 H := by
  induction n with
  | zero => intros; rfl
  | succ n ih =>
    intro x1 x2 x7 x8 H
    refine (run_round.trans ?_).trans (M13_7_s ..).symm
    exact M13_6_ok h0 ih x1 x2 x7 x8 H
def A13_8 : An := .b none (.l (some (lvOf [1, 2, 7, 8])) A13_5)
def M13_9 (o : Orc) (N : Nat) (κ : Kv) (x1 : Int) (x2 : Nat) (x7 : V) (H : Heap) : Ans :=
  ldFlat H x2 [.int .i64, .int .i64, .int .i64, .int .i64, .int .i64, .int .i64, .int .i64, .int .u32, .oth, .oth, .oth] 0 fun l97 =>
  o 41 [(.agg l97), (.int .i64 x1)] H fun v98 H99 =>
  asI .i64 v98 fun n100 =>
  cond (decide (n100 ≥ 0)) (
  (ldI H99 .i64 x2 3).bind fun n101 =>
  o 40 [x7, (.agg [(.int .i64 4), (.int .i64 n101), (.int .i64 0), (.int .i64 1), (.int .i64 0), (.int .i64 0)])] H99 fun v102 H103 =>
  ldFlat H103 x2 [.int .i64, .int .i64, .int .i64, .int .i64, .int .i64, .int .i64, .int .i64, .int .u32, .oth, .oth, .oth] 0 fun l104 =>
  o 15 [(.agg l104), (.int .i64 n100)] H103 fun v105 H106 =>
  asI .i64 v105 fun n107 =>
  o 40 [v102, (.agg [(.int .i64 4), (.int .i64 n107), (.int .i64 0), (.int .i64 1), (.int .i64 1), (.int .i64 0)])] H106 fun v108 H109 =>
  ldFlat H109 x2 [.int .i64, .int .i64, .int .i64, .int .i64, .int .i64, .int .i64, .int .i64, .int .u32, .oth, .oth, .oth] 0 fun l110 =>
  o 17 [(.agg l110)] H109 fun v111 H112 =>
  asI .i64 v111 fun n113 =>
  o 40 [v108, (.agg [(.int .i64 5), (.int .i64 n113), (.int .i64 0), (.int .i64 1), (.int .i64 0), (.int .i64 0)])] H112 fun v114 H115 =>
  κ v114 H115) (
  ldFlat H99 x2 [.int .i64, .int .i64, .int .i64, .int .i64, .int .i64, .int .i64, .int .i64, .int .u32, .oth, .oth, .oth] 0 fun l116 =>
  o 17 [(.agg l116)] H99 fun v117 H118 =>
  asI .i64 v117 fun n119 =>
  o 40 [x7, (.agg [(.int .i64 5), (.int .i64 n119), (.int .i64 0), (.int .i64 1), (.int .i64 0), (.int .i64 0)])] H118 fun v120 H121 =>
  κ v120 H121)
theorem M13_9_ok {o : Orc} {N : Nat} {κ : Kv} (x1 : Int) (x2 : Nat) (x7 : V) (H : Heap) :
    run Try.prog o N (cAt Try.f13 [1, 1, 1, 1, 1]) .n (env0 Try.prog Try.f13 κ) (tmk 0 110 [(1, .int .i64 x1), (2, .ptr x2 0), (7, x7)]) H (env0 Try.prog Try.f13 κ).ret = M13_9 o N κ x1 x2 x7 H := by
  kernel_rfl
def A13_10 : An := .s (.s .n (some (lvOf [1, 2, 7, 8])) A13_8) (some (lvOf [1, 2, 7])) .n
def A13_11 : An := .s .n (some (lvOf [1, 2])) (.s .n (some (lvOf [1, 2, 7])) A13_10)
def A13_12 : An := .s .n (some (lvOf [1, 2])) (.s .n (some (lvOf [1, 2, 6])) A13_11)
def M13 (o : Orc) (N : Nat) : FnM := fun vs H κ => match vs with
  | [.agg x0, .int .i64 x1] => M13_0 o N (fun x1 x2 H => M13_1 o N (fun x1 x2 x6 H => M13_2 o N (fun x1 x2 H => M13_3 o N (fun x1 x2 x7 H => M13_4 o N (fun x1 x2 x7 x8 H => M13_7 o N (fun x1 x2 x7 H => M13_9 o N κ x1 x2 x7 H) κ N x1 x2 x7 x8 H) κ x1 x2 x7 H) κ x1 x2 H) κ x1 x2 x6 H) κ x1 x2 H) κ x0 x1 H
  | _ => none
theorem M13_run (o : Orc) (N : Nat) (vs : List V) (H : Heap) (κ : Kv) (r) (h : M13 o N vs H κ = some r) : runFn Try.prog o N Try.f13 A13_12 vs H κ = some r := by
  unfold M13 at h
  split at h
  · rename_i x0 x1
    refine (runFn_at (t := tmk 0 110 [(0, .agg x0), (1, .int .i64 x1)]) (by kernel_rfl) (by kernel_rfl)).trans (Eq.trans ?_ h)
    refine (run_seq (x := (cAt Try.f13 [0])) (ax := .n) (y := (cAt Try.f13 [1])) (ay := (.s .n (some (lvOf [1, 2, 6])) A13_11)) (l := [1, 2]) (by kernel_rfl) (by kernel_rfl)).trans ?_
    refine M13_0_ok ?_ x0 x1 H
    intro x1 x2 H
    refine (run_seq (x := (cAt Try.f13 [1, 0])) (ax := .n) (y := (cAt Try.f13 [1, 1])) (ay := A13_11) (l := [1, 2, 6]) (by kernel_rfl) (by kernel_rfl)).trans ?_
    refine M13_1_ok ?_ x1 x2 H
    intro x1 x2 x6 H
    refine (run_seq (x := (cAt Try.f13 [1, 1, 0])) (ax := .n) (y := (cAt Try.f13 [1, 1, 1])) (ay := (.s .n (some (lvOf [1, 2, 7])) A13_10)) (l := [1, 2]) (by kernel_rfl) (by kernel_rfl)).trans ?_
    refine M13_2_ok ?_ x1 x2 x6 H
    intro x1 x2 H
    refine (run_seq (x := (cAt Try.f13 [1, 1, 1, 0])) (ax := .n) (y := (cAt Try.f13 [1, 1, 1, 1])) (ay := A13_10) (l := [1, 2, 7]) (by kernel_rfl) (by kernel_rfl)).trans ?_
    refine M13_3_ok ?_ x1 x2 H
    intro x1 x2 x7 H
    refine (run_seq (x := (cAt Try.f13 [1, 1, 1, 1, 0])) (ax := (.s .n (some (lvOf [1, 2, 7, 8])) A13_8)) (y := (cAt Try.f13 [1, 1, 1, 1, 1])) (ay := .n) (l := [1, 2, 7]) (by kernel_rfl) (by kernel_rfl)).trans ?_
    refine (run_seq (x := (cAt Try.f13 [1, 1, 1, 1, 0, 0])) (ax := .n) (y := (cAt Try.f13 [1, 1, 1, 1, 0, 1])) (ay := A13_8) (l := [1, 2, 7, 8]) (by kernel_rfl) (by kernel_rfl)).trans ?_
    refine M13_4_ok ?_ x1 x2 x7 H
    intro x1 x2 x7 x8 H
    refine (run_block (id := 0) (x := (cAt Try.f13 [1, 1, 1, 1, 0, 1, 4])) (ax := (.l (some (lvOf [1, 2, 7, 8])) A13_5)) (by kernel_rfl) (by kernel_rfl)).trans ?_
    refine (run_loop (x := (cAt Try.f13 [1, 1, 1, 1, 0, 1, 4, 4])) (ax := A13_5) (l := [1, 2, 7, 8]) (by kernel_rfl) (by kernel_rfl) (by kernel_rfl)).trans ?_
    refine M13_7_ok ?_ N x1 x2 x7 x8 H
    intro x1 x2 x7 H
    exact M13_9_ok x1 x2 x7 H
  · cases h
theorem M13_sound {o : Orc} (ho : ∀ f, FSound Try.prog f (o f)) (N : Nat) : FSound Try.prog 13 (M13 o N) :=
  FSound.sub (runFn_ok (an := A13_12) (fuel := N) hmix ho (by kernel_rfl) (by kernel_rfl)) (M13_run o N)
/-! 14 ostinato/plan.Beat -/
def A14_0 : An := (.s .n none (.s .n none (.s (.d [0, 1, 2, 3, 4, 5, 6, 7, 8]) none .n)))
def M14_1 (o : Orc) (N : Nat) (κ : Kv) (x0 : List V) (x1 : Int) (H : Heap) : Ans :=
  cond (List.all x0 V.one) (
  newB H (.row x0) fun i1 H2 =>
  ldFlat H2 i1 [.int .i64, .int .i64, .int .i64, .int .i64, .int .i64, .int .i64, .int .i64, .int .u32, .oth, .oth, .oth] 0 fun l3 =>
  o 42 [(.agg l3)] H2 fun v4 H5 =>
  asB v4 fun b6 =>
  cond (!b6) (
  κ (.int .i64 0) H5) (
  cond (decide (x1 < 0)) (
  (ldI H5 .i64 i1 3).bind fun n7 =>
  κ (.int .i64 n7) H5) (
  cond (decide (x1 > 99)) (
  (ldI H5 .i64 i1 3).bind fun n8 =>
  κ (.int .i64 n8) H5) (
  (ldI (Heap.skip H5 9) .i64 i1 3).bind fun n9 =>
  ldFlat (Heap.skip H5 9) i1 [.int .i64, .int .i64, .int .i64, .int .i64, .int .i64, .int .i64, .int .i64, .int .u32, .oth, .oth, .oth] 0 fun l10 =>
  o 43 [(.agg l10)] (Heap.skip H5 9) fun v11 H12 =>
  asI .i64 v11 fun n13 =>
  (ldI H12 .i64 i1 3).bind fun n14 =>
  cond (decide (n9 = n14)) (
  κ (.int .i64 (IntKind.i64.wrap (n9 + (IntKind.i64.wrap ((IntKind.i64.wrap (x1 + 1)) * n13))))) H12) none)))) none
theorem M14_1_ok {o : Orc} {N : Nat} {κ : Kv} (x0 : List V) (x1 : Int) (H : Heap) :
    run Try.prog o N (cAt Try.f14 []) A14_0 (env0 Try.prog Try.f14 κ) (tmk 0 26 [(0, .agg x0), (1, .int .i64 x1)]) H (env0 Try.prog Try.f14 κ).ret = M14_1 o N κ x0 x1 H := by
  kernel_rfl
def M14 (o : Orc) (N : Nat) : FnM := fun vs H κ => match vs with
  | [.agg x0, .int .i64 x1] => M14_1 o N κ x0 x1 H
  | _ => none
theorem M14_run (o : Orc) (N : Nat) (vs : List V) (H : Heap) (κ : Kv) (r) (h : M14 o N vs H κ = some r) : runFn Try.prog o N Try.f14 A14_0 vs H κ = some r := by
  unfold M14 at h
  split at h
  · rename_i x0 x1
    refine (runFn_at (t := tmk 0 26 [(0, .agg x0), (1, .int .i64 x1)]) (by kernel_rfl) (by kernel_rfl)).trans (Eq.trans ?_ h)
    exact M14_1_ok x0 x1 H
  · cases h
theorem M14_sound {o : Orc} (ho : ∀ f, FSound Try.prog f (o f)) (N : Nat) : FSound Try.prog 14 (M14 o N) :=
  FSound.sub (runFn_ok (an := A14_0) (fuel := N) hmix ho (by kernel_rfl) (by kernel_rfl)) (M14_run o N)
/-! 15 ostinato/ostinatoref12.Beat -/
def A15_0 : An := (.s .n none (.s .n none (.s .n none (.s (.d [0, 1, 2, 3, 4, 5, 6, 7, 8]) none .n))))
def M15_1 (o : Orc) (N : Nat) (κ : Kv) (x0 : List V) (x1 : Int) (H : Heap) : Ans :=
  cond (List.all x0 V.one) (
  newB H (.row x0) fun i1 H2 =>
  ldFlat H2 i1 [.int .i64, .int .i64, .int .i64, .int .i64, .int .i64, .int .i64, .int .i64, .int .u32, .oth, .oth, .oth] 0 fun l3 =>
  o 18 [(.agg l3)] H2 fun v4 H5 =>
  asB v4 fun b6 =>
  cond (!b6) (
  κ (.int .i64 0) H5) (
  cond (decide (x1 < 0)) (
  (ldI H5 .i64 i1 3).bind fun n7 =>
  κ (.int .i64 n7) H5) (
  cond (decide (x1 > 99)) (
  (ldI H5 .i64 i1 3).bind fun n8 =>
  κ (.int .i64 n8) H5) (
  (ldI (Heap.skip H5 9) .i64 i1 3).bind fun n9 =>
  ldFlat (Heap.skip H5 9) i1 [.int .i64, .int .i64, .int .i64, .int .i64, .int .i64, .int .i64, .int .i64, .int .u32, .oth, .oth, .oth] 0 fun l10 =>
  o 39 [(.agg l10)] (Heap.skip H5 9) fun v11 H12 =>
  asI .i64 v11 fun n13 =>
  (ldI H12 .i64 i1 3).bind fun n14 =>
  cond (decide (n9 = n14)) (
  κ (.int .i64 (IntKind.i64.wrap (n9 + (IntKind.i64.wrap ((IntKind.i64.wrap (x1 + 1)) * n13))))) H12) none)))) none
theorem M15_1_ok {o : Orc} {N : Nat} {κ : Kv} (x0 : List V) (x1 : Int) (H : Heap) :
    run Try.prog o N (cAt Try.f15 []) A15_0 (env0 Try.prog Try.f15 κ) (tmk 0 24 [(0, .agg x0), (1, .int .i64 x1)]) H (env0 Try.prog Try.f15 κ).ret = M15_1 o N κ x0 x1 H := by
  kernel_rfl
def M15 (o : Orc) (N : Nat) : FnM := fun vs H κ => match vs with
  | [.agg x0, .int .i64 x1] => M15_1 o N κ x0 x1 H
  | _ => none
theorem M15_run (o : Orc) (N : Nat) (vs : List V) (H : Heap) (κ : Kv) (r) (h : M15 o N vs H κ = some r) : runFn Try.prog o N Try.f15 A15_0 vs H κ = some r := by
  unfold M15 at h
  split at h
  · rename_i x0 x1
    refine (runFn_at (t := tmk 0 24 [(0, .agg x0), (1, .int .i64 x1)]) (by kernel_rfl) (by kernel_rfl)).trans (Eq.trans ?_ h)
    exact M15_1_ok x0 x1 H
  · cases h
theorem M15_sound {o : Orc} (ho : ∀ f, FSound Try.prog f (o f)) (N : Nat) : FSound Try.prog 15 (M15 o N) :=
  FSound.sub (runFn_ok (an := A15_0) (fuel := N) hmix ho (by kernel_rfl) (by kernel_rfl)) (M15_run o N)
/-! 16 ostinato/plan.Watch -/
def A16_0 : An := (.s .n none (.s .n none (.s (.d [0, 1, 2, 3, 4, 5, 6, 7, 8, 9, 10]) none .n)))
def M16_1 (o : Orc) (N : Nat) (κ : Kv) (x0 : List V) (H : Heap) : Ans :=
  cond (List.all x0 V.one) (
  newB H (.row x0) fun i1 H2 =>
  ldFlat H2 i1 [.int .i64, .int .i64, .int .i64, .int .i64, .int .i64, .int .i64, .int .i64, .int .u32, .oth, .oth, .oth] 0 fun l3 =>
  o 42 [(.agg l3)] H2 fun v4 H5 =>
  asB v4 fun b6 =>
  cond (!b6) (
  κ (.int .i64 0) H5) (
  (ldI (Heap.skip H5 11) .i64 i1 3).bind fun n7 =>
  (ldV (Heap.skip H5 11) i1 8).bind fun v8 =>
  lenS v8 fun n9 =>
  ldFlat (Heap.skip H5 11) i1 [.int .i64, .int .i64, .int .i64, .int .i64, .int .i64, .int .i64, .int .i64, .int .u32, .oth, .oth, .oth] 0 fun l10 =>
  o 43 [(.agg l10)] (Heap.skip H5 11) fun v11 H12 =>
  asI .i64 v11 fun n13 =>
  (ldV H12 i1 8).bind fun v14 =>
  cond (V.same v8 v14) (
  (ldI H12 .i64 i1 3).bind fun n15 =>
  cond (decide (n7 = n15)) (
  κ (.int .i64 (IntKind.i64.wrap (n7 + (IntKind.i64.wrap ((IntKind.i64.wrap (n9 + 2)) * n13))))) H12) none) none)) none
theorem M16_1_ok {o : Orc} {N : Nat} {κ : Kv} (x0 : List V) (H : Heap) :
    run Try.prog o N (cAt Try.f16 []) A16_0 (env0 Try.prog Try.f16 κ) (tmk 0 16 [(0, .agg x0)]) H (env0 Try.prog Try.f16 κ).ret = M16_1 o N κ x0 H := by
  kernel_rfl
def M16 (o : Orc) (N : Nat) : FnM := fun vs H κ => match vs with
  | [.agg x0] => M16_1 o N κ x0 H
  | _ => none
theorem M16_run (o : Orc) (N : Nat) (vs : List V) (H : Heap) (κ : Kv) (r) (h : M16 o N vs H κ = some r) : runFn Try.prog o N Try.f16 A16_0 vs H κ = some r := by
  unfold M16 at h
  split at h
  · rename_i x0
    refine (runFn_at (t := tmk 0 16 [(0, .agg x0)]) (by kernel_rfl) (by kernel_rfl)).trans (Eq.trans ?_ h)
    exact M16_1_ok x0 H
  · cases h
theorem M16_sound {o : Orc} (ho : ∀ f, FSound Try.prog f (o f)) (N : Nat) : FSound Try.prog 16 (M16 o N) :=
  FSound.sub (runFn_ok (an := A16_0) (fuel := N) hmix ho (by kernel_rfl) (by kernel_rfl)) (M16_run o N)
/-! 17 ostinato/ostinatoref12.Watch -/
def A17_0 : An := (.s .n none (.s .n none (.s (.d [0, 1, 2, 3, 4, 5, 6, 7, 8, 9, 10]) none .n)))
def M17_1 (o : Orc) (N : Nat) (κ : Kv) (x0 : List V) (H : Heap) : Ans :=
  cond (List.all x0 V.one) (
  newB H (.row x0) fun i1 H2 =>
  ldFlat H2 i1 [.int .i64, .int .i64, .int .i64, .int .i64, .int .i64, .int .i64, .int .i64, .int .u32, .oth, .oth, .oth] 0 fun l3 =>
  o 18 [(.agg l3)] H2 fun v4 H5 =>
  asB v4 fun b6 =>
  cond (!b6) (
  κ (.int .i64 0) H5) (
  (ldI (Heap.skip H5 11) .i64 i1 3).bind fun n7 =>
  (ldV (Heap.skip H5 11) i1 8).bind fun v8 =>
  lenS v8 fun n9 =>
  ldFlat (Heap.skip H5 11) i1 [.int .i64, .int .i64, .int .i64, .int .i64, .int .i64, .int .i64, .int .i64, .int .u32, .oth, .oth, .oth] 0 fun l10 =>
  o 39 [(.agg l10)] (Heap.skip H5 11) fun v11 H12 =>
  asI .i64 v11 fun n13 =>
  (ldV H12 i1 8).bind fun v14 =>
  cond (V.same v8 v14) (
  (ldI H12 .i64 i1 3).bind fun n15 =>
  cond (decide (n7 = n15)) (
  κ (.int .i64 (IntKind.i64.wrap (n7 + (IntKind.i64.wrap ((IntKind.i64.wrap (n9 + 2)) * n13))))) H12) none) none)) none
theorem M17_1_ok {o : Orc} {N : Nat} {κ : Kv} (x0 : List V) (H : Heap) :
    run Try.prog o N (cAt Try.f17 []) A17_0 (env0 Try.prog Try.f17 κ) (tmk 0 16 [(0, .agg x0)]) H (env0 Try.prog Try.f17 κ).ret = M17_1 o N κ x0 H := by
  kernel_rfl
def M17 (o : Orc) (N : Nat) : FnM := fun vs H κ => match vs with
  | [.agg x0] => M17_1 o N κ x0 H
  | _ => none
theorem M17_run (o : Orc) (N : Nat) (vs : List V) (H : Heap) (κ : Kv) (r) (h : M17 o N vs H κ = some r) : runFn Try.prog o N Try.f17 A17_0 vs H κ = some r := by
  unfold M17 at h
  split at h
  · rename_i x0
    refine (runFn_at (t := tmk 0 16 [(0, .agg x0)]) (by kernel_rfl) (by kernel_rfl)).trans (Eq.trans ?_ h)
    exact M17_1_ok x0 H
  · cases h
theorem M17_sound {o : Orc} (ho : ∀ f, FSound Try.prog f (o f)) (N : Nat) : FSound Try.prog 17 (M17 o N) :=
  FSound.sub (runFn_ok (an := A17_0) (fuel := N) hmix ho (by kernel_rfl) (by kernel_rfl)) (M17_run o N)
/-! 18 ostinato/ostinatoref12.Is -/
def M18_0 (o : Orc) (N : Nat) (J : Nat → Heap → Ans) (κ : Kv) (x0 : List V) (H : Heap) : Ans :=
  cond (List.all x0 V.one) (
  newB H (.row x0) fun i1 H2 =>
  J i1 H2) none
theorem M18_0_ok {o : Orc} {N : Nat} {κ : Kv} {J : Kt} {J' : Nat → Heap → Ans} (hJ : ∀ x1 H, J (tmk 0 185 [(1, .ptr x1 0)]) H = J' x1 H) (x0 : List V) (H : Heap) :
    run Try.prog o N (cAt Try.f18 [0]) .n (env0 Try.prog Try.f18 κ) (tmk 0 185 [(0, .agg x0)]) H (kj [1] J) = M18_0 o N J' κ x0 H := by
  obtain rfl := fx2 hJ
  kernel_rfl
def M18_1 (o : Orc) (N : Nat) (J : Nat → Bool → Heap → Ans) (κ : Kv) (x1 : Nat) (H : Heap) : Ans :=
  (ldI H .i64 x1 0).bind fun n3 =>
  o 44 [(.int .i64 n3), (.int .i64 1), (.int .i64 2)] H fun v4 H5 =>
  asB v4 fun b6 =>
  cond (!b6) (
  J x1 true H5) (
  (ldI H5 .i64 x1 1).bind fun n7 =>
  o 44 [(.int .i64 n7), (.int .i64 1), (.int .i64 8)] H5 fun v8 H9 =>
  asB v8 fun b10 =>
  cond (!b10) (
  J x1 true H9) (
  (ldI H9 .i64 x1 2).bind fun n11 =>
  o 45 [(.int .i64 n11), (.int .i64 8)] H9 fun v12 H13 =>
  asB v12 fun b14 =>
  cond (!b14) (
  J x1 true H13) (
  (ldI H13 .i64 x1 3).bind fun n15 =>
  o 44 [(.int .i64 n15), (.int .i64 1), (.int .i64 4000)] H13 fun v16 H17 =>
  asB v16 fun b18 =>
  cond (!b18) (
  J x1 true H17) (
  (ldI H17 .i64 x1 4).bind fun n19 =>
  o 44 [(.int .i64 n19), (.int .i64 1), (.int .i64 16)] H17 fun v20 H21 =>
  asB v20 fun b22 =>
  cond (!b22) (
  J x1 true H21) (
  (ldI H21 .i64 x1 5).bind fun n23 =>
  o 44 [(.int .i64 n23), (.int .i64 1), (.int .i64 64)] H21 fun v24 H25 =>
  asB v24 fun b26 =>
  cond (!b26) (
  J x1 true H25) (
  (ldI H25 .i64 x1 6).bind fun n27 =>
  o 44 [(.int .i64 n27), (.int .i64 0), (.int .i64 8000)] H25 fun v28 H29 =>
  asB v28 fun b30 =>
  J x1 (!b30) H29))))))
theorem M18_1_ok {o : Orc} {N : Nat} {κ : Kv} {J : Kt} {J' : Nat → Bool → Heap → Ans} (hJ : ∀ x1 x46 H, J (tmk 0 185 [(1, .ptr x1 0), (46, .bool x46)]) H = J' x1 x46 H) (x1 : Nat) (H : Heap) :
    run Try.prog o N (cAt Try.f18 [1, 0, 0]) .n (env0 Try.prog Try.f18 κ) (tmk 0 185 [(1, .ptr x1 0)]) H (kj [1, 46] J) = M18_1 o N J' κ x1 H := by
  obtain rfl := fx3 hJ
  kernel_rfl
def M18_2 (o : Orc) (N : Nat) (J : Nat → Heap → Ans) (κ : Kv) (x1 : Nat) (x46 : Bool) (H : Heap) : Ans :=
  cond x46 (
  κ (.bool false) H) (
  J x1 H)
theorem M18_2_ok {o : Orc} {N : Nat} {κ : Kv} {J : Kt} {J' : Nat → Heap → Ans} (hJ : ∀ x1 H, J (tmk 0 185 [(1, .ptr x1 0)]) H = J' x1 H) (x1 : Nat) (x46 : Bool) (H : Heap) :
    run Try.prog o N (cAt Try.f18 [1, 0, 1]) .n (env0 Try.prog Try.f18 κ) (tmk 0 185 [(1, .ptr x1 0), (46, .bool x46)]) H (kj [1] J) = M18_2 o N J' κ x1 x46 H := by
  obtain rfl := fx2 hJ
  kernel_rfl
def M18_3 (o : Orc) (N : Nat) (J : Nat → Bool → Heap → Ans) (κ : Kv) (x1 : Nat) (H : Heap) : Ans :=
  (ldI H .u32 x1 7).bind fun n31 =>
  cond (decide (n31 ≥ 2048)) (
  J x1 true H) (
  (ldI H .u32 x1 7).bind fun n32 =>
  cond ((Int.tmod n32 8) != 0) (
  J x1 true H) (
  (ldV H x1 8).bind fun v33 =>
  lenS v33 fun n34 =>
  o 44 [(.int .i64 n34), (.int .i64 1), (.int .i64 4)] H fun v35 H36 =>
  asB v35 fun b37 =>
  cond (!b37) (
  J x1 true H36) (
  (ldV H36 x1 9).bind fun v38 =>
  lenS v38 fun n39 =>
  cond (decide (n39 > 12)) (
  J x1 true H36) (
  (ldV H36 x1 10).bind fun v40 =>
  lenS v40 fun n41 =>
  J x1 (decide (n41 > 16)) H36))))
theorem M18_3_ok {o : Orc} {N : Nat} {κ : Kv} {J : Kt} {J' : Nat → Bool → Heap → Ans} (hJ : ∀ x1 x74 H, J (tmk 0 185 [(1, .ptr x1 0), (74, .bool x74)]) H = J' x1 x74 H) (x1 : Nat) (H : Heap) :
    run Try.prog o N (cAt Try.f18 [1, 1, 0, 0]) .n (env0 Try.prog Try.f18 κ) (tmk 0 185 [(1, .ptr x1 0)]) H (kj [1, 74] J) = M18_3 o N J' κ x1 H := by
  obtain rfl := fx3 hJ
  kernel_rfl
def M18_4 (o : Orc) (N : Nat) (J : Nat → Heap → Ans) (κ : Kv) (x1 : Nat) (x74 : Bool) (H : Heap) : Ans :=
  cond x74 (
  κ (.bool false) H) (
  J x1 H)
theorem M18_4_ok {o : Orc} {N : Nat} {κ : Kv} {J : Kt} {J' : Nat → Heap → Ans} (hJ : ∀ x1 H, J (tmk 0 185 [(1, .ptr x1 0)]) H = J' x1 H) (x1 : Nat) (x74 : Bool) (H : Heap) :
    run Try.prog o N (cAt Try.f18 [1, 1, 0, 1]) .n (env0 Try.prog Try.f18 κ) (tmk 0 185 [(1, .ptr x1 0), (74, .bool x74)]) H (kj [1] J) = M18_4 o N J' κ x1 x74 H := by
  obtain rfl := fx2 hJ
  kernel_rfl
def M18_5 (o : Orc) (N : Nat) (J : Nat → Int → Heap → Ans) (κ : Kv) (x1 : Nat) (H : Heap) : Ans :=
  J x1 0 H
theorem M18_5_ok {o : Orc} {N : Nat} {κ : Kv} {J : Kt} {J' : Nat → Int → Heap → Ans} (hJ : ∀ x1 x3 H, J (tmk 0 185 [(1, .ptr x1 0), (3, .int .i64 x3)]) H = J' x1 x3 H) (x1 : Nat) (H : Heap) :
    run Try.prog o N (cAt Try.f18 [1, 1, 1, 0, 0]) .n (env0 Try.prog Try.f18 κ) (tmk 0 185 [(1, .ptr x1 0)]) H (kj [1, 3] J) = M18_5 o N J' κ x1 H := by
  obtain rfl := fx3 hJ
  kernel_rfl
def M18_6 (o : Orc) (N : Nat) (X0 : Nat → Heap → Ans) (J : Nat → Int → Heap → Ans) (κ : Kv) (x1 : Nat) (x3 : Int) (H : Heap) : Ans :=
  (ldV H x1 8).bind fun v42 =>
  lenS v42 fun n43 =>
  cond (decide (x3 < n43)) (
  (ldV H x1 8).bind fun v44 =>
  idxS 1 v44 x3 fun p45 o46 =>
  (ldI H .i64 p45 o46).bind fun n47 =>
  o 44 [(.int .i64 n47), (.int .i64 0), (.int .i64 99)] H fun v48 H49 =>
  asB v48 fun b50 =>
  cond (!b50) (
  κ (.bool false) H49) (
  J x1 (IntKind.i64.wrap (x3 + 1)) H49)) (
  X0 x1 H)
theorem M18_6_ok {o : Orc} {N : Nat} {κ : Kv} {X0 J : Kt} {X0' : Nat → Heap → Ans} {J' : Nat → Int → Heap → Ans} (h0 : ∀ x1 H, X0 (tmk 0 185 [(1, .ptr x1 0)]) H = X0' x1 H) (hJ : ∀ x1 x3 H, J (tmk 0 185 [(1, .ptr x1 0), (3, .int .i64 x3)]) H = J' x1 x3 H) (x1 : Nat) (x3 : Int) (H : Heap) :
    run Try.prog o N (cAt Try.f18 [1, 1, 1, 0, 1, 4, 4]) .n ((env0 Try.prog Try.f18 κ).block 0 (kj [1] X0)) (tmk 0 185 [(1, .ptr x1 0), (3, .int .i64 x3)]) H (kj [1, 3] J) = M18_6 o N X0' J' κ x1 x3 H := by
  obtain rfl := fx2 h0
  obtain rfl := fx3 hJ
  kernel_rfl
def M18_7 (o : Orc) (N : Nat) (X0 : Nat → Heap → Ans) (κ : Kv) (n : Nat) : Nat → Int → Heap → Ans :=
  Nat.rec (motive := fun _ => Nat → Int → Heap → Ans) (fun _ _ _ => none) (fun _ ih x1 x3 H => M18_6 o N X0 ih κ x1 x3 H) n
theorem M18_7_s (o : Orc) (N : Nat) (X0 : Nat → Heap → Ans) (κ : Kv) (n : Nat) (x1 : Nat) (x3 : Int) (H : Heap) : M18_7 o N X0 κ (n + 1) x1 x3 H = M18_6 o N X0 (M18_7 o N X0 κ n) κ x1 x3 H := rfl
theorem M18_7_ok {o : Orc} {N : Nat} {κ : Kv} {X0 : Kt} {X0' : Nat → Heap → Ans} (h0 : ∀ x1 H, X0 (tmk 0 185 [(1, .ptr x1 0)]) H = X0' x1 H) (n : Nat) : ∀ (x1 : Nat) (x3 : Int) (H : Heap),
    rounds (fun a H k => run Try.prog o N (cAt Try.f18 [1, 1, 1, 0, 1, 4, 4]) .n ((env0 Try.prog Try.f18 κ).block 0 (kj [1] X0)) a H k) (some (lvOf [1, 3])) n (tmk 0 185 [(1, .ptr x1 0), (3, .int .i64 x3)]) H = M18_7 o N X0' κ n x1 x3 H := by
  induction n with
  | zero => intros; rfl
  | succ n ih =>
    intro x1 x3 H
    refine (run_round.trans ?_).trans (M18_7_s ..).symm
    exact M18_6_ok h0 ih x1 x3 H
def A18_8 : An := .s .n (some (lvOf [1, 3])) (.b none (.l (some (lvOf [1, 3])) .n))
def M18_9 (o : Orc) (N : Nat) (J : Nat → Int → Heap → Ans) (κ : Kv) (x1 : Nat) (H : Heap) : Ans :=
  J x1 0 H
theorem M18_9_ok {o : Orc} {N : Nat} {κ : Kv} {J : Kt} {J' : Nat → Int → Heap → Ans} (hJ : ∀ x1 x4 H, J (tmk 0 185 [(1, .ptr x1 0), (4, .int .i64 x4)]) H = J' x1 x4 H) (x1 : Nat) (H : Heap) :
    run Try.prog o N (cAt Try.f18 [1, 1, 1, 1, 0, 0]) .n (env0 Try.prog Try.f18 κ) (tmk 0 185 [(1, .ptr x1 0)]) H (kj [1, 4] J) = M18_9 o N J' κ x1 H := by
  obtain rfl := fx3 hJ
  kernel_rfl
def M18_10 (o : Orc) (N : Nat) (X2 : Nat → Heap → Ans) (J : Nat → Int → Heap → Ans) (κ : Kv) (x1 : Nat) (x4 : Int) (H : Heap) : Ans :=
  (ldV H x1 9).bind fun v51 =>
  lenS v51 fun n52 =>
  cond (decide (x4 < n52)) (
  (ldV H x1 9).bind fun v53 =>
  idxS 3 v53 x4 fun p54 o55 =>
  (ldI H .u32 p54 (o55 + 0)).bind fun n56 =>
  cond (decide (n56 ≥ 2048)) (
  κ (.bool false) H) (
  (ldV H x1 9).bind fun v57 =>
  idxS 3 v57 x4 fun p58 o59 =>
  (ldI H .i64 p58 (o59 + 1)).bind fun n60 =>
  o 44 [(.int .i64 n60), (.int .i64 0), (.int .i64 99)] H fun v61 H62 =>
  asB v61 fun b63 =>
  cond (!b63) (
  κ (.bool false) H62) (
  J x1 (IntKind.i64.wrap (x4 + 1)) H62))) (
  X2 x1 H)
theorem M18_10_ok {o : Orc} {N : Nat} {κ : Kv} {X2 J : Kt} {X2' : Nat → Heap → Ans} {J' : Nat → Int → Heap → Ans} (h2 : ∀ x1 H, X2 (tmk 0 185 [(1, .ptr x1 0)]) H = X2' x1 H) (hJ : ∀ x1 x4 H, J (tmk 0 185 [(1, .ptr x1 0), (4, .int .i64 x4)]) H = J' x1 x4 H) (x1 : Nat) (x4 : Int) (H : Heap) :
    run Try.prog o N (cAt Try.f18 [1, 1, 1, 1, 0, 1, 4, 4]) .n ((env0 Try.prog Try.f18 κ).block 2 (kj [1] X2)) (tmk 0 185 [(1, .ptr x1 0), (4, .int .i64 x4)]) H (kj [1, 4] J) = M18_10 o N X2' J' κ x1 x4 H := by
  obtain rfl := fx2 h2
  obtain rfl := fx3 hJ
  kernel_rfl
def M18_11 (o : Orc) (N : Nat) (X2 : Nat → Heap → Ans) (κ : Kv) (n : Nat) : Nat → Int → Heap → Ans :=
  Nat.rec (motive := fun _ => Nat → Int → Heap → Ans) (fun _ _ _ => none) (fun _ ih x1 x4 H => M18_10 o N X2 ih κ x1 x4 H) n
theorem M18_11_s (o : Orc) (N : Nat) (X2 : Nat → Heap → Ans) (κ : Kv) (n : Nat) (x1 : Nat) (x4 : Int) (H : Heap) : M18_11 o N X2 κ (n + 1) x1 x4 H = M18_10 o N X2 (M18_11 o N X2 κ n) κ x1 x4 H := rfl
theorem M18_11_ok {o : Orc} {N : Nat} {κ : Kv} {X2 : Kt} {X2' : Nat → Heap → Ans} (h2 : ∀ x1 H, X2 (tmk 0 185 [(1, .ptr x1 0)]) H = X2' x1 H) (n : Nat) : ∀ (x1 : Nat) (x4 : Int) (H : Heap),
    rounds (fun a H k => run Try.prog o N (cAt Try.f18 [1, 1, 1, 1, 0, 1, 4, 4]) .n ((env0 Try.prog Try.f18 κ).block 2 (kj [1] X2)) a H k) (some (lvOf [1, 4])) n (tmk 0 185 [(1, .ptr x1 0), (4, .int .i64 x4)]) H = M18_11 o N X2' κ n x1 x4 H := by
  induction n with
  | zero => intros; rfl
  | succ n ih =>
    intro x1 x4 H
    refine (run_round.trans ?_).trans (M18_11_s ..).symm
    exact M18_10_ok h2 ih x1 x4 H
def A18_12 : An := .s .n (some (lvOf [1, 4])) (.b none (.l (some (lvOf [1, 4])) .n))
def M18_13 (o : Orc) (N : Nat) (J : Nat → Int → Heap → Ans) (κ : Kv) (x1 : Nat) (H : Heap) : Ans :=
  J x1 0 H
theorem M18_13_ok {o : Orc} {N : Nat} {κ : Kv} {J : Kt} {J' : Nat → Int → Heap → Ans} (hJ : ∀ x1 x5 H, J (tmk 0 185 [(1, .ptr x1 0), (5, .int .i64 x5)]) H = J' x1 x5 H) (x1 : Nat) (H : Heap) :
    run Try.prog o N (cAt Try.f18 [1, 1, 1, 1, 1, 0, 0]) .n (env0 Try.prog Try.f18 κ) (tmk 0 185 [(1, .ptr x1 0)]) H (kj [1, 5] J) = M18_13 o N J' κ x1 H := by
  obtain rfl := fx3 hJ
  kernel_rfl
def M18_14 (o : Orc) (N : Nat) (X4 : Heap → Ans) (J : Nat → Int → Heap → Ans) (κ : Kv) (x1 : Nat) (x5 : Int) (H : Heap) : Ans :=
  (ldV H x1 10).bind fun v64 =>
  lenS v64 fun n65 =>
  cond (decide (x5 < n65)) (
  J x1 x5 H) (
  X4  H)
theorem M18_14_ok {o : Orc} {N : Nat} {κ : Kv} {X4 J : Kt} {X4' : Heap → Ans} {J' : Nat → Int → Heap → Ans} (h4 : ∀  H, X4 (tmk 0 185 []) H = X4' H) (hJ : ∀ x1 x5 H, J (tmk 0 185 [(1, .ptr x1 0), (5, .int .i64 x5)]) H = J' x1 x5 H) (x1 : Nat) (x5 : Int) (H : Heap) :
    run Try.prog o N (cAt Try.f18 [1, 1, 1, 1, 1, 0, 1, 4, 4, 0]) .n ((env0 Try.prog Try.f18 κ).block 4 (kj [] X4)) (tmk 0 185 [(1, .ptr x1 0), (5, .int .i64 x5)]) H (kj [1, 5] J) = M18_14 o N X4' J' κ x1 x5 H := by
  obtain rfl := fx1 h4
  obtain rfl := fx3 hJ
  kernel_rfl
def M18_15 (o : Orc) (N : Nat) (J : Nat → Int → Nat → Heap → Ans) (κ : Kv) (x1 : Nat) (x5 : Int) (H : Heap) : Ans :=
  (ldV H x1 10).bind fun v66 =>
  idxS 6 v66 x5 fun p67 o68 =>
  ldFlat H p67 [.int .i64, .int .i64, .int .i64, .int .i64, .int .i64, .int .i64] o68 fun l69 =>
  newB H (.row [(.int .i64 0), (.int .i64 0), (.int .i64 0), (.int .i64 0), (.int .i64 0), (.int .i64 0)]) fun i70 H71 =>
  cond (Nat.beq (List.length l69) 6 && Nat.blt 0 6) (
  (stN H71 i70 0 l69).bind fun H72 =>
  J x1 x5 i70 H72) none
theorem M18_15_ok {o : Orc} {N : Nat} {κ : Kv} {X4 X5 J : Kt} {J' : Nat → Int → Nat → Heap → Ans} (hJ : ∀ x1 x5 x6 H, J (tmk 0 185 [(1, .ptr x1 0), (5, .int .i64 x5), (6, .ptr x6 0)]) H = J' x1 x5 x6 H) (x1 : Nat) (x5 : Int) (H : Heap) :
    run Try.prog o N (cAt Try.f18 [1, 1, 1, 1, 1, 0, 1, 4, 4, 1, 0, 4, 0]) .n (((env0 Try.prog Try.f18 κ).block 4 (kj [] X4)).block 5 (kj [1, 5] X5)) (tmk 0 185 [(1, .ptr x1 0), (5, .int .i64 x5)]) H (kj [1, 5, 6] J) = M18_15 o N J' κ x1 x5 H := by
  obtain rfl := fx4 hJ
  kernel_rfl
def M18_16 (o : Orc) (N : Nat) (J : Nat → Int → Bool → Heap → Ans) (κ : Kv) (x1 : Nat) (x5 : Int) (x6 : Nat) (H : Heap) : Ans :=
  (ldI H .i64 x6 0).bind fun n73 =>
  o 44 [(.int .i64 n73), (.int .i64 1), (.int .i64 3)] H fun v74 H75 =>
  asB v74 fun b76 =>
  cond (!b76) (
  J x1 x5 true H75) (
  (ldI H75 .i64 x6 1).bind fun n77 =>
  (ldI H75 .i64 x1 3).bind fun n78 =>
  o 44 [(.int .i64 n77), (.int .i64 0), (.int .i64 n78)] H75 fun v79 H80 =>
  asB v79 fun b81 =>
  cond (!b81) (
  J x1 x5 true H80) (
  (ldI H80 .i64 x6 2).bind fun n82 =>
  (ldI H80 .i64 x1 3).bind fun n83 =>
  o 44 [(.int .i64 n82), (.int .i64 0), (.int .i64 n83)] H80 fun v84 H85 =>
  asB v84 fun b86 =>
  cond (!b86) (
  J x1 x5 true H85) (
  (ldI H85 .i64 x6 1).bind fun n87 =>
  (ldI H85 .i64 x6 2).bind fun n88 =>
  cond (decide (n87 ≥ n88)) (
  J x1 x5 true H85) (
  (ldI H85 .i64 x6 4).bind fun n89 =>
  (ldI H85 .i64 x1 2).bind fun n90 =>
  o 45 [(.int .i64 n89), (.int .i64 n90)] H85 fun v91 H92 =>
  asB v91 fun b93 =>
  cond (!b93) (
  J x1 x5 true H92) (
  (ldI H92 .i64 x6 3).bind fun n94 =>
  (ldI H92 .i64 x6 4).bind fun n95 =>
  o 44 [(.int .i64 n94), (.int .i64 0), (.int .i64 (IntKind.i64.wrap (n95 - 1)))] H92 fun v96 H97 =>
  asB v96 fun b98 =>
  cond (!b98) (
  J x1 x5 true H97) (
  (ldI H97 .i64 x6 5).bind fun n99 =>
  o 44 [(.int .i64 n99), (.int .i64 0), (.int .i64 99)] H97 fun v100 H101 =>
  asB v100 fun b102 =>
  cond (!b102) (
  J x1 x5 true H101) (
  (ldI H101 .i64 x6 5).bind fun n103 =>
  cond (n103 != 0) (
  (ldI H101 .i64 x6 0).bind fun n104 =>
  J x1 x5 (n104 != 1) H101) (
  J x1 x5 false H101))))))))
theorem M18_16_ok {o : Orc} {N : Nat} {κ : Kv} {X4 X5 J : Kt} {J' : Nat → Int → Bool → Heap → Ans} (hJ : ∀ x1 x5 x184 H, J (tmk 0 185 [(1, .ptr x1 0), (5, .int .i64 x5), (184, .bool x184)]) H = J' x1 x5 x184 H) (x1 : Nat) (x5 : Int) (x6 : Nat) (H : Heap) :
    run Try.prog o N (cAt Try.f18 [1, 1, 1, 1, 1, 0, 1, 4, 4, 1, 0, 4, 1, 0]) .n (((env0 Try.prog Try.f18 κ).block 4 (kj [] X4)).block 5 (kj [1, 5] X5)) (tmk 0 185 [(1, .ptr x1 0), (5, .int .i64 x5), (6, .ptr x6 0)]) H (kj [1, 5, 184] J) = M18_16 o N J' κ x1 x5 x6 H := by
  obtain rfl := fx4 hJ
  kernel_rfl
def M18_17 (o : Orc) (N : Nat) (J : Nat → Int → Heap → Ans) (κ : Kv) (x1 : Nat) (x5 : Int) (x184 : Bool) (H : Heap) : Ans :=
  cond x184 (
  κ (.bool false) H) (
  J x1 x5 H)
theorem M18_17_ok {o : Orc} {N : Nat} {κ : Kv} {X4 X5 J : Kt} {J' : Nat → Int → Heap → Ans} (hJ : ∀ x1 x5 H, J (tmk 0 185 [(1, .ptr x1 0), (5, .int .i64 x5)]) H = J' x1 x5 H) (x1 : Nat) (x5 : Int) (x184 : Bool) (H : Heap) :
    run Try.prog o N (cAt Try.f18 [1, 1, 1, 1, 1, 0, 1, 4, 4, 1, 0, 4, 1, 1]) .n (((env0 Try.prog Try.f18 κ).block 4 (kj [] X4)).block 5 (kj [1, 5] X5)) (tmk 0 185 [(1, .ptr x1 0), (5, .int .i64 x5), (184, .bool x184)]) H (kj [1, 5] J) = M18_17 o N J' κ x1 x5 x184 H := by
  obtain rfl := fx3 hJ
  kernel_rfl
def A18_18 : An := .s .n (some (lvOf [1, 5, 6])) (.s .n (some (lvOf [1, 5, 184])) .n)
def M18_19 (o : Orc) (N : Nat) (J : Nat → Int → Heap → Ans) (κ : Kv) (x1 : Nat) (x5 : Int) (H : Heap) : Ans :=
  J x1 (IntKind.i64.wrap (x5 + 1)) H
theorem M18_19_ok {o : Orc} {N : Nat} {κ : Kv} {X4 J : Kt} {J' : Nat → Int → Heap → Ans} (hJ : ∀ x1 x5 H, J (tmk 0 185 [(1, .ptr x1 0), (5, .int .i64 x5)]) H = J' x1 x5 H) (x1 : Nat) (x5 : Int) (H : Heap) :
    run Try.prog o N (cAt Try.f18 [1, 1, 1, 1, 1, 0, 1, 4, 4, 1, 1]) .n ((env0 Try.prog Try.f18 κ).block 4 (kj [] X4)) (tmk 0 185 [(1, .ptr x1 0), (5, .int .i64 x5)]) H (kj [1, 5] J) = M18_19 o N J' κ x1 x5 H := by
  obtain rfl := fx3 hJ
  kernel_rfl
def A18_20 : An := .s (.b none A18_18) (some (lvOf [1, 5])) .n
def A18_21 : An := .l (some (lvOf [1, 5])) (.s .n (some (lvOf [1, 5])) A18_20)
def M18_22 (o : Orc) (N : Nat) (X4 : Heap → Ans) (κ : Kv) (n : Nat) : Nat → Int → Heap → Ans :=
  Nat.rec (motive := fun _ => Nat → Int → Heap → Ans) (fun _ _ _ => none) (fun _ ih x1 x5 H => M18_14 o N X4 (fun x1 x5 H => M18_15 o N (fun x1 x5 x6 H => M18_16 o N (fun x1 x5 x184 H => M18_17 o N (fun x1 x5 H => M18_19 o N ih κ x1 x5 H) κ x1 x5 x184 H) κ x1 x5 x6 H) κ x1 x5 H) κ x1 x5 H) n
theorem M18_22_s (o : Orc) (N : Nat) (X4 : Heap → Ans) (κ : Kv) (n : Nat) (x1 : Nat) (x5 : Int) (H : Heap) : M18_22 o N X4 κ (n + 1) x1 x5 H = M18_14 o N X4 (fun x1 x5 H => M18_15 o N (fun x1 x5 x6 H => M18_16 o N (fun x1 x5 x184 H => M18_17 o N (fun x1 x5 H => M18_19 o N (M18_22 o N X4 κ n) κ x1 x5 H) κ x1 x5 x184 H) κ x1 x5 x6 H) κ x1 x5 H) κ x1 x5 H := rfl
theorem M18_22_ok {o : Orc} {N : Nat} {κ : Kv} {X4 : Kt} {X4' : Heap → Ans} (h4 : ∀  H, X4 (tmk 0 185 []) H = X4' H) (n : Nat) : ∀ (x1 : Nat) (x5 : Int) (H : Heap),
    rounds (fun a H k => run Try.prog o N (cAt Try.f18 [1, 1, 1, 1, 1, 0, 1, 4, 4]) (.s .n (some (lvOf [1, 5])) A18_20) ((env0 Try.prog Try.f18 κ).block 4 (kj [] X4)) a H k) (some (lvOf [1, 5])) n (tmk 0 185 [(1, .ptr x1 0), (5, .int .i64 x5)]) H = M18_22 o N X4' κ n x1 x5 H := by
  induction n with
  | zero => intros; rfl
  | succ n ih =>
    intro x1 x5 H
    refine (run_round.trans ?_).trans (M18_22_s ..).symm
    refine (run_seq (x := (cAt Try.f18 [1, 1, 1, 1, 1, 0, 1, 4, 4, 0])) (ax := .n) (y := (cAt Try.f18 [1, 1, 1, 1, 1, 0, 1, 4, 4, 1])) (ay := A18_20) (l := [1, 5]) (by kernel_rfl) (by kernel_rfl)).trans ?_
    refine M18_14_ok h4 ?_ x1 x5 H
    intro x1 x5 H
    refine (run_seq (x := (cAt Try.f18 [1, 1, 1, 1, 1, 0, 1, 4, 4, 1, 0])) (ax := (.b none A18_18)) (y := (cAt Try.f18 [1, 1, 1, 1, 1, 0, 1, 4, 4, 1, 1])) (ay := .n) (l := [1, 5]) (by kernel_rfl) (by kernel_rfl)).trans ?_
    refine (run_block (id := 5) (x := (cAt Try.f18 [1, 1, 1, 1, 1, 0, 1, 4, 4, 1, 0, 4])) (ax := A18_18) (by kernel_rfl) (by kernel_rfl)).trans ?_
    refine (run_seq (x := (cAt Try.f18 [1, 1, 1, 1, 1, 0, 1, 4, 4, 1, 0, 4, 0])) (ax := .n) (y := (cAt Try.f18 [1, 1, 1, 1, 1, 0, 1, 4, 4, 1, 0, 4, 1])) (ay := (.s .n (some (lvOf [1, 5, 184])) .n)) (l := [1, 5, 6]) (by kernel_rfl) (by kernel_rfl)).trans ?_
    refine M18_15_ok ?_ x1 x5 H
    intro x1 x5 x6 H
    refine (run_seq (x := (cAt Try.f18 [1, 1, 1, 1, 1, 0, 1, 4, 4, 1, 0, 4, 1, 0])) (ax := .n) (y := (cAt Try.f18 [1, 1, 1, 1, 1, 0, 1, 4, 4, 1, 0, 4, 1, 1])) (ay := .n) (l := [1, 5, 184]) (by kernel_rfl) (by kernel_rfl)).trans ?_
    refine M18_16_ok ?_ x1 x5 x6 H
    intro x1 x5 x184 H
    refine M18_17_ok ?_ x1 x5 x184 H
    intro x1 x5 H
    exact M18_19_ok ih x1 x5 H
def A18_23 : An := .s .n (some (lvOf [1, 5])) (.b none A18_21)
def M18_24 (o : Orc) (N : Nat) (κ : Kv) (H : Heap) : Ans :=
  κ (.bool true) H
theorem M18_24_ok {o : Orc} {N : Nat} {κ : Kv} (H : Heap) :
    run Try.prog o N (cAt Try.f18 [1, 1, 1, 1, 1, 1]) .n (env0 Try.prog Try.f18 κ) (tmk 0 185 []) H (env0 Try.prog Try.f18 κ).ret = M18_24 o N κ  H := by
  kernel_rfl
def A18_25 : An := .s A18_12 (some (lvOf [1])) (.s A18_23 (some (lvOf [])) .n)
def A18_26 : An := .s (.s .n (some (lvOf [1, 74])) .n) (some (lvOf [1])) (.s A18_8 (some (lvOf [1])) A18_25)
def M18_27 (o : Orc) (N : Nat) (κ : Kv) (x1 : Nat) (H : Heap) : Ans :=
  M18_3 o N (fun x1 x74 H => M18_4 o N (fun x1 H => M18_5 o N (fun x1 x3 H => M18_7 o N (fun x1 H => M18_9 o N (fun x1 x4 H => M18_11 o N (fun x1 H => M18_13 o N (fun x1 x5 H => M18_22 o N (fun H => M18_24 o N κ  H) κ N x1 x5 H) κ x1 H) κ N x1 x4 H) κ x1 H) κ N x1 x3 H) κ x1 H) κ x1 x74 H) κ x1 H
theorem M18_27_ok {o : Orc} {N : Nat} {κ : Kv} (x1 : Nat) (H : Heap) :
    run Try.prog o N (cAt Try.f18 [1, 1]) A18_26 (env0 Try.prog Try.f18 κ) (tmk 0 185 [(1, .ptr x1 0)]) H (env0 Try.prog Try.f18 κ).ret = M18_27 o N κ x1 H := by
  refine (run_seq (x := (cAt Try.f18 [1, 1, 0])) (ax := (.s .n (some (lvOf [1, 74])) .n)) (y := (cAt Try.f18 [1, 1, 1])) (ay := (.s A18_8 (some (lvOf [1])) A18_25)) (l := [1]) (by kernel_rfl) (by kernel_rfl)).trans ?_
  refine (run_seq (x := (cAt Try.f18 [1, 1, 0, 0])) (ax := .n) (y := (cAt Try.f18 [1, 1, 0, 1])) (ay := .n) (l := [1, 74]) (by kernel_rfl) (by kernel_rfl)).trans ?_
  refine M18_3_ok ?_ x1 H
  intro x1 x74 H
  refine M18_4_ok ?_ x1 x74 H
  intro x1 H
  refine (run_seq (x := (cAt Try.f18 [1, 1, 1, 0])) (ax := A18_8) (y := (cAt Try.f18 [1, 1, 1, 1])) (ay := A18_25) (l := [1]) (by kernel_rfl) (by kernel_rfl)).trans ?_
  refine (run_seq (x := (cAt Try.f18 [1, 1, 1, 0, 0])) (ax := .n) (y := (cAt Try.f18 [1, 1, 1, 0, 1])) (ay := (.b none (.l (some (lvOf [1, 3])) .n))) (l := [1, 3]) (by kernel_rfl) (by kernel_rfl)).trans ?_
  refine M18_5_ok ?_ x1 H
  intro x1 x3 H
  refine (run_block (id := 0) (x := (cAt Try.f18 [1, 1, 1, 0, 1, 4])) (ax := (.l (some (lvOf [1, 3])) .n)) (by kernel_rfl) (by kernel_rfl)).trans ?_
  refine (run_loop (x := (cAt Try.f18 [1, 1, 1, 0, 1, 4, 4])) (ax := .n) (l := [1, 3]) (by kernel_rfl) (by kernel_rfl) (by kernel_rfl)).trans ?_
  refine M18_7_ok ?_ N x1 x3 H
  intro x1 H
  refine (run_seq (x := (cAt Try.f18 [1, 1, 1, 1, 0])) (ax := A18_12) (y := (cAt Try.f18 [1, 1, 1, 1, 1])) (ay := (.s A18_23 (some (lvOf [])) .n)) (l := [1]) (by kernel_rfl) (by kernel_rfl)).trans ?_
  refine (run_seq (x := (cAt Try.f18 [1, 1, 1, 1, 0, 0])) (ax := .n) (y := (cAt Try.f18 [1, 1, 1, 1, 0, 1])) (ay := (.b none (.l (some (lvOf [1, 4])) .n))) (l := [1, 4]) (by kernel_rfl) (by kernel_rfl)).trans ?_
  refine M18_9_ok ?_ x1 H
  intro x1 x4 H
  refine (run_block (id := 2) (x := (cAt Try.f18 [1, 1, 1, 1, 0, 1, 4])) (ax := (.l (some (lvOf [1, 4])) .n)) (by kernel_rfl) (by kernel_rfl)).trans ?_
  refine (run_loop (x := (cAt Try.f18 [1, 1, 1, 1, 0, 1, 4, 4])) (ax := .n) (l := [1, 4]) (by kernel_rfl) (by kernel_rfl) (by kernel_rfl)).trans ?_
  refine M18_11_ok ?_ N x1 x4 H
  intro x1 H
  refine (run_seq (x := (cAt Try.f18 [1, 1, 1, 1, 1, 0])) (ax := A18_23) (y := (cAt Try.f18 [1, 1, 1, 1, 1, 1])) (ay := .n) (l := []) (by kernel_rfl) (by kernel_rfl)).trans ?_
  refine (run_seq (x := (cAt Try.f18 [1, 1, 1, 1, 1, 0, 0])) (ax := .n) (y := (cAt Try.f18 [1, 1, 1, 1, 1, 0, 1])) (ay := (.b none A18_21)) (l := [1, 5]) (by kernel_rfl) (by kernel_rfl)).trans ?_
  refine M18_13_ok ?_ x1 H
  intro x1 x5 H
  refine (run_block (id := 4) (x := (cAt Try.f18 [1, 1, 1, 1, 1, 0, 1, 4])) (ax := A18_21) (by kernel_rfl) (by kernel_rfl)).trans ?_
  refine (run_loop (x := (cAt Try.f18 [1, 1, 1, 1, 1, 0, 1, 4, 4])) (ax := (.s .n (some (lvOf [1, 5])) A18_20)) (l := [1, 5]) (by kernel_rfl) (by kernel_rfl) (by kernel_rfl)).trans ?_
  refine M18_22_ok ?_ N x1 x5 H
  intro H
  exact M18_24_ok  H
def A18_28 : An := .s (.s .n (some (lvOf [1, 46])) .n) (some (lvOf [1])) A18_26
def M18 (o : Orc) (N : Nat) : FnM := fun vs H κ => match vs with
  | [.agg x0] => M18_0 o N (fun x1 H => M18_1 o N (fun x1 x46 H => M18_2 o N (fun x1 H => M18_27 o N κ x1 H) κ x1 x46 H) κ x1 H) κ x0 H
  | _ => none
theorem M18_run (o : Orc) (N : Nat) (vs : List V) (H : Heap) (κ : Kv) (r) (h : M18 o N vs H κ = some r) : runFn Try.prog o N Try.f18 (.s .n (some (lvOf [1])) A18_28) vs H κ = some r := by
  unfold M18 at h
  split at h
  · rename_i x0
    refine (runFn_at (t := tmk 0 185 [(0, .agg x0)]) (by kernel_rfl) (by kernel_rfl)).trans (Eq.trans ?_ h)
    refine (run_seq (x := (cAt Try.f18 [0])) (ax := .n) (y := (cAt Try.f18 [1])) (ay := A18_28) (l := [1]) (by kernel_rfl) (by kernel_rfl)).trans ?_
    refine M18_0_ok ?_ x0 H
    intro x1 H
    refine (run_seq (x := (cAt Try.f18 [1, 0])) (ax := (.s .n (some (lvOf [1, 46])) .n)) (y := (cAt Try.f18 [1, 1])) (ay := A18_26) (l := [1]) (by kernel_rfl) (by kernel_rfl)).trans ?_
    refine (run_seq (x := (cAt Try.f18 [1, 0, 0])) (ax := .n) (y := (cAt Try.f18 [1, 0, 1])) (ay := .n) (l := [1, 46]) (by kernel_rfl) (by kernel_rfl)).trans ?_
    refine M18_1_ok ?_ x1 H
    intro x1 x46 H
    refine M18_2_ok ?_ x1 x46 H
    intro x1 H
    exact M18_27_ok x1 H
  · cases h
theorem M18_sound {o : Orc} (ho : ∀ f, FSound Try.prog f (o f)) (N : Nat) : FSound Try.prog 18 (M18 o N) :=
  FSound.sub (runFn_ok (an := (.s .n (some (lvOf [1])) A18_28)) (fuel := N) hmix ho (by kernel_rfl) (by kernel_rfl)) (M18_run o N)
/-! 19 ostinato/ostinatoref12.Check -/
def M19_0 (o : Orc) (N : Nat) (J : Nat → Heap → Ans) (κ : Kv) (x0 : List V) (H : Heap) : Ans :=
  cond (List.all x0 V.one) (
  newB H (.row x0) fun i1 H2 =>
  J i1 H2) none
theorem M19_0_ok {o : Orc} {N : Nat} {κ : Kv} {J : Kt} {J' : Nat → Heap → Ans} (hJ : ∀ x1 H, J (tmk 0 74 [(1, .ptr x1 0)]) H = J' x1 H) (x0 : List V) (H : Heap) :
    run Try.prog o N (cAt Try.f19 [0]) .n (env0 Try.prog Try.f19 κ) (tmk 0 74 [(0, .agg x0)]) H (kj [1] J) = M19_0 o N J' κ x0 H := by
  obtain rfl := fx2 hJ
  kernel_rfl
def M19_1 (o : Orc) (N : Nat) (J : Nat → Heap → Ans) (κ : Kv) (x1 : Nat) (H : Heap) : Ans :=
  ldFlat H x1 [.int .i64, .int .i64, .int .i64, .int .i64, .int .i64, .int .i64, .int .i64, .int .u32, .oth, .oth, .oth] 0 fun l3 =>
  o 18 [(.agg l3)] H fun v4 H5 =>
  asB v4 fun b6 =>
  cond (!b6) (
  κ (.tup [(.int .i64 0), (.int .i64 120)]) H5) (
  J x1 H5)
theorem M19_1_ok {o : Orc} {N : Nat} {κ : Kv} {J : Kt} {J' : Nat → Heap → Ans} (hJ : ∀ x1 H, J (tmk 0 74 [(1, .ptr x1 0)]) H = J' x1 H) (x1 : Nat) (H : Heap) :
    run Try.prog o N (cAt Try.f19 [1, 0]) .n (env0 Try.prog Try.f19 κ) (tmk 0 74 [(1, .ptr x1 0)]) H (kj [1] J) = M19_1 o N J' κ x1 H := by
  obtain rfl := fx2 hJ
  kernel_rfl
def M19_2 (o : Orc) (N : Nat) (J : Nat → Heap → Ans) (κ : Kv) (x1 : Nat) (H : Heap) : Ans :=
  (ldI (Heap.skip H 5) .i64 x1 3).bind fun n7 =>
  ldFlat (Heap.skip H 5) x1 [.int .i64, .int .i64, .int .i64, .int .i64, .int .i64, .int .i64, .int .i64, .int .u32, .oth, .oth, .oth] 0 fun l8 =>
  o 39 [(.agg l8)] (Heap.skip H 5) fun v9 H10 =>
  asI .i64 v9 fun n11 =>
  (ldI H10 .i64 x1 3).bind fun n12 =>
  cond (decide (n7 = n12)) (
  cond (decide (n7 < n11)) (
  κ (.tup [(.int .i64 0), (.int .i64 140)]) H10) (
  J x1 H10)) none
theorem M19_2_ok {o : Orc} {N : Nat} {κ : Kv} {J : Kt} {J' : Nat → Heap → Ans} (hJ : ∀ x1 H, J (tmk 0 74 [(1, .ptr x1 0)]) H = J' x1 H) (x1 : Nat) (H : Heap) :
    run Try.prog o N (cAt Try.f19 [1, 1, 0]) (.s (.d [0, 1, 2, 3, 4]) none .n) (env0 Try.prog Try.f19 κ) (tmk 0 74 [(1, .ptr x1 0)]) H (kj [1] J) = M19_2 o N J' κ x1 H := by
  obtain rfl := fx2 hJ
  kernel_rfl
def M19_3 (o : Orc) (N : Nat) (J : Nat → Int → Heap → Ans) (κ : Kv) (x1 : Nat) (H : Heap) : Ans :=
  J x1 0 H
theorem M19_3_ok {o : Orc} {N : Nat} {κ : Kv} {J : Kt} {J' : Nat → Int → Heap → Ans} (hJ : ∀ x1 x4 H, J (tmk 0 74 [(1, .ptr x1 0), (4, .int .i64 x4)]) H = J' x1 x4 H) (x1 : Nat) (H : Heap) :
    run Try.prog o N (cAt Try.f19 [1, 1, 1, 0, 0]) .n (env0 Try.prog Try.f19 κ) (tmk 0 74 [(1, .ptr x1 0)]) H (kj [1, 4] J) = M19_3 o N J' κ x1 H := by
  obtain rfl := fx3 hJ
  kernel_rfl
def A19_4 : An := (.s .n none (.s (.b none (.s (.d [0, 1, 2, 3, 4, 5, 6, 7]) none .n)) none .n))
def M19_5 (o : Orc) (N : Nat) (X0 : Nat → Heap → Ans) (J : Nat → Int → Heap → Ans) (κ : Kv) (x1 : Nat) (x4 : Int) (H : Heap) : Ans :=
  (ldV H x1 8).bind fun v13 =>
  lenS v13 fun n14 =>
  cond (decide (x4 < n14)) (
  (ldV (Heap.skip H 8) x1 8).bind fun v15 =>
  idxS 1 v15 x4 fun p16 o17 =>
  (ldI (Heap.skip H 8) .i64 p16 o17).bind fun n18 =>
  (ldI (Heap.skip H 8) .i64 x1 1).bind fun n19 =>
  cond (decide (n18 ≥ n19)) (
  κ (.tup [(.int .i64 x4), (.int .i64 141)]) (Heap.skip H 8)) (
  J x1 (IntKind.i64.wrap (x4 + 1)) (Heap.skip H 8))) (
  X0 x1 H)
theorem M19_5_ok {o : Orc} {N : Nat} {κ : Kv} {X0 J : Kt} {X0' : Nat → Heap → Ans} {J' : Nat → Int → Heap → Ans} (h0 : ∀ x1 H, X0 (tmk 0 74 [(1, .ptr x1 0)]) H = X0' x1 H) (hJ : ∀ x1 x4 H, J (tmk 0 74 [(1, .ptr x1 0), (4, .int .i64 x4)]) H = J' x1 x4 H) (x1 : Nat) (x4 : Int) (H : Heap) :
    run Try.prog o N (cAt Try.f19 [1, 1, 1, 0, 1, 4, 4]) A19_4 ((env0 Try.prog Try.f19 κ).block 0 (kj [1] X0)) (tmk 0 74 [(1, .ptr x1 0), (4, .int .i64 x4)]) H (kj [1, 4] J) = M19_5 o N X0' J' κ x1 x4 H := by
  obtain rfl := fx2 h0
  obtain rfl := fx3 hJ
  kernel_rfl
def M19_6 (o : Orc) (N : Nat) (X0 : Nat → Heap → Ans) (κ : Kv) (n : Nat) : Nat → Int → Heap → Ans :=
  Nat.rec (motive := fun _ => Nat → Int → Heap → Ans) (fun _ _ _ => none) (fun _ ih x1 x4 H => M19_5 o N X0 ih κ x1 x4 H) n
theorem M19_6_s (o : Orc) (N : Nat) (X0 : Nat → Heap → Ans) (κ : Kv) (n : Nat) (x1 : Nat) (x4 : Int) (H : Heap) : M19_6 o N X0 κ (n + 1) x1 x4 H = M19_5 o N X0 (M19_6 o N X0 κ n) κ x1 x4 H := rfl
theorem M19_6_ok {o : Orc} {N : Nat} {κ : Kv} {X0 : Kt} {X0' : Nat → Heap → Ans} (h0 : ∀ x1 H, X0 (tmk 0 74 [(1, .ptr x1 0)]) H = X0' x1 H) (n : Nat) : ∀ (x1 : Nat) (x4 : Int) (H : Heap),
    rounds (fun a H k => run Try.prog o N (cAt Try.f19 [1, 1, 1, 0, 1, 4, 4]) A19_4 ((env0 Try.prog Try.f19 κ).block 0 (kj [1] X0)) a H k) (some (lvOf [1, 4])) n (tmk 0 74 [(1, .ptr x1 0), (4, .int .i64 x4)]) H = M19_6 o N X0' κ n x1 x4 H := by
  induction n with
  | zero => intros; rfl
  | succ n ih =>
    intro x1 x4 H
    refine (run_round.trans ?_).trans (M19_6_s ..).symm
    exact M19_5_ok h0 ih x1 x4 H
def A19_7 : An := .s .n (some (lvOf [1, 4])) (.b none (.l (some (lvOf [1, 4])) A19_4))
def M19_8 (o : Orc) (N : Nat) (J : Nat → Int → Heap → Ans) (κ : Kv) (x1 : Nat) (H : Heap) : Ans :=
  J x1 0 H
theorem M19_8_ok {o : Orc} {N : Nat} {κ : Kv} {J : Kt} {J' : Nat → Int → Heap → Ans} (hJ : ∀ x1 x5 H, J (tmk 0 74 [(1, .ptr x1 0), (5, .int .i64 x5)]) H = J' x1 x5 H) (x1 : Nat) (H : Heap) :
    run Try.prog o N (cAt Try.f19 [1, 1, 1, 1, 0, 0]) .n (env0 Try.prog Try.f19 κ) (tmk 0 74 [(1, .ptr x1 0)]) H (kj [1, 5] J) = M19_8 o N J' κ x1 H := by
  obtain rfl := fx3 hJ
  kernel_rfl
def A19_9 : An := (.s .n none (.s (.b none (.s (.d [0, 1, 2, 3, 4, 5, 6, 7, 8]) none .n)) none .n))
def M19_10 (o : Orc) (N : Nat) (X2 : Nat → Heap → Ans) (J : Nat → Int → Heap → Ans) (κ : Kv) (x1 : Nat) (x5 : Int) (H : Heap) : Ans :=
  (ldV H x1 9).bind fun v20 =>
  lenS v20 fun n21 =>
  cond (decide (x5 < n21)) (
  (ldV (Heap.skip H 9) x1 9).bind fun v22 =>
  idxS 3 v22 x5 fun p23 o24 =>
  (ldI (Heap.skip H 9) .i64 p23 (o24 + 1)).bind fun n25 =>
  (ldI (Heap.skip H 9) .i64 x1 1).bind fun n26 =>
  cond (decide (n25 ≥ n26)) (
  κ (.tup [(.int .i64 x5), (.int .i64 141)]) (Heap.skip H 9)) (
  J x1 (IntKind.i64.wrap (x5 + 1)) (Heap.skip H 9))) (
  X2 x1 H)
theorem M19_10_ok {o : Orc} {N : Nat} {κ : Kv} {X2 J : Kt} {X2' : Nat → Heap → Ans} {J' : Nat → Int → Heap → Ans} (h2 : ∀ x1 H, X2 (tmk 0 74 [(1, .ptr x1 0)]) H = X2' x1 H) (hJ : ∀ x1 x5 H, J (tmk 0 74 [(1, .ptr x1 0), (5, .int .i64 x5)]) H = J' x1 x5 H) (x1 : Nat) (x5 : Int) (H : Heap) :
    run Try.prog o N (cAt Try.f19 [1, 1, 1, 1, 0, 1, 4, 4]) A19_9 ((env0 Try.prog Try.f19 κ).block 2 (kj [1] X2)) (tmk 0 74 [(1, .ptr x1 0), (5, .int .i64 x5)]) H (kj [1, 5] J) = M19_10 o N X2' J' κ x1 x5 H := by
  obtain rfl := fx2 h2
  obtain rfl := fx3 hJ
  kernel_rfl
def M19_11 (o : Orc) (N : Nat) (X2 : Nat → Heap → Ans) (κ : Kv) (n : Nat) : Nat → Int → Heap → Ans :=
  Nat.rec (motive := fun _ => Nat → Int → Heap → Ans) (fun _ _ _ => none) (fun _ ih x1 x5 H => M19_10 o N X2 ih κ x1 x5 H) n
theorem M19_11_s (o : Orc) (N : Nat) (X2 : Nat → Heap → Ans) (κ : Kv) (n : Nat) (x1 : Nat) (x5 : Int) (H : Heap) : M19_11 o N X2 κ (n + 1) x1 x5 H = M19_10 o N X2 (M19_11 o N X2 κ n) κ x1 x5 H := rfl
theorem M19_11_ok {o : Orc} {N : Nat} {κ : Kv} {X2 : Kt} {X2' : Nat → Heap → Ans} (h2 : ∀ x1 H, X2 (tmk 0 74 [(1, .ptr x1 0)]) H = X2' x1 H) (n : Nat) : ∀ (x1 : Nat) (x5 : Int) (H : Heap),
    rounds (fun a H k => run Try.prog o N (cAt Try.f19 [1, 1, 1, 1, 0, 1, 4, 4]) A19_9 ((env0 Try.prog Try.f19 κ).block 2 (kj [1] X2)) a H k) (some (lvOf [1, 5])) n (tmk 0 74 [(1, .ptr x1 0), (5, .int .i64 x5)]) H = M19_11 o N X2' κ n x1 x5 H := by
  induction n with
  | zero => intros; rfl
  | succ n ih =>
    intro x1 x5 H
    refine (run_round.trans ?_).trans (M19_11_s ..).symm
    exact M19_10_ok h2 ih x1 x5 H
def A19_12 : An := .s .n (some (lvOf [1, 5])) (.b none (.l (some (lvOf [1, 5])) A19_9))
def M19_13 (o : Orc) (N : Nat) (J : Nat → Int → Int → Heap → Ans) (κ : Kv) (x1 : Nat) (H : Heap) : Ans :=
  ldFlat H x1 [.int .i64, .int .i64, .int .i64, .int .i64, .int .i64, .int .i64, .int .i64, .int .u32, .oth, .oth, .oth] 0 fun l27 =>
  o 46 [(.agg l27)] H fun v28 H29 =>
  asT2 v28 fun v30 v31 =>
  asI .i64 v30 fun n32 =>
  asI .i64 v31 fun n33 =>
  J x1 n32 n33 H29
theorem M19_13_ok {o : Orc} {N : Nat} {κ : Kv} {J : Kt} {J' : Nat → Int → Int → Heap → Ans} (hJ : ∀ x1 x6 x7 H, J (tmk 0 74 [(1, .ptr x1 0), (6, .int .i64 x6), (7, .int .i64 x7)]) H = J' x1 x6 x7 H) (x1 : Nat) (H : Heap) :
    run Try.prog o N (cAt Try.f19 [1, 1, 1, 1, 1, 0]) .n (env0 Try.prog Try.f19 κ) (tmk 0 74 [(1, .ptr x1 0)]) H (kj [1, 6, 7] J) = M19_13 o N J' κ x1 H := by
  obtain rfl := fx4 hJ
  kernel_rfl
def M19_14 (o : Orc) (N : Nat) (J : Nat → Heap → Ans) (κ : Kv) (x1 : Nat) (x6 x7 : Int) (H : Heap) : Ans :=
  cond (x7 != 0) (
  κ (.tup [(.int .i64 x6), (.int .i64 x7)]) H) (
  J x1 H)
theorem M19_14_ok {o : Orc} {N : Nat} {κ : Kv} {J : Kt} {J' : Nat → Heap → Ans} (hJ : ∀ x1 H, J (tmk 0 74 [(1, .ptr x1 0)]) H = J' x1 H) (x1 : Nat) (x6 x7 : Int) (H : Heap) :
    run Try.prog o N (cAt Try.f19 [1, 1, 1, 1, 1, 1, 0]) .n (env0 Try.prog Try.f19 κ) (tmk 0 74 [(1, .ptr x1 0), (6, .int .i64 x6), (7, .int .i64 x7)]) H (kj [1] J) = M19_14 o N J' κ x1 x6 x7 H := by
  obtain rfl := fx2 hJ
  kernel_rfl
def M19_15 (o : Orc) (N : Nat) (J : Nat → Int → Heap → Ans) (κ : Kv) (x1 : Nat) (H : Heap) : Ans :=
  J x1 0 H
theorem M19_15_ok {o : Orc} {N : Nat} {κ : Kv} {J : Kt} {J' : Nat → Int → Heap → Ans} (hJ : ∀ x1 x8 H, J (tmk 0 74 [(1, .ptr x1 0), (8, .int .i64 x8)]) H = J' x1 x8 H) (x1 : Nat) (H : Heap) :
    run Try.prog o N (cAt Try.f19 [1, 1, 1, 1, 1, 1, 1, 0, 0]) .n (env0 Try.prog Try.f19 κ) (tmk 0 74 [(1, .ptr x1 0)]) H (kj [1, 8] J) = M19_15 o N J' κ x1 H := by
  obtain rfl := fx3 hJ
  kernel_rfl
def M19_16 (o : Orc) (N : Nat) (X4 : Heap → Ans) (J : Nat → Int → Heap → Ans) (κ : Kv) (x1 : Nat) (x8 : Int) (H : Heap) : Ans :=
  (ldV H x1 10).bind fun v34 =>
  lenS v34 fun n35 =>
  cond (decide (x8 < n35)) (
  ldFlat H x1 [.int .i64, .int .i64, .int .i64, .int .i64, .int .i64, .int .i64, .int .i64, .int .u32, .oth, .oth, .oth] 0 fun l36 =>
  o 47 [(.agg l36), (.int .i64 x8)] H fun v37 H38 =>
  asI .i64 v37 fun n39 =>
  cond (n39 != 0) (
  κ (.tup [(.int .i64 x8), (.int .i64 n39)]) H38) (
  J x1 (IntKind.i64.wrap (x8 + 1)) H38)) (
  X4  H)
theorem M19_16_ok {o : Orc} {N : Nat} {κ : Kv} {X4 J : Kt} {X4' : Heap → Ans} {J' : Nat → Int → Heap → Ans} (h4 : ∀  H, X4 (tmk 0 74 []) H = X4' H) (hJ : ∀ x1 x8 H, J (tmk 0 74 [(1, .ptr x1 0), (8, .int .i64 x8)]) H = J' x1 x8 H) (x1 : Nat) (x8 : Int) (H : Heap) :
    run Try.prog o N (cAt Try.f19 [1, 1, 1, 1, 1, 1, 1, 0, 1, 4, 4]) .n ((env0 Try.prog Try.f19 κ).block 4 (kj [] X4)) (tmk 0 74 [(1, .ptr x1 0), (8, .int .i64 x8)]) H (kj [1, 8] J) = M19_16 o N X4' J' κ x1 x8 H := by
  obtain rfl := fx1 h4
  obtain rfl := fx3 hJ
  kernel_rfl
def M19_17 (o : Orc) (N : Nat) (X4 : Heap → Ans) (κ : Kv) (n : Nat) : Nat → Int → Heap → Ans :=
  Nat.rec (motive := fun _ => Nat → Int → Heap → Ans) (fun _ _ _ => none) (fun _ ih x1 x8 H => M19_16 o N X4 ih κ x1 x8 H) n
theorem M19_17_s (o : Orc) (N : Nat) (X4 : Heap → Ans) (κ : Kv) (n : Nat) (x1 : Nat) (x8 : Int) (H : Heap) : M19_17 o N X4 κ (n + 1) x1 x8 H = M19_16 o N X4 (M19_17 o N X4 κ n) κ x1 x8 H := rfl
theorem M19_17_ok {o : Orc} {N : Nat} {κ : Kv} {X4 : Kt} {X4' : Heap → Ans} (h4 : ∀  H, X4 (tmk 0 74 []) H = X4' H) (n : Nat) : ∀ (x1 : Nat) (x8 : Int) (H : Heap),
    rounds (fun a H k => run Try.prog o N (cAt Try.f19 [1, 1, 1, 1, 1, 1, 1, 0, 1, 4, 4]) .n ((env0 Try.prog Try.f19 κ).block 4 (kj [] X4)) a H k) (some (lvOf [1, 8])) n (tmk 0 74 [(1, .ptr x1 0), (8, .int .i64 x8)]) H = M19_17 o N X4' κ n x1 x8 H := by
  induction n with
  | zero => intros; rfl
  | succ n ih =>
    intro x1 x8 H
    refine (run_round.trans ?_).trans (M19_17_s ..).symm
    exact M19_16_ok h4 ih x1 x8 H
def A19_18 : An := .s .n (some (lvOf [1, 8])) (.b none (.l (some (lvOf [1, 8])) .n))
def M19_19 (o : Orc) (N : Nat) (κ : Kv) (H : Heap) : Ans :=
  κ (.tup [(.int .i64 0), (.int .i64 0)]) H
theorem M19_19_ok {o : Orc} {N : Nat} {κ : Kv} (H : Heap) :
    run Try.prog o N (cAt Try.f19 [1, 1, 1, 1, 1, 1, 1, 1]) .n (env0 Try.prog Try.f19 κ) (tmk 0 74 []) H (env0 Try.prog Try.f19 κ).ret = M19_19 o N κ  H := by
  kernel_rfl
def A19_20 : An := .s .n (some (lvOf [1])) (.s A19_18 (some (lvOf [])) .n)
def A19_21 : An := .s A19_12 (some (lvOf [1])) (.s .n (some (lvOf [1, 6, 7])) A19_20)
def M19_22 (o : Orc) (N : Nat) (κ : Kv) (x1 : Nat) (H : Heap) : Ans :=
  M19_3 o N (fun x1 x4 H => M19_6 o N (fun x1 H => M19_8 o N (fun x1 x5 H => M19_11 o N (fun x1 H => M19_13 o N (fun x1 x6 x7 H => M19_14 o N (fun x1 H => M19_15 o N (fun x1 x8 H => M19_17 o N (fun H => M19_19 o N κ  H) κ N x1 x8 H) κ x1 H) κ x1 x6 x7 H) κ x1 H) κ N x1 x5 H) κ x1 H) κ N x1 x4 H) κ x1 H
theorem M19_22_ok {o : Orc} {N : Nat} {κ : Kv} (x1 : Nat) (H : Heap) :
    run Try.prog o N (cAt Try.f19 [1, 1, 1]) (.s A19_7 (some (lvOf [1])) A19_21) (env0 Try.prog Try.f19 κ) (tmk 0 74 [(1, .ptr x1 0)]) H (env0 Try.prog Try.f19 κ).ret = M19_22 o N κ x1 H := by
  refine (run_seq (x := (cAt Try.f19 [1, 1, 1, 0])) (ax := A19_7) (y := (cAt Try.f19 [1, 1, 1, 1])) (ay := A19_21) (l := [1]) (by kernel_rfl) (by kernel_rfl)).trans ?_
  refine (run_seq (x := (cAt Try.f19 [1, 1, 1, 0, 0])) (ax := .n) (y := (cAt Try.f19 [1, 1, 1, 0, 1])) (ay := (.b none (.l (some (lvOf [1, 4])) A19_4))) (l := [1, 4]) (by kernel_rfl) (by kernel_rfl)).trans ?_
  refine M19_3_ok ?_ x1 H
  intro x1 x4 H
  refine (run_block (id := 0) (x := (cAt Try.f19 [1, 1, 1, 0, 1, 4])) (ax := (.l (some (lvOf [1, 4])) A19_4)) (by kernel_rfl) (by kernel_rfl)).trans ?_
  refine (run_loop (x := (cAt Try.f19 [1, 1, 1, 0, 1, 4, 4])) (ax := A19_4) (l := [1, 4]) (by kernel_rfl) (by kernel_rfl) (by kernel_rfl)).trans ?_
  refine M19_6_ok ?_ N x1 x4 H
  intro x1 H
  refine (run_seq (x := (cAt Try.f19 [1, 1, 1, 1, 0])) (ax := A19_12) (y := (cAt Try.f19 [1, 1, 1, 1, 1])) (ay := (.s .n (some (lvOf [1, 6, 7])) A19_20)) (l := [1]) (by kernel_rfl) (by kernel_rfl)).trans ?_
  refine (run_seq (x := (cAt Try.f19 [1, 1, 1, 1, 0, 0])) (ax := .n) (y := (cAt Try.f19 [1, 1, 1, 1, 0, 1])) (ay := (.b none (.l (some (lvOf [1, 5])) A19_9))) (l := [1, 5]) (by kernel_rfl) (by kernel_rfl)).trans ?_
  refine M19_8_ok ?_ x1 H
  intro x1 x5 H
  refine (run_block (id := 2) (x := (cAt Try.f19 [1, 1, 1, 1, 0, 1, 4])) (ax := (.l (some (lvOf [1, 5])) A19_9)) (by kernel_rfl) (by kernel_rfl)).trans ?_
  refine (run_loop (x := (cAt Try.f19 [1, 1, 1, 1, 0, 1, 4, 4])) (ax := A19_9) (l := [1, 5]) (by kernel_rfl) (by kernel_rfl) (by kernel_rfl)).trans ?_
  refine M19_11_ok ?_ N x1 x5 H
  intro x1 H
  refine (run_seq (x := (cAt Try.f19 [1, 1, 1, 1, 1, 0])) (ax := .n) (y := (cAt Try.f19 [1, 1, 1, 1, 1, 1])) (ay := A19_20) (l := [1, 6, 7]) (by kernel_rfl) (by kernel_rfl)).trans ?_
  refine M19_13_ok ?_ x1 H
  intro x1 x6 x7 H
  refine (run_seq (x := (cAt Try.f19 [1, 1, 1, 1, 1, 1, 0])) (ax := .n) (y := (cAt Try.f19 [1, 1, 1, 1, 1, 1, 1])) (ay := (.s A19_18 (some (lvOf [])) .n)) (l := [1]) (by kernel_rfl) (by kernel_rfl)).trans ?_
  refine M19_14_ok ?_ x1 x6 x7 H
  intro x1 H
  refine (run_seq (x := (cAt Try.f19 [1, 1, 1, 1, 1, 1, 1, 0])) (ax := A19_18) (y := (cAt Try.f19 [1, 1, 1, 1, 1, 1, 1, 1])) (ay := .n) (l := []) (by kernel_rfl) (by kernel_rfl)).trans ?_
  refine (run_seq (x := (cAt Try.f19 [1, 1, 1, 1, 1, 1, 1, 0, 0])) (ax := .n) (y := (cAt Try.f19 [1, 1, 1, 1, 1, 1, 1, 0, 1])) (ay := (.b none (.l (some (lvOf [1, 8])) .n))) (l := [1, 8]) (by kernel_rfl) (by kernel_rfl)).trans ?_
  refine M19_15_ok ?_ x1 H
  intro x1 x8 H
  refine (run_block (id := 4) (x := (cAt Try.f19 [1, 1, 1, 1, 1, 1, 1, 0, 1, 4])) (ax := (.l (some (lvOf [1, 8])) .n)) (by kernel_rfl) (by kernel_rfl)).trans ?_
  refine (run_loop (x := (cAt Try.f19 [1, 1, 1, 1, 1, 1, 1, 0, 1, 4, 4])) (ax := .n) (l := [1, 8]) (by kernel_rfl) (by kernel_rfl) (by kernel_rfl)).trans ?_
  refine M19_17_ok ?_ N x1 x8 H
  intro H
  exact M19_19_ok  H
def A19_23 : An := .s (.s (.d [0, 1, 2, 3, 4]) none .n) (some (lvOf [1])) (.s A19_7 (some (lvOf [1])) A19_21)
def A19_24 : An := .s .n (some (lvOf [1])) (.s .n (some (lvOf [1])) A19_23)
def M19 (o : Orc) (N : Nat) : FnM := fun vs H κ => match vs with
  | [.agg x0] => M19_0 o N (fun x1 H => M19_1 o N (fun x1 H => M19_2 o N (fun x1 H => M19_22 o N κ x1 H) κ x1 H) κ x1 H) κ x0 H
  | _ => none
theorem M19_run (o : Orc) (N : Nat) (vs : List V) (H : Heap) (κ : Kv) (r) (h : M19 o N vs H κ = some r) : runFn Try.prog o N Try.f19 A19_24 vs H κ = some r := by
  unfold M19 at h
  split at h
  · rename_i x0
    refine (runFn_at (t := tmk 0 74 [(0, .agg x0)]) (by kernel_rfl) (by kernel_rfl)).trans (Eq.trans ?_ h)
    refine (run_seq (x := (cAt Try.f19 [0])) (ax := .n) (y := (cAt Try.f19 [1])) (ay := (.s .n (some (lvOf [1])) A19_23)) (l := [1]) (by kernel_rfl) (by kernel_rfl)).trans ?_
    refine M19_0_ok ?_ x0 H
    intro x1 H
    refine (run_seq (x := (cAt Try.f19 [1, 0])) (ax := .n) (y := (cAt Try.f19 [1, 1])) (ay := A19_23) (l := [1]) (by kernel_rfl) (by kernel_rfl)).trans ?_
    refine M19_1_ok ?_ x1 H
    intro x1 H
    refine (run_seq (x := (cAt Try.f19 [1, 1, 0])) (ax := (.s (.d [0, 1, 2, 3, 4]) none .n)) (y := (cAt Try.f19 [1, 1, 1])) (ay := (.s A19_7 (some (lvOf [1])) A19_21)) (l := [1]) (by kernel_rfl) (by kernel_rfl)).trans ?_
    refine M19_2_ok ?_ x1 H
    intro x1 H
    exact M19_22_ok x1 H
  · cases h
theorem M19_sound {o : Orc} (ho : ∀ f, FSound Try.prog f (o f)) (N : Nat) : FSound Try.prog 19 (M19 o N) :=
  FSound.sub (runFn_ok (an := A19_24) (fuel := N) hmix ho (by kernel_rfl) (by kernel_rfl)) (M19_run o N)
/-! 29 ostinato/ostinatoref12.Due -/
def M29_0 (o : Orc) (N : Nat) (J : V → Int → Int → Int → Heap → Ans) (κ : Kv) (x0 : V) (x1 x2 x3 : Int) (H : Heap) : Ans :=
  J x0 x1 x2 x3 H
theorem M29_0_ok {o : Orc} {N : Nat} {κ : Kv} {J : Kt} {J' : V → Int → Int → Int → Heap → Ans} (hJ : ∀ x0 x1 x2 x3 H, J (tmk 0 55 [(0, x0), (1, .int .i64 x1), (2, .int .i64 x2), (3, .int .i64 x3)]) H = J' x0 x1 x2 x3 H) (x0 : V) (x1 x2 x3 : Int) (H : Heap) :
    run Try.prog o N (cAt Try.f29 [0]) .n (env0 Try.prog Try.f29 κ) (tmk 0 55 [(0, x0), (1, .int .i64 x1), (2, .int .i64 x2), (3, .int .i64 x3)]) H (kj [0, 1, 2, 3] J) = M29_0 o N J' κ x0 x1 x2 x3 H := by
  obtain rfl := fx5 hJ
  kernel_rfl
def M29_1 (o : Orc) (N : Nat) (J : V → Int → Int → Int → V → Heap → Ans) (κ : Kv) (x0 : V) (x1 x2 x3 : Int) (H : Heap) : Ans :=
  J x0 x1 x2 x3 .nils H
theorem M29_1_ok {o : Orc} {N : Nat} {κ : Kv} {J : Kt} {J' : V → Int → Int → Int → V → Heap → Ans} (hJ : ∀ x0 x1 x2 x3 x9 H, J (tmk 0 55 [(0, x0), (1, .int .i64 x1), (2, .int .i64 x2), (3, .int .i64 x3), (9, x9)]) H = J' x0 x1 x2 x3 x9 H) (x0 : V) (x1 x2 x3 : Int) (H : Heap) :
    run Try.prog o N (cAt Try.f29 [1, 0]) .n (env0 Try.prog Try.f29 κ) (tmk 0 55 [(0, x0), (1, .int .i64 x1), (2, .int .i64 x2), (3, .int .i64 x3)]) H (kj [0, 1, 2, 3, 9] J) = M29_1 o N J' κ x0 x1 x2 x3 H := by
  obtain rfl := fx6 hJ
  kernel_rfl
def M29_2 (o : Orc) (N : Nat) (J : V → Int → Int → Int → V → Int → Heap → Ans) (κ : Kv) (x0 : V) (x1 x2 x3 : Int) (x9 : V) (H : Heap) : Ans :=
  J x0 x1 x2 x3 x9 0 H
theorem M29_2_ok {o : Orc} {N : Nat} {κ : Kv} {J : Kt} {J' : V → Int → Int → Int → V → Int → Heap → Ans} (hJ : ∀ x0 x1 x2 x3 x9 x10 H, J (tmk 0 55 [(0, x0), (1, .int .i64 x1), (2, .int .i64 x2), (3, .int .i64 x3), (9, x9), (10, .int .i64 x10)]) H = J' x0 x1 x2 x3 x9 x10 H) (x0 : V) (x1 x2 x3 : Int) (x9 : V) (H : Heap) :
    run Try.prog o N (cAt Try.f29 [1, 1, 0, 0]) .n (env0 Try.prog Try.f29 κ) (tmk 0 55 [(0, x0), (1, .int .i64 x1), (2, .int .i64 x2), (3, .int .i64 x3), (9, x9)]) H (kj [0, 1, 2, 3, 9, 10] J) = M29_2 o N J' κ x0 x1 x2 x3 x9 H := by
  obtain rfl := fx7 hJ
  kernel_rfl
def A29_3 : An := (.s .n none (.s (.b none (.s (.d [0, 1, 2, 3, 4, 5, 6, 7, 8, 9, 10, 11, 12, 13, 14, 15, 16, 17, 18, 19, 20, 21, 22, 23, 24, 25, 26, 27, 28, 29]) none .n)) none .n))
def M29_4 (o : Orc) (N : Nat) (X0 : V → Heap → Ans) (J : V → Int → Int → Int → V → Int → Heap → Ans) (κ : Kv) (x0 : V) (x1 x2 x3 : Int) (x9 : V) (x10 : Int) (H : Heap) : Ans :=
  lenS x0 fun n1 =>
  cond (decide (x10 < n1)) (
  idxS 6 x0 x10 fun p2 o3 =>
  (ldI (Heap.skip H 30) .i64 p2 (o3 + 1)).bind fun n4 =>
  cond (decide (n4 > x2)) (
  idxS 6 x0 x10 fun p5 o6 =>
  (ldI (Heap.skip H 30) .i64 p5 (o6 + 1)).bind fun n7 =>
  cond (decide (n7 ≤ x3)) (
  idxS 6 x0 x10 fun p8 o9 =>
  (ldI (Heap.skip H 30) .i64 p8 (o9 + 2)).bind fun n10 =>
  idxS 6 x0 x10 fun p11 o12 =>
  (ldI (Heap.skip H 30) .i64 p11 (o12 + 3)).bind fun n13 =>
  o 49 [(.int .i64 n10), (.int .i64 n13), (.int .i64 x1)] (Heap.skip H 30) fun v14 H15 =>
  asB v14 fun b16 =>
  cond b16 (
  idxS 6 x0 x10 fun p17 o18 =>
  ldFlat H15 p17 [.int .i64, .int .i64, .int .i64, .int .i64, .int .i64, .int .i64] o18 fun l19 =>
  (fillV (fun i => some (i * 6, 6)) [(.int .i64 0), (.int .i64 0), (.int .i64 0), (.int .i64 0), (.int .i64 0), (.int .i64 0)] [(0, (.agg l19))]).bind fun l20 =>
  newB H15 (.row l20) fun i21 H22 =>
  appV H22 x9 (.sl i21 0 1 6 true) 6 fun v23 H24 =>
  J x0 x1 x2 x3 v23 (IntKind.i64.wrap (x10 + 1)) H24) (
  J x0 x1 x2 x3 x9 (IntKind.i64.wrap (x10 + 1)) H15)) (
  J x0 x1 x2 x3 x9 (IntKind.i64.wrap (x10 + 1)) (Heap.skip H 30))) (
  J x0 x1 x2 x3 x9 (IntKind.i64.wrap (x10 + 1)) (Heap.skip H 30))) (
  X0 x9 H)
theorem M29_4_ok {o : Orc} {N : Nat} {κ : Kv} {X0 J : Kt} {X0' : V → Heap → Ans} {J' : V → Int → Int → Int → V → Int → Heap → Ans} (h0 : ∀ x9 H, X0 (tmk 0 55 [(9, x9)]) H = X0' x9 H) (hJ : ∀ x0 x1 x2 x3 x9 x10 H, J (tmk 0 55 [(0, x0), (1, .int .i64 x1), (2, .int .i64 x2), (3, .int .i64 x3), (9, x9), (10, .int .i64 x10)]) H = J' x0 x1 x2 x3 x9 x10 H) (x0 : V) (x1 x2 x3 : Int) (x9 : V) (x10 : Int) (H : Heap) :
    run Try.prog o N (cAt Try.f29 [1, 1, 0, 1, 4, 4]) A29_3 ((env0 Try.prog Try.f29 κ).block 0 (kj [9] X0)) (tmk 0 55 [(0, x0), (1, .int .i64 x1), (2, .int .i64 x2), (3, .int .i64 x3), (9, x9), (10, .int .i64 x10)]) H (kj [0, 1, 2, 3, 9, 10] J) = M29_4 o N X0' J' κ x0 x1 x2 x3 x9 x10 H := by
  obtain rfl := fx2 h0
  obtain rfl := fx7 hJ
  kernel_rfl
def A29_5 : An := .l (some (lvOf [0, 1, 2, 3, 9, 10])) A29_3
def M29_6 (o : Orc) (N : Nat) (X0 : V → Heap → Ans) (κ : Kv) (n : Nat) : V → Int → Int → Int → V → Int → Heap → Ans :=
  Nat.rec (motive := fun _ => V → Int → Int → Int → V → Int → Heap → Ans) (fun _ _ _ _ _ _ _ => none) (fun _ ih x0 x1 x2 x3 x9 x10 H => M29_4 o N X0 ih κ x0 x1 x2 x3 x9 x10 H) n
theorem M29_6_s (o : Orc) (N : Nat) (X0 : V → Heap → Ans) (κ : Kv) (n : Nat) (x0 : V) (x1 x2 x3 : Int) (x9 : V) (x10 : Int) (H : Heap) : M29_6 o N X0 κ (n + 1) x0 x1 x2 x3 x9 x10 H = M29_4 o N X0 (M29_6 o N X0 κ n) κ x0 x1 x2 x3 x9 x10 H := rfl
theorem M29_6_ok {o : Orc} {N : Nat} {κ : Kv} {X0 : Kt} {X0' : V → Heap → Ans} (h0 : ∀ x9 H, X0 (tmk 0 55 [(9, x9)]) H = X0' x9 H) (n : Nat) : ∀ (x0 : V) (x1 x2 x3 : Int) (x9 : V) (x10 : Int) (H : Heap),
    rounds (fun a H k => run Try.prog o N (cAt Try.f29 [1, 1, 0, 1, 4, 4]) A29_3 ((env0 Try.prog Try.f29 κ).block 0 (kj [9] X0)) a H k) (some (lvOf [0, 1, 2, 3, 9, 10])) n (tmk 0 55 [(0, x0), (1, .int .i64 x1), (2, .int .i64 x2), (3, .int .i64 x3), (9, x9), (10, .int .i64 x10)]) H = M29_6 o N X0' κ n x0 x1 x2 x3 x9 x10 H := by
  induction n with
  | zero => intros; rfl
  | succ n ih =>
    intro x0 x1 x2 x3 x9 x10 H
    refine (run_round.trans ?_).trans (M29_6_s ..).symm
    exact M29_4_ok h0 ih x0 x1 x2 x3 x9 x10 H
def A29_7 : An := .s .n (some (lvOf [0, 1, 2, 3, 9, 10])) (.b none A29_5)
def M29_8 (o : Orc) (N : Nat) (κ : Kv) (x9 : V) (H : Heap) : Ans :=
  κ x9 H
theorem M29_8_ok {o : Orc} {N : Nat} {κ : Kv} (x9 : V) (H : Heap) :
    run Try.prog o N (cAt Try.f29 [1, 1, 1]) .n (env0 Try.prog Try.f29 κ) (tmk 0 55 [(9, x9)]) H (env0 Try.prog Try.f29 κ).ret = M29_8 o N κ x9 H := by
  kernel_rfl
def A29_9 : An := .s .n (some (lvOf [0, 1, 2, 3, 9])) (.s A29_7 (some (lvOf [9])) .n)
def M29 (o : Orc) (N : Nat) : FnM := fun vs H κ => match vs with
  | [x0, .int .i64 x1, .int .i64 x2, .int .i64 x3] => M29_0 o N (fun x0 x1 x2 x3 H => M29_1 o N (fun x0 x1 x2 x3 x9 H => M29_2 o N (fun x0 x1 x2 x3 x9 x10 H => M29_6 o N (fun x9 H => M29_8 o N κ x9 H) κ N x0 x1 x2 x3 x9 x10 H) κ x0 x1 x2 x3 x9 H) κ x0 x1 x2 x3 H) κ x0 x1 x2 x3 H
  | _ => none
theorem M29_run (o : Orc) (N : Nat) (vs : List V) (H : Heap) (κ : Kv) (r) (h : M29 o N vs H κ = some r) : runFn Try.prog o N Try.f29 (.s .n (some (lvOf [0, 1, 2, 3])) A29_9) vs H κ = some r := by
  unfold M29 at h
  split at h
  · rename_i x0 x1 x2 x3
    refine (runFn_at (t := tmk 0 55 [(0, x0), (1, .int .i64 x1), (2, .int .i64 x2), (3, .int .i64 x3)]) (by kernel_rfl) (by kernel_rfl)).trans (Eq.trans ?_ h)
    refine (run_seq (x := (cAt Try.f29 [0])) (ax := .n) (y := (cAt Try.f29 [1])) (ay := A29_9) (l := [0, 1, 2, 3]) (by kernel_rfl) (by kernel_rfl)).trans ?_
    refine M29_0_ok ?_ x0 x1 x2 x3 H
    intro x0 x1 x2 x3 H
    refine (run_seq (x := (cAt Try.f29 [1, 0])) (ax := .n) (y := (cAt Try.f29 [1, 1])) (ay := (.s A29_7 (some (lvOf [9])) .n)) (l := [0, 1, 2, 3, 9]) (by kernel_rfl) (by kernel_rfl)).trans ?_
    refine M29_1_ok ?_ x0 x1 x2 x3 H
    intro x0 x1 x2 x3 x9 H
    refine (run_seq (x := (cAt Try.f29 [1, 1, 0])) (ax := A29_7) (y := (cAt Try.f29 [1, 1, 1])) (ay := .n) (l := [9]) (by kernel_rfl) (by kernel_rfl)).trans ?_
    refine (run_seq (x := (cAt Try.f29 [1, 1, 0, 0])) (ax := .n) (y := (cAt Try.f29 [1, 1, 0, 1])) (ay := (.b none A29_5)) (l := [0, 1, 2, 3, 9, 10]) (by kernel_rfl) (by kernel_rfl)).trans ?_
    refine M29_2_ok ?_ x0 x1 x2 x3 x9 H
    intro x0 x1 x2 x3 x9 x10 H
    refine (run_block (id := 0) (x := (cAt Try.f29 [1, 1, 0, 1, 4])) (ax := A29_5) (by kernel_rfl) (by kernel_rfl)).trans ?_
    refine (run_loop (x := (cAt Try.f29 [1, 1, 0, 1, 4, 4])) (ax := A29_3) (l := [0, 1, 2, 3, 9, 10]) (by kernel_rfl) (by kernel_rfl) (by kernel_rfl)).trans ?_
    refine M29_6_ok ?_ N x0 x1 x2 x3 x9 x10 H
    intro x9 H
    exact M29_8_ok x9 H
  · cases h
theorem M29_sound {o : Orc} (ho : ∀ f, FSound Try.prog f (o f)) (N : Nat) : FSound Try.prog 29 (M29 o N) :=
  FSound.sub (runFn_ok (an := (.s .n (some (lvOf [0, 1, 2, 3])) A29_9)) (fuel := N) hmix ho (by kernel_rfl) (by kernel_rfl)) (M29_run o N)
/-! 46 ostinato/ostinatoref12.twice -/
def M46_0 (o : Orc) (N : Nat) (J : Nat → Heap → Ans) (κ : Kv) (x0 : List V) (H : Heap) : Ans :=
  cond (List.all x0 V.one) (
  newB H (.row x0) fun i1 H2 =>
  J i1 H2) none
theorem M46_0_ok {o : Orc} {N : Nat} {κ : Kv} {J : Kt} {J' : Nat → Heap → Ans} (hJ : ∀ x1 H, J (tmk 0 52 [(1, .ptr x1 0)]) H = J' x1 H) (x0 : List V) (H : Heap) :
    run Try.prog o N (cAt Try.f46 [0]) .n (env0 Try.prog Try.f46 κ) (tmk 0 52 [(0, .agg x0)]) H (kj [1] J) = M46_0 o N J' κ x0 H := by
  obtain rfl := fx2 hJ
  kernel_rfl
def M46_1 (o : Orc) (N : Nat) (J : Nat → Int → Heap → Ans) (κ : Kv) (x1 : Nat) (H : Heap) : Ans :=
  J x1 0 H
theorem M46_1_ok {o : Orc} {N : Nat} {κ : Kv} {J : Kt} {J' : Nat → Int → Heap → Ans} (hJ : ∀ x1 x4 H, J (tmk 0 52 [(1, .ptr x1 0), (4, .int .i64 x4)]) H = J' x1 x4 H) (x1 : Nat) (H : Heap) :
    run Try.prog o N (cAt Try.f46 [1, 0, 0]) .n (env0 Try.prog Try.f46 κ) (tmk 0 52 [(1, .ptr x1 0)]) H (kj [1, 4] J) = M46_1 o N J' κ x1 H := by
  obtain rfl := fx3 hJ
  kernel_rfl
def A46_2 : An := (.s .n none (.s (.b none (.s (.d [0, 1, 2, 3, 4, 5, 7, 6, 8]) none .n)) none .n))
def M46_3 (o : Orc) (N : Nat) (X0 : Nat → Heap → Ans) (J : Nat → Int → Heap → Ans) (κ : Kv) (x1 : Nat) (x4 : Int) (H : Heap) : Ans :=
  (ldV H x1 8).bind fun v3 =>
  lenS v3 fun n4 =>
  cond (decide (x4 < n4)) (
  ldFlat (Heap.skip H 9) x1 [.int .i64, .int .i64, .int .i64, .int .i64, .int .i64, .int .i64, .int .i64, .int .u32, .oth, .oth, .oth] 0 fun l5 =>
  (ldV (Heap.skip H 9) x1 8).bind fun v6 =>
  idxS 1 v6 x4 fun p7 o8 =>
  (ldI (Heap.skip H 9) .i64 p7 o8).bind fun n9 =>
  o 41 [(.agg l5), (.int .i64 n9)] (Heap.skip H 9) fun v10 H11 =>
  asI .i64 v10 fun n12 =>
  cond (decide (n12 < x4)) (
  κ (.tup [(.int .i64 x4), (.int .i64 142)]) H11) (
  J x1 (IntKind.i64.wrap (x4 + 1)) H11)) (
  X0 x1 H)
theorem M46_3_ok {o : Orc} {N : Nat} {κ : Kv} {X0 J : Kt} {X0' : Nat → Heap → Ans} {J' : Nat → Int → Heap → Ans} (h0 : ∀ x1 H, X0 (tmk 0 52 [(1, .ptr x1 0)]) H = X0' x1 H) (hJ : ∀ x1 x4 H, J (tmk 0 52 [(1, .ptr x1 0), (4, .int .i64 x4)]) H = J' x1 x4 H) (x1 : Nat) (x4 : Int) (H : Heap) :
    run Try.prog o N (cAt Try.f46 [1, 0, 1, 4, 4]) A46_2 ((env0 Try.prog Try.f46 κ).block 0 (kj [1] X0)) (tmk 0 52 [(1, .ptr x1 0), (4, .int .i64 x4)]) H (kj [1, 4] J) = M46_3 o N X0' J' κ x1 x4 H := by
  obtain rfl := fx2 h0
  obtain rfl := fx3 hJ
  kernel_rfl
def M46_4 (o : Orc) (N : Nat) (X0 : Nat → Heap → Ans) (κ : Kv) (n : Nat) : Nat → Int → Heap → Ans :=
  Nat.rec (motive := fun _ => Nat → Int → Heap → Ans) (fun _ _ _ => none) (fun _ ih x1 x4 H => M46_3 o N X0 ih κ x1 x4 H) n
theorem M46_4_s (o : Orc) (N : Nat) (X0 : Nat → Heap → Ans) (κ : Kv) (n : Nat) (x1 : Nat) (x4 : Int) (H : Heap) : M46_4 o N X0 κ (n + 1) x1 x4 H = M46_3 o N X0 (M46_4 o N X0 κ n) κ x1 x4 H := rfl
theorem M46_4_ok {o : Orc} {N : Nat} {κ : Kv} {X0 : Kt} {X0' : Nat → Heap → Ans} (h0 : ∀ x1 H, X0 (tmk 0 52 [(1, .ptr x1 0)]) H = X0' x1 H) (n : Nat) : ∀ (x1 : Nat) (x4 : Int) (H : Heap),
    rounds (fun a H k => run Try.prog o N (cAt Try.f46 [1, 0, 1, 4, 4]) A46_2 ((env0 Try.prog Try.f46 κ).block 0 (kj [1] X0)) a H k) (some (lvOf [1, 4])) n (tmk 0 52 [(1, .ptr x1 0), (4, .int .i64 x4)]) H = M46_4 o N X0' κ n x1 x4 H := by
  induction n with
  | zero => intros; rfl
  | succ n ih =>
    intro x1 x4 H
    refine (run_round.trans ?_).trans (M46_4_s ..).symm
    exact M46_3_ok h0 ih x1 x4 H
def A46_5 : An := .s .n (some (lvOf [1, 4])) (.b none (.l (some (lvOf [1, 4])) A46_2))
def M46_6 (o : Orc) (N : Nat) (J : Nat → Int → Heap → Ans) (κ : Kv) (x1 : Nat) (H : Heap) : Ans :=
  J x1 0 H
theorem M46_6_ok {o : Orc} {N : Nat} {κ : Kv} {J : Kt} {J' : Nat → Int → Heap → Ans} (hJ : ∀ x1 x5 H, J (tmk 0 52 [(1, .ptr x1 0), (5, .int .i64 x5)]) H = J' x1 x5 H) (x1 : Nat) (H : Heap) :
    run Try.prog o N (cAt Try.f46 [1, 1, 0, 0]) .n (env0 Try.prog Try.f46 κ) (tmk 0 52 [(1, .ptr x1 0)]) H (kj [1, 5] J) = M46_6 o N J' κ x1 H := by
  obtain rfl := fx3 hJ
  kernel_rfl
def M46_7 (o : Orc) (N : Nat) (X2 : Heap → Ans) (J : Nat → Int → Heap → Ans) (κ : Kv) (x1 : Nat) (x5 : Int) (H : Heap) : Ans :=
  (ldV H x1 9).bind fun v13 =>
  lenS v13 fun n14 =>
  cond (decide (x5 < n14)) (
  (ldV H x1 9).bind fun v15 =>
  idxS 3 v15 x5 fun p16 o17 =>
  (ldI H .u32 p16 (o17 + 0)).bind fun n18 =>
  ldFlat H x1 [.int .i64, .int .i64, .int .i64, .int .i64, .int .i64, .int .i64, .int .i64, .int .u32, .oth, .oth, .oth] 0 fun l19 =>
  o 68 [(.agg l19), (.agg [(.bool false), (.int .u32 n18), (.bool false), (.str [])])] H fun v20 H21 =>
  asI .i64 v20 fun n22 =>
  cond (decide (n22 < x5)) (
  κ (.tup [(.int .i64 x5), (.int .i64 142)]) H21) (
  (ldI H21 .u32 x1 7).bind fun n23 =>
  cond ((IntKind.u32.wrap (Int.tdiv n18 8)) == (IntKind.u32.wrap (Int.tdiv n23 8))) (
  κ (.tup [(.int .i64 x5), (.int .i64 142)]) H21) (
  J x1 (IntKind.i64.wrap (x5 + 1)) H21))) (
  X2  H)
theorem M46_7_ok {o : Orc} {N : Nat} {κ : Kv} {X2 J : Kt} {X2' : Heap → Ans} {J' : Nat → Int → Heap → Ans} (h2 : ∀  H, X2 (tmk 0 52 []) H = X2' H) (hJ : ∀ x1 x5 H, J (tmk 0 52 [(1, .ptr x1 0), (5, .int .i64 x5)]) H = J' x1 x5 H) (x1 : Nat) (x5 : Int) (H : Heap) :
    run Try.prog o N (cAt Try.f46 [1, 1, 0, 1, 4, 4]) .n ((env0 Try.prog Try.f46 κ).block 2 (kj [] X2)) (tmk 0 52 [(1, .ptr x1 0), (5, .int .i64 x5)]) H (kj [1, 5] J) = M46_7 o N X2' J' κ x1 x5 H := by
  obtain rfl := fx1 h2
  obtain rfl := fx3 hJ
  kernel_rfl
def M46_8 (o : Orc) (N : Nat) (X2 : Heap → Ans) (κ : Kv) (n : Nat) : Nat → Int → Heap → Ans :=
  Nat.rec (motive := fun _ => Nat → Int → Heap → Ans) (fun _ _ _ => none) (fun _ ih x1 x5 H => M46_7 o N X2 ih κ x1 x5 H) n
theorem M46_8_s (o : Orc) (N : Nat) (X2 : Heap → Ans) (κ : Kv) (n : Nat) (x1 : Nat) (x5 : Int) (H : Heap) : M46_8 o N X2 κ (n + 1) x1 x5 H = M46_7 o N X2 (M46_8 o N X2 κ n) κ x1 x5 H := rfl
theorem M46_8_ok {o : Orc} {N : Nat} {κ : Kv} {X2 : Kt} {X2' : Heap → Ans} (h2 : ∀  H, X2 (tmk 0 52 []) H = X2' H) (n : Nat) : ∀ (x1 : Nat) (x5 : Int) (H : Heap),
    rounds (fun a H k => run Try.prog o N (cAt Try.f46 [1, 1, 0, 1, 4, 4]) .n ((env0 Try.prog Try.f46 κ).block 2 (kj [] X2)) a H k) (some (lvOf [1, 5])) n (tmk 0 52 [(1, .ptr x1 0), (5, .int .i64 x5)]) H = M46_8 o N X2' κ n x1 x5 H := by
  induction n with
  | zero => intros; rfl
  | succ n ih =>
    intro x1 x5 H
    refine (run_round.trans ?_).trans (M46_8_s ..).symm
    exact M46_7_ok h2 ih x1 x5 H
def A46_9 : An := .s .n (some (lvOf [1, 5])) (.b none (.l (some (lvOf [1, 5])) .n))
def M46_10 (o : Orc) (N : Nat) (κ : Kv) (H : Heap) : Ans :=
  κ (.tup [(.int .i64 0), (.int .i64 0)]) H
theorem M46_10_ok {o : Orc} {N : Nat} {κ : Kv} (H : Heap) :
    run Try.prog o N (cAt Try.f46 [1, 1, 1]) .n (env0 Try.prog Try.f46 κ) (tmk 0 52 []) H (env0 Try.prog Try.f46 κ).ret = M46_10 o N κ  H := by
  kernel_rfl
def A46_11 : An := .s A46_5 (some (lvOf [1])) (.s A46_9 (some (lvOf [])) .n)
def M46 (o : Orc) (N : Nat) : FnM := fun vs H κ => match vs with
  | [.agg x0] => M46_0 o N (fun x1 H => M46_1 o N (fun x1 x4 H => M46_4 o N (fun x1 H => M46_6 o N (fun x1 x5 H => M46_8 o N (fun H => M46_10 o N κ  H) κ N x1 x5 H) κ x1 H) κ N x1 x4 H) κ x1 H) κ x0 H
  | _ => none
theorem M46_run (o : Orc) (N : Nat) (vs : List V) (H : Heap) (κ : Kv) (r) (h : M46 o N vs H κ = some r) : runFn Try.prog o N Try.f46 (.s .n (some (lvOf [1])) A46_11) vs H κ = some r := by
  unfold M46 at h
  split at h
  · rename_i x0
    refine (runFn_at (t := tmk 0 52 [(0, .agg x0)]) (by kernel_rfl) (by kernel_rfl)).trans (Eq.trans ?_ h)
    refine (run_seq (x := (cAt Try.f46 [0])) (ax := .n) (y := (cAt Try.f46 [1])) (ay := A46_11) (l := [1]) (by kernel_rfl) (by kernel_rfl)).trans ?_
    refine M46_0_ok ?_ x0 H
    intro x1 H
    refine (run_seq (x := (cAt Try.f46 [1, 0])) (ax := A46_5) (y := (cAt Try.f46 [1, 1])) (ay := (.s A46_9 (some (lvOf [])) .n)) (l := [1]) (by kernel_rfl) (by kernel_rfl)).trans ?_
    refine (run_seq (x := (cAt Try.f46 [1, 0, 0])) (ax := .n) (y := (cAt Try.f46 [1, 0, 1])) (ay := (.b none (.l (some (lvOf [1, 4])) A46_2))) (l := [1, 4]) (by kernel_rfl) (by kernel_rfl)).trans ?_
    refine M46_1_ok ?_ x1 H
    intro x1 x4 H
    refine (run_block (id := 0) (x := (cAt Try.f46 [1, 0, 1, 4])) (ax := (.l (some (lvOf [1, 4])) A46_2)) (by kernel_rfl) (by kernel_rfl)).trans ?_
    refine (run_loop (x := (cAt Try.f46 [1, 0, 1, 4, 4])) (ax := A46_2) (l := [1, 4]) (by kernel_rfl) (by kernel_rfl) (by kernel_rfl)).trans ?_
    refine M46_4_ok ?_ N x1 x4 H
    intro x1 H
    refine (run_seq (x := (cAt Try.f46 [1, 1, 0])) (ax := A46_9) (y := (cAt Try.f46 [1, 1, 1])) (ay := .n) (l := []) (by kernel_rfl) (by kernel_rfl)).trans ?_
    refine (run_seq (x := (cAt Try.f46 [1, 1, 0, 0])) (ax := .n) (y := (cAt Try.f46 [1, 1, 0, 1])) (ay := (.b none (.l (some (lvOf [1, 5])) .n))) (l := [1, 5]) (by kernel_rfl) (by kernel_rfl)).trans ?_
    refine M46_6_ok ?_ x1 H
    intro x1 x5 H
    refine (run_block (id := 2) (x := (cAt Try.f46 [1, 1, 0, 1, 4])) (ax := (.l (some (lvOf [1, 5])) .n)) (by kernel_rfl) (by kernel_rfl)).trans ?_
    refine (run_loop (x := (cAt Try.f46 [1, 1, 0, 1, 4, 4])) (ax := .n) (l := [1, 5]) (by kernel_rfl) (by kernel_rfl) (by kernel_rfl)).trans ?_
    refine M46_8_ok ?_ N x1 x5 H
    intro H
    exact M46_10_ok  H
  · cases h
theorem M46_sound {o : Orc} (ho : ∀ f, FSound Try.prog f (o f)) (N : Nat) : FSound Try.prog 46 (M46 o N) :=
  FSound.sub (runFn_ok (an := (.s .n (some (lvOf [1])) A46_11)) (fuel := N) hmix ho (by kernel_rfl) (by kernel_rfl)) (M46_run o N)
/-! 47 ostinato/ostinatoref12.window -/
def M47_0 (o : Orc) (N : Nat) (J : Int → Nat → Heap → Ans) (κ : Kv) (x0 : List V) (x1 : Int) (H : Heap) : Ans :=
  cond (List.all x0 V.one) (
  newB H (.row x0) fun i1 H2 =>
  J x1 i1 H2) none
theorem M47_0_ok {o : Orc} {N : Nat} {κ : Kv} {J : Kt} {J' : Int → Nat → Heap → Ans} (hJ : ∀ x1 x2 H, J (tmk 0 61 [(1, .int .i64 x1), (2, .ptr x2 0)]) H = J' x1 x2 H) (x0 : List V) (x1 : Int) (H : Heap) :
    run Try.prog o N (cAt Try.f47 [0]) .n (env0 Try.prog Try.f47 κ) (tmk 0 61 [(0, .agg x0), (1, .int .i64 x1)]) H (kj [1, 2] J) = M47_0 o N J' κ x0 x1 H := by
  obtain rfl := fx3 hJ
  kernel_rfl
def M47_1 (o : Orc) (N : Nat) (J : Int → Nat → Nat → Heap → Ans) (κ : Kv) (x1 : Int) (x2 : Nat) (H : Heap) : Ans :=
  (ldV H x2 10).bind fun v3 =>
  idxS 6 v3 x1 fun p4 o5 =>
  ldFlat H p4 [.int .i64, .int .i64, .int .i64, .int .i64, .int .i64, .int .i64] o5 fun l6 =>
  newB H (.row [(.int .i64 0), (.int .i64 0), (.int .i64 0), (.int .i64 0), (.int .i64 0), (.int .i64 0)]) fun i7 H8 =>
  cond (Nat.beq (List.length l6) 6 && Nat.blt 0 6) (
  (stN H8 i7 0 l6).bind fun H9 =>
  J x1 x2 i7 H9) none
theorem M47_1_ok {o : Orc} {N : Nat} {κ : Kv} {J : Kt} {J' : Int → Nat → Nat → Heap → Ans} (hJ : ∀ x1 x2 x5 H, J (tmk 0 61 [(1, .int .i64 x1), (2, .ptr x2 0), (5, .ptr x5 0)]) H = J' x1 x2 x5 H) (x1 : Int) (x2 : Nat) (H : Heap) :
    run Try.prog o N (cAt Try.f47 [1, 0]) .n (env0 Try.prog Try.f47 κ) (tmk 0 61 [(1, .int .i64 x1), (2, .ptr x2 0)]) H (kj [1, 2, 5] J) = M47_1 o N J' κ x1 x2 H := by
  obtain rfl := fx4 hJ
  kernel_rfl
def M47_2 (o : Orc) (N : Nat) (J : Int → Nat → Nat → Heap → Ans) (κ : Kv) (x1 : Int) (x2 x5 : Nat) (H : Heap) : Ans :=
  (ldI H .i64 x5 0).bind fun n10 =>
  cond (n10 == 1) (
  (ldI H .i64 x5 5).bind fun n11 =>
  (ldV H x2 9).bind fun v12 =>
  lenS v12 fun n13 =>
  cond (decide (n11 ≥ n13)) (
  κ (.int .i64 145) H) (
  (ldV H x2 9).bind fun v14 =>
  (ldI H .i64 x5 5).bind fun n15 =>
  idxS 3 v14 n15 fun p16 o17 =>
  (ldB H p16 (o17 + 2)).bind fun b18 =>
  cond b18 (
  κ (.int .i64 145) H) (
  J x1 x2 x5 H))) (
  J x1 x2 x5 H)
theorem M47_2_ok {o : Orc} {N : Nat} {κ : Kv} {J : Kt} {J' : Int → Nat → Nat → Heap → Ans} (hJ : ∀ x1 x2 x5 H, J (tmk 0 61 [(1, .int .i64 x1), (2, .ptr x2 0), (5, .ptr x5 0)]) H = J' x1 x2 x5 H) (x1 : Int) (x2 x5 : Nat) (H : Heap) :
    run Try.prog o N (cAt Try.f47 [1, 1, 0]) .n (env0 Try.prog Try.f47 κ) (tmk 0 61 [(1, .int .i64 x1), (2, .ptr x2 0), (5, .ptr x5 0)]) H (kj [1, 2, 5] J) = M47_2 o N J' κ x1 x2 x5 H := by
  obtain rfl := fx4 hJ
  kernel_rfl
def A47_3 : An := (.s (.d [0, 1, 2, 3, 4, 5, 6, 7, 8, 9, 10, 11, 12, 13, 14, 15, 16, 17, 18, 19]) none .n)
def M47_4 (o : Orc) (N : Nat) (J : Int → Nat → Heap → Ans) (κ : Kv) (x1 : Int) (x2 x5 : Nat) (H : Heap) : Ans :=
  (ldI (Heap.skip H 20) .i64 x5 1).bind fun n19 =>
  ldFlat (Heap.skip H 20) x2 [.int .i64, .int .i64, .int .i64, .int .i64, .int .i64, .int .i64, .int .i64, .int .u32, .oth, .oth, .oth] 0 fun l20 =>
  o 39 [(.agg l20)] (Heap.skip H 20) fun v21 H22 =>
  asI .i64 v21 fun n23 =>
  (ldI H22 .i64 x5 1).bind fun n24 =>
  cond (decide (n19 = n24)) (
  cond (decide (n19 < n23)) (
  κ (.int .i64 144) H22) (
  (ldI H22 .i64 x5 0).bind fun n25 =>
  cond (n25 != 3) (
  (ldI H22 .i64 x5 2).bind fun n26 =>
  (ldI H22 .i64 x5 1).bind fun n27 =>
  ldFlat H22 x2 [.int .i64, .int .i64, .int .i64, .int .i64, .int .i64, .int .i64, .int .i64, .int .u32, .oth, .oth, .oth] 0 fun l28 =>
  o 39 [(.agg l28)] H22 fun v29 H30 =>
  asI .i64 v29 fun n31 =>
  (ldI H30 .i64 x5 1).bind fun n32 =>
  cond (decide (n27 = n32)) (
  (ldI H30 .i64 x5 2).bind fun n33 =>
  cond (decide (n26 = n33)) (
  cond (decide ((IntKind.i64.wrap (n26 - n27)) < n31)) (
  κ (.int .i64 144) H30) (
  J x1 x2 H30)) none) none) (
  J x1 x2 H22))) none
theorem M47_4_ok {o : Orc} {N : Nat} {κ : Kv} {J : Kt} {J' : Int → Nat → Heap → Ans} (hJ : ∀ x1 x2 H, J (tmk 0 61 [(1, .int .i64 x1), (2, .ptr x2 0)]) H = J' x1 x2 H) (x1 : Int) (x2 x5 : Nat) (H : Heap) :
    run Try.prog o N (cAt Try.f47 [1, 1, 1, 0]) A47_3 (env0 Try.prog Try.f47 κ) (tmk 0 61 [(1, .int .i64 x1), (2, .ptr x2 0), (5, .ptr x5 0)]) H (kj [1, 2] J) = M47_4 o N J' κ x1 x2 x5 H := by
  obtain rfl := fx3 hJ
  kernel_rfl
def M47_5 (o : Orc) (N : Nat) (J : Int → Nat → Int → Heap → Ans) (κ : Kv) (x1 : Int) (x2 : Nat) (H : Heap) : Ans :=
  J x1 x2 0 H
theorem M47_5_ok {o : Orc} {N : Nat} {κ : Kv} {J : Kt} {J' : Int → Nat → Int → Heap → Ans} (hJ : ∀ x1 x2 x6 H, J (tmk 0 61 [(1, .int .i64 x1), (2, .ptr x2 0), (6, .int .i64 x6)]) H = J' x1 x2 x6 H) (x1 : Int) (x2 : Nat) (H : Heap) :
    run Try.prog o N (cAt Try.f47 [1, 1, 1, 1, 0, 0]) .n (env0 Try.prog Try.f47 κ) (tmk 0 61 [(1, .int .i64 x1), (2, .ptr x2 0)]) H (kj [1, 2, 6] J) = M47_5 o N J' κ x1 x2 H := by
  obtain rfl := fx4 hJ
  kernel_rfl
def M47_6 (o : Orc) (N : Nat) (X0 : Heap → Ans) (J : Int → Nat → Int → Heap → Ans) (κ : Kv) (x1 : Int) (x2 : Nat) (x6 : Int) (H : Heap) : Ans :=
  cond (decide (x6 < x1)) (
  ldFlat H x2 [.int .i64, .int .i64, .int .i64, .int .i64, .int .i64, .int .i64, .int .i64, .int .u32, .oth, .oth, .oth] 0 fun l34 =>
  o 69 [(.agg l34), (.int .i64 x6), (.int .i64 x1)] H fun v35 H36 =>
  asB v35 fun b37 =>
  cond b37 (
  κ (.int .i64 143) H36) (
  J x1 x2 (IntKind.i64.wrap (x6 + 1)) H36)) (
  X0  H)
theorem M47_6_ok {o : Orc} {N : Nat} {κ : Kv} {X0 J : Kt} {X0' : Heap → Ans} {J' : Int → Nat → Int → Heap → Ans} (h0 : ∀  H, X0 (tmk 0 61 []) H = X0' H) (hJ : ∀ x1 x2 x6 H, J (tmk 0 61 [(1, .int .i64 x1), (2, .ptr x2 0), (6, .int .i64 x6)]) H = J' x1 x2 x6 H) (x1 : Int) (x2 : Nat) (x6 : Int) (H : Heap) :
    run Try.prog o N (cAt Try.f47 [1, 1, 1, 1, 0, 1, 4, 4]) .n ((env0 Try.prog Try.f47 κ).block 0 (kj [] X0)) (tmk 0 61 [(1, .int .i64 x1), (2, .ptr x2 0), (6, .int .i64 x6)]) H (kj [1, 2, 6] J) = M47_6 o N X0' J' κ x1 x2 x6 H := by
  obtain rfl := fx1 h0
  obtain rfl := fx4 hJ
  kernel_rfl
def M47_7 (o : Orc) (N : Nat) (X0 : Heap → Ans) (κ : Kv) (n : Nat) : Int → Nat → Int → Heap → Ans :=
  Nat.rec (motive := fun _ => Int → Nat → Int → Heap → Ans) (fun _ _ _ _ => none) (fun _ ih x1 x2 x6 H => M47_6 o N X0 ih κ x1 x2 x6 H) n
theorem M47_7_s (o : Orc) (N : Nat) (X0 : Heap → Ans) (κ : Kv) (n : Nat) (x1 : Int) (x2 : Nat) (x6 : Int) (H : Heap) : M47_7 o N X0 κ (n + 1) x1 x2 x6 H = M47_6 o N X0 (M47_7 o N X0 κ n) κ x1 x2 x6 H := rfl
theorem M47_7_ok {o : Orc} {N : Nat} {κ : Kv} {X0 : Kt} {X0' : Heap → Ans} (h0 : ∀  H, X0 (tmk 0 61 []) H = X0' H) (n : Nat) : ∀ (x1 : Int) (x2 : Nat) (x6 : Int) (H : Heap),
    rounds (fun a H k => run Try.prog o N (cAt Try.f47 [1, 1, 1, 1, 0, 1, 4, 4]) .n ((env0 Try.prog Try.f47 κ).block 0 (kj [] X0)) a H k) (some (lvOf [1, 2, 6])) n (tmk 0 61 [(1, .int .i64 x1), (2, .ptr x2 0), (6, .int .i64 x6)]) H = M47_7 o N X0' κ n x1 x2 x6 H := by
  induction n with
  | zero => intros; rfl
  | succ n ih =>
    intro x1 x2 x6 H
    refine (run_round.trans ?_).trans (M47_7_s ..).symm
    exact M47_6_ok h0 ih x1 x2 x6 H
def A47_8 : An := .s .n (some (lvOf [1, 2, 6])) (.b none (.l (some (lvOf [1, 2, 6])) .n))
def M47_9 (o : Orc) (N : Nat) (κ : Kv) (H : Heap) : Ans :=
  κ (.int .i64 0) H
theorem M47_9_ok {o : Orc} {N : Nat} {κ : Kv} (H : Heap) :
    run Try.prog o N (cAt Try.f47 [1, 1, 1, 1, 1]) .n (env0 Try.prog Try.f47 κ) (tmk 0 61 []) H (env0 Try.prog Try.f47 κ).ret = M47_9 o N κ  H := by
  kernel_rfl
def A47_10 : An := .s A47_3 (some (lvOf [1, 2])) (.s A47_8 (some (lvOf [])) .n)
def A47_11 : An := .s .n (some (lvOf [1, 2, 5])) (.s .n (some (lvOf [1, 2, 5])) A47_10)
def M47 (o : Orc) (N : Nat) : FnM := fun vs H κ => match vs with
  | [.agg x0, .int .i64 x1] => M47_0 o N (fun x1 x2 H => M47_1 o N (fun x1 x2 x5 H => M47_2 o N (fun x1 x2 x5 H => M47_4 o N (fun x1 x2 H => M47_5 o N (fun x1 x2 x6 H => M47_7 o N (fun H => M47_9 o N κ  H) κ N x1 x2 x6 H) κ x1 x2 H) κ x1 x2 x5 H) κ x1 x2 x5 H) κ x1 x2 H) κ x0 x1 H
  | _ => none
theorem M47_run (o : Orc) (N : Nat) (vs : List V) (H : Heap) (κ : Kv) (r) (h : M47 o N vs H κ = some r) : runFn Try.prog o N Try.f47 (.s .n (some (lvOf [1, 2])) A47_11) vs H κ = some r := by
  unfold M47 at h
  split at h
  · rename_i x0 x1
    refine (runFn_at (t := tmk 0 61 [(0, .agg x0), (1, .int .i64 x1)]) (by kernel_rfl) (by kernel_rfl)).trans (Eq.trans ?_ h)
    refine (run_seq (x := (cAt Try.f47 [0])) (ax := .n) (y := (cAt Try.f47 [1])) (ay := A47_11) (l := [1, 2]) (by kernel_rfl) (by kernel_rfl)).trans ?_
    refine M47_0_ok ?_ x0 x1 H
    intro x1 x2 H
    refine (run_seq (x := (cAt Try.f47 [1, 0])) (ax := .n) (y := (cAt Try.f47 [1, 1])) (ay := (.s .n (some (lvOf [1, 2, 5])) A47_10)) (l := [1, 2, 5]) (by kernel_rfl) (by kernel_rfl)).trans ?_
    refine M47_1_ok ?_ x1 x2 H
    intro x1 x2 x5 H
    refine (run_seq (x := (cAt Try.f47 [1, 1, 0])) (ax := .n) (y := (cAt Try.f47 [1, 1, 1])) (ay := A47_10) (l := [1, 2, 5]) (by kernel_rfl) (by kernel_rfl)).trans ?_
    refine M47_2_ok ?_ x1 x2 x5 H
    intro x1 x2 x5 H
    refine (run_seq (x := (cAt Try.f47 [1, 1, 1, 0])) (ax := A47_3) (y := (cAt Try.f47 [1, 1, 1, 1])) (ay := (.s A47_8 (some (lvOf [])) .n)) (l := [1, 2]) (by kernel_rfl) (by kernel_rfl)).trans ?_
    refine M47_4_ok ?_ x1 x2 x5 H
    intro x1 x2 H
    refine (run_seq (x := (cAt Try.f47 [1, 1, 1, 1, 0])) (ax := A47_8) (y := (cAt Try.f47 [1, 1, 1, 1, 1])) (ay := .n) (l := []) (by kernel_rfl) (by kernel_rfl)).trans ?_
    refine (run_seq (x := (cAt Try.f47 [1, 1, 1, 1, 0, 0])) (ax := .n) (y := (cAt Try.f47 [1, 1, 1, 1, 0, 1])) (ay := (.b none (.l (some (lvOf [1, 2, 6])) .n))) (l := [1, 2, 6]) (by kernel_rfl) (by kernel_rfl)).trans ?_
    refine M47_5_ok ?_ x1 x2 H
    intro x1 x2 x6 H
    refine (run_block (id := 0) (x := (cAt Try.f47 [1, 1, 1, 1, 0, 1, 4])) (ax := (.l (some (lvOf [1, 2, 6])) .n)) (by kernel_rfl) (by kernel_rfl)).trans ?_
    refine (run_loop (x := (cAt Try.f47 [1, 1, 1, 1, 0, 1, 4, 4])) (ax := .n) (l := [1, 2, 6]) (by kernel_rfl) (by kernel_rfl) (by kernel_rfl)).trans ?_
    refine M47_7_ok ?_ N x1 x2 x6 H
    intro H
    exact M47_9_ok  H
  · cases h
theorem M47_sound {o : Orc} (ho : ∀ f, FSound Try.prog f (o f)) (N : Nat) : FSound Try.prog 47 (M47 o N) :=
  FSound.sub (runFn_ok (an := (.s .n (some (lvOf [1, 2])) A47_11)) (fuel := N) hmix ho (by kernel_rfl) (by kernel_rfl)) (M47_run o N)
/-! 55 slices.stableCmpFunc[ostinato/api.Trigger] -/
def M55_0 (o : Orc) (N : Nat) (J : V → Int → V → Int → Heap → Ans) (κ : Kv) (x0 : V) (x1 : Int) (x2 : V) (H : Heap) : Ans :=
  J x0 x1 x2 20 H
theorem M55_0_ok {o : Orc} {N : Nat} {κ : Kv} {J : Kt} {J' : V → Int → V → Int → Heap → Ans} (hJ : ∀ x0 x1 x2 x6 H, J (tmk 0 63 [(0, x0), (1, .int .i64 x1), (2, x2), (6, .int .i64 x6)]) H = J' x0 x1 x2 x6 H) (x0 : V) (x1 : Int) (x2 : V) (H : Heap) :
    run Try.prog o N (cAt Try.f55 [0]) .n (env0 Try.prog Try.f55 κ) (tmk 0 63 [(0, x0), (1, .int .i64 x1), (2, x2)]) H (kj [0, 1, 2, 6] J) = M55_0 o N J' κ x0 x1 x2 H := by
  obtain rfl := fx5 hJ
  kernel_rfl
def M55_1 (o : Orc) (N : Nat) (J : V → Int → V → Int → Int → Int → Heap → Ans) (κ : Kv) (x0 : V) (x1 : Int) (x2 : V) (x6 : Int) (H : Heap) : Ans :=
  J x0 x1 x2 x6 0 x6 H
theorem M55_1_ok {o : Orc} {N : Nat} {κ : Kv} {J : Kt} {J' : V → Int → V → Int → Int → Int → Heap → Ans} (hJ : ∀ x0 x1 x2 x6 x7 x8 H, J (tmk 0 63 [(0, x0), (1, .int .i64 x1), (2, x2), (6, .int .i64 x6), (7, .int .i64 x7), (8, .int .i64 x8)]) H = J' x0 x1 x2 x6 x7 x8 H) (x0 : V) (x1 : Int) (x2 : V) (x6 : Int) (H : Heap) :
    run Try.prog o N (cAt Try.f55 [1, 0]) .n (env0 Try.prog Try.f55 κ) (tmk 0 63 [(0, x0), (1, .int .i64 x1), (2, x2), (6, .int .i64 x6)]) H (kj [0, 1, 2, 6, 7, 8] J) = M55_1 o N J' κ x0 x1 x2 x6 H := by
  obtain rfl := fx7 hJ
  kernel_rfl
def M55_2 (o : Orc) (N : Nat) (X0 : V → Int → V → Int → Int → Heap → Ans) (J : V → Int → V → Int → Int → Int → Heap → Ans) (κ : Kv) (x0 : V) (x1 : Int) (x2 : V) (x6 x7 x8 : Int) (H : Heap) : Ans :=
  cond (decide (x8 ≤ x1)) (
  o 77 [x0, (.int .i64 x7), (.int .i64 x8), x2] H fun v1 H2 =>
  asT0 v1 (
  J x0 x1 x2 x6 x8 (IntKind.i64.wrap (x8 + x6)) H2)) (
  X0 x0 x1 x2 x6 x7 H)
theorem M55_2_ok {o : Orc} {N : Nat} {κ : Kv} {X0 J : Kt} {X0' : V → Int → V → Int → Int → Heap → Ans} {J' : V → Int → V → Int → Int → Int → Heap → Ans} (h0 : ∀ x0 x1 x2 x6 x7 H, X0 (tmk 0 63 [(0, x0), (1, .int .i64 x1), (2, x2), (6, .int .i64 x6), (7, .int .i64 x7)]) H = X0' x0 x1 x2 x6 x7 H) (hJ : ∀ x0 x1 x2 x6 x7 x8 H, J (tmk 0 63 [(0, x0), (1, .int .i64 x1), (2, x2), (6, .int .i64 x6), (7, .int .i64 x7), (8, .int .i64 x8)]) H = J' x0 x1 x2 x6 x7 x8 H) (x0 : V) (x1 : Int) (x2 : V) (x6 x7 x8 : Int) (H : Heap) :
    run Try.prog o N (cAt Try.f55 [1, 1, 0, 4, 4]) .n ((env0 Try.prog Try.f55 κ).block 0 (kj [0, 1, 2, 6, 7] X0)) (tmk 0 63 [(0, x0), (1, .int .i64 x1), (2, x2), (6, .int .i64 x6), (7, .int .i64 x7), (8, .int .i64 x8)]) H (kj [0, 1, 2, 6, 7, 8] J) = M55_2 o N X0' J' κ x0 x1 x2 x6 x7 x8 H := by
  obtain rfl := fx6 h0
  obtain rfl := fx7 hJ
  kernel_rfl
def M55_3 (o : Orc) (N : Nat) (X0 : V → Int → V → Int → Int → Heap → Ans) (κ : Kv) (n : Nat) : V → Int → V → Int → Int → Int → Heap → Ans :=
  Nat.rec (motive := fun _ => V → Int → V → Int → Int → Int → Heap → Ans) (fun _ _ _ _ _ _ _ => none) (fun _ ih x0 x1 x2 x6 x7 x8 H => M55_2 o N X0 ih κ x0 x1 x2 x6 x7 x8 H) n
theorem M55_3_s (o : Orc) (N : Nat) (X0 : V → Int → V → Int → Int → Heap → Ans) (κ : Kv) (n : Nat) (x0 : V) (x1 : Int) (x2 : V) (x6 x7 x8 : Int) (H : Heap) : M55_3 o N X0 κ (n + 1) x0 x1 x2 x6 x7 x8 H = M55_2 o N X0 (M55_3 o N X0 κ n) κ x0 x1 x2 x6 x7 x8 H := rfl
theorem M55_3_ok {o : Orc} {N : Nat} {κ : Kv} {X0 : Kt} {X0' : V → Int → V → Int → Int → Heap → Ans} (h0 : ∀ x0 x1 x2 x6 x7 H, X0 (tmk 0 63 [(0, x0), (1, .int .i64 x1), (2, x2), (6, .int .i64 x6), (7, .int .i64 x7)]) H = X0' x0 x1 x2 x6 x7 H) (n : Nat) : ∀ (x0 : V) (x1 : Int) (x2 : V) (x6 x7 x8 : Int) (H : Heap),
    rounds (fun a H k => run Try.prog o N (cAt Try.f55 [1, 1, 0, 4, 4]) .n ((env0 Try.prog Try.f55 κ).block 0 (kj [0, 1, 2, 6, 7] X0)) a H k) (some (lvOf [0, 1, 2, 6, 7, 8])) n (tmk 0 63 [(0, x0), (1, .int .i64 x1), (2, x2), (6, .int .i64 x6), (7, .int .i64 x7), (8, .int .i64 x8)]) H = M55_3 o N X0' κ n x0 x1 x2 x6 x7 x8 H := by
  induction n with
  | zero => intros; rfl
  | succ n ih =>
    intro x0 x1 x2 x6 x7 x8 H
    refine (run_round.trans ?_).trans (M55_3_s ..).symm
    exact M55_2_ok h0 ih x0 x1 x2 x6 x7 x8 H
def A55_4 : An := .b none (.l (some (lvOf [0, 1, 2, 6, 7, 8])) .n)
def M55_5 (o : Orc) (N : Nat) (J : V → Int → V → Int → Heap → Ans) (κ : Kv) (x0 : V) (x1 : Int) (x2 : V) (x6 x7 : Int) (H : Heap) : Ans :=
  o 77 [x0, (.int .i64 x7), (.int .i64 x1), x2] H fun v3 H4 =>
  asT0 v3 (
  J x0 x1 x2 x6 H4)
theorem M55_5_ok {o : Orc} {N : Nat} {κ : Kv} {J : Kt} {J' : V → Int → V → Int → Heap → Ans} (hJ : ∀ x0 x1 x2 x6 H, J (tmk 0 63 [(0, x0), (1, .int .i64 x1), (2, x2), (6, .int .i64 x6)]) H = J' x0 x1 x2 x6 H) (x0 : V) (x1 : Int) (x2 : V) (x6 x7 : Int) (H : Heap) :
    run Try.prog o N (cAt Try.f55 [1, 1, 1, 0]) .n (env0 Try.prog Try.f55 κ) (tmk 0 63 [(0, x0), (1, .int .i64 x1), (2, x2), (6, .int .i64 x6), (7, .int .i64 x7)]) H (kj [0, 1, 2, 6] J) = M55_5 o N J' κ x0 x1 x2 x6 x7 H := by
  obtain rfl := fx5 hJ
  kernel_rfl
def M55_6 (o : Orc) (N : Nat) (J : V → Int → V → Int → Heap → Ans) (κ : Kv) (x0 : V) (x1 : Int) (x2 : V) (x6 : Int) (H : Heap) : Ans :=
  cond (decide (x6 < x1)) (
  J x0 x1 x2 x6 H) (
  κ (.tup []) H)
theorem M55_6_ok {o : Orc} {N : Nat} {κ : Kv} {J : Kt} {J' : V → Int → V → Int → Heap → Ans} (hJ : ∀ x0 x1 x2 x6 H, J (tmk 0 63 [(0, x0), (1, .int .i64 x1), (2, x2), (6, .int .i64 x6)]) H = J' x0 x1 x2 x6 H) (x0 : V) (x1 : Int) (x2 : V) (x6 : Int) (H : Heap) :
    run Try.prog o N (cAt Try.f55 [1, 1, 1, 1, 4, 4, 0]) .n ((env0 Try.prog Try.f55 κ).block 2 (env0 Try.prog Try.f55 κ).ret) (tmk 0 63 [(0, x0), (1, .int .i64 x1), (2, x2), (6, .int .i64 x6)]) H (kj [0, 1, 2, 6] J) = M55_6 o N J' κ x0 x1 x2 x6 H := by
  obtain rfl := fx5 hJ
  kernel_rfl
def M55_7 (o : Orc) (N : Nat) (J : V → Int → V → Int → Int → Int → Heap → Ans) (κ : Kv) (x0 : V) (x1 : Int) (x2 : V) (x6 : Int) (H : Heap) : Ans :=
  J x0 x1 x2 x6 0 (IntKind.i64.wrap (2 * x6)) H
theorem M55_7_ok {o : Orc} {N : Nat} {κ : Kv} {X3 J : Kt} {J' : V → Int → V → Int → Int → Int → Heap → Ans} (hJ : ∀ x0 x1 x2 x6 x7 x8 H, J (tmk 0 63 [(0, x0), (1, .int .i64 x1), (2, x2), (6, .int .i64 x6), (7, .int .i64 x7), (8, .int .i64 x8)]) H = J' x0 x1 x2 x6 x7 x8 H) (x0 : V) (x1 : Int) (x2 : V) (x6 : Int) (H : Heap) :
    run Try.prog o N (cAt Try.f55 [1, 1, 1, 1, 4, 4, 1, 4, 0]) .n (((env0 Try.prog Try.f55 κ).block 2 (env0 Try.prog Try.f55 κ).ret).block 3 (kj [0, 1, 2, 6] X3)) (tmk 0 63 [(0, x0), (1, .int .i64 x1), (2, x2), (6, .int .i64 x6)]) H (kj [0, 1, 2, 6, 7, 8] J) = M55_7 o N J' κ x0 x1 x2 x6 H := by
  obtain rfl := fx7 hJ
  kernel_rfl
def M55_8 (o : Orc) (N : Nat) (X4 : V → Int → V → Int → Int → Heap → Ans) (J : V → Int → V → Int → Int → Int → Heap → Ans) (κ : Kv) (x0 : V) (x1 : Int) (x2 : V) (x6 x7 x8 : Int) (H : Heap) : Ans :=
  cond (decide (x8 ≤ x1)) (
  o 78 [x0, (.int .i64 x7), (.int .i64 (IntKind.i64.wrap (x7 + x6))), (.int .i64 x8), x2] H fun v5 H6 =>
  asT0 v5 (
  J x0 x1 x2 x6 x8 (IntKind.i64.wrap (x8 + (IntKind.i64.wrap (2 * x6)))) H6)) (
  X4 x0 x1 x2 x6 x7 H)
theorem M55_8_ok {o : Orc} {N : Nat} {κ : Kv} {X3 X4 J : Kt} {X4' : V → Int → V → Int → Int → Heap → Ans} {J' : V → Int → V → Int → Int → Int → Heap → Ans} (h4 : ∀ x0 x1 x2 x6 x7 H, X4 (tmk 0 63 [(0, x0), (1, .int .i64 x1), (2, x2), (6, .int .i64 x6), (7, .int .i64 x7)]) H = X4' x0 x1 x2 x6 x7 H) (hJ : ∀ x0 x1 x2 x6 x7 x8 H, J (tmk 0 63 [(0, x0), (1, .int .i64 x1), (2, x2), (6, .int .i64 x6), (7, .int .i64 x7), (8, .int .i64 x8)]) H = J' x0 x1 x2 x6 x7 x8 H) (x0 : V) (x1 : Int) (x2 : V) (x6 x7 x8 : Int) (H : Heap) :
    run Try.prog o N (cAt Try.f55 [1, 1, 1, 1, 4, 4, 1, 4, 1, 0, 4, 4]) .n ((((env0 Try.prog Try.f55 κ).block 2 (env0 Try.prog Try.f55 κ).ret).block 3 (kj [0, 1, 2, 6] X3)).block 4 (kj [0, 1, 2, 6, 7] X4)) (tmk 0 63 [(0, x0), (1, .int .i64 x1), (2, x2), (6, .int .i64 x6), (7, .int .i64 x7), (8, .int .i64 x8)]) H (kj [0, 1, 2, 6, 7, 8] J) = M55_8 o N X4' J' κ x0 x1 x2 x6 x7 x8 H := by
  obtain rfl := fx6 h4
  obtain rfl := fx7 hJ
  kernel_rfl
def M55_9 (o : Orc) (N : Nat) (X4 : V → Int → V → Int → Int → Heap → Ans) (κ : Kv) (n : Nat) : V → Int → V → Int → Int → Int → Heap → Ans :=
  Nat.rec (motive := fun _ => V → Int → V → Int → Int → Int → Heap → Ans) (fun _ _ _ _ _ _ _ => none) (fun _ ih x0 x1 x2 x6 x7 x8 H => M55_8 o N X4 ih κ x0 x1 x2 x6 x7 x8 H) n
theorem M55_9_s (o : Orc) (N : Nat) (X4 : V → Int → V → Int → Int → Heap → Ans) (κ : Kv) (n : Nat) (x0 : V) (x1 : Int) (x2 : V) (x6 x7 x8 : Int) (H : Heap) : M55_9 o N X4 κ (n + 1) x0 x1 x2 x6 x7 x8 H = M55_8 o N X4 (M55_9 o N X4 κ n) κ x0 x1 x2 x6 x7 x8 H := rfl
theorem M55_9_ok {o : Orc} {N : Nat} {κ : Kv} {X3 X4 : Kt} {X4' : V → Int → V → Int → Int → Heap → Ans} (h4 : ∀ x0 x1 x2 x6 x7 H, X4 (tmk 0 63 [(0, x0), (1, .int .i64 x1), (2, x2), (6, .int .i64 x6), (7, .int .i64 x7)]) H = X4' x0 x1 x2 x6 x7 H) (n : Nat) : ∀ (x0 : V) (x1 : Int) (x2 : V) (x6 x7 x8 : Int) (H : Heap),
    rounds (fun a H k => run Try.prog o N (cAt Try.f55 [1, 1, 1, 1, 4, 4, 1, 4, 1, 0, 4, 4]) .n ((((env0 Try.prog Try.f55 κ).block 2 (env0 Try.prog Try.f55 κ).ret).block 3 (kj [0, 1, 2, 6] X3)).block 4 (kj [0, 1, 2, 6, 7] X4)) a H k) (some (lvOf [0, 1, 2, 6, 7, 8])) n (tmk 0 63 [(0, x0), (1, .int .i64 x1), (2, x2), (6, .int .i64 x6), (7, .int .i64 x7), (8, .int .i64 x8)]) H = M55_9 o N X4' κ n x0 x1 x2 x6 x7 x8 H := by
  induction n with
  | zero => intros; rfl
  | succ n ih =>
    intro x0 x1 x2 x6 x7 x8 H
    refine (run_round.trans ?_).trans (M55_9_s ..).symm
    exact M55_8_ok h4 ih x0 x1 x2 x6 x7 x8 H
def A55_10 : An := .b none (.l (some (lvOf [0, 1, 2, 6, 7, 8])) .n)
def M55_11 (o : Orc) (N : Nat) (J : V → Int → V → Int → Heap → Ans) (κ : Kv) (x0 : V) (x1 : Int) (x2 : V) (x6 x7 : Int) (H : Heap) : Ans :=
  cond (decide ((IntKind.i64.wrap (x7 + x6)) < x1)) (
  o 78 [x0, (.int .i64 x7), (.int .i64 (IntKind.i64.wrap (x7 + x6))), (.int .i64 x1), x2] H fun v7 H8 =>
  asT0 v7 (
  J x0 x1 x2 (IntKind.i64.wrap (x6 * 2)) H8)) (
  J x0 x1 x2 (IntKind.i64.wrap (x6 * 2)) H)
theorem M55_11_ok {o : Orc} {N : Nat} {κ : Kv} {X3 J : Kt} {J' : V → Int → V → Int → Heap → Ans} (hJ : ∀ x0 x1 x2 x6 H, J (tmk 0 63 [(0, x0), (1, .int .i64 x1), (2, x2), (6, .int .i64 x6)]) H = J' x0 x1 x2 x6 H) (x0 : V) (x1 : Int) (x2 : V) (x6 x7 : Int) (H : Heap) :
    run Try.prog o N (cAt Try.f55 [1, 1, 1, 1, 4, 4, 1, 4, 1, 1]) .n (((env0 Try.prog Try.f55 κ).block 2 (env0 Try.prog Try.f55 κ).ret).block 3 (kj [0, 1, 2, 6] X3)) (tmk 0 63 [(0, x0), (1, .int .i64 x1), (2, x2), (6, .int .i64 x6), (7, .int .i64 x7)]) H (kj [0, 1, 2, 6] J) = M55_11 o N J' κ x0 x1 x2 x6 x7 H := by
  obtain rfl := fx5 hJ
  kernel_rfl
def A55_12 : An := .s A55_10 (some (lvOf [0, 1, 2, 6, 7])) .n
def A55_13 : An := .s .n (some (lvOf [0, 1, 2, 6, 7, 8])) A55_12
def A55_14 : An := .s .n (some (lvOf [0, 1, 2, 6])) (.b none A55_13)
def M55_15 (o : Orc) (N : Nat) (κ : Kv) (n : Nat) : V → Int → V → Int → Heap → Ans :=
  Nat.rec (motive := fun _ => V → Int → V → Int → Heap → Ans) (fun _ _ _ _ _ => none) (fun _ ih x0 x1 x2 x6 H => M55_6 o N (fun x0 x1 x2 x6 H => M55_7 o N (fun x0 x1 x2 x6 x7 x8 H => M55_9 o N (fun x0 x1 x2 x6 x7 H => M55_11 o N ih κ x0 x1 x2 x6 x7 H) κ N x0 x1 x2 x6 x7 x8 H) κ x0 x1 x2 x6 H) κ x0 x1 x2 x6 H) n
theorem M55_15_s (o : Orc) (N : Nat) (κ : Kv) (n : Nat) (x0 : V) (x1 : Int) (x2 : V) (x6 : Int) (H : Heap) : M55_15 o N κ (n + 1) x0 x1 x2 x6 H = M55_6 o N (fun x0 x1 x2 x6 H => M55_7 o N (fun x0 x1 x2 x6 x7 x8 H => M55_9 o N (fun x0 x1 x2 x6 x7 H => M55_11 o N (M55_15 o N κ n) κ x0 x1 x2 x6 x7 H) κ N x0 x1 x2 x6 x7 x8 H) κ x0 x1 x2 x6 H) κ x0 x1 x2 x6 H := rfl
theorem M55_15_ok {o : Orc} {N : Nat} {κ : Kv} (n : Nat) : ∀ (x0 : V) (x1 : Int) (x2 : V) (x6 : Int) (H : Heap),
    rounds (fun a H k => run Try.prog o N (cAt Try.f55 [1, 1, 1, 1, 4, 4]) A55_14 ((env0 Try.prog Try.f55 κ).block 2 (env0 Try.prog Try.f55 κ).ret) a H k) (some (lvOf [0, 1, 2, 6])) n (tmk 0 63 [(0, x0), (1, .int .i64 x1), (2, x2), (6, .int .i64 x6)]) H = M55_15 o N κ n x0 x1 x2 x6 H := by
  induction n with
  | zero => intros; rfl
  | succ n ih =>
    intro x0 x1 x2 x6 H
    refine (run_round.trans ?_).trans (M55_15_s ..).symm
    refine (run_seq (x := (cAt Try.f55 [1, 1, 1, 1, 4, 4, 0])) (ax := .n) (y := (cAt Try.f55 [1, 1, 1, 1, 4, 4, 1])) (ay := (.b none A55_13)) (l := [0, 1, 2, 6]) (by kernel_rfl) (by kernel_rfl)).trans ?_
    refine M55_6_ok ?_ x0 x1 x2 x6 H
    intro x0 x1 x2 x6 H
    refine (run_block (id := 3) (x := (cAt Try.f55 [1, 1, 1, 1, 4, 4, 1, 4])) (ax := A55_13) (by kernel_rfl) (by kernel_rfl)).trans ?_
    refine (run_seq (x := (cAt Try.f55 [1, 1, 1, 1, 4, 4, 1, 4, 0])) (ax := .n) (y := (cAt Try.f55 [1, 1, 1, 1, 4, 4, 1, 4, 1])) (ay := A55_12) (l := [0, 1, 2, 6, 7, 8]) (by kernel_rfl) (by kernel_rfl)).trans ?_
    refine M55_7_ok ?_ x0 x1 x2 x6 H
    intro x0 x1 x2 x6 x7 x8 H
    refine (run_seq (x := (cAt Try.f55 [1, 1, 1, 1, 4, 4, 1, 4, 1, 0])) (ax := A55_10) (y := (cAt Try.f55 [1, 1, 1, 1, 4, 4, 1, 4, 1, 1])) (ay := .n) (l := [0, 1, 2, 6, 7]) (by kernel_rfl) (by kernel_rfl)).trans ?_
    refine (run_block (id := 4) (x := (cAt Try.f55 [1, 1, 1, 1, 4, 4, 1, 4, 1, 0, 4])) (ax := (.l (some (lvOf [0, 1, 2, 6, 7, 8])) .n)) (by kernel_rfl) (by kernel_rfl)).trans ?_
    refine (run_loop (x := (cAt Try.f55 [1, 1, 1, 1, 4, 4, 1, 4, 1, 0, 4, 4])) (ax := .n) (l := [0, 1, 2, 6, 7, 8]) (by kernel_rfl) (by kernel_rfl) (by kernel_rfl)).trans ?_
    refine M55_9_ok ?_ N x0 x1 x2 x6 x7 x8 H
    intro x0 x1 x2 x6 x7 H
    exact M55_11_ok ih x0 x1 x2 x6 x7 H
def A55_16 : An := .b none (.l (some (lvOf [0, 1, 2, 6])) A55_14)
def A55_17 : An := .s A55_4 (some (lvOf [0, 1, 2, 6, 7])) (.s .n (some (lvOf [0, 1, 2, 6])) A55_16)
def A55_18 : An := .s .n (some (lvOf [0, 1, 2, 6, 7, 8])) A55_17
def M55 (o : Orc) (N : Nat) : FnM := fun vs H κ => match vs with
  | [x0, .int .i64 x1, x2] => M55_0 o N (fun x0 x1 x2 x6 H => M55_1 o N (fun x0 x1 x2 x6 x7 x8 H => M55_3 o N (fun x0 x1 x2 x6 x7 H => M55_5 o N (fun x0 x1 x2 x6 H => M55_15 o N κ N x0 x1 x2 x6 H) κ x0 x1 x2 x6 x7 H) κ N x0 x1 x2 x6 x7 x8 H) κ x0 x1 x2 x6 H) κ x0 x1 x2 H
  | _ => none
theorem M55_run (o : Orc) (N : Nat) (vs : List V) (H : Heap) (κ : Kv) (r) (h : M55 o N vs H κ = some r) : runFn Try.prog o N Try.f55 (.s .n (some (lvOf [0, 1, 2, 6])) A55_18) vs H κ = some r := by
  unfold M55 at h
  split at h
  · rename_i x0 x1 x2
    refine (runFn_at (t := tmk 0 63 [(0, x0), (1, .int .i64 x1), (2, x2)]) (by kernel_rfl) (by kernel_rfl)).trans (Eq.trans ?_ h)
    refine (run_seq (x := (cAt Try.f55 [0])) (ax := .n) (y := (cAt Try.f55 [1])) (ay := A55_18) (l := [0, 1, 2, 6]) (by kernel_rfl) (by kernel_rfl)).trans ?_
    refine M55_0_ok ?_ x0 x1 x2 H
    intro x0 x1 x2 x6 H
    refine (run_seq (x := (cAt Try.f55 [1, 0])) (ax := .n) (y := (cAt Try.f55 [1, 1])) (ay := A55_17) (l := [0, 1, 2, 6, 7, 8]) (by kernel_rfl) (by kernel_rfl)).trans ?_
    refine M55_1_ok ?_ x0 x1 x2 x6 H
    intro x0 x1 x2 x6 x7 x8 H
    refine (run_seq (x := (cAt Try.f55 [1, 1, 0])) (ax := A55_4) (y := (cAt Try.f55 [1, 1, 1])) (ay := (.s .n (some (lvOf [0, 1, 2, 6])) A55_16)) (l := [0, 1, 2, 6, 7]) (by kernel_rfl) (by kernel_rfl)).trans ?_
    refine (run_block (id := 0) (x := (cAt Try.f55 [1, 1, 0, 4])) (ax := (.l (some (lvOf [0, 1, 2, 6, 7, 8])) .n)) (by kernel_rfl) (by kernel_rfl)).trans ?_
    refine (run_loop (x := (cAt Try.f55 [1, 1, 0, 4, 4])) (ax := .n) (l := [0, 1, 2, 6, 7, 8]) (by kernel_rfl) (by kernel_rfl) (by kernel_rfl)).trans ?_
    refine M55_3_ok ?_ N x0 x1 x2 x6 x7 x8 H
    intro x0 x1 x2 x6 x7 H
    refine (run_seq (x := (cAt Try.f55 [1, 1, 1, 0])) (ax := .n) (y := (cAt Try.f55 [1, 1, 1, 1])) (ay := A55_16) (l := [0, 1, 2, 6]) (by kernel_rfl) (by kernel_rfl)).trans ?_
    refine M55_5_ok ?_ x0 x1 x2 x6 x7 H
    intro x0 x1 x2 x6 H
    refine (run_block (id := 2) (x := (cAt Try.f55 [1, 1, 1, 1, 4])) (ax := (.l (some (lvOf [0, 1, 2, 6])) A55_14)) (by kernel_rfl) (by kernel_rfl)).trans ?_
    refine (run_loop (x := (cAt Try.f55 [1, 1, 1, 1, 4, 4])) (ax := A55_14) (l := [0, 1, 2, 6]) (by kernel_rfl) (by kernel_rfl) (by kernel_rfl)).trans ?_
    exact M55_15_ok N x0 x1 x2 x6 H
  · cases h
theorem M55_sound {o : Orc} (ho : ∀ f, FSound Try.prog f (o f)) (N : Nat) : FSound Try.prog 55 (M55 o N) :=
  FSound.sub (runFn_ok (an := (.s .n (some (lvOf [0, 1, 2, 6])) A55_18)) (fuel := N) hmix ho (by kernel_rfl) (by kernel_rfl)) (M55_run o N)
end Go.Proofs.Ytminfdcdmgpnjaa.K
