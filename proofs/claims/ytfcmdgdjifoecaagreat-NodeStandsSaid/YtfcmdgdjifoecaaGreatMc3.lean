/- Printed: runs of functions. -/
import Derived.Test.YtfcmdgdjifoecaaGreatK20
set_option linter.unusedVariables false
set_option maxRecDepth 100000
noncomputable section
namespace Go.Proofs.YtfcmdgdjifoecaaGreat.K
open Go
/-! 215 ostinato/confine.Got -/
def M215_0 (o : Orc) (N : Nat) (κ : Kv) (x0 : List V) (x1 : Bool) (H : Heap) : Ans :=
  cond (List.all x0 V.one) (
  newB H (.row x0) fun i1 H2 =>
  newB H2 (.row [(.int .i64 0), (.int .i64 0)]) fun i3 H4 =>
  ldFlat H4 i1 [.int .i64, .int .i64] 0 fun l5 =>
  o 241 [(.agg l5)] H4 fun v6 H7 =>
  asB v6 fun b8 =>
  cond (!b8) (
  ldFlat H7 i1 [.int .i64, .int .i64] 0 fun l9 =>
  cond (Nat.beq (List.length l9) 2 && Nat.blt 0 2) (
  (stN H7 i3 0 l9).bind fun H10 =>
  ldFlat H10 i3 [.int .i64, .int .i64] 0 fun l11 =>
  κ (.agg l11) H10) none) (
  cond (!x1) (
  (ldI H7 .i64 i1 1).bind fun n12 =>
  (stN H7 i1 1 [(.int .i64 (if 1000 < (IntKind.i64.wrap (n12 + 1)) then 1000 else (IntKind.i64.wrap (n12 + 1))))]).bind fun H13 =>
  ldFlat H13 i1 [.int .i64, .int .i64] 0 fun l14 =>
  cond (Nat.beq (List.length l14) 2 && Nat.blt 0 2) (
  (stN H13 i3 0 l14).bind fun H15 =>
  ldFlat H15 i3 [.int .i64, .int .i64] 0 fun l16 =>
  κ (.agg l16) H15) none) (
  (ldI H7 .i64 i1 1).bind fun n17 =>
  cond (decide (n17 > 127)) (
  (stN H7 i1 1 [(.int .i64 120)]).bind fun H18 =>
  ldFlat H18 i1 [.int .i64, .int .i64] 0 fun l19 =>
  cond (Nat.beq (List.length l19) 2 && Nat.blt 0 2) (
  (stN H18 i3 0 l19).bind fun H20 =>
  ldFlat H20 i3 [.int .i64, .int .i64] 0 fun l21 =>
  κ (.agg l21) H20) none) (
  (ldI H7 .i64 i1 1).bind fun n22 =>
  (stN H7 i1 1 [(.int .i64 (if 0 > (IntKind.i64.wrap (n22 - 1)) then 0 else (IntKind.i64.wrap (n22 - 1))))]).bind fun H23 =>
  ldFlat H23 i1 [.int .i64, .int .i64] 0 fun l24 =>
  cond (Nat.beq (List.length l24) 2 && Nat.blt 0 2) (
  (stN H23 i3 0 l24).bind fun H25 =>
  ldFlat H25 i3 [.int .i64, .int .i64] 0 fun l26 =>
  κ (.agg l26) H25) none)))) none
theorem M215_0_ok {o : Orc} {N : Nat} {κ : Kv} (x0 : List V) (x1 : Bool) (H : Heap) :
    run Tryz.prog o N (cAt Tryz.f215 []) .n (env0 Tryz.prog Tryz.f215 κ) (tmk 0 28 [(0, .agg x0), (1, .bool x1)]) H (env0 Tryz.prog Tryz.f215 κ).ret = M215_0 o N κ x0 x1 H := by
  kernel_rfl
def M215 (o : Orc) (N : Nat) : FnM := fun vs H κ => match vs with
  | [.agg x0, .bool x1] => M215_0 o N κ x0 x1 H
  | _ => none
theorem M215_run (o : Orc) (N : Nat) (vs : List V) (H : Heap) (κ : Kv) (r) (h : M215 o N vs H κ = some r) : runFn Tryz.prog o N Tryz.f215 .n vs H κ = some r := by
  unfold M215 at h
  split at h
  · rename_i x0 x1
    refine (runFn_at (t := tmk 0 28 [(0, .agg x0), (1, .bool x1)]) (by kernel_rfl) (by kernel_rfl)).trans (Eq.trans ?_ h)
    exact M215_0_ok x0 x1 H
  · cases h
theorem M215_sound {o : Orc} (ho : ∀ f, FSound Tryz.prog f (o f)) (N : Nat) : FSound Tryz.prog 215 (M215 o N) :=
  FSound.sub (runFn_ok (an := .n) (fuel := N) hmix ho (by kernel_rfl) (by kernel_rfl)) (M215_run o N)
/-! 216 (*ostinato/mac.Mac).flags -/
def M216_0 (o : Orc) (N : Nat) (κ : Kv) (x0 : V) (x1 : List V) (H : Heap) : Ans :=
  cond (List.all x1 V.one) (
  newB H (.row x1) fun i1 H2 =>
  asP x0 fun p3 o4 =>
  ldFlat H2 p3 [.int .i64, .int .i64] (o4 + 2) fun l5 =>
  o 52 [(.agg l5)] H2 fun v6 H7 =>
  asB v6 fun b8 =>
  cond b8 (
  asP x0 fun p9 o10 =>
  (stN H7 p9 (o10 + 0) [(.int .i64 7)]).bind fun H11 =>
  ldFlat H11 i1 [.int .i64, .bool, .int .u32, .bool, .str, .int .i64] 0 fun l12 =>
  (fillV (fun i => some (i * 6, 6)) [(.int .i64 0), (.bool false), (.int .u32 0), (.bool false), (.str []), (.int .i64 0), (.int .i64 0), (.bool false), (.int .u32 0), (.bool false), (.str []), (.int .i64 0)] [(0, (.agg l12)), (1, (.agg [(.int .i64 7), (.bool false), (.int .u32 0), (.bool false), (.str []), (.int .i64 0)]))]).bind fun l13 =>
  newB H11 (.row l13) fun i14 H15 =>
  κ (.sl i14 0 2 6 true) H15) (
  asP x0 fun p16 o17 =>
  (stN H7 p16 (o17 + 0) [(.int .i64 3)]).bind fun H18 =>
  asP x0 fun p19 o20 =>
  (stN H18 p19 (o20 + 1) [(.int .i64 6)]).bind fun H21 =>
  ldFlat H21 i1 [.int .i64, .bool, .int .u32, .bool, .str, .int .i64] 0 fun l22 =>
  (fillV (fun i => some (i * 6, 6)) [(.int .i64 0), (.bool false), (.int .u32 0), (.bool false), (.str []), (.int .i64 0)] [(0, (.agg l22))]).bind fun l23 =>
  newB H21 (.row l23) fun i24 H25 =>
  κ (.sl i24 0 1 6 true) H25)) none
theorem M216_0_ok {o : Orc} {N : Nat} {κ : Kv} (x0 : V) (x1 : List V) (H : Heap) :
    run Tryz.prog o N (cAt Tryz.f216 []) .n (env0 Tryz.prog Tryz.f216 κ) (tmk 0 24 [(0, x0), (1, .agg x1)]) H (env0 Tryz.prog Tryz.f216 κ).ret = M216_0 o N κ x0 x1 H := by
  kernel_rfl
def M216 (o : Orc) (N : Nat) : FnM := fun vs H κ => match vs with
  | [x0, .agg x1] => M216_0 o N κ x0 x1 H
  | _ => none
theorem M216_run (o : Orc) (N : Nat) (vs : List V) (H : Heap) (κ : Kv) (r) (h : M216 o N vs H κ = some r) : runFn Tryz.prog o N Tryz.f216 .n vs H κ = some r := by
  unfold M216 at h
  split at h
  · rename_i x0 x1
    refine (runFn_at (t := tmk 0 24 [(0, x0), (1, .agg x1)]) (by kernel_rfl) (by kernel_rfl)).trans (Eq.trans ?_ h)
    exact M216_0_ok x0 x1 H
  · cases h
theorem M216_sound {o : Orc} (ho : ∀ f, FSound Tryz.prog f (o f)) (N : Nat) : FSound Tryz.prog 216 (M216 o N) :=
  FSound.sub (runFn_ok (an := .n) (fuel := N) hmix ho (by kernel_rfl) (by kernel_rfl)) (M216_run o N)
/-! 217 (*ostinato/code.Reader).End -/
def M217_0 (o : Orc) (N : Nat) (κ : Kv) (x0 : V) (H : Heap) : Ans :=
  asP x0 fun p1 o2 =>
  (ldI H .i64 p1 (o2 + 133)).bind fun n3 =>
  κ (.int .i64 (if 0 > (IntKind.i64.wrap (n3 - 3)) then 0 else (IntKind.i64.wrap (n3 - 3)))) H
theorem M217_0_ok {o : Orc} {N : Nat} {κ : Kv} (x0 : V) (H : Heap) :
    run Tryz.prog o N (cAt Tryz.f217 []) .n (env0 Tryz.prog Tryz.f217 κ) (tmk 0 9 [(0, x0)]) H (env0 Tryz.prog Tryz.f217 κ).ret = M217_0 o N κ x0 H := by
  kernel_rfl
def M217 (o : Orc) (N : Nat) : FnM := fun vs H κ => match vs with
  | [x0] => M217_0 o N κ x0 H
  | _ => none
theorem M217_run (o : Orc) (N : Nat) (vs : List V) (H : Heap) (κ : Kv) (r) (h : M217 o N vs H κ = some r) : runFn Tryz.prog o N Tryz.f217 .n vs H κ = some r := by
  unfold M217 at h
  split at h
  · rename_i x0
    refine (runFn_at (t := tmk 0 9 [(0, x0)]) (by kernel_rfl) (by kernel_rfl)).trans (Eq.trans ?_ h)
    exact M217_0_ok x0 H
  · cases h
theorem M217_sound {o : Orc} (ho : ∀ f, FSound Tryz.prog f (o f)) (N : Nat) : FSound Tryz.prog 217 (M217 o N) :=
  FSound.sub (runFn_ok (an := .n) (fuel := N) hmix ho (by kernel_rfl) (by kernel_rfl)) (M217_run o N)
/-! 218 (*ostinato/code.Reader).Frame -/
def A218_0 : An := (.s .n none (.s (.d [0, 1, 2, 3, 4, 5, 6, 7, 8, 9, 10, 11, 12, 13, 14, 15, 16, 17]) none .n))
def M218_1 (o : Orc) (N : Nat) (κ : Kv) (x0 : V) (H : Heap) : Ans :=
  newB H (.row [(.bool false), (.int .u32 0), (.bool false), (.str [])]) fun i1 H2 =>
  asP x0 fun p3 o4 =>
  asP x0 fun p5 o6 =>
  (ldI (Heap.skip H2 18) .i64 p5 (o6 + 130)).bind fun n7 =>
  bounds 128 none (some (.int .i64 n7)) fun l8 u9 =>
  bytesV (Heap.skip H2 18) (.sl p3 ((o4 + 2) + l8 * 1) (u9 - l8) 1 false) fun s10 =>
  o 242 [(.str s10)] (Heap.skip H2 18) fun v11 H12 =>
  asT3 v11 fun v13 v14 v15 =>
  asA v13 fun l16 =>
  asI .i64 v14 fun n17 =>
  asI .i64 v15 fun n18 =>
  cond (Nat.beq (List.length l16) 4 && Nat.blt 0 4) (
  (stN (Heap.newAt H12 (H2.next + 14) (.row [(.bool false), (.int .u32 0), (.bool false), (.str [])])) (H2.next + 14) 0 l16).bind fun H19 =>
  ldFlat H19 (H2.next + 14) [.bool, .int .u32, .bool, .str] 0 fun l20 =>
  cond (Nat.beq (List.length l20) 4 && Nat.blt 0 4) (
  (stN H19 i1 0 l20).bind fun H21 =>
  ldFlat H21 i1 [.bool, .int .u32, .bool, .str] 0 fun l22 =>
  κ (.agg l22) H21) none) none
theorem M218_1_ok {o : Orc} {N : Nat} {κ : Kv} (x0 : V) (H : Heap) :
    run Tryz.prog o N (cAt Tryz.f218 []) A218_0 (env0 Tryz.prog Tryz.f218 κ) (tmk 0 21 [(0, x0)]) H (env0 Tryz.prog Tryz.f218 κ).ret = M218_1 o N κ x0 H := by
  kernel_rfl
def M218 (o : Orc) (N : Nat) : FnM := fun vs H κ => match vs with
  | [x0] => M218_1 o N κ x0 H
  | _ => none
theorem M218_run (o : Orc) (N : Nat) (vs : List V) (H : Heap) (κ : Kv) (r) (h : M218 o N vs H κ = some r) : runFn Tryz.prog o N Tryz.f218 A218_0 vs H κ = some r := by
  unfold M218 at h
  split at h
  · rename_i x0
    refine (runFn_at (t := tmk 0 21 [(0, x0)]) (by kernel_rfl) (by kernel_rfl)).trans (Eq.trans ?_ h)
    exact M218_1_ok x0 H
  · cases h
theorem M218_sound {o : Orc} (ho : ∀ f, FSound Tryz.prog f (o f)) (N : Nat) : FSound Tryz.prog 218 (M218 o N) :=
  FSound.sub (runFn_ok (an := A218_0) (fuel := N) hmix ho (by kernel_rfl) (by kernel_rfl)) (M218_run o N)
/-! 219 (*ostinato/global.Global).Lengths -/
def A219_0 : An := (.s .n none (.s .n none (.s (.d [0, 1, 2, 3, 4, 5, 6, 7, 8, 9, 10, 11, 13, 14, 15, 16, 17, 18, 19, 20, 21, 22, 23, 24, 12, 25, 26, 27, 28]) none .n)))
def M219_1 (o : Orc) (N : Nat) (κ : Kv) (x0 : V) (H : Heap) : Ans :=
  asP x0 fun p1 o2 =>
  (ldI H .i64 p1 (o2 + 6)).bind fun n3 =>
  cond (decide (n3 < 2)) (
  κ (.tup [(.int .i64 0), (.int .i64 0), (.bool false)]) H) (
  asP x0 fun p4 o5 =>
  cond (decide (0 ≤ 1) && decide (1 < (2 : Nat)) && Nat.blt 0 3) (
  (ldI (Heap.skip H 29) .u16 p4 (((o5 + 0) + Int.toNat 1 * 3) + 1)).bind fun n6 =>
  asP x0 fun p7 o8 =>
  cond (decide (0 ≤ 0) && decide (0 < (2 : Nat)) && Nat.blt 0 3) (
  (ldI (Heap.skip H 29) .u16 p7 (((o8 + 0) + Int.toNat 0 * 3) + 1)).bind fun n9 =>
  asP x0 fun p10 o11 =>
  cond (decide (0 ≤ 1) && decide (1 < (2 : Nat)) && Nat.blt 0 3) (
  (ldI (Heap.skip H 29) .u16 p10 (((o11 + 0) + Int.toNat 1 * 3) + 2)).bind fun n12 =>
  asP x0 fun p13 o14 =>
  cond (decide (0 ≤ 0) && decide (0 < (2 : Nat)) && Nat.blt 0 3) (
  (ldI (Heap.skip H 29) .u16 p13 (((o14 + 0) + Int.toNat 0 * 3) + 2)).bind fun n15 =>
  o 79 [(.int .u16 n6), (.int .u16 n9)] (Heap.skip H 29) fun v16 H17 =>
  asI .i64 v16 fun n18 =>
  (ldI H17 .u16 p13 (((o14 + 0) + Int.toNat 0 * 3) + 2)).bind fun n19 =>
  cond (decide (n15 = n19)) (
  (ldI H17 .u16 p10 (((o11 + 0) + Int.toNat 1 * 3) + 2)).bind fun n20 =>
  cond (decide (n12 = n20)) (
  o 79 [(.int .u16 n12), (.int .u16 n15)] H17 fun v21 H22 =>
  asI .i64 v21 fun n23 =>
  κ (.tup [(.int .i64 n18), (.int .i64 n23), (.bool true)]) H22) none) none) none) none) none) none)
theorem M219_1_ok {o : Orc} {N : Nat} {κ : Kv} (x0 : V) (H : Heap) :
    run Tryz.prog o N (cAt Tryz.f219 []) A219_0 (env0 Tryz.prog Tryz.f219 κ) (tmk 0 36 [(0, x0)]) H (env0 Tryz.prog Tryz.f219 κ).ret = M219_1 o N κ x0 H := by
  kernel_rfl
def M219 (o : Orc) (N : Nat) : FnM := fun vs H κ => match vs with
  | [x0] => M219_1 o N κ x0 H
  | _ => none
theorem M219_run (o : Orc) (N : Nat) (vs : List V) (H : Heap) (κ : Kv) (r) (h : M219 o N vs H κ = some r) : runFn Tryz.prog o N Tryz.f219 A219_0 vs H κ = some r := by
  unfold M219 at h
  split at h
  · rename_i x0
    refine (runFn_at (t := tmk 0 36 [(0, x0)]) (by kernel_rfl) (by kernel_rfl)).trans (Eq.trans ?_ h)
    exact M219_1_ok x0 H
  · cases h
theorem M219_sound {o : Orc} (ho : ∀ f, FSound Tryz.prog f (o f)) (N : Nat) : FSound Tryz.prog 219 (M219 o N) :=
  FSound.sub (runFn_ok (an := A219_0) (fuel := N) hmix ho (by kernel_rfl) (by kernel_rfl)) (M219_run o N)
/-! 220 (*ostinato/queue.Queue).Take -/
def M220_0 (o : Orc) (N : Nat) (κ : Kv) (x0 : V) (H : Heap) : Ans :=
  newB H (.row [(.int .i64 0), (.str [])]) fun i1 H2 =>
  asP x0 fun p3 o4 =>
  (ldV H2 p3 (o4 + 0)).bind fun v5 =>
  none
theorem M220_0_ok {o : Orc} {N : Nat} {κ : Kv} (x0 : V) (H : Heap) :
    run Tryz.prog o N (cAt Tryz.f220 []) .n (env0 Tryz.prog Tryz.f220 κ) (tmk 0 15 [(0, x0)]) H (env0 Tryz.prog Tryz.f220 κ).ret = M220_0 o N κ x0 H := by
  kernel_rfl
def M220 (o : Orc) (N : Nat) : FnM := fun vs H κ => match vs with
  | [x0] => M220_0 o N κ x0 H
  | _ => none
theorem M220_run (o : Orc) (N : Nat) (vs : List V) (H : Heap) (κ : Kv) (r) (h : M220 o N vs H κ = some r) : runFn Tryz.prog o N Tryz.f220 .n vs H κ = some r := by
  unfold M220 at h
  split at h
  · rename_i x0
    refine (runFn_at (t := tmk 0 15 [(0, x0)]) (by kernel_rfl) (by kernel_rfl)).trans (Eq.trans ?_ h)
    exact M220_0_ok x0 H
  · cases h
theorem M220_sound {o : Orc} (ho : ∀ f, FSound Tryz.prog f (o f)) (N : Nat) : FSound Tryz.prog 220 (M220 o N) :=
  FSound.sub (runFn_ok (an := .n) (fuel := N) hmix ho (by kernel_rfl) (by kernel_rfl)) (M220_run o N)
/-! 222 ostinato/matrix.power -/
def M222_0 (o : Orc) (N : Nat) (κ : Kv) (x0 : Int) (H : Heap) : Ans :=
  newB H (.row [(.int .i64 1), (.int .i64 2), (.int .i64 4), (.int .i64 8)]) fun i1 H2 =>
  o 97 [(.sl i1 0 4 1 true), (.int .i64 x0)] H2 fun v3 H4 =>
  asB v3 fun b5 =>
  κ (.bool b5) H4
theorem M222_0_ok {o : Orc} {N : Nat} {κ : Kv} (x0 : Int) (H : Heap) :
    run Tryz.prog o N (cAt Tryz.f222 []) .n (env0 Tryz.prog Tryz.f222 κ) (tmk 0 6 [(0, .int .i64 x0)]) H (env0 Tryz.prog Tryz.f222 κ).ret = M222_0 o N κ x0 H := by
  kernel_rfl
def M222 (o : Orc) (N : Nat) : FnM := fun vs H κ => match vs with
  | [.int .i64 x0] => M222_0 o N κ x0 H
  | _ => none
theorem M222_run (o : Orc) (N : Nat) (vs : List V) (H : Heap) (κ : Kv) (r) (h : M222 o N vs H κ = some r) : runFn Tryz.prog o N Tryz.f222 .n vs H κ = some r := by
  unfold M222 at h
  split at h
  · rename_i x0
    refine (runFn_at (t := tmk 0 6 [(0, .int .i64 x0)]) (by kernel_rfl) (by kernel_rfl)).trans (Eq.trans ?_ h)
    exact M222_0_ok x0 H
  · cases h
theorem M222_sound {o : Orc} (ho : ∀ f, FSound Tryz.prog f (o f)) (N : Nat) : FSound Tryz.prog 222 (M222 o N) :=
  FSound.sub (runFn_ok (an := .n) (fuel := N) hmix ho (by kernel_rfl) (by kernel_rfl)) (M222_run o N)
/-! 223 slices.IndexFunc[[]ostinato/api.Window,ostinato/api.Window] -/
def M223_0 (o : Orc) (N : Nat) (J : V → V → Heap → Ans) (κ : Kv) (x0 x1 : V) (H : Heap) : Ans :=
  J x0 x1 H
theorem M223_0_ok {o : Orc} {N : Nat} {κ : Kv} {J : Kt} {J' : V → V → Heap → Ans} (hJ : ∀ x0 x1 H, J (tmk 0 19 [(0, x0), (1, x1)]) H = J' x0 x1 H) (x0 x1 : V) (H : Heap) :
    run Tryz.prog o N (cAt Tryz.f223 [0]) .n (env0 Tryz.prog Tryz.f223 κ) (tmk 0 19 [(0, x0), (1, x1)]) H (kj [0, 1] J) = M223_0 o N J' κ x0 x1 H := by
  obtain rfl := fx3 hJ
  kernel_rfl
def M223_1 (o : Orc) (N : Nat) (J : V → V → Int → Int → Heap → Ans) (κ : Kv) (x0 x1 : V) (H : Heap) : Ans :=
  lenS x0 fun n1 =>
  J x0 x1 n1 0 H
theorem M223_1_ok {o : Orc} {N : Nat} {κ : Kv} {J : Kt} {J' : V → V → Int → Int → Heap → Ans} (hJ : ∀ x0 x1 x7 x8 H, J (tmk 0 19 [(0, x0), (1, x1), (7, .int .i64 x7), (8, .int .i64 x8)]) H = J' x0 x1 x7 x8 H) (x0 x1 : V) (H : Heap) :
    run Tryz.prog o N (cAt Tryz.f223 [1, 0, 0]) .n (env0 Tryz.prog Tryz.f223 κ) (tmk 0 19 [(0, x0), (1, x1)]) H (kj [0, 1, 7, 8] J) = M223_1 o N J' κ x0 x1 H := by
  obtain rfl := fx5 hJ
  kernel_rfl
def M223_2 (o : Orc) (N : Nat) (X0 : Heap → Ans) (J : V → V → Int → Int → Heap → Ans) (κ : Kv) (x0 x1 : V) (x7 x8 : Int) (H : Heap) : Ans :=
  cond (decide (x8 < x7)) (
  idxS 6 x0 x8 fun p2 o3 =>
  ldFlat H p2 [.int .i64, .int .i64, .int .i64, .int .i64, .int .i64, .int .i64] o3 fun l4 =>
  callV o x1 [(.agg l4)] H fun v5 H6 =>
  asB v5 fun b7 =>
  cond b7 (
  κ (.int .i64 x8) H6) (
  J x0 x1 x7 (IntKind.i64.wrap (x8 + 1)) H6)) (
  X0  H)
theorem M223_2_ok {o : Orc} {N : Nat} {κ : Kv} {X0 J : Kt} {X0' : Heap → Ans} {J' : V → V → Int → Int → Heap → Ans} (h0 : ∀  H, X0 (tmk 0 19 []) H = X0' H) (hJ : ∀ x0 x1 x7 x8 H, J (tmk 0 19 [(0, x0), (1, x1), (7, .int .i64 x7), (8, .int .i64 x8)]) H = J' x0 x1 x7 x8 H) (x0 x1 : V) (x7 x8 : Int) (H : Heap) :
    run Tryz.prog o N (cAt Tryz.f223 [1, 0, 1, 4, 4]) .n ((env0 Tryz.prog Tryz.f223 κ).block 0 (kj [] X0)) (tmk 0 19 [(0, x0), (1, x1), (7, .int .i64 x7), (8, .int .i64 x8)]) H (kj [0, 1, 7, 8] J) = M223_2 o N X0' J' κ x0 x1 x7 x8 H := by
  obtain rfl := fx1 h0
  obtain rfl := fx5 hJ
  kernel_rfl
def M223_3 (o : Orc) (N : Nat) (X0 : Heap → Ans) (κ : Kv) (n : Nat) : V → V → Int → Int → Heap → Ans :=
  Nat.rec (motive := fun _ => V → V → Int → Int → Heap → Ans) (fun _ _ _ _ _ => none) (fun _ ih x0 x1 x7 x8 H => M223_2 o N X0 ih κ x0 x1 x7 x8 H) n
theorem M223_3_s (o : Orc) (N : Nat) (X0 : Heap → Ans) (κ : Kv) (n : Nat) (x0 x1 : V) (x7 x8 : Int) (H : Heap) : M223_3 o N X0 κ (n + 1) x0 x1 x7 x8 H = M223_2 o N X0 (M223_3 o N X0 κ n) κ x0 x1 x7 x8 H := rfl
theorem M223_3_ok {o : Orc} {N : Nat} {κ : Kv} {X0 : Kt} {X0' : Heap → Ans} (h0 : ∀  H, X0 (tmk 0 19 []) H = X0' H) (n : Nat) : ∀ (x0 x1 : V) (x7 x8 : Int) (H : Heap),
    rounds (fun a H k => run Tryz.prog o N (cAt Tryz.f223 [1, 0, 1, 4, 4]) .n ((env0 Tryz.prog Tryz.f223 κ).block 0 (kj [] X0)) a H k) (some (lvOf [0, 1, 7, 8])) n (tmk 0 19 [(0, x0), (1, x1), (7, .int .i64 x7), (8, .int .i64 x8)]) H = M223_3 o N X0' κ n x0 x1 x7 x8 H := by
  induction n with
  | zero => intros; rfl
  | succ n ih =>
    intro x0 x1 x7 x8 H
    refine (run_round.trans ?_).trans (M223_3_s ..).symm
    exact M223_2_ok h0 ih x0 x1 x7 x8 H
def A223_4 : An := .b none (.l (some (lvOf [0, 1, 7, 8])) .n)
def M223_5 (o : Orc) (N : Nat) (κ : Kv) (H : Heap) : Ans :=
  κ (.int .i64 (-1)) H
theorem M223_5_ok {o : Orc} {N : Nat} {κ : Kv} (H : Heap) :
    run Tryz.prog o N (cAt Tryz.f223 [1, 1]) .n (env0 Tryz.prog Tryz.f223 κ) (tmk 0 19 []) H (env0 Tryz.prog Tryz.f223 κ).ret = M223_5 o N κ  H := by
  kernel_rfl
def A223_6 : An := .s (.s .n (some (lvOf [0, 1, 7, 8])) A223_4) (some (lvOf [])) .n
def M223 (o : Orc) (N : Nat) : FnM := fun vs H κ => match vs with
  | [x0, x1] => M223_0 o N (fun x0 x1 H => M223_1 o N (fun x0 x1 x7 x8 H => M223_3 o N (fun H => M223_5 o N κ  H) κ N x0 x1 x7 x8 H) κ x0 x1 H) κ x0 x1 H
  | _ => none
theorem M223_run (o : Orc) (N : Nat) (vs : List V) (H : Heap) (κ : Kv) (r) (h : M223 o N vs H κ = some r) : runFn Tryz.prog o N Tryz.f223 (.s .n (some (lvOf [0, 1])) A223_6) vs H κ = some r := by
  unfold M223 at h
  split at h
  · rename_i x0 x1
    refine (runFn_at (t := tmk 0 19 [(0, x0), (1, x1)]) (by kernel_rfl) (by kernel_rfl)).trans (Eq.trans ?_ h)
    refine (run_seq (x := (cAt Tryz.f223 [0])) (ax := .n) (y := (cAt Tryz.f223 [1])) (ay := A223_6) (l := [0, 1]) (by kernel_rfl) (by kernel_rfl)).trans ?_
    refine M223_0_ok ?_ x0 x1 H
    intro x0 x1 H
    refine (run_seq (x := (cAt Tryz.f223 [1, 0])) (ax := (.s .n (some (lvOf [0, 1, 7, 8])) A223_4)) (y := (cAt Tryz.f223 [1, 1])) (ay := .n) (l := []) (by kernel_rfl) (by kernel_rfl)).trans ?_
    refine (run_seq (x := (cAt Tryz.f223 [1, 0, 0])) (ax := .n) (y := (cAt Tryz.f223 [1, 0, 1])) (ay := A223_4) (l := [0, 1, 7, 8]) (by kernel_rfl) (by kernel_rfl)).trans ?_
    refine M223_1_ok ?_ x0 x1 H
    intro x0 x1 x7 x8 H
    refine (run_block (id := 0) (x := (cAt Tryz.f223 [1, 0, 1, 4])) (ax := (.l (some (lvOf [0, 1, 7, 8])) .n)) (by kernel_rfl) (by kernel_rfl)).trans ?_
    refine (run_loop (x := (cAt Tryz.f223 [1, 0, 1, 4, 4])) (ax := .n) (l := [0, 1, 7, 8]) (by kernel_rfl) (by kernel_rfl) (by kernel_rfl)).trans ?_
    refine M223_3_ok ?_ N x0 x1 x7 x8 H
    intro H
    exact M223_5_ok  H
  · cases h
theorem M223_sound {o : Orc} (ho : ∀ f, FSound Tryz.prog f (o f)) (N : Nat) : FSound Tryz.prog 223 (M223 o N) :=
  FSound.sub (runFn_ok (an := (.s .n (some (lvOf [0, 1])) A223_6)) (fuel := N) hmix ho (by kernel_rfl) (by kernel_rfl)) (M223_run o N)
/-! 224 ostinato/check.there -/
def M224_0 (o : Orc) (N : Nat) (κ : Kv) (x0 : List V) (x1 : Int) (H : Heap) : Ans :=
  cond (List.all x0 V.one) (
  newB H (.row x0) fun i1 H2 =>
  newB H2 (.row [(.int .i64 0), (.int .i64 0), (.int .i64 0), (.int .i64 0), (.int .i64 0), (.int .i64 0)]) fun i3 H4 =>
  cond (decide (x1 < 0)) (
  (stN H4 i3 0 [(.int .i64 0), (.int .i64 0), (.int .i64 0), (.int .i64 0), (.int .i64 0), (.int .i64 0)]).bind fun H5 =>
  ldFlat H5 i3 [.int .i64, .int .i64, .int .i64, .int .i64, .int .i64, .int .i64] 0 fun l6 =>
  κ (.tup [(.agg l6), (.bool false)]) H5) (
  (ldV H4 i1 10).bind fun v7 =>
  lenS v7 fun n8 =>
  cond (decide (x1 ≥ n8)) (
  (stN H4 i3 0 [(.int .i64 0), (.int .i64 0), (.int .i64 0), (.int .i64 0), (.int .i64 0), (.int .i64 0)]).bind fun H9 =>
  ldFlat H9 i3 [.int .i64, .int .i64, .int .i64, .int .i64, .int .i64, .int .i64] 0 fun l10 =>
  κ (.tup [(.agg l10), (.bool false)]) H9) (
  (ldV H4 i1 10).bind fun v11 =>
  idxS 6 v11 x1 fun p12 o13 =>
  ldFlat H4 p12 [.int .i64, .int .i64, .int .i64, .int .i64, .int .i64, .int .i64] o13 fun l14 =>
  cond (Nat.beq (List.length l14) 6 && Nat.blt 0 6) (
  (stN H4 i3 0 l14).bind fun H15 =>
  ldFlat H15 i3 [.int .i64, .int .i64, .int .i64, .int .i64, .int .i64, .int .i64] 0 fun l16 =>
  κ (.tup [(.agg l16), (.bool true)]) H15) none))) none
theorem M224_0_ok {o : Orc} {N : Nat} {κ : Kv} (x0 : List V) (x1 : Int) (H : Heap) :
    run Tryz.prog o N (cAt Tryz.f224 []) .n (env0 Tryz.prog Tryz.f224 κ) (tmk 0 21 [(0, .agg x0), (1, .int .i64 x1)]) H (env0 Tryz.prog Tryz.f224 κ).ret = M224_0 o N κ x0 x1 H := by
  kernel_rfl
def M224 (o : Orc) (N : Nat) : FnM := fun vs H κ => match vs with
  | [.agg x0, .int .i64 x1] => M224_0 o N κ x0 x1 H
  | _ => none
theorem M224_run (o : Orc) (N : Nat) (vs : List V) (H : Heap) (κ : Kv) (r) (h : M224 o N vs H κ = some r) : runFn Tryz.prog o N Tryz.f224 .n vs H κ = some r := by
  unfold M224 at h
  split at h
  · rename_i x0 x1
    refine (runFn_at (t := tmk 0 21 [(0, .agg x0), (1, .int .i64 x1)]) (by kernel_rfl) (by kernel_rfl)).trans (Eq.trans ?_ h)
    exact M224_0_ok x0 x1 H
  · cases h
theorem M224_sound {o : Orc} (ho : ∀ f, FSound Tryz.prog f (o f)) (N : Nat) : FSound Tryz.prog 224 (M224 o N) :=
  FSound.sub (runFn_ok (an := .n) (fuel := N) hmix ho (by kernel_rfl) (by kernel_rfl)) (M224_run o N)
/-! 225 slices.stableCmpFunc[ostinato/api.Trigger] -/
def M225_0 (o : Orc) (N : Nat) (J : V → Int → V → Int → Heap → Ans) (κ : Kv) (x0 : V) (x1 : Int) (x2 : V) (H : Heap) : Ans :=
  J x0 x1 x2 20 H
theorem M225_0_ok {o : Orc} {N : Nat} {κ : Kv} {J : Kt} {J' : V → Int → V → Int → Heap → Ans} (hJ : ∀ x0 x1 x2 x6 H, J (tmk 0 63 [(0, x0), (1, .int .i64 x1), (2, x2), (6, .int .i64 x6)]) H = J' x0 x1 x2 x6 H) (x0 : V) (x1 : Int) (x2 : V) (H : Heap) :
    run Tryz.prog o N (cAt Tryz.f225 [0]) .n (env0 Tryz.prog Tryz.f225 κ) (tmk 0 63 [(0, x0), (1, .int .i64 x1), (2, x2)]) H (kj [0, 1, 2, 6] J) = M225_0 o N J' κ x0 x1 x2 H := by
  obtain rfl := fx5 hJ
  kernel_rfl
def M225_1 (o : Orc) (N : Nat) (J : V → Int → V → Int → Int → Int → Heap → Ans) (κ : Kv) (x0 : V) (x1 : Int) (x2 : V) (x6 : Int) (H : Heap) : Ans :=
  J x0 x1 x2 x6 0 x6 H
theorem M225_1_ok {o : Orc} {N : Nat} {κ : Kv} {J : Kt} {J' : V → Int → V → Int → Int → Int → Heap → Ans} (hJ : ∀ x0 x1 x2 x6 x7 x8 H, J (tmk 0 63 [(0, x0), (1, .int .i64 x1), (2, x2), (6, .int .i64 x6), (7, .int .i64 x7), (8, .int .i64 x8)]) H = J' x0 x1 x2 x6 x7 x8 H) (x0 : V) (x1 : Int) (x2 : V) (x6 : Int) (H : Heap) :
    run Tryz.prog o N (cAt Tryz.f225 [1, 0]) .n (env0 Tryz.prog Tryz.f225 κ) (tmk 0 63 [(0, x0), (1, .int .i64 x1), (2, x2), (6, .int .i64 x6)]) H (kj [0, 1, 2, 6, 7, 8] J) = M225_1 o N J' κ x0 x1 x2 x6 H := by
  obtain rfl := fx7 hJ
  kernel_rfl
def M225_2 (o : Orc) (N : Nat) (X0 : V → Int → V → Int → Int → Heap → Ans) (J : V → Int → V → Int → Int → Int → Heap → Ans) (κ : Kv) (x0 : V) (x1 : Int) (x2 : V) (x6 x7 x8 : Int) (H : Heap) : Ans :=
  cond (decide (x8 ≤ x1)) (
  o 244 [x0, (.int .i64 x7), (.int .i64 x8), x2] H fun v1 H2 =>
  asT0 v1 (
  J x0 x1 x2 x6 x8 (IntKind.i64.wrap (x8 + x6)) H2)) (
  X0 x0 x1 x2 x6 x7 H)
theorem M225_2_ok {o : Orc} {N : Nat} {κ : Kv} {X0 J : Kt} {X0' : V → Int → V → Int → Int → Heap → Ans} {J' : V → Int → V → Int → Int → Int → Heap → Ans} (h0 : ∀ x0 x1 x2 x6 x7 H, X0 (tmk 0 63 [(0, x0), (1, .int .i64 x1), (2, x2), (6, .int .i64 x6), (7, .int .i64 x7)]) H = X0' x0 x1 x2 x6 x7 H) (hJ : ∀ x0 x1 x2 x6 x7 x8 H, J (tmk 0 63 [(0, x0), (1, .int .i64 x1), (2, x2), (6, .int .i64 x6), (7, .int .i64 x7), (8, .int .i64 x8)]) H = J' x0 x1 x2 x6 x7 x8 H) (x0 : V) (x1 : Int) (x2 : V) (x6 x7 x8 : Int) (H : Heap) :
    run Tryz.prog o N (cAt Tryz.f225 [1, 1, 0, 4, 4]) .n ((env0 Tryz.prog Tryz.f225 κ).block 0 (kj [0, 1, 2, 6, 7] X0)) (tmk 0 63 [(0, x0), (1, .int .i64 x1), (2, x2), (6, .int .i64 x6), (7, .int .i64 x7), (8, .int .i64 x8)]) H (kj [0, 1, 2, 6, 7, 8] J) = M225_2 o N X0' J' κ x0 x1 x2 x6 x7 x8 H := by
  obtain rfl := fx6 h0
  obtain rfl := fx7 hJ
  kernel_rfl
def M225_3 (o : Orc) (N : Nat) (X0 : V → Int → V → Int → Int → Heap → Ans) (κ : Kv) (n : Nat) : V → Int → V → Int → Int → Int → Heap → Ans :=
  Nat.rec (motive := fun _ => V → Int → V → Int → Int → Int → Heap → Ans) (fun _ _ _ _ _ _ _ => none) (fun _ ih x0 x1 x2 x6 x7 x8 H => M225_2 o N X0 ih κ x0 x1 x2 x6 x7 x8 H) n
theorem M225_3_s (o : Orc) (N : Nat) (X0 : V → Int → V → Int → Int → Heap → Ans) (κ : Kv) (n : Nat) (x0 : V) (x1 : Int) (x2 : V) (x6 x7 x8 : Int) (H : Heap) : M225_3 o N X0 κ (n + 1) x0 x1 x2 x6 x7 x8 H = M225_2 o N X0 (M225_3 o N X0 κ n) κ x0 x1 x2 x6 x7 x8 H := rfl
theorem M225_3_ok {o : Orc} {N : Nat} {κ : Kv} {X0 : Kt} {X0' : V → Int → V → Int → Int → Heap → Ans} (h0 : ∀ x0 x1 x2 x6 x7 H, X0 (tmk 0 63 [(0, x0), (1, .int .i64 x1), (2, x2), (6, .int .i64 x6), (7, .int .i64 x7)]) H = X0' x0 x1 x2 x6 x7 H) (n : Nat) : ∀ (x0 : V) (x1 : Int) (x2 : V) (x6 x7 x8 : Int) (H : Heap),
    rounds (fun a H k => run Tryz.prog o N (cAt Tryz.f225 [1, 1, 0, 4, 4]) .n ((env0 Tryz.prog Tryz.f225 κ).block 0 (kj [0, 1, 2, 6, 7] X0)) a H k) (some (lvOf [0, 1, 2, 6, 7, 8])) n (tmk 0 63 [(0, x0), (1, .int .i64 x1), (2, x2), (6, .int .i64 x6), (7, .int .i64 x7), (8, .int .i64 x8)]) H = M225_3 o N X0' κ n x0 x1 x2 x6 x7 x8 H := by
  induction n with
  | zero => intros; rfl
  | succ n ih =>
    intro x0 x1 x2 x6 x7 x8 H
    refine (run_round.trans ?_).trans (M225_3_s ..).symm
    exact M225_2_ok h0 ih x0 x1 x2 x6 x7 x8 H
def A225_4 : An := .b none (.l (some (lvOf [0, 1, 2, 6, 7, 8])) .n)
def M225_5 (o : Orc) (N : Nat) (J : V → Int → V → Int → Heap → Ans) (κ : Kv) (x0 : V) (x1 : Int) (x2 : V) (x6 x7 : Int) (H : Heap) : Ans :=
  o 244 [x0, (.int .i64 x7), (.int .i64 x1), x2] H fun v3 H4 =>
  asT0 v3 (
  J x0 x1 x2 x6 H4)
theorem M225_5_ok {o : Orc} {N : Nat} {κ : Kv} {J : Kt} {J' : V → Int → V → Int → Heap → Ans} (hJ : ∀ x0 x1 x2 x6 H, J (tmk 0 63 [(0, x0), (1, .int .i64 x1), (2, x2), (6, .int .i64 x6)]) H = J' x0 x1 x2 x6 H) (x0 : V) (x1 : Int) (x2 : V) (x6 x7 : Int) (H : Heap) :
    run Tryz.prog o N (cAt Tryz.f225 [1, 1, 1, 0]) .n (env0 Tryz.prog Tryz.f225 κ) (tmk 0 63 [(0, x0), (1, .int .i64 x1), (2, x2), (6, .int .i64 x6), (7, .int .i64 x7)]) H (kj [0, 1, 2, 6] J) = M225_5 o N J' κ x0 x1 x2 x6 x7 H := by
  obtain rfl := fx5 hJ
  kernel_rfl
def M225_6 (o : Orc) (N : Nat) (J : V → Int → V → Int → Heap → Ans) (κ : Kv) (x0 : V) (x1 : Int) (x2 : V) (x6 : Int) (H : Heap) : Ans :=
  cond (decide (x6 < x1)) (
  J x0 x1 x2 x6 H) (
  κ (.tup []) H)
theorem M225_6_ok {o : Orc} {N : Nat} {κ : Kv} {J : Kt} {J' : V → Int → V → Int → Heap → Ans} (hJ : ∀ x0 x1 x2 x6 H, J (tmk 0 63 [(0, x0), (1, .int .i64 x1), (2, x2), (6, .int .i64 x6)]) H = J' x0 x1 x2 x6 H) (x0 : V) (x1 : Int) (x2 : V) (x6 : Int) (H : Heap) :
    run Tryz.prog o N (cAt Tryz.f225 [1, 1, 1, 1, 4, 4, 0]) .n ((env0 Tryz.prog Tryz.f225 κ).block 2 (env0 Tryz.prog Tryz.f225 κ).ret) (tmk 0 63 [(0, x0), (1, .int .i64 x1), (2, x2), (6, .int .i64 x6)]) H (kj [0, 1, 2, 6] J) = M225_6 o N J' κ x0 x1 x2 x6 H := by
  obtain rfl := fx5 hJ
  kernel_rfl
def M225_7 (o : Orc) (N : Nat) (J : V → Int → V → Int → Int → Int → Heap → Ans) (κ : Kv) (x0 : V) (x1 : Int) (x2 : V) (x6 : Int) (H : Heap) : Ans :=
  J x0 x1 x2 x6 0 (IntKind.i64.wrap (2 * x6)) H
theorem M225_7_ok {o : Orc} {N : Nat} {κ : Kv} {X3 J : Kt} {J' : V → Int → V → Int → Int → Int → Heap → Ans} (hJ : ∀ x0 x1 x2 x6 x7 x8 H, J (tmk 0 63 [(0, x0), (1, .int .i64 x1), (2, x2), (6, .int .i64 x6), (7, .int .i64 x7), (8, .int .i64 x8)]) H = J' x0 x1 x2 x6 x7 x8 H) (x0 : V) (x1 : Int) (x2 : V) (x6 : Int) (H : Heap) :
    run Tryz.prog o N (cAt Tryz.f225 [1, 1, 1, 1, 4, 4, 1, 4, 0]) .n (((env0 Tryz.prog Tryz.f225 κ).block 2 (env0 Tryz.prog Tryz.f225 κ).ret).block 3 (kj [0, 1, 2, 6] X3)) (tmk 0 63 [(0, x0), (1, .int .i64 x1), (2, x2), (6, .int .i64 x6)]) H (kj [0, 1, 2, 6, 7, 8] J) = M225_7 o N J' κ x0 x1 x2 x6 H := by
  obtain rfl := fx7 hJ
  kernel_rfl
def M225_8 (o : Orc) (N : Nat) (X4 : V → Int → V → Int → Int → Heap → Ans) (J : V → Int → V → Int → Int → Int → Heap → Ans) (κ : Kv) (x0 : V) (x1 : Int) (x2 : V) (x6 x7 x8 : Int) (H : Heap) : Ans :=
  cond (decide (x8 ≤ x1)) (
  o 245 [x0, (.int .i64 x7), (.int .i64 (IntKind.i64.wrap (x7 + x6))), (.int .i64 x8), x2] H fun v5 H6 =>
  asT0 v5 (
  J x0 x1 x2 x6 x8 (IntKind.i64.wrap (x8 + (IntKind.i64.wrap (2 * x6)))) H6)) (
  X4 x0 x1 x2 x6 x7 H)
theorem M225_8_ok {o : Orc} {N : Nat} {κ : Kv} {X3 X4 J : Kt} {X4' : V → Int → V → Int → Int → Heap → Ans} {J' : V → Int → V → Int → Int → Int → Heap → Ans} (h4 : ∀ x0 x1 x2 x6 x7 H, X4 (tmk 0 63 [(0, x0), (1, .int .i64 x1), (2, x2), (6, .int .i64 x6), (7, .int .i64 x7)]) H = X4' x0 x1 x2 x6 x7 H) (hJ : ∀ x0 x1 x2 x6 x7 x8 H, J (tmk 0 63 [(0, x0), (1, .int .i64 x1), (2, x2), (6, .int .i64 x6), (7, .int .i64 x7), (8, .int .i64 x8)]) H = J' x0 x1 x2 x6 x7 x8 H) (x0 : V) (x1 : Int) (x2 : V) (x6 x7 x8 : Int) (H : Heap) :
    run Tryz.prog o N (cAt Tryz.f225 [1, 1, 1, 1, 4, 4, 1, 4, 1, 0, 4, 4]) .n ((((env0 Tryz.prog Tryz.f225 κ).block 2 (env0 Tryz.prog Tryz.f225 κ).ret).block 3 (kj [0, 1, 2, 6] X3)).block 4 (kj [0, 1, 2, 6, 7] X4)) (tmk 0 63 [(0, x0), (1, .int .i64 x1), (2, x2), (6, .int .i64 x6), (7, .int .i64 x7), (8, .int .i64 x8)]) H (kj [0, 1, 2, 6, 7, 8] J) = M225_8 o N X4' J' κ x0 x1 x2 x6 x7 x8 H := by
  obtain rfl := fx6 h4
  obtain rfl := fx7 hJ
  kernel_rfl
def M225_9 (o : Orc) (N : Nat) (X4 : V → Int → V → Int → Int → Heap → Ans) (κ : Kv) (n : Nat) : V → Int → V → Int → Int → Int → Heap → Ans :=
  Nat.rec (motive := fun _ => V → Int → V → Int → Int → Int → Heap → Ans) (fun _ _ _ _ _ _ _ => none) (fun _ ih x0 x1 x2 x6 x7 x8 H => M225_8 o N X4 ih κ x0 x1 x2 x6 x7 x8 H) n
theorem M225_9_s (o : Orc) (N : Nat) (X4 : V → Int → V → Int → Int → Heap → Ans) (κ : Kv) (n : Nat) (x0 : V) (x1 : Int) (x2 : V) (x6 x7 x8 : Int) (H : Heap) : M225_9 o N X4 κ (n + 1) x0 x1 x2 x6 x7 x8 H = M225_8 o N X4 (M225_9 o N X4 κ n) κ x0 x1 x2 x6 x7 x8 H := rfl
theorem M225_9_ok {o : Orc} {N : Nat} {κ : Kv} {X3 X4 : Kt} {X4' : V → Int → V → Int → Int → Heap → Ans} (h4 : ∀ x0 x1 x2 x6 x7 H, X4 (tmk 0 63 [(0, x0), (1, .int .i64 x1), (2, x2), (6, .int .i64 x6), (7, .int .i64 x7)]) H = X4' x0 x1 x2 x6 x7 H) (n : Nat) : ∀ (x0 : V) (x1 : Int) (x2 : V) (x6 x7 x8 : Int) (H : Heap),
    rounds (fun a H k => run Tryz.prog o N (cAt Tryz.f225 [1, 1, 1, 1, 4, 4, 1, 4, 1, 0, 4, 4]) .n ((((env0 Tryz.prog Tryz.f225 κ).block 2 (env0 Tryz.prog Tryz.f225 κ).ret).block 3 (kj [0, 1, 2, 6] X3)).block 4 (kj [0, 1, 2, 6, 7] X4)) a H k) (some (lvOf [0, 1, 2, 6, 7, 8])) n (tmk 0 63 [(0, x0), (1, .int .i64 x1), (2, x2), (6, .int .i64 x6), (7, .int .i64 x7), (8, .int .i64 x8)]) H = M225_9 o N X4' κ n x0 x1 x2 x6 x7 x8 H := by
  induction n with
  | zero => intros; rfl
  | succ n ih =>
    intro x0 x1 x2 x6 x7 x8 H
    refine (run_round.trans ?_).trans (M225_9_s ..).symm
    exact M225_8_ok h4 ih x0 x1 x2 x6 x7 x8 H
def A225_10 : An := .b none (.l (some (lvOf [0, 1, 2, 6, 7, 8])) .n)
def M225_11 (o : Orc) (N : Nat) (J : V → Int → V → Int → Heap → Ans) (κ : Kv) (x0 : V) (x1 : Int) (x2 : V) (x6 x7 : Int) (H : Heap) : Ans :=
  cond (decide ((IntKind.i64.wrap (x7 + x6)) < x1)) (
  o 245 [x0, (.int .i64 x7), (.int .i64 (IntKind.i64.wrap (x7 + x6))), (.int .i64 x1), x2] H fun v7 H8 =>
  asT0 v7 (
  J x0 x1 x2 (IntKind.i64.wrap (x6 * 2)) H8)) (
  J x0 x1 x2 (IntKind.i64.wrap (x6 * 2)) H)
theorem M225_11_ok {o : Orc} {N : Nat} {κ : Kv} {X3 J : Kt} {J' : V → Int → V → Int → Heap → Ans} (hJ : ∀ x0 x1 x2 x6 H, J (tmk 0 63 [(0, x0), (1, .int .i64 x1), (2, x2), (6, .int .i64 x6)]) H = J' x0 x1 x2 x6 H) (x0 : V) (x1 : Int) (x2 : V) (x6 x7 : Int) (H : Heap) :
    run Tryz.prog o N (cAt Tryz.f225 [1, 1, 1, 1, 4, 4, 1, 4, 1, 1]) .n (((env0 Tryz.prog Tryz.f225 κ).block 2 (env0 Tryz.prog Tryz.f225 κ).ret).block 3 (kj [0, 1, 2, 6] X3)) (tmk 0 63 [(0, x0), (1, .int .i64 x1), (2, x2), (6, .int .i64 x6), (7, .int .i64 x7)]) H (kj [0, 1, 2, 6] J) = M225_11 o N J' κ x0 x1 x2 x6 x7 H := by
  obtain rfl := fx5 hJ
  kernel_rfl
def A225_12 : An := .s A225_10 (some (lvOf [0, 1, 2, 6, 7])) .n
def A225_13 : An := .s .n (some (lvOf [0, 1, 2, 6, 7, 8])) A225_12
def A225_14 : An := .s .n (some (lvOf [0, 1, 2, 6])) (.b none A225_13)
def M225_15 (o : Orc) (N : Nat) (κ : Kv) (n : Nat) : V → Int → V → Int → Heap → Ans :=
  Nat.rec (motive := fun _ => V → Int → V → Int → Heap → Ans) (fun _ _ _ _ _ => none) (fun _ ih x0 x1 x2 x6 H => M225_6 o N (fun x0 x1 x2 x6 H => M225_7 o N (fun x0 x1 x2 x6 x7 x8 H => M225_9 o N (fun x0 x1 x2 x6 x7 H => M225_11 o N ih κ x0 x1 x2 x6 x7 H) κ N x0 x1 x2 x6 x7 x8 H) κ x0 x1 x2 x6 H) κ x0 x1 x2 x6 H) n
theorem M225_15_s (o : Orc) (N : Nat) (κ : Kv) (n : Nat) (x0 : V) (x1 : Int) (x2 : V) (x6 : Int) (H : Heap) : M225_15 o N κ (n + 1) x0 x1 x2 x6 H = M225_6 o N (fun x0 x1 x2 x6 H => M225_7 o N (fun x0 x1 x2 x6 x7 x8 H => M225_9 o N (fun x0 x1 x2 x6 x7 H => M225_11 o N (M225_15 o N κ n) κ x0 x1 x2 x6 x7 H) κ N x0 x1 x2 x6 x7 x8 H) κ x0 x1 x2 x6 H) κ x0 x1 x2 x6 H := rfl
theorem M225_15_ok {o : Orc} {N : Nat} {κ : Kv} (n : Nat) : ∀ (x0 : V) (x1 : Int) (x2 : V) (x6 : Int) (H : Heap),
    rounds (fun a H k => run Tryz.prog o N (cAt Tryz.f225 [1, 1, 1, 1, 4, 4]) A225_14 ((env0 Tryz.prog Tryz.f225 κ).block 2 (env0 Tryz.prog Tryz.f225 κ).ret) a H k) (some (lvOf [0, 1, 2, 6])) n (tmk 0 63 [(0, x0), (1, .int .i64 x1), (2, x2), (6, .int .i64 x6)]) H = M225_15 o N κ n x0 x1 x2 x6 H := by
  induction n with
  | zero => intros; rfl
  | succ n ih =>
    intro x0 x1 x2 x6 H
    refine (run_round.trans ?_).trans (M225_15_s ..).symm
    refine (run_seq (x := (cAt Tryz.f225 [1, 1, 1, 1, 4, 4, 0])) (ax := .n) (y := (cAt Tryz.f225 [1, 1, 1, 1, 4, 4, 1])) (ay := (.b none A225_13)) (l := [0, 1, 2, 6]) (by kernel_rfl) (by kernel_rfl)).trans ?_
    refine M225_6_ok ?_ x0 x1 x2 x6 H
    intro x0 x1 x2 x6 H
    refine (run_block (id := 3) (x := (cAt Tryz.f225 [1, 1, 1, 1, 4, 4, 1, 4])) (ax := A225_13) (by kernel_rfl) (by kernel_rfl)).trans ?_
    refine (run_seq (x := (cAt Tryz.f225 [1, 1, 1, 1, 4, 4, 1, 4, 0])) (ax := .n) (y := (cAt Tryz.f225 [1, 1, 1, 1, 4, 4, 1, 4, 1])) (ay := A225_12) (l := [0, 1, 2, 6, 7, 8]) (by kernel_rfl) (by kernel_rfl)).trans ?_
    refine M225_7_ok ?_ x0 x1 x2 x6 H
    intro x0 x1 x2 x6 x7 x8 H
    refine (run_seq (x := (cAt Tryz.f225 [1, 1, 1, 1, 4, 4, 1, 4, 1, 0])) (ax := A225_10) (y := (cAt Tryz.f225 [1, 1, 1, 1, 4, 4, 1, 4, 1, 1])) (ay := .n) (l := [0, 1, 2, 6, 7]) (by kernel_rfl) (by kernel_rfl)).trans ?_
    refine (run_block (id := 4) (x := (cAt Tryz.f225 [1, 1, 1, 1, 4, 4, 1, 4, 1, 0, 4])) (ax := (.l (some (lvOf [0, 1, 2, 6, 7, 8])) .n)) (by kernel_rfl) (by kernel_rfl)).trans ?_
    refine (run_loop (x := (cAt Tryz.f225 [1, 1, 1, 1, 4, 4, 1, 4, 1, 0, 4, 4])) (ax := .n) (l := [0, 1, 2, 6, 7, 8]) (by kernel_rfl) (by kernel_rfl) (by kernel_rfl)).trans ?_
    refine M225_9_ok ?_ N x0 x1 x2 x6 x7 x8 H
    intro x0 x1 x2 x6 x7 H
    exact M225_11_ok ih x0 x1 x2 x6 x7 H
def A225_16 : An := .b none (.l (some (lvOf [0, 1, 2, 6])) A225_14)
def A225_17 : An := .s .n (some (lvOf [0, 1, 2, 6])) A225_16
def A225_18 : An := .s A225_4 (some (lvOf [0, 1, 2, 6, 7])) A225_17
def A225_19 : An := .s .n (some (lvOf [0, 1, 2, 6, 7, 8])) A225_18
def A225_20 : An := .s .n (some (lvOf [0, 1, 2, 6])) A225_19
def M225 (o : Orc) (N : Nat) : FnM := fun vs H κ => match vs with
  | [x0, .int .i64 x1, x2] => M225_0 o N (fun x0 x1 x2 x6 H => M225_1 o N (fun x0 x1 x2 x6 x7 x8 H => M225_3 o N (fun x0 x1 x2 x6 x7 H => M225_5 o N (fun x0 x1 x2 x6 H => M225_15 o N κ N x0 x1 x2 x6 H) κ x0 x1 x2 x6 x7 H) κ N x0 x1 x2 x6 x7 x8 H) κ x0 x1 x2 x6 H) κ x0 x1 x2 H
  | _ => none
theorem M225_run (o : Orc) (N : Nat) (vs : List V) (H : Heap) (κ : Kv) (r) (h : M225 o N vs H κ = some r) : runFn Tryz.prog o N Tryz.f225 A225_20 vs H κ = some r := by
  unfold M225 at h
  split at h
  · rename_i x0 x1 x2
    refine (runFn_at (t := tmk 0 63 [(0, x0), (1, .int .i64 x1), (2, x2)]) (by kernel_rfl) (by kernel_rfl)).trans (Eq.trans ?_ h)
    refine (run_seq (x := (cAt Tryz.f225 [0])) (ax := .n) (y := (cAt Tryz.f225 [1])) (ay := A225_19) (l := [0, 1, 2, 6]) (by kernel_rfl) (by kernel_rfl)).trans ?_
    refine M225_0_ok ?_ x0 x1 x2 H
    intro x0 x1 x2 x6 H
    refine (run_seq (x := (cAt Tryz.f225 [1, 0])) (ax := .n) (y := (cAt Tryz.f225 [1, 1])) (ay := A225_18) (l := [0, 1, 2, 6, 7, 8]) (by kernel_rfl) (by kernel_rfl)).trans ?_
    refine M225_1_ok ?_ x0 x1 x2 x6 H
    intro x0 x1 x2 x6 x7 x8 H
    refine (run_seq (x := (cAt Tryz.f225 [1, 1, 0])) (ax := A225_4) (y := (cAt Tryz.f225 [1, 1, 1])) (ay := A225_17) (l := [0, 1, 2, 6, 7]) (by kernel_rfl) (by kernel_rfl)).trans ?_
    refine (run_block (id := 0) (x := (cAt Tryz.f225 [1, 1, 0, 4])) (ax := (.l (some (lvOf [0, 1, 2, 6, 7, 8])) .n)) (by kernel_rfl) (by kernel_rfl)).trans ?_
    refine (run_loop (x := (cAt Tryz.f225 [1, 1, 0, 4, 4])) (ax := .n) (l := [0, 1, 2, 6, 7, 8]) (by kernel_rfl) (by kernel_rfl) (by kernel_rfl)).trans ?_
    refine M225_3_ok ?_ N x0 x1 x2 x6 x7 x8 H
    intro x0 x1 x2 x6 x7 H
    refine (run_seq (x := (cAt Tryz.f225 [1, 1, 1, 0])) (ax := .n) (y := (cAt Tryz.f225 [1, 1, 1, 1])) (ay := A225_16) (l := [0, 1, 2, 6]) (by kernel_rfl) (by kernel_rfl)).trans ?_
    refine M225_5_ok ?_ x0 x1 x2 x6 x7 H
    intro x0 x1 x2 x6 H
    refine (run_block (id := 2) (x := (cAt Tryz.f225 [1, 1, 1, 1, 4])) (ax := (.l (some (lvOf [0, 1, 2, 6])) A225_14)) (by kernel_rfl) (by kernel_rfl)).trans ?_
    refine (run_loop (x := (cAt Tryz.f225 [1, 1, 1, 1, 4, 4])) (ax := A225_14) (l := [0, 1, 2, 6]) (by kernel_rfl) (by kernel_rfl) (by kernel_rfl)).trans ?_
    exact M225_15_ok N x0 x1 x2 x6 H
  · cases h
theorem M225_sound {o : Orc} (ho : ∀ f, FSound Tryz.prog f (o f)) (N : Nat) : FSound Tryz.prog 225 (M225 o N) :=
  FSound.sub (runFn_ok (an := A225_20) (fuel := N) hmix ho (by kernel_rfl) (by kernel_rfl)) (M225_run o N)
/-! 226 cmp.isNaN[int] -/
def M226_0 (o : Orc) (N : Nat) (κ : Kv) (x0 : Int) (H : Heap) : Ans :=
  κ (.bool (x0 != x0)) H
theorem M226_0_ok {o : Orc} {N : Nat} {κ : Kv} (x0 : Int) (H : Heap) :
    run Tryz.prog o N (cAt Tryz.f226 []) .n (env0 Tryz.prog Tryz.f226 κ) (tmk 0 6 [(0, .int .i64 x0)]) H (env0 Tryz.prog Tryz.f226 κ).ret = M226_0 o N κ x0 H := by
  kernel_rfl
def M226 (o : Orc) (N : Nat) : FnM := fun vs H κ => match vs with
  | [.int .i64 x0] => M226_0 o N κ x0 H
  | _ => none
theorem M226_run (o : Orc) (N : Nat) (vs : List V) (H : Heap) (κ : Kv) (r) (h : M226 o N vs H κ = some r) : runFn Tryz.prog o N Tryz.f226 .n vs H κ = some r := by
  unfold M226 at h
  split at h
  · rename_i x0
    refine (runFn_at (t := tmk 0 6 [(0, .int .i64 x0)]) (by kernel_rfl) (by kernel_rfl)).trans (Eq.trans ?_ h)
    exact M226_0_ok x0 H
  · cases h
theorem M226_sound {o : Orc} (ho : ∀ f, FSound Tryz.prog f (o f)) (N : Nat) : FSound Tryz.prog 226 (M226 o N) :=
  FSound.sub (runFn_ok (an := .n) (fuel := N) hmix ho (by kernel_rfl) (by kernel_rfl)) (M226_run o N)
/-! 227 ostinato/level.levels -/
def M227_0 (o : Orc) (N : Nat) (κ : Kv) (H : Heap) : Ans :=
  newB H (.row [(.bool false), (.bool false), (.bool false), (.bool false), (.bool false), (.bool false), (.bool false), (.bool false)]) fun i1 H2 =>
  (stN H2 i1 0 [(.bool true), (.bool true), (.bool true), (.bool true), (.bool false), (.bool true), (.bool false), (.bool false)]).bind fun H3 =>
  ldFlat H3 i1 [.bool, .bool, .bool, .bool, .bool, .bool, .bool, .bool] 0 fun l4 =>
  κ (.agg l4) H3
theorem M227_0_ok {o : Orc} {N : Nat} {κ : Kv} (H : Heap) :
    run Tryz.prog o N (cAt Tryz.f227 []) .n (env0 Tryz.prog Tryz.f227 κ) (tmk 0 6 []) H (env0 Tryz.prog Tryz.f227 κ).ret = M227_0 o N κ  H := by
  kernel_rfl
def M227 (o : Orc) (N : Nat) : FnM := fun vs H κ => match vs with
  | [] => M227_0 o N κ  H
  | _ => none
theorem M227_run (o : Orc) (N : Nat) (vs : List V) (H : Heap) (κ : Kv) (r) (h : M227 o N vs H κ = some r) : runFn Tryz.prog o N Tryz.f227 .n vs H κ = some r := by
  unfold M227 at h
  split at h
  · refine (runFn_at (t := tmk 0 6 []) (by kernel_rfl) (by kernel_rfl)).trans (Eq.trans ?_ h)
    exact M227_0_ok  H
  · cases h
theorem M227_sound {o : Orc} (ho : ∀ f, FSound Tryz.prog f (o f)) (N : Nat) : FSound Tryz.prog 227 (M227 o N) :=
  FSound.sub (runFn_ok (an := .n) (fuel := N) hmix ho (by kernel_rfl) (by kernel_rfl)) (M227_run o N)
/-! 228 ostinato/frame.Is -/
def M228_0 (o : Orc) (N : Nat) (κ : Kv) (x0 : List V) (H : Heap) : Ans :=
  cond (List.all x0 V.one) (
  newB H (.row x0) fun i1 H2 =>
  (ldB H2 i1 2).bind fun b3 =>
  cond b3 (
  (ldS H2 i1 3).bind fun s4 =>
  cond (!(s4 == [])) (
  κ (.bool false) H2) (
  (ldS H2 i1 3).bind fun s5 =>
  cond (decide (((List.length s5 : Nat) : Int) > 8)) (
  κ (.bool false) H2) (
  (ldB H2 i1 0).bind fun b6 =>
  cond b6 (
  (ldI H2 .u32 i1 1).bind fun n7 =>
  κ (.bool (decide (n7 < 536870912))) H2) (
  (ldI H2 .u32 i1 1).bind fun n8 =>
  κ (.bool (decide (n8 < 2048))) H2)))) (
  (ldS H2 i1 3).bind fun s9 =>
  cond (decide (((List.length s9 : Nat) : Int) > 8)) (
  κ (.bool false) H2) (
  (ldB H2 i1 0).bind fun b10 =>
  cond b10 (
  (ldI H2 .u32 i1 1).bind fun n11 =>
  κ (.bool (decide (n11 < 536870912))) H2) (
  (ldI H2 .u32 i1 1).bind fun n12 =>
  κ (.bool (decide (n12 < 2048))) H2)))) none
theorem M228_0_ok {o : Orc} {N : Nat} {κ : Kv} (x0 : List V) (H : Heap) :
    run Tryz.prog o N (cAt Tryz.f228 []) .n (env0 Tryz.prog Tryz.f228 κ) (tmk 0 24 [(0, .agg x0)]) H (env0 Tryz.prog Tryz.f228 κ).ret = M228_0 o N κ x0 H := by
  kernel_rfl
def M228 (o : Orc) (N : Nat) : FnM := fun vs H κ => match vs with
  | [.agg x0] => M228_0 o N κ x0 H
  | _ => none
theorem M228_run (o : Orc) (N : Nat) (vs : List V) (H : Heap) (κ : Kv) (r) (h : M228 o N vs H κ = some r) : runFn Tryz.prog o N Tryz.f228 .n vs H κ = some r := by
  unfold M228 at h
  split at h
  · rename_i x0
    refine (runFn_at (t := tmk 0 24 [(0, .agg x0)]) (by kernel_rfl) (by kernel_rfl)).trans (Eq.trans ?_ h)
    exact M228_0_ok x0 H
  · cases h
theorem M228_sound {o : Orc} (ho : ∀ f, FSound Tryz.prog f (o f)) (N : Nat) : FSound Tryz.prog 228 (M228 o N) :=
  FSound.sub (runFn_ok (an := .n) (fuel := N) hmix ho (by kernel_rfl) (by kernel_rfl)) (M228_run o N)
/-! 229 (*ostinato/queue.Queue).All -/
def M229_0 (o : Orc) (N : Nat) (J : V → Heap → Ans) (κ : Kv) (x0 : V) (H : Heap) : Ans :=
  J x0 H
theorem M229_0_ok {o : Orc} {N : Nat} {κ : Kv} {J : Kt} {J' : V → Heap → Ans} (hJ : ∀ x0 H, J (tmk 0 28 [(0, x0)]) H = J' x0 H) (x0 : V) (H : Heap) :
    run Tryz.prog o N (cAt Tryz.f229 [0]) .n (env0 Tryz.prog Tryz.f229 κ) (tmk 0 28 [(0, x0)]) H (kj [0] J) = M229_0 o N J' κ x0 H := by
  obtain rfl := fx2 hJ
  kernel_rfl
def M229_1 (o : Orc) (N : Nat) (J : V → V → Heap → Ans) (κ : Kv) (x0 : V) (H : Heap) : Ans :=
  J x0 .nils H
theorem M229_1_ok {o : Orc} {N : Nat} {κ : Kv} {J : Kt} {J' : V → V → Heap → Ans} (hJ : ∀ x0 x3 H, J (tmk 0 28 [(0, x0), (3, x3)]) H = J' x0 x3 H) (x0 : V) (H : Heap) :
    run Tryz.prog o N (cAt Tryz.f229 [1, 0]) .n (env0 Tryz.prog Tryz.f229 κ) (tmk 0 28 [(0, x0)]) H (kj [0, 3] J) = M229_1 o N J' κ x0 H := by
  obtain rfl := fx3 hJ
  kernel_rfl
def M229_2 (o : Orc) (N : Nat) (J : V → V → Int → Int → Heap → Ans) (κ : Kv) (x0 x3 : V) (H : Heap) : Ans :=
  asP x0 fun p1 o2 =>
  (ldV H p1 (o2 + 0)).bind fun v3 =>
  asC v3 fun p4 =>
  lenCh H p4 fun n5 =>
  J x0 x3 n5 0 H
theorem M229_2_ok {o : Orc} {N : Nat} {κ : Kv} {J : Kt} {J' : V → V → Int → Int → Heap → Ans} (hJ : ∀ x0 x3 x9 x10 H, J (tmk 0 28 [(0, x0), (3, x3), (9, .int .i64 x9), (10, .int .i64 x10)]) H = J' x0 x3 x9 x10 H) (x0 x3 : V) (H : Heap) :
    run Tryz.prog o N (cAt Tryz.f229 [1, 1, 0, 0]) .n (env0 Tryz.prog Tryz.f229 κ) (tmk 0 28 [(0, x0), (3, x3)]) H (kj [0, 3, 9, 10] J) = M229_2 o N J' κ x0 x3 H := by
  obtain rfl := fx5 hJ
  kernel_rfl
def A229_3 : An := (.s .n none (.s .n none (.s (.b none (.s .n none (.s .n none (.d [0, 1, 2, 3, 4, 5])))) none .n)))
def M229_4 (o : Orc) (N : Nat) (X0 : V → Heap → Ans) (κ : Kv) (x0 x3 : V) (x9 x10 : Int) (H : Heap) : Ans :=
  cond (decide (x10 < x9)) (
  asP x0 fun p6 o7 =>
  (ldV H p6 (o7 + 0)).bind fun v8 =>
  none) (
  X0 x3 H)
theorem M229_4_ok {o : Orc} {N : Nat} {κ : Kv} {X0 J : Kt} {X0' : V → Heap → Ans} (h0 : ∀ x3 H, X0 (tmk 0 28 [(3, x3)]) H = X0' x3 H) (x0 x3 : V) (x9 x10 : Int) (H : Heap) :
    run Tryz.prog o N (cAt Tryz.f229 [1, 1, 0, 1, 4, 4]) A229_3 ((env0 Tryz.prog Tryz.f229 κ).block 0 (kj [3] X0)) (tmk 0 28 [(0, x0), (3, x3), (9, .int .i64 x9), (10, .int .i64 x10)]) H (kj [0, 3, 9, 10] J) = M229_4 o N X0' κ x0 x3 x9 x10 H := by
  obtain rfl := fx2 h0
  kernel_rfl
def M229_5 (o : Orc) (N : Nat) (X0 : V → Heap → Ans) (κ : Kv) (n : Nat) : V → V → Int → Int → Heap → Ans :=
  Nat.rec (motive := fun _ => V → V → Int → Int → Heap → Ans) (fun _ _ _ _ _ => none) (fun _ ih x0 x3 x9 x10 H => M229_4 o N X0 κ x0 x3 x9 x10 H) n
theorem M229_5_s (o : Orc) (N : Nat) (X0 : V → Heap → Ans) (κ : Kv) (n : Nat) (x0 x3 : V) (x9 x10 : Int) (H : Heap) : M229_5 o N X0 κ (n + 1) x0 x3 x9 x10 H = M229_4 o N X0 κ x0 x3 x9 x10 H := rfl
theorem M229_5_ok {o : Orc} {N : Nat} {κ : Kv} {X0 : Kt} {X0' : V → Heap → Ans} (h0 : ∀ x3 H, X0 (tmk 0 28 [(3, x3)]) H = X0' x3 H) (n : Nat) : ∀ (x0 x3 : V) (x9 x10 : Int) (H : Heap),
    rounds (fun a H k => run Tryz.prog o N (cAt Tryz.f229 [1, 1, 0, 1, 4, 4]) A229_3 ((env0 Tryz.prog Tryz.f229 κ).block 0 (kj [3] X0)) a H k) (some (lvOf [0, 3, 9, 10])) n (tmk 0 28 [(0, x0), (3, x3), (9, .int .i64 x9), (10, .int .i64 x10)]) H = M229_5 o N X0' κ n x0 x3 x9 x10 H := by
  induction n with
  | zero => intros; rfl
  | succ n ih =>
    intro x0 x3 x9 x10 H
    refine (run_round.trans ?_).trans (M229_5_s ..).symm
    exact M229_4_ok h0 x0 x3 x9 x10 H
def A229_6 : An := .b none (.l (some (lvOf [0, 3, 9, 10])) A229_3)
def A229_7 : An := .s .n (some (lvOf [0, 3, 9, 10])) A229_6
def M229_8 (o : Orc) (N : Nat) (κ : Kv) (x3 : V) (H : Heap) : Ans :=
  κ x3 H
theorem M229_8_ok {o : Orc} {N : Nat} {κ : Kv} (x3 : V) (H : Heap) :
    run Tryz.prog o N (cAt Tryz.f229 [1, 1, 1]) .n (env0 Tryz.prog Tryz.f229 κ) (tmk 0 28 [(3, x3)]) H (env0 Tryz.prog Tryz.f229 κ).ret = M229_8 o N κ x3 H := by
  kernel_rfl
def A229_9 : An := .s .n (some (lvOf [0, 3])) (.s A229_7 (some (lvOf [3])) .n)
def M229 (o : Orc) (N : Nat) : FnM := fun vs H κ => match vs with
  | [x0] => M229_0 o N (fun x0 H => M229_1 o N (fun x0 x3 H => M229_2 o N (fun x0 x3 x9 x10 H => M229_5 o N (fun x3 H => M229_8 o N κ x3 H) κ N x0 x3 x9 x10 H) κ x0 x3 H) κ x0 H) κ x0 H
  | _ => none
theorem M229_run (o : Orc) (N : Nat) (vs : List V) (H : Heap) (κ : Kv) (r) (h : M229 o N vs H κ = some r) : runFn Tryz.prog o N Tryz.f229 (.s .n (some (lvOf [0])) A229_9) vs H κ = some r := by
  unfold M229 at h
  split at h
  · rename_i x0
    refine (runFn_at (t := tmk 0 28 [(0, x0)]) (by kernel_rfl) (by kernel_rfl)).trans (Eq.trans ?_ h)
    refine (run_seq (x := (cAt Tryz.f229 [0])) (ax := .n) (y := (cAt Tryz.f229 [1])) (ay := A229_9) (l := [0]) (by kernel_rfl) (by kernel_rfl)).trans ?_
    refine M229_0_ok ?_ x0 H
    intro x0 H
    refine (run_seq (x := (cAt Tryz.f229 [1, 0])) (ax := .n) (y := (cAt Tryz.f229 [1, 1])) (ay := (.s A229_7 (some (lvOf [3])) .n)) (l := [0, 3]) (by kernel_rfl) (by kernel_rfl)).trans ?_
    refine M229_1_ok ?_ x0 H
    intro x0 x3 H
    refine (run_seq (x := (cAt Tryz.f229 [1, 1, 0])) (ax := A229_7) (y := (cAt Tryz.f229 [1, 1, 1])) (ay := .n) (l := [3]) (by kernel_rfl) (by kernel_rfl)).trans ?_
    refine (run_seq (x := (cAt Tryz.f229 [1, 1, 0, 0])) (ax := .n) (y := (cAt Tryz.f229 [1, 1, 0, 1])) (ay := A229_6) (l := [0, 3, 9, 10]) (by kernel_rfl) (by kernel_rfl)).trans ?_
    refine M229_2_ok ?_ x0 x3 H
    intro x0 x3 x9 x10 H
    refine (run_block (id := 0) (x := (cAt Tryz.f229 [1, 1, 0, 1, 4])) (ax := (.l (some (lvOf [0, 3, 9, 10])) A229_3)) (by kernel_rfl) (by kernel_rfl)).trans ?_
    refine (run_loop (x := (cAt Tryz.f229 [1, 1, 0, 1, 4, 4])) (ax := A229_3) (l := [0, 3, 9, 10]) (by kernel_rfl) (by kernel_rfl) (by kernel_rfl)).trans ?_
    refine M229_5_ok ?_ N x0 x3 x9 x10 H
    intro x3 H
    exact M229_8_ok x3 H
  · cases h
theorem M229_sound {o : Orc} (ho : ∀ f, FSound Tryz.prog f (o f)) (N : Nat) : FSound Tryz.prog 229 (M229 o N) :=
  FSound.sub (runFn_ok (an := (.s .n (some (lvOf [0])) A229_9)) (fuel := N) hmix ho (by kernel_rfl) (by kernel_rfl)) (M229_run o N)
/-! 230 (*ostinato/stuff.Run).Full -/
def M230_0 (o : Orc) (N : Nat) (κ : Kv) (x0 : V) (H : Heap) : Ans :=
  asP x0 fun p1 o2 =>
  (ldI H .i64 p1 (o2 + 1)).bind fun n3 =>
  κ (.bool (n3 == 5)) H
theorem M230_0_ok {o : Orc} {N : Nat} {κ : Kv} (x0 : V) (H : Heap) :
    run Tryz.prog o N (cAt Tryz.f230 []) .n (env0 Tryz.prog Tryz.f230 κ) (tmk 0 8 [(0, x0)]) H (env0 Tryz.prog Tryz.f230 κ).ret = M230_0 o N κ x0 H := by
  kernel_rfl
def M230 (o : Orc) (N : Nat) : FnM := fun vs H κ => match vs with
  | [x0] => M230_0 o N κ x0 H
  | _ => none
theorem M230_run (o : Orc) (N : Nat) (vs : List V) (H : Heap) (κ : Kv) (r) (h : M230 o N vs H κ = some r) : runFn Tryz.prog o N Tryz.f230 .n vs H κ = some r := by
  unfold M230 at h
  split at h
  · rename_i x0
    refine (runFn_at (t := tmk 0 8 [(0, x0)]) (by kernel_rfl) (by kernel_rfl)).trans (Eq.trans ?_ h)
    exact M230_0_ok x0 H
  · cases h
theorem M230_sound {o : Orc} (ho : ∀ f, FSound Tryz.prog f (o f)) (N : Nat) : FSound Tryz.prog 230 (M230 o N) :=
  FSound.sub (runFn_ok (an := .n) (fuel := N) hmix ho (by kernel_rfl) (by kernel_rfl)) (M230_run o N)
/-! 231 (*ostinato/stuff.Run).Other -/
def M231_0 (o : Orc) (N : Nat) (κ : Kv) (x0 : V) (H : Heap) : Ans :=
  asP x0 fun p1 o2 =>
  (ldI H .u8 p1 (o2 + 0)).bind fun n3 =>
  o 246 [(.int .u8 n3)] H fun v4 H5 =>
  asI .u8 v4 fun n6 =>
  κ (.int .u8 n6) H5
theorem M231_0_ok {o : Orc} {N : Nat} {κ : Kv} (x0 : V) (H : Heap) :
    run Tryz.prog o N (cAt Tryz.f231 []) .n (env0 Tryz.prog Tryz.f231 κ) (tmk 0 8 [(0, x0)]) H (env0 Tryz.prog Tryz.f231 κ).ret = M231_0 o N κ x0 H := by
  kernel_rfl
def M231 (o : Orc) (N : Nat) : FnM := fun vs H κ => match vs with
  | [x0] => M231_0 o N κ x0 H
  | _ => none
theorem M231_run (o : Orc) (N : Nat) (vs : List V) (H : Heap) (κ : Kv) (r) (h : M231 o N vs H κ = some r) : runFn Tryz.prog o N Tryz.f231 .n vs H κ = some r := by
  unfold M231 at h
  split at h
  · rename_i x0
    refine (runFn_at (t := tmk 0 8 [(0, x0)]) (by kernel_rfl) (by kernel_rfl)).trans (Eq.trans ?_ h)
    exact M231_0_ok x0 H
  · cases h
theorem M231_sound {o : Orc} (ho : ∀ f, FSound Tryz.prog f (o f)) (N : Nat) : FSound Tryz.prog 231 (M231 o N) :=
  FSound.sub (runFn_ok (an := .n) (fuel := N) hmix ho (by kernel_rfl) (by kernel_rfl)) (M231_run o N)
/-! 232 (*ostinato/stuff.Run).Add -/
def M232_0 (o : Orc) (N : Nat) (κ : Kv) (x0 : V) (x1 : Int) (H : Heap) : Ans :=
  asP x0 fun p1 o2 =>
  (ldI H .i64 p1 (o2 + 1)).bind fun n3 =>
  cond (decide (n3 > 0)) (
  asP x0 fun p4 o5 =>
  (ldI H .u8 p4 (o5 + 0)).bind fun n6 =>
  cond (x1 == n6) (
  asP x0 fun p7 o8 =>
  (ldI H .i64 p7 (o8 + 1)).bind fun n9 =>
  asP x0 fun p10 o11 =>
  (stN H p10 (o11 + 1) [(.int .i64 (IntKind.i64.wrap (n9 + 1)))]).bind fun H12 =>
  κ (.tup []) H12) (
  asP x0 fun p13 o14 =>
  (stN H p13 o14 [(.int .u8 x1), (.int .i64 1)]).bind fun H15 =>
  κ (.tup []) H15)) (
  asP x0 fun p16 o17 =>
  (stN H p16 o17 [(.int .u8 x1), (.int .i64 1)]).bind fun H18 =>
  κ (.tup []) H18)
theorem M232_0_ok {o : Orc} {N : Nat} {κ : Kv} (x0 : V) (x1 : Int) (H : Heap) :
    run Tryz.prog o N (cAt Tryz.f232 []) .n (env0 Tryz.prog Tryz.f232 κ) (tmk 0 28 [(0, x0), (1, .int .u8 x1)]) H (env0 Tryz.prog Tryz.f232 κ).ret = M232_0 o N κ x0 x1 H := by
  kernel_rfl
def M232 (o : Orc) (N : Nat) : FnM := fun vs H κ => match vs with
  | [x0, .int .u8 x1] => M232_0 o N κ x0 x1 H
  | _ => none
theorem M232_run (o : Orc) (N : Nat) (vs : List V) (H : Heap) (κ : Kv) (r) (h : M232 o N vs H κ = some r) : runFn Tryz.prog o N Tryz.f232 .n vs H κ = some r := by
  unfold M232 at h
  split at h
  · rename_i x0 x1
    refine (runFn_at (t := tmk 0 28 [(0, x0), (1, .int .u8 x1)]) (by kernel_rfl) (by kernel_rfl)).trans (Eq.trans ?_ h)
    exact M232_0_ok x0 x1 H
  · cases h
theorem M232_sound {o : Orc} (ho : ∀ f, FSound Tryz.prog f (o f)) (N : Nat) : FSound Tryz.prog 232 (M232 o N) :=
  FSound.sub (runFn_ok (an := .n) (fuel := N) hmix ho (by kernel_rfl) (by kernel_rfl)) (M232_run o N)
/-! 233 (*ostinato/code.Reader).add -/
def A233_0 : An := (.s .n none (.s (.d [0, 1, 2, 3, 4, 5, 6, 7, 8, 9, 10, 11, 12, 13, 14, 15, 16, 17, 18]) none (.s .n none (.s .n none (.s (.d [0, 1, 2, 3, 4, 5, 6, 7, 8, 9, 10, 11, 12, 13, 14]) none .n)))))
def M233_1 (o : Orc) (N : Nat) (κ : Kv) (x0 : V) (x1 : Int) (H : Heap) : Ans :=
  asP x0 fun p1 o2 =>
  (ldI (Heap.skip H 19) .i64 p1 (o2 + 130)).bind fun n3 =>
  asP x0 fun p4 o5 =>
  asP x0 fun p6 o7 =>
  (ldI (Heap.skip H 19) .i64 p6 (o7 + 130)).bind fun n8 =>
  bounds 128 (some (.int .i64 n8)) none fun l9 u10 =>
  cpyV (Heap.newAt (Heap.skip H 19) (H.next + 13) (.row [(.int .u8 x1)])) (.sl p4 ((o5 + 2) + l9 * 1) (u10 - l9) 1 false) (.sl (H.next + 13) 0 1 1 true) 1 fun n11 H12 =>
  (ldI H12 .i64 p1 (o2 + 130)).bind fun n13 =>
  cond (decide (n3 = n13)) (
  asP x0 fun p14 o15 =>
  (stN H12 p14 (o15 + 130) [(.int .i64 (IntKind.i64.wrap (n3 + n11)))]).bind fun H16 =>
  asP x0 fun p17 o18 =>
  (ldI H16 .u16 p17 (o18 + 132)).bind fun n19 =>
  o 247 [(.int .u16 n19), (.bool (x1 == 49))] H16 fun v20 H21 =>
  asI .u16 v20 fun n22 =>
  asP x0 fun p23 o24 =>
  (stN H21 p23 (o24 + 132) [(.int .u16 n22)]).bind fun H25 =>
  asP x0 fun p26 o27 =>
  (ldI H25 .i64 p26 (o27 + 131)).bind fun n28 =>
  cond (decide (n28 > 0)) (
  κ (.int .i64 0) H25) (
  asP x0 fun p29 o30 =>
  asP x0 fun p31 o32 =>
  (ldI (Heap.skip H25 15) .i64 p31 (o32 + 130)).bind fun n33 =>
  bounds 128 none (some (.int .i64 n33)) fun l34 u35 =>
  bytesV (Heap.skip H25 15) (.sl p29 ((o30 + 2) + l34 * 1) (u35 - l34) 1 false) fun s36 =>
  o 248 [(.str s36)] (Heap.skip H25 15) fun v37 H38 =>
  asT2 v37 fun v39 v40 =>
  asI .i64 v39 fun n41 =>
  asI .i64 v40 fun n42 =>
  cond (n42 != 0) (
  κ (.int .i64 n42) H38) (
  asP x0 fun p43 o44 =>
  (stN H38 p43 (o44 + 131) [(.int .i64 n41)]).bind fun H45 =>
  κ (.int .i64 0) H45))) none
theorem M233_1_ok {o : Orc} {N : Nat} {κ : Kv} (x0 : V) (x1 : Int) (H : Heap) :
    run Tryz.prog o N (cAt Tryz.f233 []) A233_0 (env0 Tryz.prog Tryz.f233 κ) (tmk 0 60 [(0, x0), (1, .int .u8 x1)]) H (env0 Tryz.prog Tryz.f233 κ).ret = M233_1 o N κ x0 x1 H := by
  kernel_rfl
def M233 (o : Orc) (N : Nat) : FnM := fun vs H κ => match vs with
  | [x0, .int .u8 x1] => M233_1 o N κ x0 x1 H
  | _ => none
theorem M233_run (o : Orc) (N : Nat) (vs : List V) (H : Heap) (κ : Kv) (r) (h : M233 o N vs H κ = some r) : runFn Tryz.prog o N Tryz.f233 A233_0 vs H κ = some r := by
  unfold M233 at h
  split at h
  · rename_i x0 x1
    refine (runFn_at (t := tmk 0 60 [(0, x0), (1, .int .u8 x1)]) (by kernel_rfl) (by kernel_rfl)).trans (Eq.trans ?_ h)
    exact M233_1_ok x0 x1 H
  · cases h
theorem M233_sound {o : Orc} (ho : ∀ f, FSound Tryz.prog f (o f)) (N : Nat) : FSound Tryz.prog 233 (M233 o N) :=
  FSound.sub (runFn_ok (an := A233_0) (fuel := N) hmix ho (by kernel_rfl) (by kernel_rfl)) (M233_run o N)
/-! 234 (*ostinato/code.Reader).tail -/
def M234_0 (o : Orc) (N : Nat) (κ : Kv) (x0 : V) (x1 : Int) (H : Heap) : Ans :=
  asP x0 fun p1 o2 =>
  (ldI H .i64 p1 (o2 + 133)).bind fun n3 =>
  asP x0 fun p4 o5 =>
  (stN H p4 (o5 + 133) [(.int .i64 (IntKind.i64.wrap (n3 + 1)))]).bind fun H6 =>
  asP x0 fun p7 o8 =>
  (ldI H6 .i64 p7 (o8 + 133)).bind fun n9 =>
  cond (n9 == 2) (
  κ (.int .i64 0) H6) (
  cond (x1 != 49) (
  κ (.int .i64 12) H6) (
  asP x0 fun p10 o11 =>
  (ldI H6 .i64 p10 (o11 + 133)).bind fun n12 =>
  cond (n12 == 3) (
  o 136 [x0] H6 fun v13 H14 =>
  asB v13 fun b15 =>
  cond (!b15) (
  κ (.int .i64 40) H14) (
  κ (.int .i64 0) H14)) (
  κ (.int .i64 0) H6)))
theorem M234_0_ok {o : Orc} {N : Nat} {κ : Kv} (x0 : V) (x1 : Int) (H : Heap) :
    run Tryz.prog o N (cAt Tryz.f234 []) .n (env0 Tryz.prog Tryz.f234 κ) (tmk 0 32 [(0, x0), (1, .int .u8 x1)]) H (env0 Tryz.prog Tryz.f234 κ).ret = M234_0 o N κ x0 x1 H := by
  kernel_rfl
def M234 (o : Orc) (N : Nat) : FnM := fun vs H κ => match vs with
  | [x0, .int .u8 x1] => M234_0 o N κ x0 x1 H
  | _ => none
theorem M234_run (o : Orc) (N : Nat) (vs : List V) (H : Heap) (κ : Kv) (r) (h : M234 o N vs H κ = some r) : runFn Tryz.prog o N Tryz.f234 .n vs H κ = some r := by
  unfold M234 at h
  split at h
  · rename_i x0 x1
    refine (runFn_at (t := tmk 0 32 [(0, x0), (1, .int .u8 x1)]) (by kernel_rfl) (by kernel_rfl)).trans (Eq.trans ?_ h)
    exact M234_0_ok x0 x1 H
  · cases h
theorem M234_sound {o : Orc} (ho : ∀ f, FSound Tryz.prog f (o f)) (N : Nat) : FSound Tryz.prog 234 (M234 o N) :=
  FSound.sub (runFn_ok (an := .n) (fuel := N) hmix ho (by kernel_rfl) (by kernel_rfl)) (M234_run o N)
/-! 235 ostinato/frame.Body -/
def A235_0 : An := (.s .n none (.s .n none (.s .n none (.s .n none (.s (.d [0, 2, 4, 5, 6, 7, 10, 11, 1, 3, 8, 9, 12, 13, 14]) none .n)))))
def M235_1 (o : Orc) (N : Nat) (κ : Kv) (x0 : List V) (H : Heap) : Ans :=
  cond (List.all x0 V.one) (
  newB H (.row x0) fun i1 H2 =>
  ldFlat H2 i1 [.bool, .int .u32, .bool, .str] 0 fun l3 =>
  o 228 [(.agg l3)] H2 fun v4 H5 =>
  asB v4 fun b6 =>
  cond (!b6) (
  κ (.str []) H5) (
  (ldB H5 i1 0).bind fun b7 =>
  cond b7 (
  ldFlat (Heap.skip H5 15) i1 [.bool, .int .u32, .bool, .str] 0 fun l8 =>
  (ldS (Heap.skip H5 15) i1 3).bind fun s9 =>
  (ldS (Heap.skip H5 15) i1 3).bind fun s10 =>
  o 212 [(.agg l8)] (Heap.skip H5 15) fun v11 H12 =>
  asS v11 fun s13 =>
  (ldS H12 i1 3).bind fun s14 =>
  cond (decide (s10 = s14)) (
  (ldS H12 i1 3).bind fun s15 =>
  cond (decide (s9 = s15)) (
  cond (Nat.ble (List.length s13 + List.length [48, 48]) big) (
  o 236 [(.int .u64 (IntKind.u64.wrap ((List.length s9 : Nat) : Int))), (.int .i64 4)] H12 fun v16 H17 =>
  asS v16 fun s18 =>
  (ldS H17 i1 3).bind fun s19 =>
  cond (decide (s10 = s19)) (
  cond (Nat.ble (List.length (s13 ++ [48, 48]) + List.length s18) big) (
  o 249 [(.str s10)] H17 fun v20 H21 =>
  asS v20 fun s22 =>
  cond (Nat.ble (List.length ((s13 ++ [48, 48]) ++ s18) + List.length s22) big) (
  κ (.str (((s13 ++ [48, 48]) ++ s18) ++ s22)) H21) none) none) none) none) none) none) (
  ldFlat (Heap.skip H5 15) i1 [.bool, .int .u32, .bool, .str] 0 fun l23 =>
  (ldS (Heap.skip H5 15) i1 3).bind fun s24 =>
  (ldS (Heap.skip H5 15) i1 3).bind fun s25 =>
  o 212 [(.agg l23)] (Heap.skip H5 15) fun v26 H27 =>
  asS v26 fun s28 =>
  (ldS H27 i1 3).bind fun s29 =>
  cond (decide (s25 = s29)) (
  (ldS H27 i1 3).bind fun s30 =>
  cond (decide (s24 = s30)) (
  cond (Nat.ble (List.length s28 + List.length [48]) big) (
  o 236 [(.int .u64 (IntKind.u64.wrap ((List.length s24 : Nat) : Int))), (.int .i64 4)] H27 fun v31 H32 =>
  asS v31 fun s33 =>
  (ldS H32 i1 3).bind fun s34 =>
  cond (decide (s25 = s34)) (
  cond (Nat.ble (List.length (s28 ++ [48]) + List.length s33) big) (
  o 249 [(.str s25)] H32 fun v35 H36 =>
  asS v35 fun s37 =>
  cond (Nat.ble (List.length ((s28 ++ [48]) ++ s33) + List.length s37) big) (
  κ (.str (((s28 ++ [48]) ++ s33) ++ s37)) H36) none) none) none) none) none) none))) none
theorem M235_1_ok {o : Orc} {N : Nat} {κ : Kv} (x0 : List V) (H : Heap) :
    run Tryz.prog o N (cAt Tryz.f235 []) A235_0 (env0 Tryz.prog Tryz.f235 κ) (tmk 0 23 [(0, .agg x0)]) H (env0 Tryz.prog Tryz.f235 κ).ret = M235_1 o N κ x0 H := by
  kernel_rfl
def M235 (o : Orc) (N : Nat) : FnM := fun vs H κ => match vs with
  | [.agg x0] => M235_1 o N κ x0 H
  | _ => none
theorem M235_run (o : Orc) (N : Nat) (vs : List V) (H : Heap) (κ : Kv) (r) (h : M235 o N vs H κ = some r) : runFn Tryz.prog o N Tryz.f235 A235_0 vs H κ = some r := by
  unfold M235 at h
  split at h
  · rename_i x0
    refine (runFn_at (t := tmk 0 23 [(0, .agg x0)]) (by kernel_rfl) (by kernel_rfl)).trans (Eq.trans ?_ h)
    exact M235_1_ok x0 H
  · cases h
theorem M235_sound {o : Orc} (ho : ∀ f, FSound Tryz.prog f (o f)) (N : Nat) : FSound Tryz.prog 235 (M235 o N) :=
  FSound.sub (runFn_ok (an := A235_0) (fuel := N) hmix ho (by kernel_rfl) (by kernel_rfl)) (M235_run o N)
/-! 236 ostinato/bits.Of -/
def M236_0 (o : Orc) (N : Nat) (J : Int → Int → Heap → Ans) (κ : Kv) (x0 x1 : Int) (H : Heap) : Ans :=
  J x0 x1 H
theorem M236_0_ok {o : Orc} {N : Nat} {κ : Kv} {J : Kt} {J' : Int → Int → Heap → Ans} (hJ : ∀ x0 x1 H, J (tmk 0 32 [(0, .int .u64 x0), (1, .int .i64 x1)]) H = J' x0 x1 H) (x0 x1 : Int) (H : Heap) :
    run Tryz.prog o N (cAt Tryz.f236 [0]) .n (env0 Tryz.prog Tryz.f236 κ) (tmk 0 32 [(0, .int .u64 x0), (1, .int .i64 x1)]) H (kj [0, 1] J) = M236_0 o N J' κ x0 x1 H := by
  obtain rfl := fx3 hJ
  kernel_rfl
def M236_1 (o : Orc) (N : Nat) (J : Int → V → Heap → Ans) (κ : Kv) (x0 x1 : Int) (H : Heap) : Ans :=
  cond (decide (0 ≤ (if 64 < (if 0 > x1 then 0 else x1) then 64 else (if 0 > x1 then 0 else x1))) && decide ((if 64 < (if 0 > x1 then 0 else x1) then 64 else (if 0 > x1 then 0 else x1)) ≤ (if 64 < (if 0 > x1 then 0 else x1) then 64 else (if 0 > x1 then 0 else x1))) && decide ((if 64 < (if 0 > x1 then 0 else x1) then 64 else (if 0 > x1 then 0 else x1)) ≤ 4294967296) && Nat.ble 1 1024 && Nat.blt 0 1) (
  newB H (.row (List.flatten (List.replicate (Int.toNat (if 64 < (if 0 > x1 then 0 else x1) then 64 else (if 0 > x1 then 0 else x1))) [(.int .u8 0)]))) fun i1 H2 =>
  J x0 (.sl i1 0 (Int.toNat (if 64 < (if 0 > x1 then 0 else x1) then 64 else (if 0 > x1 then 0 else x1))) 1 true) H2) none
theorem M236_1_ok {o : Orc} {N : Nat} {κ : Kv} {J : Kt} {J' : Int → V → Heap → Ans} (hJ : ∀ x0 x5 H, J (tmk 0 32 [(0, .int .u64 x0), (5, x5)]) H = J' x0 x5 H) (x0 x1 : Int) (H : Heap) :
    run Tryz.prog o N (cAt Tryz.f236 [1, 0]) .n (env0 Tryz.prog Tryz.f236 κ) (tmk 0 32 [(0, .int .u64 x0), (1, .int .i64 x1)]) H (kj [0, 5] J) = M236_1 o N J' κ x0 x1 H := by
  obtain rfl := fx3 hJ
  kernel_rfl
def M236_2 (o : Orc) (N : Nat) (J : Int → V → Int → Int → Heap → Ans) (κ : Kv) (x0 : Int) (x5 : V) (H : Heap) : Ans :=
  lenS x5 fun n3 =>
  J x0 x5 n3 0 H
theorem M236_2_ok {o : Orc} {N : Nat} {κ : Kv} {J : Kt} {J' : Int → V → Int → Int → Heap → Ans} (hJ : ∀ x0 x5 x12 x13 H, J (tmk 0 32 [(0, .int .u64 x0), (5, x5), (12, .int .i64 x12), (13, .int .i64 x13)]) H = J' x0 x5 x12 x13 H) (x0 : Int) (x5 : V) (H : Heap) :
    run Tryz.prog o N (cAt Tryz.f236 [1, 1, 0, 0]) .n (env0 Tryz.prog Tryz.f236 κ) (tmk 0 32 [(0, .int .u64 x0), (5, x5)]) H (kj [0, 5, 12, 13] J) = M236_2 o N J' κ x0 x5 H := by
  obtain rfl := fx5 hJ
  kernel_rfl
def M236_3 (o : Orc) (N : Nat) (X0 : V → Heap → Ans) (J : Int → V → Int → Int → Heap → Ans) (κ : Kv) (x0 : Int) (x5 : V) (x12 x13 : Int) (H : Heap) : Ans :=
  cond (decide (x13 < x12)) (
  lenS x5 fun n4 =>
  cond (decide (x13 < 0)) none (
  o 250 [(.bool ((IntKind.u64.wrap (Int.ofNat ((BitVec.ofInt (IntKind.bits .u64) (Int.fdiv x0 (2 ^ (min (Int.toNat x13) (IntKind.bits .u64))))) &&& (BitVec.ofInt (IntKind.bits .u64) 1)).toNat)) == 1))] H fun v5 H6 =>
  asI .u8 v5 fun n7 =>
  idxS 1 x5 (IntKind.i64.wrap ((IntKind.i64.wrap (n4 - 1)) - x13)) fun p8 o9 =>
  (stN H6 p8 o9 [(.int .u8 n7)]).bind fun H10 =>
  J x0 x5 x12 (IntKind.i64.wrap (x13 + 1)) H10)) (
  X0 x5 H)
theorem M236_3_ok {o : Orc} {N : Nat} {κ : Kv} {X0 J : Kt} {X0' : V → Heap → Ans} {J' : Int → V → Int → Int → Heap → Ans} (h0 : ∀ x5 H, X0 (tmk 0 32 [(5, x5)]) H = X0' x5 H) (hJ : ∀ x0 x5 x12 x13 H, J (tmk 0 32 [(0, .int .u64 x0), (5, x5), (12, .int .i64 x12), (13, .int .i64 x13)]) H = J' x0 x5 x12 x13 H) (x0 : Int) (x5 : V) (x12 x13 : Int) (H : Heap) :
    run Tryz.prog o N (cAt Tryz.f236 [1, 1, 0, 1, 4, 4]) .n ((env0 Tryz.prog Tryz.f236 κ).block 0 (kj [5] X0)) (tmk 0 32 [(0, .int .u64 x0), (5, x5), (12, .int .i64 x12), (13, .int .i64 x13)]) H (kj [0, 5, 12, 13] J) = M236_3 o N X0' J' κ x0 x5 x12 x13 H := by
  obtain rfl := fx2 h0
  obtain rfl := fx5 hJ
  kernel_rfl
def M236_4 (o : Orc) (N : Nat) (X0 : V → Heap → Ans) (κ : Kv) (n : Nat) : Int → V → Int → Int → Heap → Ans :=
  Nat.rec (motive := fun _ => Int → V → Int → Int → Heap → Ans) (fun _ _ _ _ _ => none) (fun _ ih x0 x5 x12 x13 H => M236_3 o N X0 ih κ x0 x5 x12 x13 H) n
theorem M236_4_s (o : Orc) (N : Nat) (X0 : V → Heap → Ans) (κ : Kv) (n : Nat) (x0 : Int) (x5 : V) (x12 x13 : Int) (H : Heap) : M236_4 o N X0 κ (n + 1) x0 x5 x12 x13 H = M236_3 o N X0 (M236_4 o N X0 κ n) κ x0 x5 x12 x13 H := rfl
theorem M236_4_ok {o : Orc} {N : Nat} {κ : Kv} {X0 : Kt} {X0' : V → Heap → Ans} (h0 : ∀ x5 H, X0 (tmk 0 32 [(5, x5)]) H = X0' x5 H) (n : Nat) : ∀ (x0 : Int) (x5 : V) (x12 x13 : Int) (H : Heap),
    rounds (fun a H k => run Tryz.prog o N (cAt Tryz.f236 [1, 1, 0, 1, 4, 4]) .n ((env0 Tryz.prog Tryz.f236 κ).block 0 (kj [5] X0)) a H k) (some (lvOf [0, 5, 12, 13])) n (tmk 0 32 [(0, .int .u64 x0), (5, x5), (12, .int .i64 x12), (13, .int .i64 x13)]) H = M236_4 o N X0' κ n x0 x5 x12 x13 H := by
  induction n with
  | zero => intros; rfl
  | succ n ih =>
    intro x0 x5 x12 x13 H
    refine (run_round.trans ?_).trans (M236_4_s ..).symm
    exact M236_3_ok h0 ih x0 x5 x12 x13 H
def A236_5 : An := .b none (.l (some (lvOf [0, 5, 12, 13])) .n)
def A236_6 : An := .s .n (some (lvOf [0, 5, 12, 13])) A236_5
def M236_7 (o : Orc) (N : Nat) (κ : Kv) (x5 : V) (H : Heap) : Ans :=
  bytesV H x5 fun s11 =>
  κ (.str s11) H
theorem M236_7_ok {o : Orc} {N : Nat} {κ : Kv} (x5 : V) (H : Heap) :
    run Tryz.prog o N (cAt Tryz.f236 [1, 1, 1]) .n (env0 Tryz.prog Tryz.f236 κ) (tmk 0 32 [(5, x5)]) H (env0 Tryz.prog Tryz.f236 κ).ret = M236_7 o N κ x5 H := by
  kernel_rfl
def A236_8 : An := .s .n (some (lvOf [0, 5])) (.s A236_6 (some (lvOf [5])) .n)
def M236 (o : Orc) (N : Nat) : FnM := fun vs H κ => match vs with
  | [.int .u64 x0, .int .i64 x1] => M236_0 o N (fun x0 x1 H => M236_1 o N (fun x0 x5 H => M236_2 o N (fun x0 x5 x12 x13 H => M236_4 o N (fun x5 H => M236_7 o N κ x5 H) κ N x0 x5 x12 x13 H) κ x0 x5 H) κ x0 x1 H) κ x0 x1 H
  | _ => none
theorem M236_run (o : Orc) (N : Nat) (vs : List V) (H : Heap) (κ : Kv) (r) (h : M236 o N vs H κ = some r) : runFn Tryz.prog o N Tryz.f236 (.s .n (some (lvOf [0, 1])) A236_8) vs H κ = some r := by
  unfold M236 at h
  split at h
  · rename_i x0 x1
    refine (runFn_at (t := tmk 0 32 [(0, .int .u64 x0), (1, .int .i64 x1)]) (by kernel_rfl) (by kernel_rfl)).trans (Eq.trans ?_ h)
    refine (run_seq (x := (cAt Tryz.f236 [0])) (ax := .n) (y := (cAt Tryz.f236 [1])) (ay := A236_8) (l := [0, 1]) (by kernel_rfl) (by kernel_rfl)).trans ?_
    refine M236_0_ok ?_ x0 x1 H
    intro x0 x1 H
    refine (run_seq (x := (cAt Tryz.f236 [1, 0])) (ax := .n) (y := (cAt Tryz.f236 [1, 1])) (ay := (.s A236_6 (some (lvOf [5])) .n)) (l := [0, 5]) (by kernel_rfl) (by kernel_rfl)).trans ?_
    refine M236_1_ok ?_ x0 x1 H
    intro x0 x5 H
    refine (run_seq (x := (cAt Tryz.f236 [1, 1, 0])) (ax := A236_6) (y := (cAt Tryz.f236 [1, 1, 1])) (ay := .n) (l := [5]) (by kernel_rfl) (by kernel_rfl)).trans ?_
    refine (run_seq (x := (cAt Tryz.f236 [1, 1, 0, 0])) (ax := .n) (y := (cAt Tryz.f236 [1, 1, 0, 1])) (ay := A236_5) (l := [0, 5, 12, 13]) (by kernel_rfl) (by kernel_rfl)).trans ?_
    refine M236_2_ok ?_ x0 x5 H
    intro x0 x5 x12 x13 H
    refine (run_block (id := 0) (x := (cAt Tryz.f236 [1, 1, 0, 1, 4])) (ax := (.l (some (lvOf [0, 5, 12, 13])) .n)) (by kernel_rfl) (by kernel_rfl)).trans ?_
    refine (run_loop (x := (cAt Tryz.f236 [1, 1, 0, 1, 4, 4])) (ax := .n) (l := [0, 5, 12, 13]) (by kernel_rfl) (by kernel_rfl) (by kernel_rfl)).trans ?_
    refine M236_4_ok ?_ N x0 x5 x12 x13 H
    intro x5 H
    exact M236_7_ok x5 H
  · cases h
theorem M236_sound {o : Orc} (ho : ∀ f, FSound Tryz.prog f (o f)) (N : Nat) : FSound Tryz.prog 236 (M236 o N) :=
  FSound.sub (runFn_ok (an := (.s .n (some (lvOf [0, 1])) A236_8)) (fuel := N) hmix ho (by kernel_rfl) (by kernel_rfl)) (M236_run o N)
/-! 237 ostinato/bits.CRC -/
def M237_0 (o : Orc) (N : Nat) (J : List Nat → Heap → Ans) (κ : Kv) (x0 : List Nat) (H : Heap) : Ans :=
  J x0 H
theorem M237_0_ok {o : Orc} {N : Nat} {κ : Kv} {J : Kt} {J' : List Nat → Heap → Ans} (hJ : ∀ x0 H, J (tmk 0 18 [(0, .str x0)]) H = J' x0 H) (x0 : List Nat) (H : Heap) :
    run Tryz.prog o N (cAt Tryz.f237 [0]) .n (env0 Tryz.prog Tryz.f237 κ) (tmk 0 18 [(0, .str x0)]) H (kj [0] J) = M237_0 o N J' κ x0 H := by
  obtain rfl := fx2 hJ
  kernel_rfl
def M237_1 (o : Orc) (N : Nat) (J : List Nat → Int → Heap → Ans) (κ : Kv) (x0 : List Nat) (H : Heap) : Ans :=
  J x0 0 H
theorem M237_1_ok {o : Orc} {N : Nat} {κ : Kv} {J : Kt} {J' : List Nat → Int → Heap → Ans} (hJ : ∀ x0 x3 H, J (tmk 0 18 [(0, .str x0), (3, .int .u16 x3)]) H = J' x0 x3 H) (x0 : List Nat) (H : Heap) :
    run Tryz.prog o N (cAt Tryz.f237 [1, 0]) .n (env0 Tryz.prog Tryz.f237 κ) (tmk 0 18 [(0, .str x0)]) H (kj [0, 3] J) = M237_1 o N J' κ x0 H := by
  obtain rfl := fx3 hJ
  kernel_rfl
def M237_2 (o : Orc) (N : Nat) (J : List Nat → Int → Int → Int → Heap → Ans) (κ : Kv) (x0 : List Nat) (x3 : Int) (H : Heap) : Ans :=
  J x0 x3 ((List.length x0 : Nat) : Int) 0 H
theorem M237_2_ok {o : Orc} {N : Nat} {κ : Kv} {J : Kt} {J' : List Nat → Int → Int → Int → Heap → Ans} (hJ : ∀ x0 x3 x6 x7 H, J (tmk 0 18 [(0, .str x0), (3, .int .u16 x3), (6, .int .i64 x6), (7, .int .i64 x7)]) H = J' x0 x3 x6 x7 H) (x0 : List Nat) (x3 : Int) (H : Heap) :
    run Tryz.prog o N (cAt Tryz.f237 [1, 1, 0, 0]) .n (env0 Tryz.prog Tryz.f237 κ) (tmk 0 18 [(0, .str x0), (3, .int .u16 x3)]) H (kj [0, 3, 6, 7] J) = M237_2 o N J' κ x0 x3 H := by
  obtain rfl := fx5 hJ
  kernel_rfl
def M237_3 (o : Orc) (N : Nat) (X0 : Int → Heap → Ans) (J : List Nat → Int → Int → Int → Heap → Ans) (κ : Kv) (x0 : List Nat) (x3 x6 x7 : Int) (H : Heap) : Ans :=
  cond (decide (x7 < x6)) (
  cond (decide (0 ≤ x7)) (
  (nth x0 (Int.toNat x7)).bind fun c1 =>
  o 247 [(.int .u16 x3), (.bool ((Int.ofNat c1) == 49))] H fun v2 H3 =>
  asI .u16 v2 fun n4 =>
  J x0 n4 x6 (IntKind.i64.wrap (x7 + 1)) H3) none) (
  X0 x3 H)
theorem M237_3_ok {o : Orc} {N : Nat} {κ : Kv} {X0 J : Kt} {X0' : Int → Heap → Ans} {J' : List Nat → Int → Int → Int → Heap → Ans} (h0 : ∀ x3 H, X0 (tmk 0 18 [(3, .int .u16 x3)]) H = X0' x3 H) (hJ : ∀ x0 x3 x6 x7 H, J (tmk 0 18 [(0, .str x0), (3, .int .u16 x3), (6, .int .i64 x6), (7, .int .i64 x7)]) H = J' x0 x3 x6 x7 H) (x0 : List Nat) (x3 x6 x7 : Int) (H : Heap) :
    run Tryz.prog o N (cAt Tryz.f237 [1, 1, 0, 1, 4, 4]) .n ((env0 Tryz.prog Tryz.f237 κ).block 0 (kj [3] X0)) (tmk 0 18 [(0, .str x0), (3, .int .u16 x3), (6, .int .i64 x6), (7, .int .i64 x7)]) H (kj [0, 3, 6, 7] J) = M237_3 o N X0' J' κ x0 x3 x6 x7 H := by
  obtain rfl := fx2 h0
  obtain rfl := fx5 hJ
  kernel_rfl
def M237_4 (o : Orc) (N : Nat) (X0 : Int → Heap → Ans) (κ : Kv) (n : Nat) : List Nat → Int → Int → Int → Heap → Ans :=
  Nat.rec (motive := fun _ => List Nat → Int → Int → Int → Heap → Ans) (fun _ _ _ _ _ => none) (fun _ ih x0 x3 x6 x7 H => M237_3 o N X0 ih κ x0 x3 x6 x7 H) n
theorem M237_4_s (o : Orc) (N : Nat) (X0 : Int → Heap → Ans) (κ : Kv) (n : Nat) (x0 : List Nat) (x3 x6 x7 : Int) (H : Heap) : M237_4 o N X0 κ (n + 1) x0 x3 x6 x7 H = M237_3 o N X0 (M237_4 o N X0 κ n) κ x0 x3 x6 x7 H := rfl
theorem M237_4_ok {o : Orc} {N : Nat} {κ : Kv} {X0 : Kt} {X0' : Int → Heap → Ans} (h0 : ∀ x3 H, X0 (tmk 0 18 [(3, .int .u16 x3)]) H = X0' x3 H) (n : Nat) : ∀ (x0 : List Nat) (x3 x6 x7 : Int) (H : Heap),
    rounds (fun a H k => run Tryz.prog o N (cAt Tryz.f237 [1, 1, 0, 1, 4, 4]) .n ((env0 Tryz.prog Tryz.f237 κ).block 0 (kj [3] X0)) a H k) (some (lvOf [0, 3, 6, 7])) n (tmk 0 18 [(0, .str x0), (3, .int .u16 x3), (6, .int .i64 x6), (7, .int .i64 x7)]) H = M237_4 o N X0' κ n x0 x3 x6 x7 H := by
  induction n with
  | zero => intros; rfl
  | succ n ih =>
    intro x0 x3 x6 x7 H
    refine (run_round.trans ?_).trans (M237_4_s ..).symm
    exact M237_3_ok h0 ih x0 x3 x6 x7 H
def A237_5 : An := .b none (.l (some (lvOf [0, 3, 6, 7])) .n)
def M237_6 (o : Orc) (N : Nat) (κ : Kv) (x3 : Int) (H : Heap) : Ans :=
  κ (.int .u16 x3) H
theorem M237_6_ok {o : Orc} {N : Nat} {κ : Kv} (x3 : Int) (H : Heap) :
    run Tryz.prog o N (cAt Tryz.f237 [1, 1, 1]) .n (env0 Tryz.prog Tryz.f237 κ) (tmk 0 18 [(3, .int .u16 x3)]) H (env0 Tryz.prog Tryz.f237 κ).ret = M237_6 o N κ x3 H := by
  kernel_rfl
def A237_7 : An := .s (.s .n (some (lvOf [0, 3, 6, 7])) A237_5) (some (lvOf [3])) .n
def A237_8 : An := .s .n (some (lvOf [0])) (.s .n (some (lvOf [0, 3])) A237_7)
def M237 (o : Orc) (N : Nat) : FnM := fun vs H κ => match vs with
  | [.str x0] => M237_0 o N (fun x0 H => M237_1 o N (fun x0 x3 H => M237_2 o N (fun x0 x3 x6 x7 H => M237_4 o N (fun x3 H => M237_6 o N κ x3 H) κ N x0 x3 x6 x7 H) κ x0 x3 H) κ x0 H) κ x0 H
  | _ => none
theorem M237_run (o : Orc) (N : Nat) (vs : List V) (H : Heap) (κ : Kv) (r) (h : M237 o N vs H κ = some r) : runFn Tryz.prog o N Tryz.f237 A237_8 vs H κ = some r := by
  unfold M237 at h
  split at h
  · rename_i x0
    refine (runFn_at (t := tmk 0 18 [(0, .str x0)]) (by kernel_rfl) (by kernel_rfl)).trans (Eq.trans ?_ h)
    refine (run_seq (x := (cAt Tryz.f237 [0])) (ax := .n) (y := (cAt Tryz.f237 [1])) (ay := (.s .n (some (lvOf [0, 3])) A237_7)) (l := [0]) (by kernel_rfl) (by kernel_rfl)).trans ?_
    refine M237_0_ok ?_ x0 H
    intro x0 H
    refine (run_seq (x := (cAt Tryz.f237 [1, 0])) (ax := .n) (y := (cAt Tryz.f237 [1, 1])) (ay := A237_7) (l := [0, 3]) (by kernel_rfl) (by kernel_rfl)).trans ?_
    refine M237_1_ok ?_ x0 H
    intro x0 x3 H
    refine (run_seq (x := (cAt Tryz.f237 [1, 1, 0])) (ax := (.s .n (some (lvOf [0, 3, 6, 7])) A237_5)) (y := (cAt Tryz.f237 [1, 1, 1])) (ay := .n) (l := [3]) (by kernel_rfl) (by kernel_rfl)).trans ?_
    refine (run_seq (x := (cAt Tryz.f237 [1, 1, 0, 0])) (ax := .n) (y := (cAt Tryz.f237 [1, 1, 0, 1])) (ay := A237_5) (l := [0, 3, 6, 7]) (by kernel_rfl) (by kernel_rfl)).trans ?_
    refine M237_2_ok ?_ x0 x3 H
    intro x0 x3 x6 x7 H
    refine (run_block (id := 0) (x := (cAt Tryz.f237 [1, 1, 0, 1, 4])) (ax := (.l (some (lvOf [0, 3, 6, 7])) .n)) (by kernel_rfl) (by kernel_rfl)).trans ?_
    refine (run_loop (x := (cAt Tryz.f237 [1, 1, 0, 1, 4, 4])) (ax := .n) (l := [0, 3, 6, 7]) (by kernel_rfl) (by kernel_rfl) (by kernel_rfl)).trans ?_
    refine M237_4_ok ?_ N x0 x3 x6 x7 H
    intro x3 H
    exact M237_6_ok x3 H
  · cases h
theorem M237_sound {o : Orc} (ho : ∀ f, FSound Tryz.prog f (o f)) (N : Nat) : FSound Tryz.prog 237 (M237 o N) :=
  FSound.sub (runFn_ok (an := A237_8) (fuel := N) hmix ho (by kernel_rfl) (by kernel_rfl)) (M237_run o N)
/-! 238 ostinato/stuff.Most -/
def M238_0 (o : Orc) (N : Nat) (κ : Kv) (x0 : Int) (H : Heap) : Ans :=
  cond (decide ((if 10000 < (if 0 > x0 then 0 else x0) then 10000 else (if 0 > x0 then 0 else x0)) < 5)) (
  κ (.int .i64 (if 10000 < (if 0 > x0 then 0 else x0) then 10000 else (if 0 > x0 then 0 else x0))) H) (
  κ (.int .i64 (IntKind.i64.wrap ((IntKind.i64.wrap ((if 10000 < (if 0 > x0 then 0 else x0) then 10000 else (if 0 > x0 then 0 else x0)) + 1)) + (IntKind.i64.wrap (Int.tdiv (IntKind.i64.wrap ((if 10000 < (if 0 > x0 then 0 else x0) then 10000 else (if 0 > x0 then 0 else x0)) - 5)) 4))))) H)
theorem M238_0_ok {o : Orc} {N : Nat} {κ : Kv} (x0 : Int) (H : Heap) :
    run Tryz.prog o N (cAt Tryz.f238 []) .n (env0 Tryz.prog Tryz.f238 κ) (tmk 0 15 [(0, .int .i64 x0)]) H (env0 Tryz.prog Tryz.f238 κ).ret = M238_0 o N κ x0 H := by
  kernel_rfl
def M238 (o : Orc) (N : Nat) : FnM := fun vs H κ => match vs with
  | [.int .i64 x0] => M238_0 o N κ x0 H
  | _ => none
theorem M238_run (o : Orc) (N : Nat) (vs : List V) (H : Heap) (κ : Kv) (r) (h : M238 o N vs H κ = some r) : runFn Tryz.prog o N Tryz.f238 .n vs H κ = some r := by
  unfold M238 at h
  split at h
  · rename_i x0
    refine (runFn_at (t := tmk 0 15 [(0, .int .i64 x0)]) (by kernel_rfl) (by kernel_rfl)).trans (Eq.trans ?_ h)
    exact M238_0_ok x0 H
  · cases h
theorem M238_sound {o : Orc} (ho : ∀ f, FSound Tryz.prog f (o f)) (N : Nat) : FSound Tryz.prog 238 (M238 o N) :=
  FSound.sub (runFn_ok (an := .n) (fuel := N) hmix ho (by kernel_rfl) (by kernel_rfl)) (M238_run o N)
/-! 239 ostinato/stuff.one -/
def M239_0 (o : Orc) (N : Nat) (κ : Kv) (x0 : List Nat) (x1 : Int) (H : Heap) : Ans :=
  bounds (List.length x0) (some (.int .i64 x1)) (some (.int .i64 (IntKind.i64.wrap (x1 + 1)))) fun l1 u2 =>
  o 251 [(.str (List.take (u2 - l1) (List.drop l1 x0))), (.int .i64 0)] H fun v3 H4 =>
  asS v3 fun s5 =>
  o 251 [(.str s5), (.int .i64 0)] H4 fun v6 H7 =>
  asS v6 fun s8 =>
  (nth s8 (Int.toNat 0)).bind fun c9 =>
  κ (.int .u8 (Int.ofNat c9)) H7
theorem M239_0_ok {o : Orc} {N : Nat} {κ : Kv} (x0 : List Nat) (x1 : Int) (H : Heap) :
    run Tryz.prog o N (cAt Tryz.f239 []) .n (env0 Tryz.prog Tryz.f239 κ) (tmk 0 13 [(0, .str x0), (1, .int .i64 x1)]) H (env0 Tryz.prog Tryz.f239 κ).ret = M239_0 o N κ x0 x1 H := by
  kernel_rfl
def M239 (o : Orc) (N : Nat) : FnM := fun vs H κ => match vs with
  | [.str x0, .int .i64 x1] => M239_0 o N κ x0 x1 H
  | _ => none
theorem M239_run (o : Orc) (N : Nat) (vs : List V) (H : Heap) (κ : Kv) (r) (h : M239 o N vs H κ = some r) : runFn Tryz.prog o N Tryz.f239 .n vs H κ = some r := by
  unfold M239 at h
  split at h
  · rename_i x0 x1
    refine (runFn_at (t := tmk 0 13 [(0, .str x0), (1, .int .i64 x1)]) (by kernel_rfl) (by kernel_rfl)).trans (Eq.trans ?_ h)
    exact M239_0_ok x0 x1 H
  · cases h
theorem M239_sound {o : Orc} (ho : ∀ f, FSound Tryz.prog f (o f)) (N : Nat) : FSound Tryz.prog 239 (M239 o N) :=
  FSound.sub (runFn_ok (an := .n) (fuel := N) hmix ho (by kernel_rfl) (by kernel_rfl)) (M239_run o N)
/-! 240 ostinato/frame.sign -/
def M240_0 (o : Orc) (N : Nat) (κ : Kv) (x0 : Bool) (H : Heap) : Ans :=
  cond x0 (
  κ (.str [49]) H) (
  κ (.str [48]) H)
theorem M240_0_ok {o : Orc} {N : Nat} {κ : Kv} (x0 : Bool) (H : Heap) :
    run Tryz.prog o N (cAt Tryz.f240 []) .n (env0 Tryz.prog Tryz.f240 κ) (tmk 0 4 [(0, .bool x0)]) H (env0 Tryz.prog Tryz.f240 κ).ret = M240_0 o N κ x0 H := by
  kernel_rfl
def M240 (o : Orc) (N : Nat) : FnM := fun vs H κ => match vs with
  | [.bool x0] => M240_0 o N κ x0 H
  | _ => none
theorem M240_run (o : Orc) (N : Nat) (vs : List V) (H : Heap) (κ : Kv) (r) (h : M240 o N vs H κ = some r) : runFn Tryz.prog o N Tryz.f240 .n vs H κ = some r := by
  unfold M240 at h
  split at h
  · rename_i x0
    refine (runFn_at (t := tmk 0 4 [(0, .bool x0)]) (by kernel_rfl) (by kernel_rfl)).trans (Eq.trans ?_ h)
    exact M240_0_ok x0 H
  · cases h
theorem M240_sound {o : Orc} (ho : ∀ f, FSound Tryz.prog f (o f)) (N : Nat) : FSound Tryz.prog 240 (M240 o N) :=
  FSound.sub (runFn_ok (an := .n) (fuel := N) hmix ho (by kernel_rfl) (by kernel_rfl)) (M240_run o N)
/-! 241 ostinato/confine.Is -/
def M241_0 (o : Orc) (N : Nat) (κ : Kv) (x0 : List V) (H : Heap) : Ans :=
  cond (List.all x0 V.one) (
  newB H (.row x0) fun i1 H2 =>
  (ldI H2 .i64 i1 0).bind fun n3 =>
  (ldI H2 .i64 i1 1).bind fun n4 =>
  newB H2 (.row [(.int .i64 0), (.int .i64 0)]) fun i5 H6 =>
  (stN H6 i5 0 [(.int .i64 (if 1000 < (if 0 > n3 then 0 else n3) then 1000 else (if 0 > n3 then 0 else n3))), (.int .i64 (if 1000 < (if 0 > n4 then 0 else n4) then 1000 else (if 0 > n4 then 0 else n4)))]).bind fun H7 =>
  ldFlat H7 i5 [.int .i64, .int .i64] 0 fun l8 =>
  ldFlat H7 i1 [.int .i64, .int .i64] 0 fun l9 =>
  (eqFlat [.int .i64, .int .i64] l8 l9).bind fun b10 =>
  κ (.bool b10) H7) none
theorem M241_0_ok {o : Orc} {N : Nat} {κ : Kv} (x0 : List V) (H : Heap) :
    run Tryz.prog o N (cAt Tryz.f241 []) .n (env0 Tryz.prog Tryz.f241 κ) (tmk 0 16 [(0, .agg x0)]) H (env0 Tryz.prog Tryz.f241 κ).ret = M241_0 o N κ x0 H := by
  kernel_rfl
def M241 (o : Orc) (N : Nat) : FnM := fun vs H κ => match vs with
  | [.agg x0] => M241_0 o N κ x0 H
  | _ => none
theorem M241_run (o : Orc) (N : Nat) (vs : List V) (H : Heap) (κ : Kv) (r) (h : M241 o N vs H κ = some r) : runFn Tryz.prog o N Tryz.f241 .n vs H κ = some r := by
  unfold M241 at h
  split at h
  · rename_i x0
    refine (runFn_at (t := tmk 0 16 [(0, .agg x0)]) (by kernel_rfl) (by kernel_rfl)).trans (Eq.trans ?_ h)
    exact M241_0_ok x0 H
  · cases h
theorem M241_sound {o : Orc} (ho : ∀ f, FSound Tryz.prog f (o f)) (N : Nat) : FSound Tryz.prog 241 (M241 o N) :=
  FSound.sub (runFn_ok (an := .n) (fuel := N) hmix ho (by kernel_rfl) (by kernel_rfl)) (M241_run o N)
/-! 242 ostinato/frame.Parse -/
def A242_0 : An := (.s .n none (.s .n none (.s .n none (.s (.d [0, 1, 2, 3, 4, 5, 6, 7, 8, 9]) none (.s .n none (.s (.s .n none (.c (.s .n none (.d [0, 1, 2, 3, 4, 5, 6, 7, 8, 9])) .n)) none .n))))))
def M242_1 (o : Orc) (N : Nat) (κ : Kv) (x0 : List Nat) (H : Heap) : Ans :=
  newB H (.row [(.bool false), (.int .u32 0), (.bool false), (.str [])]) fun i1 H2 =>
  o 248 [(.str x0)] H2 fun v3 H4 =>
  asT2 v3 fun v5 v6 =>
  asI .i64 v5 fun n7 =>
  asI .i64 v6 fun n8 =>
  cond (n8 != 0) (
  (stN H4 i1 0 [(.bool false), (.int .u32 0), (.bool false), (.str [])]).bind fun H9 =>
  ldFlat H9 i1 [.bool, .int .u32, .bool, .str] 0 fun l10 =>
  κ (.tup [(.agg l10), (.int .i64 0), (.int .i64 n8)]) H9) (
  cond (n7 == 0) (
  (stN H4 i1 0 [(.bool false), (.int .u32 0), (.bool false), (.str [])]).bind fun H11 =>
  ldFlat H11 i1 [.bool, .int .u32, .bool, .str] 0 fun l12 =>
  κ (.tup [(.agg l12), (.int .i64 0), (.int .i64 10)]) H11) (
  cond (decide (((List.length x0 : Nat) : Int) < n7)) (
  (stN H4 i1 0 [(.bool false), (.int .u32 0), (.bool false), (.str [])]).bind fun H13 =>
  ldFlat H13 i1 [.bool, .int .u32, .bool, .str] 0 fun l14 =>
  κ (.tup [(.agg l14), (.int .i64 0), (.int .i64 10)]) H13) (
  (nth x0 (Int.toNat 13)).bind fun c15 =>
  bounds (List.length x0) (some (.int .i64 1)) (some (.int .i64 12)) fun l16 u17 =>
  o 252 [(.str (List.take (u17 - l16) (List.drop l16 x0)))] (Heap.skip H4 10) fun v18 H19 =>
  asI .u64 v18 fun n20 =>
  (stN (Heap.newAt H19 (H4.next + 8) (.row [(.bool false), (.int .u32 0), (.bool false), (.str [])])) (H4.next + 8) 0 [(.bool ((Int.ofNat c15) == 49)), (.int .u32 (IntKind.u32.wrap n20)), (.bool false), (.str [])]).bind fun H21 =>
  o 253 [] H21 fun v22 H23 =>
  asA v22 fun l24 =>
  cond (decide (0 ≤ 0) && decide (0 < (2 : Nat)) && true && Nat.blt 0 3) (
  cond (Nat.ble ((Int.toNat 0 + 1) * 3) (List.length l24)) (
  newB H23 (.row [(.int .i64 0), (.int .i64 0), (.int .i64 0)]) fun i25 H26 =>
  cond (Nat.beq (List.length (List.take 3 (List.drop (Int.toNat 0 * 3) l24))) 3 && Nat.blt 0 3) (
  (stN H26 i25 0 (List.take 3 (List.drop (Int.toNat 0 * 3) l24))).bind fun H27 =>
  (ldB H27 (H4.next + 8) 0).bind fun b28 =>
  cond b28 (
  o 253 [] H27 fun v29 H30 =>
  asA v29 fun l31 =>
  cond (decide (0 ≤ 1) && decide (1 < (2 : Nat)) && true && Nat.blt 0 3) (
  cond (Nat.ble ((Int.toNat 1 + 1) * 3) (List.length l31)) (
  cond (Nat.beq (List.length (List.take 3 (List.drop (Int.toNat 1 * 3) l31))) 3 && Nat.blt 0 3) (
  (stN H30 i25 0 (List.take 3 (List.drop (Int.toNat 1 * 3) l31))).bind fun H32 =>
  (ldI (Heap.skip H32 10) .u32 (H4.next + 8) 1).bind fun n33 =>
  bounds (List.length x0) (some (.int .i64 14)) (some (.int .i64 32)) fun l34 u35 =>
  o 252 [(.str (List.take (u35 - l34) (List.drop l34 x0)))] (Heap.skip H32 10) fun v36 H37 =>
  asI .u64 v36 fun n38 =>
  (ldI H37 .u32 (H4.next + 8) 1).bind fun n39 =>
  cond (decide (n33 = n39)) (
  (stN H37 (H4.next + 8) 1 [(.int .u32 (IntKind.u32.wrap (Int.ofNat ((BitVec.ofInt (IntKind.bits .u32) (IntKind.u32.wrap (n33 * 2 ^ (min (Int.toNat 18) (IntKind.bits .u32))))) ||| (BitVec.ofInt (IntKind.bits .u32) (IntKind.u32.wrap n38))).toNat)))]).bind fun H40 =>
  (ldI H40 .i64 i25 0).bind fun n41 =>
  cond (decide (0 ≤ n41)) (
  (nth x0 (Int.toNat n41)).bind fun c42 =>
  (stN H40 (H4.next + 8) 2 [(.bool ((Int.ofNat c42) == 49))]).bind fun H43 =>
  (ldI H43 .i64 i25 2).bind fun n44 =>
  bounds (List.length x0) (some (.int .i64 n44)) (some (.int .i64 n7)) fun l45 u46 =>
  o 254 [(.str (List.take (u46 - l45) (List.drop l45 x0)))] H43 fun v47 H48 =>
  asS v47 fun s49 =>
  (stN H48 (H4.next + 8) 3 [(.str s49)]).bind fun H50 =>
  ldFlat H50 (H4.next + 8) [.bool, .int .u32, .bool, .str] 0 fun l51 =>
  cond (Nat.beq (List.length l51) 4 && Nat.blt 0 4) (
  (stN H50 i1 0 l51).bind fun H52 =>
  ldFlat H52 i1 [.bool, .int .u32, .bool, .str] 0 fun l53 =>
  κ (.tup [(.agg l53), (.int .i64 n7), (.int .i64 0)]) H52) none) none) none) none) none) none) (
  (ldI H27 .i64 i25 0).bind fun n54 =>
  cond (decide (0 ≤ n54)) (
  (nth x0 (Int.toNat n54)).bind fun c55 =>
  (stN H27 (H4.next + 8) 2 [(.bool ((Int.ofNat c55) == 49))]).bind fun H56 =>
  (ldI H56 .i64 i25 2).bind fun n57 =>
  bounds (List.length x0) (some (.int .i64 n57)) (some (.int .i64 n7)) fun l58 u59 =>
  o 254 [(.str (List.take (u59 - l58) (List.drop l58 x0)))] H56 fun v60 H61 =>
  asS v60 fun s62 =>
  (stN H61 (H4.next + 8) 3 [(.str s62)]).bind fun H63 =>
  ldFlat H63 (H4.next + 8) [.bool, .int .u32, .bool, .str] 0 fun l64 =>
  cond (Nat.beq (List.length l64) 4 && Nat.blt 0 4) (
  (stN H63 i1 0 l64).bind fun H65 =>
  ldFlat H65 i1 [.bool, .int .u32, .bool, .str] 0 fun l66 =>
  κ (.tup [(.agg l66), (.int .i64 n7), (.int .i64 0)]) H65) none) none)) none) none) none)))
theorem M242_1_ok {o : Orc} {N : Nat} {κ : Kv} (x0 : List Nat) (H : Heap) :
    run Tryz.prog o N (cAt Tryz.f242 []) A242_0 (env0 Tryz.prog Tryz.f242 κ) (tmk 0 67 [(0, .str x0)]) H (env0 Tryz.prog Tryz.f242 κ).ret = M242_1 o N κ x0 H := by
  kernel_rfl
def M242 (o : Orc) (N : Nat) : FnM := fun vs H κ => match vs with
  | [.str x0] => M242_1 o N κ x0 H
  | _ => none
theorem M242_run (o : Orc) (N : Nat) (vs : List V) (H : Heap) (κ : Kv) (r) (h : M242 o N vs H κ = some r) : runFn Tryz.prog o N Tryz.f242 A242_0 vs H κ = some r := by
  unfold M242 at h
  split at h
  · rename_i x0
    refine (runFn_at (t := tmk 0 67 [(0, .str x0)]) (by kernel_rfl) (by kernel_rfl)).trans (Eq.trans ?_ h)
    exact M242_1_ok x0 H
  · cases h
theorem M242_sound {o : Orc} (ho : ∀ f, FSound Tryz.prog f (o f)) (N : Nat) : FSound Tryz.prog 242 (M242 o N) :=
  FSound.sub (runFn_ok (an := A242_0) (fuel := N) hmix ho (by kernel_rfl) (by kernel_rfl)) (M242_run o N)
/-! 244 slices.insertionSortCmpFunc[ostinato/api.Trigger] -/
def M244_0 (o : Orc) (N : Nat) (J : V → Int → Int → V → Int → Heap → Ans) (κ : Kv) (x0 : V) (x1 x2 : Int) (x3 : V) (H : Heap) : Ans :=
  J x0 x1 x2 x3 (IntKind.i64.wrap (x1 + 1)) H
theorem M244_0_ok {o : Orc} {N : Nat} {κ : Kv} {J : Kt} {J' : V → Int → Int → V → Int → Heap → Ans} (hJ : ∀ x0 x1 x2 x3 x8 H, J (tmk 0 53 [(0, x0), (1, .int .i64 x1), (2, .int .i64 x2), (3, x3), (8, .int .i64 x8)]) H = J' x0 x1 x2 x3 x8 H) (x0 : V) (x1 x2 : Int) (x3 : V) (H : Heap) :
    run Tryz.prog o N (cAt Tryz.f244 [0]) .n (env0 Tryz.prog Tryz.f244 κ) (tmk 0 53 [(0, x0), (1, .int .i64 x1), (2, .int .i64 x2), (3, x3)]) H (kj [0, 1, 2, 3, 8] J) = M244_0 o N J' κ x0 x1 x2 x3 H := by
  obtain rfl := fx6 hJ
  kernel_rfl
def M244_1 (o : Orc) (N : Nat) (J : V → Int → Int → V → Int → Heap → Ans) (κ : Kv) (x0 : V) (x1 x2 : Int) (x3 : V) (x8 : Int) (H : Heap) : Ans :=
  cond (decide (x8 < x2)) (
  J x0 x1 x2 x3 x8 H) (
  κ (.tup []) H)
theorem M244_1_ok {o : Orc} {N : Nat} {κ : Kv} {J : Kt} {J' : V → Int → Int → V → Int → Heap → Ans} (hJ : ∀ x0 x1 x2 x3 x8 H, J (tmk 0 53 [(0, x0), (1, .int .i64 x1), (2, .int .i64 x2), (3, x3), (8, .int .i64 x8)]) H = J' x0 x1 x2 x3 x8 H) (x0 : V) (x1 x2 : Int) (x3 : V) (x8 : Int) (H : Heap) :
    run Tryz.prog o N (cAt Tryz.f244 [1, 4, 4, 0]) .n ((env0 Tryz.prog Tryz.f244 κ).block 0 (env0 Tryz.prog Tryz.f244 κ).ret) (tmk 0 53 [(0, x0), (1, .int .i64 x1), (2, .int .i64 x2), (3, x3), (8, .int .i64 x8)]) H (kj [0, 1, 2, 3, 8] J) = M244_1 o N J' κ x0 x1 x2 x3 x8 H := by
  obtain rfl := fx6 hJ
  kernel_rfl
def M244_2 (o : Orc) (N : Nat) (J : V → Int → Int → V → Int → Int → Heap → Ans) (κ : Kv) (x0 : V) (x1 x2 : Int) (x3 : V) (x8 : Int) (H : Heap) : Ans :=
  J x0 x1 x2 x3 x8 x8 H
theorem M244_2_ok {o : Orc} {N : Nat} {κ : Kv} {X1 J : Kt} {J' : V → Int → Int → V → Int → Int → Heap → Ans} (hJ : ∀ x0 x1 x2 x3 x8 x9 H, J (tmk 0 53 [(0, x0), (1, .int .i64 x1), (2, .int .i64 x2), (3, x3), (8, .int .i64 x8), (9, .int .i64 x9)]) H = J' x0 x1 x2 x3 x8 x9 H) (x0 : V) (x1 x2 : Int) (x3 : V) (x8 : Int) (H : Heap) :
    run Tryz.prog o N (cAt Tryz.f244 [1, 4, 4, 1, 0, 4, 0]) .n (((env0 Tryz.prog Tryz.f244 κ).block 0 (env0 Tryz.prog Tryz.f244 κ).ret).block 1 (kj [0, 1, 2, 3, 8] X1)) (tmk 0 53 [(0, x0), (1, .int .i64 x1), (2, .int .i64 x2), (3, x3), (8, .int .i64 x8)]) H (kj [0, 1, 2, 3, 8, 9] J) = M244_2 o N J' κ x0 x1 x2 x3 x8 H := by
  obtain rfl := fx7 hJ
  kernel_rfl
def A244_3 : An := (.s (.s (.d [0, 1, 2, 3, 4, 5, 6, 7, 8, 9, 10, 11, 12, 13, 14, 15, 16]) none .n) none (.s (.b none (.d [0, 1, 2, 3, 4, 5, 6, 7, 8, 9, 10, 11, 12, 13, 14, 15, 16, 17])) none .n))
def M244_4 (o : Orc) (N : Nat) (X2 : V → Int → Int → V → Int → Heap → Ans) (J : V → Int → Int → V → Int → Int → Heap → Ans) (κ : Kv) (x0 : V) (x1 x2 : Int) (x3 : V) (x8 x9 : Int) (H : Heap) : Ans :=
  cond (decide (x9 > x1)) (
  idxS 6 x0 x9 fun p1 o2 =>
  ldFlat (Heap.skip H 17) p1 [.int .i64, .int .i64, .int .i64, .int .i64, .int .i64, .int .i64] o2 fun l3 =>
  idxS 6 x0 (IntKind.i64.wrap (x9 - 1)) fun p4 o5 =>
  ldFlat (Heap.skip H 17) p4 [.int .i64, .int .i64, .int .i64, .int .i64, .int .i64, .int .i64] o5 fun l6 =>
  callV o x3 [(.agg l3), (.agg l6)] (Heap.skip H 17) fun v7 H8 =>
  asI .i64 v7 fun n9 =>
  cond (decide (n9 < 0)) (
  idxS 6 x0 (IntKind.i64.wrap (x9 - 1)) fun p10 o11 =>
  ldFlat (Heap.skip H8 18) p10 [.int .i64, .int .i64, .int .i64, .int .i64, .int .i64, .int .i64] o11 fun l12 =>
  idxS 6 x0 x9 fun p13 o14 =>
  ldFlat (Heap.skip H8 18) p13 [.int .i64, .int .i64, .int .i64, .int .i64, .int .i64, .int .i64] o14 fun l15 =>
  idxS 6 x0 x9 fun p16 o17 =>
  cond (Nat.beq (List.length l12) 6 && Nat.blt 0 6) (
  (stN (Heap.skip H8 18) p16 o17 l12).bind fun H18 =>
  idxS 6 x0 (IntKind.i64.wrap (x9 - 1)) fun p19 o20 =>
  cond (Nat.beq (List.length l15) 6 && Nat.blt 0 6) (
  (stN H18 p19 o20 l15).bind fun H21 =>
  J x0 x1 x2 x3 x8 (IntKind.i64.wrap (x9 - 1)) H21) none) none) (
  X2 x0 x1 x2 x3 x8 H8)) (
  X2 x0 x1 x2 x3 x8 (Heap.skip H 17))
theorem M244_4_ok {o : Orc} {N : Nat} {κ : Kv} {X1 X2 J : Kt} {X2' : V → Int → Int → V → Int → Heap → Ans} {J' : V → Int → Int → V → Int → Int → Heap → Ans} (h2 : ∀ x0 x1 x2 x3 x8 H, X2 (tmk 0 53 [(0, x0), (1, .int .i64 x1), (2, .int .i64 x2), (3, x3), (8, .int .i64 x8)]) H = X2' x0 x1 x2 x3 x8 H) (hJ : ∀ x0 x1 x2 x3 x8 x9 H, J (tmk 0 53 [(0, x0), (1, .int .i64 x1), (2, .int .i64 x2), (3, x3), (8, .int .i64 x8), (9, .int .i64 x9)]) H = J' x0 x1 x2 x3 x8 x9 H) (x0 : V) (x1 x2 : Int) (x3 : V) (x8 x9 : Int) (H : Heap) :
    run Tryz.prog o N (cAt Tryz.f244 [1, 4, 4, 1, 0, 4, 1, 4, 4]) A244_3 ((((env0 Tryz.prog Tryz.f244 κ).block 0 (env0 Tryz.prog Tryz.f244 κ).ret).block 1 (kj [0, 1, 2, 3, 8] X1)).block 2 (kj [0, 1, 2, 3, 8] X2)) (tmk 0 53 [(0, x0), (1, .int .i64 x1), (2, .int .i64 x2), (3, x3), (8, .int .i64 x8), (9, .int .i64 x9)]) H (kj [0, 1, 2, 3, 8, 9] J) = M244_4 o N X2' J' κ x0 x1 x2 x3 x8 x9 H := by
  obtain rfl := fx6 h2
  obtain rfl := fx7 hJ
  kernel_rfl
def A244_5 : An := .l (some (lvOf [0, 1, 2, 3, 8, 9])) A244_3
def M244_6 (o : Orc) (N : Nat) (X2 : V → Int → Int → V → Int → Heap → Ans) (κ : Kv) (n : Nat) : V → Int → Int → V → Int → Int → Heap → Ans :=
  Nat.rec (motive := fun _ => V → Int → Int → V → Int → Int → Heap → Ans) (fun _ _ _ _ _ _ _ => none) (fun _ ih x0 x1 x2 x3 x8 x9 H => M244_4 o N X2 ih κ x0 x1 x2 x3 x8 x9 H) n
theorem M244_6_s (o : Orc) (N : Nat) (X2 : V → Int → Int → V → Int → Heap → Ans) (κ : Kv) (n : Nat) (x0 : V) (x1 x2 : Int) (x3 : V) (x8 x9 : Int) (H : Heap) : M244_6 o N X2 κ (n + 1) x0 x1 x2 x3 x8 x9 H = M244_4 o N X2 (M244_6 o N X2 κ n) κ x0 x1 x2 x3 x8 x9 H := rfl
theorem M244_6_ok {o : Orc} {N : Nat} {κ : Kv} {X1 X2 : Kt} {X2' : V → Int → Int → V → Int → Heap → Ans} (h2 : ∀ x0 x1 x2 x3 x8 H, X2 (tmk 0 53 [(0, x0), (1, .int .i64 x1), (2, .int .i64 x2), (3, x3), (8, .int .i64 x8)]) H = X2' x0 x1 x2 x3 x8 H) (n : Nat) : ∀ (x0 : V) (x1 x2 : Int) (x3 : V) (x8 x9 : Int) (H : Heap),
    rounds (fun a H k => run Tryz.prog o N (cAt Tryz.f244 [1, 4, 4, 1, 0, 4, 1, 4, 4]) A244_3 ((((env0 Tryz.prog Tryz.f244 κ).block 0 (env0 Tryz.prog Tryz.f244 κ).ret).block 1 (kj [0, 1, 2, 3, 8] X1)).block 2 (kj [0, 1, 2, 3, 8] X2)) a H k) (some (lvOf [0, 1, 2, 3, 8, 9])) n (tmk 0 53 [(0, x0), (1, .int .i64 x1), (2, .int .i64 x2), (3, x3), (8, .int .i64 x8), (9, .int .i64 x9)]) H = M244_6 o N X2' κ n x0 x1 x2 x3 x8 x9 H := by
  induction n with
  | zero => intros; rfl
  | succ n ih =>
    intro x0 x1 x2 x3 x8 x9 H
    refine (run_round.trans ?_).trans (M244_6_s ..).symm
    exact M244_4_ok h2 ih x0 x1 x2 x3 x8 x9 H
def A244_7 : An := .s .n (some (lvOf [0, 1, 2, 3, 8, 9])) (.b none A244_5)
def M244_8 (o : Orc) (N : Nat) (J : V → Int → Int → V → Int → Heap → Ans) (κ : Kv) (x0 : V) (x1 x2 : Int) (x3 : V) (x8 : Int) (H : Heap) : Ans :=
  J x0 x1 x2 x3 (IntKind.i64.wrap (x8 + 1)) H
theorem M244_8_ok {o : Orc} {N : Nat} {κ : Kv} {J : Kt} {J' : V → Int → Int → V → Int → Heap → Ans} (hJ : ∀ x0 x1 x2 x3 x8 H, J (tmk 0 53 [(0, x0), (1, .int .i64 x1), (2, .int .i64 x2), (3, x3), (8, .int .i64 x8)]) H = J' x0 x1 x2 x3 x8 H) (x0 : V) (x1 x2 : Int) (x3 : V) (x8 : Int) (H : Heap) :
    run Tryz.prog o N (cAt Tryz.f244 [1, 4, 4, 1, 1]) .n ((env0 Tryz.prog Tryz.f244 κ).block 0 (env0 Tryz.prog Tryz.f244 κ).ret) (tmk 0 53 [(0, x0), (1, .int .i64 x1), (2, .int .i64 x2), (3, x3), (8, .int .i64 x8)]) H (kj [0, 1, 2, 3, 8] J) = M244_8 o N J' κ x0 x1 x2 x3 x8 H := by
  obtain rfl := fx6 hJ
  kernel_rfl
def A244_9 : An := .s (.b none A244_7) (some (lvOf [0, 1, 2, 3, 8])) .n
def A244_10 : An := .s .n (some (lvOf [0, 1, 2, 3, 8])) A244_9
def A244_11 : An := .l (some (lvOf [0, 1, 2, 3, 8])) A244_10
def M244_12 (o : Orc) (N : Nat) (κ : Kv) (n : Nat) : V → Int → Int → V → Int → Heap → Ans :=
  Nat.rec (motive := fun _ => V → Int → Int → V → Int → Heap → Ans) (fun _ _ _ _ _ _ => none) (fun _ ih x0 x1 x2 x3 x8 H => M244_1 o N (fun x0 x1 x2 x3 x8 H => M244_2 o N (fun x0 x1 x2 x3 x8 x9 H => M244_6 o N (fun x0 x1 x2 x3 x8 H => M244_8 o N ih κ x0 x1 x2 x3 x8 H) κ N x0 x1 x2 x3 x8 x9 H) κ x0 x1 x2 x3 x8 H) κ x0 x1 x2 x3 x8 H) n
theorem M244_12_s (o : Orc) (N : Nat) (κ : Kv) (n : Nat) (x0 : V) (x1 x2 : Int) (x3 : V) (x8 : Int) (H : Heap) : M244_12 o N κ (n + 1) x0 x1 x2 x3 x8 H = M244_1 o N (fun x0 x1 x2 x3 x8 H => M244_2 o N (fun x0 x1 x2 x3 x8 x9 H => M244_6 o N (fun x0 x1 x2 x3 x8 H => M244_8 o N (M244_12 o N κ n) κ x0 x1 x2 x3 x8 H) κ N x0 x1 x2 x3 x8 x9 H) κ x0 x1 x2 x3 x8 H) κ x0 x1 x2 x3 x8 H := rfl
theorem M244_12_ok {o : Orc} {N : Nat} {κ : Kv} (n : Nat) : ∀ (x0 : V) (x1 x2 : Int) (x3 : V) (x8 : Int) (H : Heap),
    rounds (fun a H k => run Tryz.prog o N (cAt Tryz.f244 [1, 4, 4]) A244_10 ((env0 Tryz.prog Tryz.f244 κ).block 0 (env0 Tryz.prog Tryz.f244 κ).ret) a H k) (some (lvOf [0, 1, 2, 3, 8])) n (tmk 0 53 [(0, x0), (1, .int .i64 x1), (2, .int .i64 x2), (3, x3), (8, .int .i64 x8)]) H = M244_12 o N κ n x0 x1 x2 x3 x8 H := by
  induction n with
  | zero => intros; rfl
  | succ n ih =>
    intro x0 x1 x2 x3 x8 H
    refine (run_round.trans ?_).trans (M244_12_s ..).symm
    refine (run_seq (x := (cAt Tryz.f244 [1, 4, 4, 0])) (ax := .n) (y := (cAt Tryz.f244 [1, 4, 4, 1])) (ay := A244_9) (l := [0, 1, 2, 3, 8]) (by kernel_rfl) (by kernel_rfl)).trans ?_
    refine M244_1_ok ?_ x0 x1 x2 x3 x8 H
    intro x0 x1 x2 x3 x8 H
    refine (run_seq (x := (cAt Tryz.f244 [1, 4, 4, 1, 0])) (ax := (.b none A244_7)) (y := (cAt Tryz.f244 [1, 4, 4, 1, 1])) (ay := .n) (l := [0, 1, 2, 3, 8]) (by kernel_rfl) (by kernel_rfl)).trans ?_
    refine (run_block (id := 1) (x := (cAt Tryz.f244 [1, 4, 4, 1, 0, 4])) (ax := A244_7) (by kernel_rfl) (by kernel_rfl)).trans ?_
    refine (run_seq (x := (cAt Tryz.f244 [1, 4, 4, 1, 0, 4, 0])) (ax := .n) (y := (cAt Tryz.f244 [1, 4, 4, 1, 0, 4, 1])) (ay := (.b none A244_5)) (l := [0, 1, 2, 3, 8, 9]) (by kernel_rfl) (by kernel_rfl)).trans ?_
    refine M244_2_ok ?_ x0 x1 x2 x3 x8 H
    intro x0 x1 x2 x3 x8 x9 H
    refine (run_block (id := 2) (x := (cAt Tryz.f244 [1, 4, 4, 1, 0, 4, 1, 4])) (ax := A244_5) (by kernel_rfl) (by kernel_rfl)).trans ?_
    refine (run_loop (x := (cAt Tryz.f244 [1, 4, 4, 1, 0, 4, 1, 4, 4])) (ax := A244_3) (l := [0, 1, 2, 3, 8, 9]) (by kernel_rfl) (by kernel_rfl) (by kernel_rfl)).trans ?_
    refine M244_6_ok ?_ N x0 x1 x2 x3 x8 x9 H
    intro x0 x1 x2 x3 x8 H
    exact M244_8_ok ih x0 x1 x2 x3 x8 H
def A244_13 : An := .s .n (some (lvOf [0, 1, 2, 3, 8])) (.b none A244_11)
def M244 (o : Orc) (N : Nat) : FnM := fun vs H κ => match vs with
  | [x0, .int .i64 x1, .int .i64 x2, x3] => M244_0 o N (fun x0 x1 x2 x3 x8 H => M244_12 o N κ N x0 x1 x2 x3 x8 H) κ x0 x1 x2 x3 H
  | _ => none
theorem M244_run (o : Orc) (N : Nat) (vs : List V) (H : Heap) (κ : Kv) (r) (h : M244 o N vs H κ = some r) : runFn Tryz.prog o N Tryz.f244 A244_13 vs H κ = some r := by
  unfold M244 at h
  split at h
  · rename_i x0 x1 x2 x3
    refine (runFn_at (t := tmk 0 53 [(0, x0), (1, .int .i64 x1), (2, .int .i64 x2), (3, x3)]) (by kernel_rfl) (by kernel_rfl)).trans (Eq.trans ?_ h)
    refine (run_seq (x := (cAt Tryz.f244 [0])) (ax := .n) (y := (cAt Tryz.f244 [1])) (ay := (.b none A244_11)) (l := [0, 1, 2, 3, 8]) (by kernel_rfl) (by kernel_rfl)).trans ?_
    refine M244_0_ok ?_ x0 x1 x2 x3 H
    intro x0 x1 x2 x3 x8 H
    refine (run_block (id := 0) (x := (cAt Tryz.f244 [1, 4])) (ax := A244_11) (by kernel_rfl) (by kernel_rfl)).trans ?_
    refine (run_loop (x := (cAt Tryz.f244 [1, 4, 4])) (ax := A244_10) (l := [0, 1, 2, 3, 8]) (by kernel_rfl) (by kernel_rfl) (by kernel_rfl)).trans ?_
    exact M244_12_ok N x0 x1 x2 x3 x8 H
  · cases h
theorem M244_sound {o : Orc} (ho : ∀ f, FSound Tryz.prog f (o f)) (N : Nat) : FSound Tryz.prog 244 (M244 o N) :=
  FSound.sub (runFn_ok (an := A244_13) (fuel := N) hmix ho (by kernel_rfl) (by kernel_rfl)) (M244_run o N)
/-! 246 ostinato/stuff.other -/
def M246_0 (o : Orc) (N : Nat) (κ : Kv) (x0 : Int) (H : Heap) : Ans :=
  cond (x0 == 48) (
  κ (.int .u8 49) H) (
  κ (.int .u8 48) H)
theorem M246_0_ok {o : Orc} {N : Nat} {κ : Kv} (x0 : Int) (H : Heap) :
    run Tryz.prog o N (cAt Tryz.f246 []) .n (env0 Tryz.prog Tryz.f246 κ) (tmk 0 5 [(0, .int .u8 x0)]) H (env0 Tryz.prog Tryz.f246 κ).ret = M246_0 o N κ x0 H := by
  kernel_rfl
def M246 (o : Orc) (N : Nat) : FnM := fun vs H κ => match vs with
  | [.int .u8 x0] => M246_0 o N κ x0 H
  | _ => none
theorem M246_run (o : Orc) (N : Nat) (vs : List V) (H : Heap) (κ : Kv) (r) (h : M246 o N vs H κ = some r) : runFn Tryz.prog o N Tryz.f246 .n vs H κ = some r := by
  unfold M246 at h
  split at h
  · rename_i x0
    refine (runFn_at (t := tmk 0 5 [(0, .int .u8 x0)]) (by kernel_rfl) (by kernel_rfl)).trans (Eq.trans ?_ h)
    exact M246_0_ok x0 H
  · cases h
theorem M246_sound {o : Orc} (ho : ∀ f, FSound Tryz.prog f (o f)) (N : Nat) : FSound Tryz.prog 246 (M246 o N) :=
  FSound.sub (runFn_ok (an := .n) (fuel := N) hmix ho (by kernel_rfl) (by kernel_rfl)) (M246_run o N)
/-! 247 ostinato/bits.Add -/
def M247_0 (o : Orc) (N : Nat) (κ : Kv) (x0 : Int) (x1 : Bool) (H : Heap) : Ans :=
  cond (!(((IntKind.u16.wrap (Int.ofNat ((BitVec.ofInt (IntKind.bits .u16) (Int.fdiv x0 (2 ^ (min (Int.toNat 14) (IntKind.bits .u16))))) &&& (BitVec.ofInt (IntKind.bits .u16) 1)).toNat)) == 1) == x1)) (
  κ (.int .u16 (IntKind.u16.wrap (Int.ofNat ((BitVec.ofInt (IntKind.bits .u16) (IntKind.u16.wrap (Int.ofNat ((BitVec.ofInt (IntKind.bits .u16) (IntKind.u16.wrap (x0 * 2 ^ (min (Int.toNat 1) (IntKind.bits .u16))))) &&& (BitVec.ofInt (IntKind.bits .u16) 32767)).toNat))) ^^^ (BitVec.ofInt (IntKind.bits .u16) 17817)).toNat))) H) (
  κ (.int .u16 (IntKind.u16.wrap (Int.ofNat ((BitVec.ofInt (IntKind.bits .u16) (IntKind.u16.wrap (x0 * 2 ^ (min (Int.toNat 1) (IntKind.bits .u16))))) &&& (BitVec.ofInt (IntKind.bits .u16) 32767)).toNat))) H)
theorem M247_0_ok {o : Orc} {N : Nat} {κ : Kv} (x0 : Int) (x1 : Bool) (H : Heap) :
    run Tryz.prog o N (cAt Tryz.f247 []) .n (env0 Tryz.prog Tryz.f247 κ) (tmk 0 19 [(0, .int .u16 x0), (1, .bool x1)]) H (env0 Tryz.prog Tryz.f247 κ).ret = M247_0 o N κ x0 x1 H := by
  kernel_rfl
def M247 (o : Orc) (N : Nat) : FnM := fun vs H κ => match vs with
  | [.int .u16 x0, .bool x1] => M247_0 o N κ x0 x1 H
  | _ => none
theorem M247_run (o : Orc) (N : Nat) (vs : List V) (H : Heap) (κ : Kv) (r) (h : M247 o N vs H κ = some r) : runFn Tryz.prog o N Tryz.f247 .n vs H κ = some r := by
  unfold M247 at h
  split at h
  · rename_i x0 x1
    refine (runFn_at (t := tmk 0 19 [(0, .int .u16 x0), (1, .bool x1)]) (by kernel_rfl) (by kernel_rfl)).trans (Eq.trans ?_ h)
    exact M247_0_ok x0 x1 H
  · cases h
theorem M247_sound {o : Orc} (ho : ∀ f, FSound Tryz.prog f (o f)) (N : Nat) : FSound Tryz.prog 247 (M247 o N) :=
  FSound.sub (runFn_ok (an := .n) (fuel := N) hmix ho (by kernel_rfl) (by kernel_rfl)) (M247_run o N)
/-! 248 ostinato/frame.Need -/
def M248_0 (o : Orc) (N : Nat) (J : List Nat → Heap → Ans) (κ : Kv) (x0 : List Nat) (H : Heap) : Ans :=
  J x0 H
theorem M248_0_ok {o : Orc} {N : Nat} {κ : Kv} {J : Kt} {J' : List Nat → Heap → Ans} (hJ : ∀ x0 H, J (tmk 0 53 [(0, .str x0)]) H = J' x0 H) (x0 : List Nat) (H : Heap) :
    run Tryz.prog o N (cAt Tryz.f248 [0]) .n (env0 Tryz.prog Tryz.f248 κ) (tmk 0 53 [(0, .str x0)]) H (kj [0] J) = M248_0 o N J' κ x0 H := by
  obtain rfl := fx2 hJ
  kernel_rfl
def M248_1 (o : Orc) (N : Nat) (J : List Nat → Heap → Ans) (κ : Kv) (x0 : List Nat) (H : Heap) : Ans :=
  cond (decide (((List.length x0 : Nat) : Int) > 0)) (
  (nth x0 (Int.toNat 0)).bind fun c1 =>
  cond ((Int.ofNat c1) == 49) (
  κ (.tup [(.int .i64 0), (.int .i64 12)]) H) (
  J x0 H)) (
  J x0 H)
theorem M248_1_ok {o : Orc} {N : Nat} {κ : Kv} {J : Kt} {J' : List Nat → Heap → Ans} (hJ : ∀ x0 H, J (tmk 0 53 [(0, .str x0)]) H = J' x0 H) (x0 : List Nat) (H : Heap) :
    run Tryz.prog o N (cAt Tryz.f248 [1, 0]) .n (env0 Tryz.prog Tryz.f248 κ) (tmk 0 53 [(0, .str x0)]) H (kj [0] J) = M248_1 o N J' κ x0 H := by
  obtain rfl := fx2 hJ
  kernel_rfl
def A248_2 : An := (.s .n none (.s .n none (.s .n none (.s .n none (.s (.d [0, 1, 2, 3, 4, 5, 6, 7, 8, 9, 10, 11, 12, 13, 14]) none .n)))))
def M248_3 (o : Orc) (N : Nat) (κ : Kv) (x0 : List Nat) (H : Heap) : Ans :=
  cond (decide (((List.length x0 : Nat) : Int) ≤ 13)) (
  κ (.tup [(.int .i64 0), (.int .i64 0)]) H) (
  o 253 [] H fun v2 H3 =>
  asA v2 fun l4 =>
  cond (decide (0 ≤ 0) && decide (0 < (2 : Nat)) && true && Nat.blt 0 3) (
  cond (Nat.ble ((Int.toNat 0 + 1) * 3) (List.length l4)) (
  newB H3 (.row [(.int .i64 0), (.int .i64 0), (.int .i64 0)]) fun i5 H6 =>
  cond (Nat.beq (List.length (List.take 3 (List.drop (Int.toNat 0 * 3) l4))) 3 && Nat.blt 0 3) (
  (stN H6 i5 0 (List.take 3 (List.drop (Int.toNat 0 * 3) l4))).bind fun H7 =>
  (nth x0 (Int.toNat 13)).bind fun c8 =>
  cond ((Int.ofNat c8) == 49) (
  (nth x0 (Int.toNat 12)).bind fun c9 =>
  cond ((Int.ofNat c9) != 49) (
  κ (.tup [(.int .i64 0), (.int .i64 12)]) H7) (
  o 253 [] H7 fun v10 H11 =>
  asA v10 fun l12 =>
  cond (decide (0 ≤ 1) && decide (1 < (2 : Nat)) && true && Nat.blt 0 3) (
  cond (Nat.ble ((Int.toNat 1 + 1) * 3) (List.length l12)) (
  cond (Nat.beq (List.length (List.take 3 (List.drop (Int.toNat 1 * 3) l12))) 3 && Nat.blt 0 3) (
  (stN H11 i5 0 (List.take 3 (List.drop (Int.toNat 1 * 3) l12))).bind fun H13 =>
  (ldI H13 .i64 i5 2).bind fun n14 =>
  cond (decide (((List.length x0 : Nat) : Int) < n14)) (
  κ (.tup [(.int .i64 0), (.int .i64 0)]) H13) (
  (ldI H13 .i64 i5 0).bind fun n15 =>
  cond (decide (0 ≤ n15)) (
  (nth x0 (Int.toNat n15)).bind fun c16 =>
  cond ((Int.ofNat c16) == 49) (
  (ldI H13 .i64 i5 2).bind fun n17 =>
  κ (.tup [(.int .i64 n17), (.int .i64 0)]) H13) (
  (ldI (Heap.skip H13 15) .i64 i5 2).bind fun n18 =>
  (ldI (Heap.skip H13 15) .i64 i5 1).bind fun n19 =>
  (ldI (Heap.skip H13 15) .i64 i5 2).bind fun n20 =>
  bounds (List.length x0) (some (.int .i64 n19)) (some (.int .i64 n20)) fun l21 u22 =>
  o 252 [(.str (List.take (u22 - l21) (List.drop l21 x0)))] (Heap.skip H13 15) fun v23 H24 =>
  asI .u64 v23 fun n25 =>
  (ldI H24 .i64 i5 2).bind fun n26 =>
  cond (decide (n18 = n26)) (
  κ (.tup [(.int .i64 (IntKind.i64.wrap (n18 + (IntKind.i64.wrap (8 * (if 8 < (IntKind.i64.wrap n25) then 8 else (IntKind.i64.wrap n25))))))), (.int .i64 0)]) H24) none)) none)) none) none) none)) (
  (ldI H7 .i64 i5 2).bind fun n27 =>
  cond (decide (((List.length x0 : Nat) : Int) < n27)) (
  κ (.tup [(.int .i64 0), (.int .i64 0)]) H7) (
  (ldI H7 .i64 i5 0).bind fun n28 =>
  cond (decide (0 ≤ n28)) (
  (nth x0 (Int.toNat n28)).bind fun c29 =>
  cond ((Int.ofNat c29) == 49) (
  (ldI H7 .i64 i5 2).bind fun n30 =>
  κ (.tup [(.int .i64 n30), (.int .i64 0)]) H7) (
  (ldI (Heap.skip H7 15) .i64 i5 2).bind fun n31 =>
  (ldI (Heap.skip H7 15) .i64 i5 1).bind fun n32 =>
  (ldI (Heap.skip H7 15) .i64 i5 2).bind fun n33 =>
  bounds (List.length x0) (some (.int .i64 n32)) (some (.int .i64 n33)) fun l34 u35 =>
  o 252 [(.str (List.take (u35 - l34) (List.drop l34 x0)))] (Heap.skip H7 15) fun v36 H37 =>
  asI .u64 v36 fun n38 =>
  (ldI H37 .i64 i5 2).bind fun n39 =>
  cond (decide (n31 = n39)) (
  κ (.tup [(.int .i64 (IntKind.i64.wrap (n31 + (IntKind.i64.wrap (8 * (if 8 < (IntKind.i64.wrap n38) then 8 else (IntKind.i64.wrap n38))))))), (.int .i64 0)]) H37) none)) none))) none) none) none)
theorem M248_3_ok {o : Orc} {N : Nat} {κ : Kv} (x0 : List Nat) (H : Heap) :
    run Tryz.prog o N (cAt Tryz.f248 [1, 1]) A248_2 (env0 Tryz.prog Tryz.f248 κ) (tmk 0 53 [(0, .str x0)]) H (env0 Tryz.prog Tryz.f248 κ).ret = M248_3 o N κ x0 H := by
  kernel_rfl
def A248_4 : An := .s .n (some (lvOf [0])) (.s .n (some (lvOf [0])) A248_2)
def M248 (o : Orc) (N : Nat) : FnM := fun vs H κ => match vs with
  | [.str x0] => M248_0 o N (fun x0 H => M248_1 o N (fun x0 H => M248_3 o N κ x0 H) κ x0 H) κ x0 H
  | _ => none
theorem M248_run (o : Orc) (N : Nat) (vs : List V) (H : Heap) (κ : Kv) (r) (h : M248 o N vs H κ = some r) : runFn Tryz.prog o N Tryz.f248 A248_4 vs H κ = some r := by
  unfold M248 at h
  split at h
  · rename_i x0
    refine (runFn_at (t := tmk 0 53 [(0, .str x0)]) (by kernel_rfl) (by kernel_rfl)).trans (Eq.trans ?_ h)
    refine (run_seq (x := (cAt Tryz.f248 [0])) (ax := .n) (y := (cAt Tryz.f248 [1])) (ay := (.s .n (some (lvOf [0])) A248_2)) (l := [0]) (by kernel_rfl) (by kernel_rfl)).trans ?_
    refine M248_0_ok ?_ x0 H
    intro x0 H
    refine (run_seq (x := (cAt Tryz.f248 [1, 0])) (ax := .n) (y := (cAt Tryz.f248 [1, 1])) (ay := A248_2) (l := [0]) (by kernel_rfl) (by kernel_rfl)).trans ?_
    refine M248_1_ok ?_ x0 H
    intro x0 H
    exact M248_3_ok x0 H
  · cases h
theorem M248_sound {o : Orc} (ho : ∀ f, FSound Tryz.prog f (o f)) (N : Nat) : FSound Tryz.prog 248 (M248 o N) :=
  FSound.sub (runFn_ok (an := A248_4) (fuel := N) hmix ho (by kernel_rfl) (by kernel_rfl)) (M248_run o N)
/-! 249 ostinato/bits.FromBytes -/
def M249_0 (o : Orc) (N : Nat) (J : List Nat → Heap → Ans) (κ : Kv) (x0 : List Nat) (H : Heap) : Ans :=
  J x0 H
theorem M249_0_ok {o : Orc} {N : Nat} {κ : Kv} {J : Kt} {J' : List Nat → Heap → Ans} (hJ : ∀ x0 H, J (tmk 0 24 [(0, .str x0)]) H = J' x0 H) (x0 : List Nat) (H : Heap) :
    run Tryz.prog o N (cAt Tryz.f249 [0]) .n (env0 Tryz.prog Tryz.f249 κ) (tmk 0 24 [(0, .str x0)]) H (kj [0] J) = M249_0 o N J' κ x0 H := by
  obtain rfl := fx2 hJ
  kernel_rfl
def M249_1 (o : Orc) (N : Nat) (J : List Nat → V → Heap → Ans) (κ : Kv) (x0 : List Nat) (H : Heap) : Ans :=
  cond (decide (0 ≤ 0) && decide (0 ≤ (IntKind.i64.wrap (8 * ((List.length x0 : Nat) : Int)))) && decide ((IntKind.i64.wrap (8 * ((List.length x0 : Nat) : Int))) ≤ 4294967296) && Nat.ble 1 1024 && Nat.blt 0 1) (
  newB H (.row (List.flatten (List.replicate (Int.toNat 0) [(.int .u8 0)]))) fun i1 H2 =>
  J x0 (.sl i1 0 (Int.toNat 0) 1 true) H2) none
theorem M249_1_ok {o : Orc} {N : Nat} {κ : Kv} {J : Kt} {J' : List Nat → V → Heap → Ans} (hJ : ∀ x0 x3 H, J (tmk 0 24 [(0, .str x0), (3, x3)]) H = J' x0 x3 H) (x0 : List Nat) (H : Heap) :
    run Tryz.prog o N (cAt Tryz.f249 [1, 0]) .n (env0 Tryz.prog Tryz.f249 κ) (tmk 0 24 [(0, .str x0)]) H (kj [0, 3] J) = M249_1 o N J' κ x0 H := by
  obtain rfl := fx3 hJ
  kernel_rfl
def M249_2 (o : Orc) (N : Nat) (J : List Nat → V → Int → Int → Heap → Ans) (κ : Kv) (x0 : List Nat) (x3 : V) (H : Heap) : Ans :=
  J x0 x3 ((List.length x0 : Nat) : Int) 0 H
theorem M249_2_ok {o : Orc} {N : Nat} {κ : Kv} {J : Kt} {J' : List Nat → V → Int → Int → Heap → Ans} (hJ : ∀ x0 x3 x10 x11 H, J (tmk 0 24 [(0, .str x0), (3, x3), (10, .int .i64 x10), (11, .int .i64 x11)]) H = J' x0 x3 x10 x11 H) (x0 : List Nat) (x3 : V) (H : Heap) :
    run Tryz.prog o N (cAt Tryz.f249 [1, 1, 0, 0]) .n (env0 Tryz.prog Tryz.f249 κ) (tmk 0 24 [(0, .str x0), (3, x3)]) H (kj [0, 3, 10, 11] J) = M249_2 o N J' κ x0 x3 H := by
  obtain rfl := fx5 hJ
  kernel_rfl
def M249_3 (o : Orc) (N : Nat) (X0 : V → Heap → Ans) (J : List Nat → V → Int → Int → Heap → Ans) (κ : Kv) (x0 : List Nat) (x3 : V) (x10 x11 : Int) (H : Heap) : Ans :=
  cond (decide (x11 < x10)) (
  cond (decide (0 ≤ x11)) (
  (nth x0 (Int.toNat x11)).bind fun c3 =>
  o 236 [(.int .u64 (IntKind.u64.wrap (Int.ofNat c3))), (.int .i64 8)] H fun v4 H5 =>
  asS v4 fun s6 =>
  appV H5 x3 (.str s6) 1 fun v7 H8 =>
  J x0 v7 x10 (IntKind.i64.wrap (x11 + 1)) H8) none) (
  X0 x3 H)
theorem M249_3_ok {o : Orc} {N : Nat} {κ : Kv} {X0 J : Kt} {X0' : V → Heap → Ans} {J' : List Nat → V → Int → Int → Heap → Ans} (h0 : ∀ x3 H, X0 (tmk 0 24 [(3, x3)]) H = X0' x3 H) (hJ : ∀ x0 x3 x10 x11 H, J (tmk 0 24 [(0, .str x0), (3, x3), (10, .int .i64 x10), (11, .int .i64 x11)]) H = J' x0 x3 x10 x11 H) (x0 : List Nat) (x3 : V) (x10 x11 : Int) (H : Heap) :
    run Tryz.prog o N (cAt Tryz.f249 [1, 1, 0, 1, 4, 4]) .n ((env0 Tryz.prog Tryz.f249 κ).block 0 (kj [3] X0)) (tmk 0 24 [(0, .str x0), (3, x3), (10, .int .i64 x10), (11, .int .i64 x11)]) H (kj [0, 3, 10, 11] J) = M249_3 o N X0' J' κ x0 x3 x10 x11 H := by
  obtain rfl := fx2 h0
  obtain rfl := fx5 hJ
  kernel_rfl
def M249_4 (o : Orc) (N : Nat) (X0 : V → Heap → Ans) (κ : Kv) (n : Nat) : List Nat → V → Int → Int → Heap → Ans :=
  Nat.rec (motive := fun _ => List Nat → V → Int → Int → Heap → Ans) (fun _ _ _ _ _ => none) (fun _ ih x0 x3 x10 x11 H => M249_3 o N X0 ih κ x0 x3 x10 x11 H) n
theorem M249_4_s (o : Orc) (N : Nat) (X0 : V → Heap → Ans) (κ : Kv) (n : Nat) (x0 : List Nat) (x3 : V) (x10 x11 : Int) (H : Heap) : M249_4 o N X0 κ (n + 1) x0 x3 x10 x11 H = M249_3 o N X0 (M249_4 o N X0 κ n) κ x0 x3 x10 x11 H := rfl
theorem M249_4_ok {o : Orc} {N : Nat} {κ : Kv} {X0 : Kt} {X0' : V → Heap → Ans} (h0 : ∀ x3 H, X0 (tmk 0 24 [(3, x3)]) H = X0' x3 H) (n : Nat) : ∀ (x0 : List Nat) (x3 : V) (x10 x11 : Int) (H : Heap),
    rounds (fun a H k => run Tryz.prog o N (cAt Tryz.f249 [1, 1, 0, 1, 4, 4]) .n ((env0 Tryz.prog Tryz.f249 κ).block 0 (kj [3] X0)) a H k) (some (lvOf [0, 3, 10, 11])) n (tmk 0 24 [(0, .str x0), (3, x3), (10, .int .i64 x10), (11, .int .i64 x11)]) H = M249_4 o N X0' κ n x0 x3 x10 x11 H := by
  induction n with
  | zero => intros; rfl
  | succ n ih =>
    intro x0 x3 x10 x11 H
    refine (run_round.trans ?_).trans (M249_4_s ..).symm
    exact M249_3_ok h0 ih x0 x3 x10 x11 H
def A249_5 : An := .b none (.l (some (lvOf [0, 3, 10, 11])) .n)
def A249_6 : An := .s .n (some (lvOf [0, 3, 10, 11])) A249_5
def M249_7 (o : Orc) (N : Nat) (κ : Kv) (x3 : V) (H : Heap) : Ans :=
  bytesV H x3 fun s9 =>
  κ (.str s9) H
theorem M249_7_ok {o : Orc} {N : Nat} {κ : Kv} (x3 : V) (H : Heap) :
    run Tryz.prog o N (cAt Tryz.f249 [1, 1, 1]) .n (env0 Tryz.prog Tryz.f249 κ) (tmk 0 24 [(3, x3)]) H (env0 Tryz.prog Tryz.f249 κ).ret = M249_7 o N κ x3 H := by
  kernel_rfl
def A249_8 : An := .s .n (some (lvOf [0, 3])) (.s A249_6 (some (lvOf [3])) .n)
def M249 (o : Orc) (N : Nat) : FnM := fun vs H κ => match vs with
  | [.str x0] => M249_0 o N (fun x0 H => M249_1 o N (fun x0 x3 H => M249_2 o N (fun x0 x3 x10 x11 H => M249_4 o N (fun x3 H => M249_7 o N κ x3 H) κ N x0 x3 x10 x11 H) κ x0 x3 H) κ x0 H) κ x0 H
  | _ => none
theorem M249_run (o : Orc) (N : Nat) (vs : List V) (H : Heap) (κ : Kv) (r) (h : M249 o N vs H κ = some r) : runFn Tryz.prog o N Tryz.f249 (.s .n (some (lvOf [0])) A249_8) vs H κ = some r := by
  unfold M249 at h
  split at h
  · rename_i x0
    refine (runFn_at (t := tmk 0 24 [(0, .str x0)]) (by kernel_rfl) (by kernel_rfl)).trans (Eq.trans ?_ h)
    refine (run_seq (x := (cAt Tryz.f249 [0])) (ax := .n) (y := (cAt Tryz.f249 [1])) (ay := A249_8) (l := [0]) (by kernel_rfl) (by kernel_rfl)).trans ?_
    refine M249_0_ok ?_ x0 H
    intro x0 H
    refine (run_seq (x := (cAt Tryz.f249 [1, 0])) (ax := .n) (y := (cAt Tryz.f249 [1, 1])) (ay := (.s A249_6 (some (lvOf [3])) .n)) (l := [0, 3]) (by kernel_rfl) (by kernel_rfl)).trans ?_
    refine M249_1_ok ?_ x0 H
    intro x0 x3 H
    refine (run_seq (x := (cAt Tryz.f249 [1, 1, 0])) (ax := A249_6) (y := (cAt Tryz.f249 [1, 1, 1])) (ay := .n) (l := [3]) (by kernel_rfl) (by kernel_rfl)).trans ?_
    refine (run_seq (x := (cAt Tryz.f249 [1, 1, 0, 0])) (ax := .n) (y := (cAt Tryz.f249 [1, 1, 0, 1])) (ay := A249_5) (l := [0, 3, 10, 11]) (by kernel_rfl) (by kernel_rfl)).trans ?_
    refine M249_2_ok ?_ x0 x3 H
    intro x0 x3 x10 x11 H
    refine (run_block (id := 0) (x := (cAt Tryz.f249 [1, 1, 0, 1, 4])) (ax := (.l (some (lvOf [0, 3, 10, 11])) .n)) (by kernel_rfl) (by kernel_rfl)).trans ?_
    refine (run_loop (x := (cAt Tryz.f249 [1, 1, 0, 1, 4, 4])) (ax := .n) (l := [0, 3, 10, 11]) (by kernel_rfl) (by kernel_rfl) (by kernel_rfl)).trans ?_
    refine M249_4_ok ?_ N x0 x3 x10 x11 H
    intro x3 H
    exact M249_7_ok x3 H
  · cases h
theorem M249_sound {o : Orc} (ho : ∀ f, FSound Tryz.prog f (o f)) (N : Nat) : FSound Tryz.prog 249 (M249 o N) :=
  FSound.sub (runFn_ok (an := (.s .n (some (lvOf [0])) A249_8)) (fuel := N) hmix ho (by kernel_rfl) (by kernel_rfl)) (M249_run o N)
/-! 250 ostinato/bits.sign -/
def M250_0 (o : Orc) (N : Nat) (κ : Kv) (x0 : Bool) (H : Heap) : Ans :=
  cond x0 (
  κ (.int .u8 49) H) (
  κ (.int .u8 48) H)
theorem M250_0_ok {o : Orc} {N : Nat} {κ : Kv} (x0 : Bool) (H : Heap) :
    run Tryz.prog o N (cAt Tryz.f250 []) .n (env0 Tryz.prog Tryz.f250 κ) (tmk 0 4 [(0, .bool x0)]) H (env0 Tryz.prog Tryz.f250 κ).ret = M250_0 o N κ x0 H := by
  kernel_rfl
def M250 (o : Orc) (N : Nat) : FnM := fun vs H κ => match vs with
  | [.bool x0] => M250_0 o N κ x0 H
  | _ => none
theorem M250_run (o : Orc) (N : Nat) (vs : List V) (H : Heap) (κ : Kv) (r) (h : M250 o N vs H κ = some r) : runFn Tryz.prog o N Tryz.f250 .n vs H κ = some r := by
  unfold M250 at h
  split at h
  · rename_i x0
    refine (runFn_at (t := tmk 0 4 [(0, .bool x0)]) (by kernel_rfl) (by kernel_rfl)).trans (Eq.trans ?_ h)
    exact M250_0_ok x0 H
  · cases h
theorem M250_sound {o : Orc} (ho : ∀ f, FSound Tryz.prog f (o f)) (N : Nat) : FSound Tryz.prog 250 (M250 o N) :=
  FSound.sub (runFn_ok (an := .n) (fuel := N) hmix ho (by kernel_rfl) (by kernel_rfl)) (M250_run o N)
/-! 251 ostinato/bits.Turn -/
def M251_0 (o : Orc) (N : Nat) (κ : Kv) (x0 : List Nat) (x1 : Int) (H : Heap) : Ans :=
  o 256 [(.str x0)] H fun v1 H2 =>
  cond (decide (x1 ≥ 0)) (
  lenS v1 fun n3 =>
  cond (decide (x1 < n3)) (
  idxS 1 v1 x1 fun p4 o5 =>
  (ldI H2 .u8 p4 o5).bind fun n6 =>
  o 250 [(.bool (n6 == 48))] H2 fun v7 H8 =>
  asI .u8 v7 fun n9 =>
  idxS 1 v1 x1 fun p10 o11 =>
  (stN H8 p10 o11 [(.int .u8 n9)]).bind fun H12 =>
  bytesV H12 v1 fun s13 =>
  κ (.str s13) H12) (
  bytesV H2 v1 fun s14 =>
  κ (.str s14) H2)) (
  bytesV H2 v1 fun s15 =>
  κ (.str s15) H2)
theorem M251_0_ok {o : Orc} {N : Nat} {κ : Kv} (x0 : List Nat) (x1 : Int) (H : Heap) :
    run Tryz.prog o N (cAt Tryz.f251 []) .n (env0 Tryz.prog Tryz.f251 κ) (tmk 0 27 [(0, .str x0), (1, .int .i64 x1)]) H (env0 Tryz.prog Tryz.f251 κ).ret = M251_0 o N κ x0 x1 H := by
  kernel_rfl
def M251 (o : Orc) (N : Nat) : FnM := fun vs H κ => match vs with
  | [.str x0, .int .i64 x1] => M251_0 o N κ x0 x1 H
  | _ => none
theorem M251_run (o : Orc) (N : Nat) (vs : List V) (H : Heap) (κ : Kv) (r) (h : M251 o N vs H κ = some r) : runFn Tryz.prog o N Tryz.f251 .n vs H κ = some r := by
  unfold M251 at h
  split at h
  · rename_i x0 x1
    refine (runFn_at (t := tmk 0 27 [(0, .str x0), (1, .int .i64 x1)]) (by kernel_rfl) (by kernel_rfl)).trans (Eq.trans ?_ h)
    exact M251_0_ok x0 x1 H
  · cases h
theorem M251_sound {o : Orc} (ho : ∀ f, FSound Tryz.prog f (o f)) (N : Nat) : FSound Tryz.prog 251 (M251 o N) :=
  FSound.sub (runFn_ok (an := .n) (fuel := N) hmix ho (by kernel_rfl) (by kernel_rfl)) (M251_run o N)
/-! 252 ostinato/bits.Num -/
def M252_0 (o : Orc) (N : Nat) (J : List Nat → Heap → Ans) (κ : Kv) (x0 : List Nat) (H : Heap) : Ans :=
  J x0 H
theorem M252_0_ok {o : Orc} {N : Nat} {κ : Kv} {J : Kt} {J' : List Nat → Heap → Ans} (hJ : ∀ x0 H, J (tmk 0 20 [(0, .str x0)]) H = J' x0 H) (x0 : List Nat) (H : Heap) :
    run Tryz.prog o N (cAt Tryz.f252 [0]) .n (env0 Tryz.prog Tryz.f252 κ) (tmk 0 20 [(0, .str x0)]) H (kj [0] J) = M252_0 o N J' κ x0 H := by
  obtain rfl := fx2 hJ
  kernel_rfl
def M252_1 (o : Orc) (N : Nat) (J : List Nat → Int → Heap → Ans) (κ : Kv) (x0 : List Nat) (H : Heap) : Ans :=
  J x0 0 H
theorem M252_1_ok {o : Orc} {N : Nat} {κ : Kv} {J : Kt} {J' : List Nat → Int → Heap → Ans} (hJ : ∀ x0 x3 H, J (tmk 0 20 [(0, .str x0), (3, .int .u64 x3)]) H = J' x0 x3 H) (x0 : List Nat) (H : Heap) :
    run Tryz.prog o N (cAt Tryz.f252 [1, 0]) .n (env0 Tryz.prog Tryz.f252 κ) (tmk 0 20 [(0, .str x0)]) H (kj [0, 3] J) = M252_1 o N J' κ x0 H := by
  obtain rfl := fx3 hJ
  kernel_rfl
def M252_2 (o : Orc) (N : Nat) (J : List Nat → Int → Int → Int → Heap → Ans) (κ : Kv) (x0 : List Nat) (x3 : Int) (H : Heap) : Ans :=
  J x0 x3 ((List.length x0 : Nat) : Int) 0 H
theorem M252_2_ok {o : Orc} {N : Nat} {κ : Kv} {J : Kt} {J' : List Nat → Int → Int → Int → Heap → Ans} (hJ : ∀ x0 x3 x6 x7 H, J (tmk 0 20 [(0, .str x0), (3, .int .u64 x3), (6, .int .i64 x6), (7, .int .i64 x7)]) H = J' x0 x3 x6 x7 H) (x0 : List Nat) (x3 : Int) (H : Heap) :
    run Tryz.prog o N (cAt Tryz.f252 [1, 1, 0, 0]) .n (env0 Tryz.prog Tryz.f252 κ) (tmk 0 20 [(0, .str x0), (3, .int .u64 x3)]) H (kj [0, 3, 6, 7] J) = M252_2 o N J' κ x0 x3 H := by
  obtain rfl := fx5 hJ
  kernel_rfl
def M252_3 (o : Orc) (N : Nat) (X0 : Int → Heap → Ans) (J : List Nat → Int → Int → Int → Heap → Ans) (κ : Kv) (x0 : List Nat) (x3 x6 x7 : Int) (H : Heap) : Ans :=
  cond (decide (x7 < x6)) (
  cond (decide (0 ≤ x7)) (
  (nth x0 (Int.toNat x7)).bind fun c1 =>
  cond ((Int.ofNat c1) == 49) (
  J x0 (IntKind.u64.wrap (Int.ofNat ((BitVec.ofInt (IntKind.bits .u64) (IntKind.u64.wrap (x3 * 2 ^ (min (Int.toNat 1) (IntKind.bits .u64))))) ||| (BitVec.ofInt (IntKind.bits .u64) 1)).toNat)) x6 (IntKind.i64.wrap (x7 + 1)) H) (
  J x0 (IntKind.u64.wrap (x3 * 2 ^ (min (Int.toNat 1) (IntKind.bits .u64)))) x6 (IntKind.i64.wrap (x7 + 1)) H)) none) (
  X0 x3 H)
theorem M252_3_ok {o : Orc} {N : Nat} {κ : Kv} {X0 J : Kt} {X0' : Int → Heap → Ans} {J' : List Nat → Int → Int → Int → Heap → Ans} (h0 : ∀ x3 H, X0 (tmk 0 20 [(3, .int .u64 x3)]) H = X0' x3 H) (hJ : ∀ x0 x3 x6 x7 H, J (tmk 0 20 [(0, .str x0), (3, .int .u64 x3), (6, .int .i64 x6), (7, .int .i64 x7)]) H = J' x0 x3 x6 x7 H) (x0 : List Nat) (x3 x6 x7 : Int) (H : Heap) :
    run Tryz.prog o N (cAt Tryz.f252 [1, 1, 0, 1, 4, 4]) .n ((env0 Tryz.prog Tryz.f252 κ).block 0 (kj [3] X0)) (tmk 0 20 [(0, .str x0), (3, .int .u64 x3), (6, .int .i64 x6), (7, .int .i64 x7)]) H (kj [0, 3, 6, 7] J) = M252_3 o N X0' J' κ x0 x3 x6 x7 H := by
  obtain rfl := fx2 h0
  obtain rfl := fx5 hJ
  kernel_rfl
def M252_4 (o : Orc) (N : Nat) (X0 : Int → Heap → Ans) (κ : Kv) (n : Nat) : List Nat → Int → Int → Int → Heap → Ans :=
  Nat.rec (motive := fun _ => List Nat → Int → Int → Int → Heap → Ans) (fun _ _ _ _ _ => none) (fun _ ih x0 x3 x6 x7 H => M252_3 o N X0 ih κ x0 x3 x6 x7 H) n
theorem M252_4_s (o : Orc) (N : Nat) (X0 : Int → Heap → Ans) (κ : Kv) (n : Nat) (x0 : List Nat) (x3 x6 x7 : Int) (H : Heap) : M252_4 o N X0 κ (n + 1) x0 x3 x6 x7 H = M252_3 o N X0 (M252_4 o N X0 κ n) κ x0 x3 x6 x7 H := rfl
theorem M252_4_ok {o : Orc} {N : Nat} {κ : Kv} {X0 : Kt} {X0' : Int → Heap → Ans} (h0 : ∀ x3 H, X0 (tmk 0 20 [(3, .int .u64 x3)]) H = X0' x3 H) (n : Nat) : ∀ (x0 : List Nat) (x3 x6 x7 : Int) (H : Heap),
    rounds (fun a H k => run Tryz.prog o N (cAt Tryz.f252 [1, 1, 0, 1, 4, 4]) .n ((env0 Tryz.prog Tryz.f252 κ).block 0 (kj [3] X0)) a H k) (some (lvOf [0, 3, 6, 7])) n (tmk 0 20 [(0, .str x0), (3, .int .u64 x3), (6, .int .i64 x6), (7, .int .i64 x7)]) H = M252_4 o N X0' κ n x0 x3 x6 x7 H := by
  induction n with
  | zero => intros; rfl
  | succ n ih =>
    intro x0 x3 x6 x7 H
    refine (run_round.trans ?_).trans (M252_4_s ..).symm
    exact M252_3_ok h0 ih x0 x3 x6 x7 H
def A252_5 : An := .b none (.l (some (lvOf [0, 3, 6, 7])) .n)
def M252_6 (o : Orc) (N : Nat) (κ : Kv) (x3 : Int) (H : Heap) : Ans :=
  κ (.int .u64 x3) H
theorem M252_6_ok {o : Orc} {N : Nat} {κ : Kv} (x3 : Int) (H : Heap) :
    run Tryz.prog o N (cAt Tryz.f252 [1, 1, 1]) .n (env0 Tryz.prog Tryz.f252 κ) (tmk 0 20 [(3, .int .u64 x3)]) H (env0 Tryz.prog Tryz.f252 κ).ret = M252_6 o N κ x3 H := by
  kernel_rfl
def A252_7 : An := .s (.s .n (some (lvOf [0, 3, 6, 7])) A252_5) (some (lvOf [3])) .n
def A252_8 : An := .s .n (some (lvOf [0])) (.s .n (some (lvOf [0, 3])) A252_7)
def M252 (o : Orc) (N : Nat) : FnM := fun vs H κ => match vs with
  | [.str x0] => M252_0 o N (fun x0 H => M252_1 o N (fun x0 x3 H => M252_2 o N (fun x0 x3 x6 x7 H => M252_4 o N (fun x3 H => M252_6 o N κ x3 H) κ N x0 x3 x6 x7 H) κ x0 x3 H) κ x0 H) κ x0 H
  | _ => none
theorem M252_run (o : Orc) (N : Nat) (vs : List V) (H : Heap) (κ : Kv) (r) (h : M252 o N vs H κ = some r) : runFn Tryz.prog o N Tryz.f252 A252_8 vs H κ = some r := by
  unfold M252 at h
  split at h
  · rename_i x0
    refine (runFn_at (t := tmk 0 20 [(0, .str x0)]) (by kernel_rfl) (by kernel_rfl)).trans (Eq.trans ?_ h)
    refine (run_seq (x := (cAt Tryz.f252 [0])) (ax := .n) (y := (cAt Tryz.f252 [1])) (ay := (.s .n (some (lvOf [0, 3])) A252_7)) (l := [0]) (by kernel_rfl) (by kernel_rfl)).trans ?_
    refine M252_0_ok ?_ x0 H
    intro x0 H
    refine (run_seq (x := (cAt Tryz.f252 [1, 0])) (ax := .n) (y := (cAt Tryz.f252 [1, 1])) (ay := A252_7) (l := [0, 3]) (by kernel_rfl) (by kernel_rfl)).trans ?_
    refine M252_1_ok ?_ x0 H
    intro x0 x3 H
    refine (run_seq (x := (cAt Tryz.f252 [1, 1, 0])) (ax := (.s .n (some (lvOf [0, 3, 6, 7])) A252_5)) (y := (cAt Tryz.f252 [1, 1, 1])) (ay := .n) (l := [3]) (by kernel_rfl) (by kernel_rfl)).trans ?_
    refine (run_seq (x := (cAt Tryz.f252 [1, 1, 0, 0])) (ax := .n) (y := (cAt Tryz.f252 [1, 1, 0, 1])) (ay := A252_5) (l := [0, 3, 6, 7]) (by kernel_rfl) (by kernel_rfl)).trans ?_
    refine M252_2_ok ?_ x0 x3 H
    intro x0 x3 x6 x7 H
    refine (run_block (id := 0) (x := (cAt Tryz.f252 [1, 1, 0, 1, 4])) (ax := (.l (some (lvOf [0, 3, 6, 7])) .n)) (by kernel_rfl) (by kernel_rfl)).trans ?_
    refine (run_loop (x := (cAt Tryz.f252 [1, 1, 0, 1, 4, 4])) (ax := .n) (l := [0, 3, 6, 7]) (by kernel_rfl) (by kernel_rfl) (by kernel_rfl)).trans ?_
    refine M252_4_ok ?_ N x0 x3 x6 x7 H
    intro x3 H
    exact M252_6_ok x3 H
  · cases h
theorem M252_sound {o : Orc} (ho : ∀ f, FSound Tryz.prog f (o f)) (N : Nat) : FSound Tryz.prog 252 (M252 o N) :=
  FSound.sub (runFn_ok (an := A252_8) (fuel := N) hmix ho (by kernel_rfl) (by kernel_rfl)) (M252_run o N)
/-! 253 ostinato/frame.forms -/
def M253_0 (o : Orc) (N : Nat) (κ : Kv) (H : Heap) : Ans :=
  newB H (.row [(.int .i64 0), (.int .i64 0), (.int .i64 0), (.int .i64 0), (.int .i64 0), (.int .i64 0)]) fun i1 H2 =>
  (stN H2 i1 0 [(.int .i64 12), (.int .i64 15), (.int .i64 19), (.int .i64 32), (.int .i64 35), (.int .i64 39)]).bind fun H3 =>
  ldFlat H3 i1 [.int .i64, .int .i64, .int .i64, .int .i64, .int .i64, .int .i64] 0 fun l4 =>
  κ (.agg l4) H3
theorem M253_0_ok {o : Orc} {N : Nat} {κ : Kv} (H : Heap) :
    run Tryz.prog o N (cAt Tryz.f253 []) .n (env0 Tryz.prog Tryz.f253 κ) (tmk 0 4 []) H (env0 Tryz.prog Tryz.f253 κ).ret = M253_0 o N κ  H := by
  kernel_rfl
def M253 (o : Orc) (N : Nat) : FnM := fun vs H κ => match vs with
  | [] => M253_0 o N κ  H
  | _ => none
theorem M253_run (o : Orc) (N : Nat) (vs : List V) (H : Heap) (κ : Kv) (r) (h : M253 o N vs H κ = some r) : runFn Tryz.prog o N Tryz.f253 .n vs H κ = some r := by
  unfold M253 at h
  split at h
  · refine (runFn_at (t := tmk 0 4 []) (by kernel_rfl) (by kernel_rfl)).trans (Eq.trans ?_ h)
    exact M253_0_ok  H
  · cases h
theorem M253_sound {o : Orc} (ho : ∀ f, FSound Tryz.prog f (o f)) (N : Nat) : FSound Tryz.prog 253 (M253 o N) :=
  FSound.sub (runFn_ok (an := .n) (fuel := N) hmix ho (by kernel_rfl) (by kernel_rfl)) (M253_run o N)
/-! 254 ostinato/bits.Bytes -/
def M254_0 (o : Orc) (N : Nat) (J : List Nat → Heap → Ans) (κ : Kv) (x0 : List Nat) (H : Heap) : Ans :=
  J x0 H
theorem M254_0_ok {o : Orc} {N : Nat} {κ : Kv} {J : Kt} {J' : List Nat → Heap → Ans} (hJ : ∀ x0 H, J (tmk 0 29 [(0, .str x0)]) H = J' x0 H) (x0 : List Nat) (H : Heap) :
    run Tryz.prog o N (cAt Tryz.f254 [0]) .n (env0 Tryz.prog Tryz.f254 κ) (tmk 0 29 [(0, .str x0)]) H (kj [0] J) = M254_0 o N J' κ x0 H := by
  obtain rfl := fx2 hJ
  kernel_rfl
def M254_1 (o : Orc) (N : Nat) (J : List Nat → V → Heap → Ans) (κ : Kv) (x0 : List Nat) (H : Heap) : Ans :=
  cond (decide (0 ≤ (IntKind.i64.wrap (Int.tdiv ((List.length x0 : Nat) : Int) 8))) && decide ((IntKind.i64.wrap (Int.tdiv ((List.length x0 : Nat) : Int) 8)) ≤ (IntKind.i64.wrap (Int.tdiv ((List.length x0 : Nat) : Int) 8))) && decide ((IntKind.i64.wrap (Int.tdiv ((List.length x0 : Nat) : Int) 8)) ≤ 4294967296) && Nat.ble 1 1024 && Nat.blt 0 1) (
  newB H (.row (List.flatten (List.replicate (Int.toNat (IntKind.i64.wrap (Int.tdiv ((List.length x0 : Nat) : Int) 8))) [(.int .u8 0)]))) fun i1 H2 =>
  J x0 (.sl i1 0 (Int.toNat (IntKind.i64.wrap (Int.tdiv ((List.length x0 : Nat) : Int) 8))) 1 true) H2) none
theorem M254_1_ok {o : Orc} {N : Nat} {κ : Kv} {J : Kt} {J' : List Nat → V → Heap → Ans} (hJ : ∀ x0 x3 H, J (tmk 0 29 [(0, .str x0), (3, x3)]) H = J' x0 x3 H) (x0 : List Nat) (H : Heap) :
    run Tryz.prog o N (cAt Tryz.f254 [1, 0]) .n (env0 Tryz.prog Tryz.f254 κ) (tmk 0 29 [(0, .str x0)]) H (kj [0, 3] J) = M254_1 o N J' κ x0 H := by
  obtain rfl := fx3 hJ
  kernel_rfl
def M254_2 (o : Orc) (N : Nat) (J : List Nat → V → Int → Int → Heap → Ans) (κ : Kv) (x0 : List Nat) (x3 : V) (H : Heap) : Ans :=
  lenS x3 fun n3 =>
  J x0 x3 n3 0 H
theorem M254_2_ok {o : Orc} {N : Nat} {κ : Kv} {J : Kt} {J' : List Nat → V → Int → Int → Heap → Ans} (hJ : ∀ x0 x3 x10 x11 H, J (tmk 0 29 [(0, .str x0), (3, x3), (10, .int .i64 x10), (11, .int .i64 x11)]) H = J' x0 x3 x10 x11 H) (x0 : List Nat) (x3 : V) (H : Heap) :
    run Tryz.prog o N (cAt Tryz.f254 [1, 1, 0, 0]) .n (env0 Tryz.prog Tryz.f254 κ) (tmk 0 29 [(0, .str x0), (3, x3)]) H (kj [0, 3, 10, 11] J) = M254_2 o N J' κ x0 x3 H := by
  obtain rfl := fx5 hJ
  kernel_rfl
def M254_3 (o : Orc) (N : Nat) (X0 : V → Heap → Ans) (J : List Nat → V → Int → Int → Heap → Ans) (κ : Kv) (x0 : List Nat) (x3 : V) (x10 x11 : Int) (H : Heap) : Ans :=
  cond (decide (x11 < x10)) (
  bounds (List.length x0) (some (.int .i64 (IntKind.i64.wrap (8 * x11)))) (some (.int .i64 (IntKind.i64.wrap (8 * (IntKind.i64.wrap (x11 + 1)))))) fun l4 u5 =>
  o 252 [(.str (List.take (u5 - l4) (List.drop l4 x0)))] H fun v6 H7 =>
  asI .u64 v6 fun n8 =>
  idxS 1 x3 x11 fun p9 o10 =>
  (stN H7 p9 o10 [(.int .u8 (IntKind.u8.wrap n8))]).bind fun H11 =>
  J x0 x3 x10 (IntKind.i64.wrap (x11 + 1)) H11) (
  X0 x3 H)
theorem M254_3_ok {o : Orc} {N : Nat} {κ : Kv} {X0 J : Kt} {X0' : V → Heap → Ans} {J' : List Nat → V → Int → Int → Heap → Ans} (h0 : ∀ x3 H, X0 (tmk 0 29 [(3, x3)]) H = X0' x3 H) (hJ : ∀ x0 x3 x10 x11 H, J (tmk 0 29 [(0, .str x0), (3, x3), (10, .int .i64 x10), (11, .int .i64 x11)]) H = J' x0 x3 x10 x11 H) (x0 : List Nat) (x3 : V) (x10 x11 : Int) (H : Heap) :
    run Tryz.prog o N (cAt Tryz.f254 [1, 1, 0, 1, 4, 4]) .n ((env0 Tryz.prog Tryz.f254 κ).block 0 (kj [3] X0)) (tmk 0 29 [(0, .str x0), (3, x3), (10, .int .i64 x10), (11, .int .i64 x11)]) H (kj [0, 3, 10, 11] J) = M254_3 o N X0' J' κ x0 x3 x10 x11 H := by
  obtain rfl := fx2 h0
  obtain rfl := fx5 hJ
  kernel_rfl
def M254_4 (o : Orc) (N : Nat) (X0 : V → Heap → Ans) (κ : Kv) (n : Nat) : List Nat → V → Int → Int → Heap → Ans :=
  Nat.rec (motive := fun _ => List Nat → V → Int → Int → Heap → Ans) (fun _ _ _ _ _ => none) (fun _ ih x0 x3 x10 x11 H => M254_3 o N X0 ih κ x0 x3 x10 x11 H) n
theorem M254_4_s (o : Orc) (N : Nat) (X0 : V → Heap → Ans) (κ : Kv) (n : Nat) (x0 : List Nat) (x3 : V) (x10 x11 : Int) (H : Heap) : M254_4 o N X0 κ (n + 1) x0 x3 x10 x11 H = M254_3 o N X0 (M254_4 o N X0 κ n) κ x0 x3 x10 x11 H := rfl
theorem M254_4_ok {o : Orc} {N : Nat} {κ : Kv} {X0 : Kt} {X0' : V → Heap → Ans} (h0 : ∀ x3 H, X0 (tmk 0 29 [(3, x3)]) H = X0' x3 H) (n : Nat) : ∀ (x0 : List Nat) (x3 : V) (x10 x11 : Int) (H : Heap),
    rounds (fun a H k => run Tryz.prog o N (cAt Tryz.f254 [1, 1, 0, 1, 4, 4]) .n ((env0 Tryz.prog Tryz.f254 κ).block 0 (kj [3] X0)) a H k) (some (lvOf [0, 3, 10, 11])) n (tmk 0 29 [(0, .str x0), (3, x3), (10, .int .i64 x10), (11, .int .i64 x11)]) H = M254_4 o N X0' κ n x0 x3 x10 x11 H := by
  induction n with
  | zero => intros; rfl
  | succ n ih =>
    intro x0 x3 x10 x11 H
    refine (run_round.trans ?_).trans (M254_4_s ..).symm
    exact M254_3_ok h0 ih x0 x3 x10 x11 H
def A254_5 : An := .b none (.l (some (lvOf [0, 3, 10, 11])) .n)
def A254_6 : An := .s .n (some (lvOf [0, 3, 10, 11])) A254_5
def M254_7 (o : Orc) (N : Nat) (κ : Kv) (x3 : V) (H : Heap) : Ans :=
  bytesV H x3 fun s12 =>
  κ (.str s12) H
theorem M254_7_ok {o : Orc} {N : Nat} {κ : Kv} (x3 : V) (H : Heap) :
    run Tryz.prog o N (cAt Tryz.f254 [1, 1, 1]) .n (env0 Tryz.prog Tryz.f254 κ) (tmk 0 29 [(3, x3)]) H (env0 Tryz.prog Tryz.f254 κ).ret = M254_7 o N κ x3 H := by
  kernel_rfl
def A254_8 : An := .s .n (some (lvOf [0, 3])) (.s A254_6 (some (lvOf [3])) .n)
def M254 (o : Orc) (N : Nat) : FnM := fun vs H κ => match vs with
  | [.str x0] => M254_0 o N (fun x0 H => M254_1 o N (fun x0 x3 H => M254_2 o N (fun x0 x3 x10 x11 H => M254_4 o N (fun x3 H => M254_7 o N κ x3 H) κ N x0 x3 x10 x11 H) κ x0 x3 H) κ x0 H) κ x0 H
  | _ => none
theorem M254_run (o : Orc) (N : Nat) (vs : List V) (H : Heap) (κ : Kv) (r) (h : M254 o N vs H κ = some r) : runFn Tryz.prog o N Tryz.f254 (.s .n (some (lvOf [0])) A254_8) vs H κ = some r := by
  unfold M254 at h
  split at h
  · rename_i x0
    refine (runFn_at (t := tmk 0 29 [(0, .str x0)]) (by kernel_rfl) (by kernel_rfl)).trans (Eq.trans ?_ h)
    refine (run_seq (x := (cAt Tryz.f254 [0])) (ax := .n) (y := (cAt Tryz.f254 [1])) (ay := A254_8) (l := [0]) (by kernel_rfl) (by kernel_rfl)).trans ?_
    refine M254_0_ok ?_ x0 H
    intro x0 H
    refine (run_seq (x := (cAt Tryz.f254 [1, 0])) (ax := .n) (y := (cAt Tryz.f254 [1, 1])) (ay := (.s A254_6 (some (lvOf [3])) .n)) (l := [0, 3]) (by kernel_rfl) (by kernel_rfl)).trans ?_
    refine M254_1_ok ?_ x0 H
    intro x0 x3 H
    refine (run_seq (x := (cAt Tryz.f254 [1, 1, 0])) (ax := A254_6) (y := (cAt Tryz.f254 [1, 1, 1])) (ay := .n) (l := [3]) (by kernel_rfl) (by kernel_rfl)).trans ?_
    refine (run_seq (x := (cAt Tryz.f254 [1, 1, 0, 0])) (ax := .n) (y := (cAt Tryz.f254 [1, 1, 0, 1])) (ay := A254_5) (l := [0, 3, 10, 11]) (by kernel_rfl) (by kernel_rfl)).trans ?_
    refine M254_2_ok ?_ x0 x3 H
    intro x0 x3 x10 x11 H
    refine (run_block (id := 0) (x := (cAt Tryz.f254 [1, 1, 0, 1, 4])) (ax := (.l (some (lvOf [0, 3, 10, 11])) .n)) (by kernel_rfl) (by kernel_rfl)).trans ?_
    refine (run_loop (x := (cAt Tryz.f254 [1, 1, 0, 1, 4, 4])) (ax := .n) (l := [0, 3, 10, 11]) (by kernel_rfl) (by kernel_rfl) (by kernel_rfl)).trans ?_
    refine M254_4_ok ?_ N x0 x3 x10 x11 H
    intro x3 H
    exact M254_7_ok x3 H
  · cases h
theorem M254_sound {o : Orc} (ho : ∀ f, FSound Tryz.prog f (o f)) (N : Nat) : FSound Tryz.prog 254 (M254 o N) :=
  FSound.sub (runFn_ok (an := (.s .n (some (lvOf [0])) A254_8)) (fuel := N) hmix ho (by kernel_rfl) (by kernel_rfl)) (M254_run o N)
/-! 256 ostinato/bits.clean -/
def M256_0 (o : Orc) (N : Nat) (J : List Nat → Heap → Ans) (κ : Kv) (x0 : List Nat) (H : Heap) : Ans :=
  J x0 H
theorem M256_0_ok {o : Orc} {N : Nat} {κ : Kv} {J : Kt} {J' : List Nat → Heap → Ans} (hJ : ∀ x0 H, J (tmk 0 27 [(0, .str x0)]) H = J' x0 H) (x0 : List Nat) (H : Heap) :
    run Tryz.prog o N (cAt Tryz.f256 [0]) .n (env0 Tryz.prog Tryz.f256 κ) (tmk 0 27 [(0, .str x0)]) H (kj [0] J) = M256_0 o N J' κ x0 H := by
  obtain rfl := fx2 hJ
  kernel_rfl
def M256_1 (o : Orc) (N : Nat) (J : List Nat → V → Heap → Ans) (κ : Kv) (x0 : List Nat) (H : Heap) : Ans :=
  cond (decide (0 ≤ ((List.length x0 : Nat) : Int)) && decide (((List.length x0 : Nat) : Int) ≤ ((List.length x0 : Nat) : Int)) && decide (((List.length x0 : Nat) : Int) ≤ 4294967296) && Nat.ble 1 1024 && Nat.blt 0 1) (
  newB H (.row (List.flatten (List.replicate (Int.toNat ((List.length x0 : Nat) : Int)) [(.int .u8 0)]))) fun i1 H2 =>
  J x0 (.sl i1 0 (Int.toNat ((List.length x0 : Nat) : Int)) 1 true) H2) none
theorem M256_1_ok {o : Orc} {N : Nat} {κ : Kv} {J : Kt} {J' : List Nat → V → Heap → Ans} (hJ : ∀ x0 x3 H, J (tmk 0 27 [(0, .str x0), (3, x3)]) H = J' x0 x3 H) (x0 : List Nat) (H : Heap) :
    run Tryz.prog o N (cAt Tryz.f256 [1, 0]) .n (env0 Tryz.prog Tryz.f256 κ) (tmk 0 27 [(0, .str x0)]) H (kj [0, 3] J) = M256_1 o N J' κ x0 H := by
  obtain rfl := fx3 hJ
  kernel_rfl
def M256_2 (o : Orc) (N : Nat) (J : V → Heap → Ans) (κ : Kv) (x0 : List Nat) (x3 : V) (H : Heap) : Ans :=
  cpyV H x3 (.str x0) 1 fun n3 H4 =>
  J x3 H4
theorem M256_2_ok {o : Orc} {N : Nat} {κ : Kv} {J : Kt} {J' : V → Heap → Ans} (hJ : ∀ x3 H, J (tmk 0 27 [(3, x3)]) H = J' x3 H) (x0 : List Nat) (x3 : V) (H : Heap) :
    run Tryz.prog o N (cAt Tryz.f256 [1, 1, 0]) .n (env0 Tryz.prog Tryz.f256 κ) (tmk 0 27 [(0, .str x0), (3, x3)]) H (kj [3] J) = M256_2 o N J' κ x0 x3 H := by
  obtain rfl := fx2 hJ
  kernel_rfl
def M256_3 (o : Orc) (N : Nat) (J : V → V → Int → Int → Heap → Ans) (κ : Kv) (x3 : V) (H : Heap) : Ans :=
  lenS x3 fun n5 =>
  J x3 x3 n5 0 H
theorem M256_3_ok {o : Orc} {N : Nat} {κ : Kv} {J : Kt} {J' : V → V → Int → Int → Heap → Ans} (hJ : ∀ x3 x12 x13 x14 H, J (tmk 0 27 [(3, x3), (12, x12), (13, .int .i64 x13), (14, .int .i64 x14)]) H = J' x3 x12 x13 x14 H) (x3 : V) (H : Heap) :
    run Tryz.prog o N (cAt Tryz.f256 [1, 1, 1, 0, 0]) .n (env0 Tryz.prog Tryz.f256 κ) (tmk 0 27 [(3, x3)]) H (kj [3, 12, 13, 14] J) = M256_3 o N J' κ x3 H := by
  obtain rfl := fx5 hJ
  kernel_rfl
def M256_4 (o : Orc) (N : Nat) (X0 : V → Heap → Ans) (J : V → V → Int → Int → Heap → Ans) (κ : Kv) (x3 x12 : V) (x13 x14 : Int) (H : Heap) : Ans :=
  cond (decide (x14 < x13)) (
  idxS 1 x12 x14 fun p6 o7 =>
  (ldI H .u8 p6 o7).bind fun n8 =>
  o 250 [(.bool (n8 == 49))] H fun v9 H10 =>
  asI .u8 v9 fun n11 =>
  idxS 1 x3 x14 fun p12 o13 =>
  (stN H10 p12 o13 [(.int .u8 n11)]).bind fun H14 =>
  J x3 x12 x13 (IntKind.i64.wrap (x14 + 1)) H14) (
  X0 x3 H)
theorem M256_4_ok {o : Orc} {N : Nat} {κ : Kv} {X0 J : Kt} {X0' : V → Heap → Ans} {J' : V → V → Int → Int → Heap → Ans} (h0 : ∀ x3 H, X0 (tmk 0 27 [(3, x3)]) H = X0' x3 H) (hJ : ∀ x3 x12 x13 x14 H, J (tmk 0 27 [(3, x3), (12, x12), (13, .int .i64 x13), (14, .int .i64 x14)]) H = J' x3 x12 x13 x14 H) (x3 x12 : V) (x13 x14 : Int) (H : Heap) :
    run Tryz.prog o N (cAt Tryz.f256 [1, 1, 1, 0, 1, 4, 4]) .n ((env0 Tryz.prog Tryz.f256 κ).block 0 (kj [3] X0)) (tmk 0 27 [(3, x3), (12, x12), (13, .int .i64 x13), (14, .int .i64 x14)]) H (kj [3, 12, 13, 14] J) = M256_4 o N X0' J' κ x3 x12 x13 x14 H := by
  obtain rfl := fx2 h0
  obtain rfl := fx5 hJ
  kernel_rfl
def M256_5 (o : Orc) (N : Nat) (X0 : V → Heap → Ans) (κ : Kv) (n : Nat) : V → V → Int → Int → Heap → Ans :=
  Nat.rec (motive := fun _ => V → V → Int → Int → Heap → Ans) (fun _ _ _ _ _ => none) (fun _ ih x3 x12 x13 x14 H => M256_4 o N X0 ih κ x3 x12 x13 x14 H) n
theorem M256_5_s (o : Orc) (N : Nat) (X0 : V → Heap → Ans) (κ : Kv) (n : Nat) (x3 x12 : V) (x13 x14 : Int) (H : Heap) : M256_5 o N X0 κ (n + 1) x3 x12 x13 x14 H = M256_4 o N X0 (M256_5 o N X0 κ n) κ x3 x12 x13 x14 H := rfl
theorem M256_5_ok {o : Orc} {N : Nat} {κ : Kv} {X0 : Kt} {X0' : V → Heap → Ans} (h0 : ∀ x3 H, X0 (tmk 0 27 [(3, x3)]) H = X0' x3 H) (n : Nat) : ∀ (x3 x12 : V) (x13 x14 : Int) (H : Heap),
    rounds (fun a H k => run Tryz.prog o N (cAt Tryz.f256 [1, 1, 1, 0, 1, 4, 4]) .n ((env0 Tryz.prog Tryz.f256 κ).block 0 (kj [3] X0)) a H k) (some (lvOf [3, 12, 13, 14])) n (tmk 0 27 [(3, x3), (12, x12), (13, .int .i64 x13), (14, .int .i64 x14)]) H = M256_5 o N X0' κ n x3 x12 x13 x14 H := by
  induction n with
  | zero => intros; rfl
  | succ n ih =>
    intro x3 x12 x13 x14 H
    refine (run_round.trans ?_).trans (M256_5_s ..).symm
    exact M256_4_ok h0 ih x3 x12 x13 x14 H
def A256_6 : An := .b none (.l (some (lvOf [3, 12, 13, 14])) .n)
def A256_7 : An := .s .n (some (lvOf [3, 12, 13, 14])) A256_6
def M256_8 (o : Orc) (N : Nat) (κ : Kv) (x3 : V) (H : Heap) : Ans :=
  κ x3 H
theorem M256_8_ok {o : Orc} {N : Nat} {κ : Kv} (x3 : V) (H : Heap) :
    run Tryz.prog o N (cAt Tryz.f256 [1, 1, 1, 1]) .n (env0 Tryz.prog Tryz.f256 κ) (tmk 0 27 [(3, x3)]) H (env0 Tryz.prog Tryz.f256 κ).ret = M256_8 o N κ x3 H := by
  kernel_rfl
def A256_9 : An := .s .n (some (lvOf [3])) (.s A256_7 (some (lvOf [3])) .n)
def A256_10 : An := .s .n (some (lvOf [0])) (.s .n (some (lvOf [0, 3])) A256_9)
def M256 (o : Orc) (N : Nat) : FnM := fun vs H κ => match vs with
  | [.str x0] => M256_0 o N (fun x0 H => M256_1 o N (fun x0 x3 H => M256_2 o N (fun x3 H => M256_3 o N (fun x3 x12 x13 x14 H => M256_5 o N (fun x3 H => M256_8 o N κ x3 H) κ N x3 x12 x13 x14 H) κ x3 H) κ x0 x3 H) κ x0 H) κ x0 H
  | _ => none
theorem M256_run (o : Orc) (N : Nat) (vs : List V) (H : Heap) (κ : Kv) (r) (h : M256 o N vs H κ = some r) : runFn Tryz.prog o N Tryz.f256 A256_10 vs H κ = some r := by
  unfold M256 at h
  split at h
  · rename_i x0
    refine (runFn_at (t := tmk 0 27 [(0, .str x0)]) (by kernel_rfl) (by kernel_rfl)).trans (Eq.trans ?_ h)
    refine (run_seq (x := (cAt Tryz.f256 [0])) (ax := .n) (y := (cAt Tryz.f256 [1])) (ay := (.s .n (some (lvOf [0, 3])) A256_9)) (l := [0]) (by kernel_rfl) (by kernel_rfl)).trans ?_
    refine M256_0_ok ?_ x0 H
    intro x0 H
    refine (run_seq (x := (cAt Tryz.f256 [1, 0])) (ax := .n) (y := (cAt Tryz.f256 [1, 1])) (ay := A256_9) (l := [0, 3]) (by kernel_rfl) (by kernel_rfl)).trans ?_
    refine M256_1_ok ?_ x0 H
    intro x0 x3 H
    refine (run_seq (x := (cAt Tryz.f256 [1, 1, 0])) (ax := .n) (y := (cAt Tryz.f256 [1, 1, 1])) (ay := (.s A256_7 (some (lvOf [3])) .n)) (l := [3]) (by kernel_rfl) (by kernel_rfl)).trans ?_
    refine M256_2_ok ?_ x0 x3 H
    intro x3 H
    refine (run_seq (x := (cAt Tryz.f256 [1, 1, 1, 0])) (ax := A256_7) (y := (cAt Tryz.f256 [1, 1, 1, 1])) (ay := .n) (l := [3]) (by kernel_rfl) (by kernel_rfl)).trans ?_
    refine (run_seq (x := (cAt Tryz.f256 [1, 1, 1, 0, 0])) (ax := .n) (y := (cAt Tryz.f256 [1, 1, 1, 0, 1])) (ay := A256_6) (l := [3, 12, 13, 14]) (by kernel_rfl) (by kernel_rfl)).trans ?_
    refine M256_3_ok ?_ x3 H
    intro x3 x12 x13 x14 H
    refine (run_block (id := 0) (x := (cAt Tryz.f256 [1, 1, 1, 0, 1, 4])) (ax := (.l (some (lvOf [3, 12, 13, 14])) .n)) (by kernel_rfl) (by kernel_rfl)).trans ?_
    refine (run_loop (x := (cAt Tryz.f256 [1, 1, 1, 0, 1, 4, 4])) (ax := .n) (l := [3, 12, 13, 14]) (by kernel_rfl) (by kernel_rfl) (by kernel_rfl)).trans ?_
    refine M256_5_ok ?_ N x3 x12 x13 x14 H
    intro x3 H
    exact M256_8_ok x3 H
  · cases h
theorem M256_sound {o : Orc} (ho : ∀ f, FSound Tryz.prog f (o f)) (N : Nat) : FSound Tryz.prog 256 (M256 o N) :=
  FSound.sub (runFn_ok (an := A256_10) (fuel := N) hmix ho (by kernel_rfl) (by kernel_rfl)) (M256_run o N)
end Go.Proofs.YtfcmdgdjifoecaaGreat.K
