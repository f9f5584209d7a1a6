/- PlanTells: the law. -/
import Derived.Test.YtminfdcdmgpnjaaS23
set_option linter.unusedVariables false
set_option linter.unusedSimpArgs false
set_option maxRecDepth 100000
namespace Go.Proofs.Ytminfdcdmgpnjaa.K
open Go

theorem argOk_struct {P : Program} {t : TypeId} {ts : List TypeId} {d : Nat} {v : V} {bl : BL} (ht : tysOf P t = some ts) (h : argOk P d t v bl) : ∃ cs, v = .agg cs ∧ Cells P d t cs bl := by
  unfold tysOf at ht
  unfold argOk at h
  split at ht
  · rename_i fs e
    rw [e] at h
    exact h
  · cases ht

theorem argsOk_cons {P : Program} {d : Nat} {t : TypeId} {ts : List TypeId} {vs : List V} {bl : BL} (h : argsOk P d (t :: ts) vs bl) : ∃ v us, vs = v :: us ∧ argOk P d t v bl ∧ argsOk P d ts us bl := by
  cases vs with
  | nil => exact h.elim
  | cons v us => exact ⟨v, us, rfl, h.1, h.2⟩
theorem argsOk_nil {P : Program} {d : Nat} {vs : List V} {bl : BL} (h : argsOk P d [] vs bl) : vs = [] := by
  cases vs with
  | nil => rfl
  | cons v us => exact h.elim

def P33 : List (Nat × FnM) := (9, pureO fun vs _ => match vs with | [] => some (.bool true) | _ => none) :: P32
theorem y33 : FS P33 := FS.cons E9 y32

theorem sameM {H : Heap} {m : Mat} {a b c : V} (h : MatAt H m a b c) : sameL (m.c a b c) (m.c a b c) = true := by
  simp [sameL, V.same, Mat.c, same_row h.mas, same_row h.msgs, same_row h.wins]

theorem few_small {m : Mat} (h : fewM m = true) : small m = true := by
  simp only [fewM, Bool.and_eq_true, decide_eq_true_eq] at h
  have hN : NN = 1099511627776 := rfl
  simp only [small, Bool.and_eq_true, decide_eq_true_eq]
  omega
theorem row_len {m : Mat} (who : Int) (h : m.wins.length ≤ 25) : (sortT (rowM m who)).length < NN := by
  rw [sortT_len]
  have := trigsW_len m who m.wins
  have h2 : (tailM m who).length ≤ 3 := by
    unfold tailM
    cases decide (rankM m who ≥ 0) <;> simp
  have hN : NN = 1099511627776 := rfl
  simp only [rowM, List.length_append]; omega

def Yes (a : Ans) : Prop := ∃ H', a = some (.bool true, H')

section
variable {o : Orc}
theorem planTells_run (h9 : o 9 = pureO fun vs _ => match vs with | [] => some (.bool true) | _ => none) (h10 : o 10 = pureO S10) (h11 : o 11 = pureO S11) (h12 : o 12 = newO Splan) (h13 : o 13 = newO Splan) (h14 : o 14 = pureO Sbeat) (h15 : o 15 = pureO Sbeat) (h16 : o 16 = pureO Swatch) (h17 : o 17 = pureO Swatch)
    {H0 : Heap} (hw0 : Wf H0) {m : Mat} {s1 s2 s3 : V} (hat0 : MatAt H0 m s1 s2 s3) (hr : ranged m = true) (who rank : Int) : Yes (M3 o NN [.agg (m.c s1 s2 s3), .int .i64 who, .int .i64 rank] H0 pureK) := by
  have h0 : M3 o NN [.agg (m.c s1 s2 s3), .int .i64 who, .int .i64 rank] H0 pureK = M3_1 o NN pureK (m.c s1 s2 s3) who rank H0 := rfl
  rw [h0]
  simp only [M3_1, hat0.ones, cond_true]
  have hin : In H0 (H0.new (.row (m.c s1 s2 s3))) := (In.refl hw0).new _
  have hk : lk H0.next (H0.new (.row (m.c s1 s2 s3))).bl = some (.row (m.c s1 s2 s3)) := by simp [Heap.new, lk_cons]
  simp only [newB]
  generalize H0.new (.row (m.c s1 s2 s3)) = H2 at hin hk
  have at' : ∀ {H : Heap}, In H0 H → MatAt H m s1 s2 s3 := fun h => hat0.les h.les
  simp only [h9, h10, pureO, Option.bind_some, asB, Bool.not_true, cond_false, ldMat (at' hin) hk]
  have s10 : S10 [.agg (m.c s1 s2 s3)] H2 = some (.bool (fewM m)) := by simp only [S10, (at' hin).of, Option.bind_some]
  rw [s10]
  simp only [Option.bind_some]
  cases hf : fewM m with
  | false => exact ⟨H2, rfl⟩
  | true =>
    have hsm := few_small hf
    have hwl : m.wins.length ≤ 25 := by
      simp only [fewM, Bool.and_eq_true, decide_eq_true_eq] at hf; exact hf.2
    simp only [Bool.not_true, cond_false]
    have hinS : In H0 (H2.skip 24) := hin.skip 24
    have hkS : lk H0.next (H2.skip 24).bl = some (.row (m.c s1 s2 s3)) := hk
    simp only [ldMat (at' hinS) hkS]
    have splan : ∀ {H : Heap}, In H0 H → Splan [.agg (m.c s1 s2 s3), .int .i64 who] H = some (planM m who) := fun h => by
      simp only [Splan, (at' h).of, Option.bind_some, hsm, hr, Bool.and_self, cond_true]
    have hb : ∀ {H : Heap} (r : Int), In H0 H → Sbeat [.agg (m.c s1 s2 s3), .int .i64 r] H = some (.int .i64 (beatM m r)) := fun r h => by
      simp only [Sbeat, (at' h).of, Option.bind_some, hsm, cond_true]
    have hwt : ∀ {H : Heap}, In H0 H → Swatch [.agg (m.c s1 s2 s3)] H = some (.int .i64 (watchM m)) := fun h => by
      simp only [Swatch, (at' h).of, Option.bind_some, hsm, cond_true]
    -- behind the plans
    have rest : ∀ (H : Heap) (v u : V) (l : List Trig), In H0 H → lk H0.next H.bl = some (.row (m.c s1 s2 s3)) → rdL 6 trigOf H v = some l → rdL 6 trigOf H u = some l → l.length < NN →
        Yes (o 11 [v, u] H fun v17 H18 =>
          asB v17 fun b19 =>
          cond b19 (
          ldFlat H18 H0.next [.int .i64, .int .i64, .int .i64, .int .i64, .int .i64, .int .i64, .int .i64, .int .u32, .oth, .oth, .oth] 0 fun l20 =>
          ldFlat H18 H0.next [.int .i64, .int .i64, .int .i64, .int .i64, .int .i64, .int .i64, .int .i64, .int .u32, .oth, .oth, .oth] 0 fun l21 =>
          o 14 [(.agg l20), (.int .i64 rank)] H18 fun v22 H23 =>
          asI .i64 v22 fun n24 =>
          ldFlat H23 H0.next [.int .i64, .int .i64, .int .i64, .int .i64, .int .i64, .int .i64, .int .i64, .int .u32, .oth, .oth, .oth] 0 fun l25 =>
          cond (sameL l21 l25) (
          o 15 [(.agg l21), (.int .i64 rank)] H23 fun v26 H27 =>
          asI .i64 v26 fun n28 =>
          cond (n24 == n28) (
          ldFlat H27 H0.next [.int .i64, .int .i64, .int .i64, .int .i64, .int .i64, .int .i64, .int .i64, .int .u32, .oth, .oth, .oth] 0 fun l29 =>
          ldFlat H27 H0.next [.int .i64, .int .i64, .int .i64, .int .i64, .int .i64, .int .i64, .int .i64, .int .u32, .oth, .oth, .oth] 0 fun l30 =>
          o 16 [(.agg l29)] H27 fun v31 H32 =>
          asI .i64 v31 fun n33 =>
          ldFlat H32 H0.next [.int .i64, .int .i64, .int .i64, .int .i64, .int .i64, .int .i64, .int .i64, .int .u32, .oth, .oth, .oth] 0 fun l34 =>
          cond (sameL l30 l34) (
          o 17 [(.agg l30)] H32 fun v35 H36 =>
          asI .i64 v35 fun n37 =>
          pureK (.bool (n33 == n37)) H36) none) (
          pureK (.bool false) H27)) none) (
          pureK (.bool false) H18)) := by
      intro H v u l hi hk' hv hu hl
      have s11 : S11 [v, u] H = some (.bool true) := by simp only [S11, hv, hu, Option.bind_some, hl, decide_true, Bool.and_self, cond_true]
      simp only [h11, pureO, s11, Option.bind_some, asB, cond_true, ldMat (at' hi) hk', h14, hb rank hi, asI, decide_true, sameM (at' hi), h15, beq_self_eq_true, h16, h17, hwt hi]
      exact ⟨H, rfl⟩
    simp only [h12, newO, splan hinS, Option.bind_some]
    cases hp : planM m who with
    | none =>
      simp only [ldMat (at' hinS) hkS, sameM (at' hinS), cond_true, h13, newO, splan hinS, Option.bind_some, hp]
      exact rest (H2.skip 24) .nils .nils [] hinS hkS rfl rfl (by decide)
    | some l =>
      have hl : l.length < NN := by
        unfold planM at hp
        cases e : ((chkM m).2 != 0) with
        | true => rw [e] at hp; cases hp
        | false => rw [e] at hp; cases hp; exact row_len who hwl
      simp only [newB]
      have hinA : In H0 ((H2.skip 24).new (.row (cellsT l))) := hinS.new _
      have hkA : lk H0.next ((H2.skip 24).new (.row (cellsT l))).bl = some (.row (m.c s1 s2 s3)) := hinS.wf.les _ _ _ hkS
      have hkl : lk (H2.skip 24).next ((H2.skip 24).new (.row (cellsT l))).bl = some (.row (cellsT l)) := by simp [Heap.new, lk_cons]
      generalize (H2.skip 24).new (.row (cellsT l)) = H13 at hinA hkA hkl
      simp only [ldMat (at' hinA) hkA, sameM (at' hinA), cond_true, h13, newO, splan hinA, Option.bind_some, hp, newB]
      have hinB : In H0 (H13.new (.row (cellsT l))) := hinA.new _
      have hkB : lk H0.next (H13.new (.row (cellsT l))).bl = some (.row (m.c s1 s2 s3)) := hinA.wf.les _ _ _ hkA
      have hkl2 : lk H13.next (H13.new (.row (cellsT l))).bl = some (.row (cellsT l)) := by simp [Heap.new, lk_cons]
      exact rest (H13.new (.row (cellsT l))) _ _ l hinB hkB (rd_new (hinA.wf.les _ _ _ hkl)) (rd_new hkl2) hl
end
end Go.Proofs.Ytminfdcdmgpnjaa.K
