/- PlanTells: the claim. -/
import Derived.Test.YtminfdcdmgpnjaaK21
import Derived.Test.YtminfdcdmgpnjaaK20
import Derived.Test.YtminfdcdmgpnjaaRows
import Derived.Test.YtminfdcdmgpnjaaS24
set_option linter.unusedVariables false
set_option maxRecDepth 100000
namespace Go.Proofs.Ytminfdcdmgpnjaa
open Go Go.RowKit Go.ChangeShapes Go.WideShapes K
theorem Try.own : ownKnob Try.prog.godebug = none := by kernel_rfl
theorem Try.laidOut : laidOutB Try.prog = true := by kernel_rfl
theorem planTells_law (vs : List V) (n : Nat) (bl : BL) (h : argsOk Try.prog 20 Try.f3.params.toList vs bl) (hu : underL n vs) (hr : RoBl n bl) : ∃ H', M3 (oL P33) NN vs ⟨n, bl⟩ pureK = some (.bool true, H') := by
  have hp : Try.f3.params.toList = [27, 3, 3] := by kernel_rfl
  rw [hp] at h
  obtain ⟨a, vs1, rfl, h1, ha⟩ := argsOk_cons h
  obtain ⟨b, vs2, rfl, h2, hb⟩ := argsOk_cons ha
  obtain ⟨c, vs3, rfl, h3, hc⟩ := argsOk_cons hb
  cases argsOk_nil hc
  exact by
    obtain ⟨cs, rfl, hc⟩ := argOk_struct (ts := [3, 3, 3, 3, 3, 3, 3, 22, 23, 24, 25]) (by kernel_rfl) h1
    obtain ⟨x, _, rfl⟩ := argOk_int (k := .i64) (by kernel_rfl) h2
    obtain ⟨y, _, rfl⟩ := argOk_int (k := .i64) (by kernel_rfl) h3
    obtain ⟨m, hm, hrg⟩ := mat_of (d := 16) n hc
    obtain ⟨s1, s2, s3, rfl, hat⟩ := matOf_inv hm
    exact planTells_run (o := oL P33) rfl rfl rfl rfl rfl rfl rfl rfl rfl (fun id b hb => (hr id b hb).1) hat hrg x y

theorem planTells_lifted (os : Os) (started : os.Started) (H : Type) (enc : TypeId × Value → H) :
    ReturnsInHanded {} Try.checked os 3 .any (Rows.planTellsSpec.pre6 enc Try.prog Try.f3 Rows.planTellsRow.domain false) (Rows.planTellsSpec.post enc Try.prog Try.f3 false true false false) := by
  refine returnsInHanded_of_change (C := Try.checked) Try.own started (by kernel_rfl) Try.func3
    (ChangeSpec.witness6 (enc := enc) (C := Try.checked) false ⟨#[], #[.agg #[.int .i64 0, .int .i64 0, .int .i64 0, .int .i64 0, .int .i64 0, .int .i64 0, .int .i64 0, .int .u32 0, .slice none 0 0, .slice none 0 0, .slice none 0 0], .int .i64 0, .int .i64 0], []⟩ 8 (by kernel_rfl) (by kernel_rfl) (by kernel_rfl) (by kernel_rfl)) ?_
  intro W base args ds gs before hval0 hW hcnd _
  exact law_call (fn := Try.f3) (bt := 4) (d := 20) Try.laidOut (by kernel_rfl) (by kernel_rfl) (by kernel_rfl) (by kernel_rfl) rfl (by
    intro H ds hd
    match ds, hd with
    | [a, b, c], _ => rfl) (FCalls.sub (runFn_calls hmix y33.orc Try.func3) (M3_run _ _)) planTells_law W base args ds gs before hval0 hW

theorem planTells_holds : Rows.PlanTellsSaid :=
  OpenClaim.holds_of_wide 3 Try.f3 rfl rfl rfl rfl rfl rfl rfl ⟨rfl, rfl, rfl, rfl, rfl⟩ rfl rfl rfl rfl rfl (by kernel_rfl) Try.func3 (by kernel_rfl)
    (of_decide_eq_true (by kernel_rfl)) (by unfold Func.isWrapper; first | (rw [if_pos (by decide +kernel)]; kernel_rfl) | (rw [if_neg (by decide +kernel)]; exact ⟨rfl, rfl⟩))
    (fun os started H enc _ => planTells_lifted os started H enc)
end Go.Proofs.Ytminfdcdmgpnjaa
