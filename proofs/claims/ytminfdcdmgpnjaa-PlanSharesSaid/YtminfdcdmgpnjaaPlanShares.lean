/- PlanShares: the claim. -/
import Derived.Test.YtminfdcdmgpnjaaK21
import Derived.Test.YtminfdcdmgpnjaaK20
import Derived.Test.YtminfdcdmgpnjaaRows
import Derived.Test.YtminfdcdmgpnjaaS26
set_option linter.unusedVariables false
set_option maxRecDepth 100000
namespace Go.Proofs.Ytminfdcdmgpnjaa
open Go Go.RowKit Go.ChangeShapes Go.WideShapes K
theorem Try.own : ownKnob Try.prog.godebug = none := by kernel_rfl
theorem Try.laidOut : laidOutB Try.prog = true := by kernel_rfl
theorem planShares_law (vs : List V) (n : Nat) (bl : BL) (h : argsOk Try.prog 20 Try.f4.params.toList vs bl) (hu : underL n vs) (hr : RoBl n bl) : ∃ H', M4 (oL P33) NN vs ⟨n, bl⟩ pureK = some (.bool true, H') := by
  have hp : Try.f4.params.toList = [27] := by kernel_rfl
  rw [hp] at h
  obtain ⟨a, vs1, rfl, h1, ha⟩ := argsOk_cons h
  cases argsOk_nil ha
  exact by
    obtain ⟨cs, rfl, hc⟩ := argOk_struct (ts := [3, 3, 3, 3, 3, 3, 3, 22, 23, 24, 25]) (by kernel_rfl) h1
    obtain ⟨m, hm, hrg⟩ := mat_of (d := 16) n hc
    obtain ⟨s1, s2, s3, rfl, hat⟩ := matOf_inv hm
    exact planShares_run (o := oL P33) rfl rfl rfl rfl rfl (fun id b hb => (hr id b hb).1) hat hrg

theorem planShares_lifted (os : Os) (started : os.Started) (H : Type) (enc : TypeId × Value → H) :
    ReturnsInHanded {} Try.checked os 4 .any (Rows.planSharesSpec.pre6 enc Try.prog Try.f4 Rows.planSharesRow.domain false) (Rows.planSharesSpec.post enc Try.prog Try.f4 false true false false) := by
  refine returnsInHanded_of_change (C := Try.checked) Try.own started (by kernel_rfl) Try.func4
    (ChangeSpec.witness6 (enc := enc) (C := Try.checked) false ⟨#[], #[.agg #[.int .i64 0, .int .i64 0, .int .i64 0, .int .i64 0, .int .i64 0, .int .i64 0, .int .i64 0, .int .u32 0, .slice none 0 0, .slice none 0 0, .slice none 0 0]], []⟩ 8 (by kernel_rfl) (by kernel_rfl) (by kernel_rfl) (by kernel_rfl)) ?_
  intro W base args ds gs before hval0 hW hcnd _
  exact law_call (fn := Try.f4) (bt := 4) (d := 20) Try.laidOut (by kernel_rfl) (by kernel_rfl) (by kernel_rfl) (by kernel_rfl) rfl (by
    intro H ds hd
    match ds, hd with
    | [a], _ => rfl) (FCalls.sub (runFn_calls hmix y33.orc Try.func4) (M4_run _ _)) planShares_law W base args ds gs before hval0 hW

theorem planShares_holds : Rows.PlanSharesSaid :=
  OpenClaim.holds_of_wide 4 Try.f4 rfl rfl rfl rfl rfl rfl rfl ⟨rfl, rfl, rfl, rfl, rfl⟩ rfl rfl rfl rfl rfl (by kernel_rfl) Try.func4 (by kernel_rfl)
    (of_decide_eq_true (by kernel_rfl)) (by unfold Func.isWrapper; first | (rw [if_pos (by decide +kernel)]; kernel_rfl) | (rw [if_neg (by decide +kernel)]; exact ⟨rfl, rfl⟩))
    (fun os started H enc _ => planShares_lifted os started H enc)
end Go.Proofs.Ytminfdcdmgpnjaa
