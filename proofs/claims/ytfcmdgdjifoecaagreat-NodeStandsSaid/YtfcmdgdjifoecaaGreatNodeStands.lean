/- NodeStands returns true for every rank byte, and nothing that was there is turned. No condition. -/
import Derived.Test.YtfcmdgdjifoecaaGreatK20
import Derived.Test.YtfcmdgdjifoecaaGreatK21
import Derived.Test.YtfcmdgdjifoecaaGreatRows
import Derived.Test.YtfcmdgdjifoecaaGreatVa
import Derived.Test.YtfcmdgdjifoecaaGreatVc0
import Derived.Test.YtfcmdgdjifoecaaGreatVc1
set_option maxRecDepth 100000
namespace Go.Proofs.YtfcmdgdjifoecaaGreat
open Go Go.RowKit Go.ChangeShapes Go.WideShapes K
theorem Tryz.own : ownKnob Tryz.prog.godebug = none := by kernel_rfl
theorem Tryz.laidOut : laidOutB Tryz.prog = true := by kernel_rfl

theorem nodeStands_law (vs : List V) (h : argsOk Tryz.prog 20 Tryz.f7.params.toList vs []) : ∃ H', M7 (stk 40) NN vs ⟨0, []⟩ pureK = some (.bool true, H') := by
  have hp : Tryz.f7.params.toList = [5] := by kernel_rfl
  have hu : Tryz.prog.underlying 5 = some (.int .u8) := by kernel_rfl
  rw [hp] at h
  match vs, h with
  | [v], h =>
    obtain ⟨x, hx, rfl⟩ := argOk_int (d := 19) hu h.1
    have hb : 0 ≤ x ∧ x ≤ 255 := by simpa [Lit.wf, IntKind.min, IntKind.max, IntKind.signed, IntKind.bits] using hx
    have hm : Int.tmod x 2 = 0 ∨ Int.tmod x 2 = 1 := by
      rw [Int.tmod_eq_emod_of_nonneg hb.1]; omega
    rcases hm with hm | hm
    · obtain ⟨H, he⟩ := g0_end
      exact ⟨H, flow7 (r := 0) (fun K => known_ok K) (by rw [hm]; decide) (fun J => n0_start J _) (fun X => g0_loop X _) he⟩
    · obtain ⟨H, he⟩ := g1_end
      exact ⟨H, flow7 (r := 1) (fun K => known_ok K) (by rw [hm]; decide) (fun J => n1_start J _) (fun X => g1_loop X _) he⟩

theorem nodeStands_lifted (os : Os) (started : os.Started) (H : Type) (enc : TypeId × Value → H) :
    ReturnsInHanded {} Tryz.checked os 7 .any (Rows.nodeStandsSpec.pre6 enc Tryz.prog Tryz.f7 Rows.nodeStandsRow.domain false) (Rows.nodeStandsSpec.post enc Tryz.prog Tryz.f7 false true false false) := by
  refine returnsInHanded_of_change (C := Tryz.checked) Tryz.own started (by kernel_rfl) Tryz.func7
    (ChangeSpec.witness6 (enc := enc) (C := Tryz.checked) false ⟨#[], #[.int .u8 0], []⟩ 8 (by kernel_rfl) (by kernel_rfl) (by kernel_rfl) (by kernel_rfl)) ?_
  intro W base args ds gs before hval0 hW hcnd _
  exact law_call0 (fn := Tryz.f7) (bt := 4) (d := 20) Tryz.laidOut (by kernel_rfl) (by kernel_rfl) (by kernel_rfl) (by kernel_rfl) rfl (by
    intro H ds hd
    match ds, hd with
    | [a], _ => rfl) (FCalls.sub (runFn_calls hmix (stk_sound 40) Tryz.func7) (M7_run _ _)) nodeStands_law W base args ds gs before hval0 hW

theorem nodeStands_holds : Rows.NodeStandsSaid :=
  OpenClaim.holds_of_wide 7 Tryz.f7 rfl rfl rfl rfl rfl rfl rfl ⟨rfl, rfl, rfl, rfl, rfl⟩ rfl rfl rfl rfl rfl (by kernel_rfl) Tryz.func7 (by kernel_rfl)
    (of_decide_eq_true (by kernel_rfl)) (by unfold Func.isWrapper; first | (rw [if_pos (by decide +kernel)]; kernel_rfl) | (rw [if_neg (by decide +kernel)]; exact ⟨rfl, rfl⟩))
    (fun os started H enc _ => nodeStands_lifted os started H enc)
end Go.Proofs.YtfcmdgdjifoecaaGreat
