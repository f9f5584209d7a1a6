/- The law's small functions; a closed function; all of them in a row. -/
import Derived.Test.YtminfdcdmgpnjaaS20
set_option linter.unusedVariables false
set_option linter.unusedSimpArgs false
set_option maxRecDepth 100000
namespace Go.Proofs.Ytminfdcdmgpnjaa.K
open Go

/-- A function without arguments answers everywhere what it answers over no blocks. -/
theorem closed_sound {P : Program} {f : FuncId} {M : FnM} (h : FSound P f M) {b : Bool} {H1 : Heap} (hr : M [] ⟨0, []⟩ pureK = some (.bool b, H1)) :
    FSound P f (pureO fun vs _ => match vs with | [] => some (.bool b) | _ => none) := by
  intro vs H K r hs
  unfold pureO at hs
  cases vs with
  | cons v vs => cases hs
  | nil =>
    refine ⟨.bool b, H, hs, fun ρ w us hR hf hl => ?_⟩
    obtain ⟨v, H', e, hsem⟩ := h [] ⟨0, []⟩ pureK _ hr
    cases e
    have hl' : LRel (fun _ => none) [] us := by
      cases us with
      | nil => trivial
      | cons _ _ => simp [LRel] at hl
    have hno : ∀ k, ¬ Ownd (fun _ => none) (⟨0, []⟩ : Heap).bl k := by
      rintro k ⟨id, bb, p, hb, _⟩
      cases hb
    have conv : ∀ u w', (∃ ρ', Goes (fun _ => none) ⟨0, []⟩ w ρ' H1 w' ∧ VRel ρ' (.bool b) u) → ∃ ρ', Goes ρ H w ρ' H w' ∧ VRel ρ' (.bool b) u := by
      rintro u w' ⟨ρ', g, hv⟩
      refine ⟨ρ, ⟨⟨fun id bb hb => (hR.ok id bb hb).heap (fun hreal p hp => g.block _ ((hR.ok id bb hb).lt hreal hp) (hno _)), hR.inj⟩, fun _ _ => rfl, hf, Nat.le_refl _, g.os, g.tape, g.output, g.size, fun k hk _ => g.block k hk (hno _), fun _ _ h => h, fun _ _ h => h, fun _ b h _ => ⟨b, h⟩⟩, ?_⟩
      simpa only [VRel] using hv
    have hR0 : HRel (fun _ => none) (⟨0, []⟩ : Heap).bl w := ⟨fun id bb hb => (by cases hb), fun id bb hb => (by cases hb)⟩
    have := hsem (fun _ => none) w us hR0 (fun _ _ => rfl) hl'
    rcases this with ⟨fn, h1, h2, h3, h4⟩ | ⟨u, w', h1, h2⟩
    · exact .inl ⟨fn, h1, h2, h3, h4.mono fun e w' ⟨u, hu, hx⟩ => ⟨u, hu, conv u w' hx⟩⟩
    · exact .inr ⟨u, w', h1, conv u w' h2⟩

def fewM (m : Mat) : Bool := decide (m.mas.length ≤ 10) && decide (m.msgs.length ≤ 20) && decide (m.wins.length ≤ 25)
def S10 : List V → Heap → Option V
  | [.agg a], H => (matOf H a).bind fun m => some (.bool (fewM m))
  | _, _ => none
/-- Of like rows only. -/
def S11 : List V → Heap → Option V
  | [v, u], H => (rdL 6 trigOf H v).bind fun a => (rdL 6 trigOf H u).bind fun b => cond (decide (a = b) && decide (a.length < NN)) (some (.bool true)) none
  | _, _ => none

section
variable {o : Orc}
theorem E10 (ho : ∀ f, FSound Try.prog f (o f)) : FSound Try.prog 10 (pureO S10) := (M10_sound ho NN).pure _ (by
  intro vs H v hw h
  unfold S10 at h
  split at h
  · rename_i a
    rw [Option.bind_eq_some_iff] at h
    obtain ⟨m, hm, h⟩ := h
    obtain ⟨s1, s2, s3, rfl, hat⟩ := matOf_inv hm
    cases h
    refine ⟨trivial, ?_⟩
    simp only [M10, M10_0, hat.ones, cond_true]
    refine newB_ind hw.wf fun i1 H2 hle hw2 hk1 hn => ?_
    have v8 : ldV H2 i1 8 = some s1 := by simp [ldV, Heap.ldc, hk1, Mat.c, nth, rdL_one hat.mas]
    have v9 : ldV H2 i1 9 = some s2 := by simp [ldV, Heap.ldc, hk1, Mat.c, nth, rdL_one hat.msgs]
    have v10 : ldV H2 i1 10 = some s3 := by simp [ldV, Heap.ldc, hk1, Mat.c, nth, rdL_one hat.wins]
    have hat2 := hat.les hle
    have q1 : decide ((m.mas.length : Int) ≤ 10) = decide (m.mas.length ≤ 10) := by congr 1; simp; omega
    have q2 : decide ((m.msgs.length : Int) ≤ 20) = decide (m.msgs.length ≤ 20) := by congr 1; simp; omega
    have q3 : decide ((m.wins.length : Int) ≤ 25) = decide (m.wins.length ≤ 25) := by congr 1; simp; omega
    simp only [v8, v9, v10, Option.bind_some, rdL_len hat2.mas, rdL_len hat2.msgs, rdL_len hat2.wins, q1, q2, q3]
    refine Ends.mono hle ?_
    unfold fewM
    cases decide (m.mas.length ≤ 10) <;> cases decide (m.msgs.length ≤ 20) <;> exact Ends.ret
  · cases h)

theorem eqT_refl (t : Trig) : eqFlat [.int .i64, .int .i64, .int .i64, .int .i64, .int .i64, .int .i64] t.c t.c = some true := by
  simp [Trig.c, eqFlat, eqC]

theorem loop11 {X0 : Heap → Ans} {κ : Kv} {v u : V} {l : List Trig} (hl : l.length < NN) :
    ∀ (n k : Nat) (H : Heap), rdL 6 trigOf H v = some l → rdL 6 trigOf H u = some l → Wf H → l.length - k < n → To H X0 (M11_5 o NN X0 κ n v u k H) := by
  intro n
  induction n with
  | zero => intro k H _ _ _ hk; omega
  | succ n ih =>
    intro k H h h' hw hk
    rw [M11_5_s]
    simp only [M11_4, rdL_len h]
    by_cases hlt : k < l.length
    · have hS : rdL 6 trigOf (H.skip 9) v = some l := rdL_les (Les.refl H.bl) h
      have hS' : rdL 6 trigOf (H.skip 9) u = some l := rdL_les (Les.refl H.bl) h'
      obtain ⟨id, off, h1, h2⟩ := trig_at hS (nth_lt hlt)
      obtain ⟨id2, off2, h3, h4⟩ := trig_at hS' (nth_lt hlt)
      simp only [show decide ((k : Int) < (l.length : Int)) = true by simpa using hlt, cond_true, h1, ldTrig h2, h3, ldTrig h4, eqT_refl, Option.bind_some, Bool.not_true, cond_false]
      rw [wrap_nat (by omega)]
      exact To.mono (H' := H.skip 9) (Les.refl H.bl) (ih (k + 1) (H.skip 9) hS hS' (hw.skip 9) (by omega))
    · simp only [show decide ((k : Int) < (l.length : Int)) = false by simpa using hlt, cond_false]
      exact To.here hw

theorem E11 (ho : ∀ f, FSound Try.prog f (o f)) : FSound Try.prog 11 (pureO S11) := (M11_sound ho NN).pure _ (by
  intro vs H r hw h
  unfold S11 at h
  split at h
  · rename_i v u
    simp only [Option.bind_eq_some_iff] at h
    obtain ⟨a, ha, b, hb, h⟩ := h
    obtain ⟨hc, hr⟩ := ofCondO h
    simp only [Bool.and_eq_true, decide_eq_true_eq] at hc
    obtain ⟨e, hl⟩ := hc
    cases hr
    clear h
    subst e
    refine ⟨trivial, ?_⟩
    simp only [M11, M11_0, M11_1, rdL_len ha, rdL_len hb, bne_self_eq_false, cond_false, M11_2]
    obtain ⟨H', e1, e2, e3⟩ := loop11 (o := o) (κ := pureK) (X0 := fun H => M11_7 o NN pureK H) hl NN 0 H ha hb hw.wf (by omega)
    rw [show (0 : Int) = ((0 : Nat) : Int) from rfl, e3]
    exact ⟨H', e1, rfl⟩
  · cases h)
end

/-! ### All of them -/
def P1 : List (Nat × FnM) := (44, pureO Swithin) :: LM
theorem y1 : FS P1 := FS.cons (E44 zM.orc) zM
def P2 : List (Nat × FnM) := (45, pureO Spower) :: P1
theorem y2 : FS P2 := FS.cons (E45 y1.orc) y1
def P3 : List (Nat × FnM) := (49, pureO Scomes) :: P2
theorem y3 : FS P3 := FS.cons (E49 y2.orc) y2
def P4 : List (Nat × FnM) := (57, pureO S67) :: P3
theorem y4 : FS P4 := FS.cons (E57 y3.orc) y3
def P5 : List (Nat × FnM) := (18, pureO S42) :: P4
theorem y5 : FS P5 := FS.cons (E18 y4.orc rfl rfl) y4
def P6 : List (Nat × FnM) := (39, pureO S43) :: P5
theorem y6 : FS P6 := FS.cons (E39 y5.orc rfl rfl) y5
def P7 : List (Nat × FnM) := (41, pureO Srank) :: P6
theorem y7 : FS P7 := FS.cons (E41 y6.orc) y6
def P8 : List (Nat × FnM) := (68, pureO Sfind) :: P7
theorem y8 : FS P8 := FS.cons (E68 y7.orc) y7
def P9 : List (Nat × FnM) := (69, pureO S69) :: P8
theorem y9 : FS P9 := FS.cons (E69 y8.orc rfl rfl) y8
def P10 : List (Nat × FnM) := (46, pureO S46) :: P9
theorem y10 : FS P10 := FS.cons (E46 y9.orc rfl rfl) y9
def P11 : List (Nat × FnM) := (47, pureO S47) :: P10
theorem y11 : FS P11 := FS.cons (E47 y10.orc rfl rfl) y10
def P12 : List (Nat × FnM) := (19, pureO S19) :: P11
theorem y12 : FS P12 := FS.cons (E19 y11.orc rfl rfl rfl rfl) y11
def P13 : List (Nat × FnM) := (56, pureO S56) :: P12
theorem y13 : FS P13 := FS.cons (E56 y12.orc) y12
def P14 : List (Nat × FnM) := (38, pureO S38) :: P13
theorem y14 : FS P14 := FS.cons (E38 y13.orc rfl) y13
def P15 : List (Nat × FnM) := (37, pureO S37) :: P14
theorem y15 : FS P15 := FS.cons (E37 y14.orc rfl) y14
def P16 : List (Nat × FnM) := (77, M77 (oL P15) NN) :: P15
theorem y16 : FS P16 := FS.cons (M77_sound y15.orc NN) y15
def P17 : List (Nat × FnM) := (55, M55 (oL P16) NN) :: P16
theorem y17 : FS P17 := FS.cons (M55_sound y16.orc NN) y16
def P18 : List (Nat × FnM) := (36, M36 (oL P17) NN) :: P17
theorem y18 : FS P18 := FS.cons (M36_sound y17.orc NN) y17
def P19 : List (Nat × FnM) := (35, pureO Srank) :: P18
theorem y19 : FS P19 := FS.cons (E35 y18.orc rfl) y18
def P20 : List (Nat × FnM) := (14, pureO Sbeat) :: P19
theorem y20 : FS P20 := FS.cons (E14 y19.orc rfl rfl) y19
def P21 : List (Nat × FnM) := (15, pureO Sbeat) :: P20
theorem y21 : FS P21 := FS.cons (E15 y20.orc rfl rfl) y20
def P22 : List (Nat × FnM) := (16, pureO Swatch) :: P21
theorem y22 : FS P22 := FS.cons (E16 y21.orc rfl rfl) y21
def P23 : List (Nat × FnM) := (17, pureO Swatch) :: P22
theorem y23 : FS P23 := FS.cons (E17 y22.orc rfl rfl) y22
def P24 : List (Nat × FnM) := (33, pureO S33) :: P23
theorem y24 : FS P24 := FS.cons (E33 y23.orc rfl) y23
def P25 : List (Nat × FnM) := (34, M34 (oL P24) NN) :: P24
theorem y25 : FS P25 := FS.cons (M34_sound y24.orc NN) y24
def P26 : List (Nat × FnM) := (40, newO S40) :: P25
theorem y26 : FS P26 := FS.cons (E40 y25.orc) y25
def P27 : List (Nat × FnM) := (12, newO Splan) :: P26
theorem y27 : FS P27 := FS.cons (E12 (o := oL P26) (o1 := oL P17) (o2 := oL P16) (o3 := oL P15) (o4 := oL P24) y26.orc rfl rfl rfl rfl rfl rfl rfl rfl rfl rfl) y26
def P28 : List (Nat × FnM) := (13, newO Splan) :: P27
theorem y28 : FS P28 := FS.cons (E13 y27.orc rfl rfl rfl rfl rfl rfl) y27
def P29 : List (Nat × FnM) := (30, M30 (oL P28) NN) :: P28
theorem y29 : FS P29 := FS.cons (M30_sound y28.orc NN) y28
def P30 : List (Nat × FnM) := (31, M31 (oL P29) NN) :: P29
theorem y30 : FS P30 := FS.cons (M31_sound y29.orc NN) y29
def P31 : List (Nat × FnM) := (10, pureO S10) :: P30
theorem y31 : FS P31 := FS.cons (E10 y30.orc) y30
def P32 : List (Nat × FnM) := (11, pureO S11) :: P31
theorem y32 : FS P32 := FS.cons (E11 y31.orc) y31
end Go.Proofs.Ytminfdcdmgpnjaa.K
