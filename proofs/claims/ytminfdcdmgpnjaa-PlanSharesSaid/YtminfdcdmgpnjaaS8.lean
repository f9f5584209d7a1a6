/- The functions over matrices, all of them as specifications. -/
import Derived.Test.YtminfdcdmgpnjaaS7
set_option linter.unusedVariables false
set_option linter.unusedSimpArgs false
namespace Go.Proofs.Ytminfdcdmgpnjaa.K
open Go

def pickF (f : Nat) : List (Nat × FnM) → FnM
  | [] => fun _ _ _ => none
  | p :: l => cond (Nat.beq f p.1) p.2 (pickF f l)
/-- A row of functions, each of which does what is said of it. -/
def FS (l : List (Nat × FnM)) : Prop := ∀ p ∈ l, FSound Try.prog p.1 p.2
def oL (l : List (Nat × FnM)) : Orc := fun f => pickF f l

theorem FS.orc {l : List (Nat × FnM)} (h : FS l) : ∀ f, FSound Try.prog f (oL l f) := by
  intro f
  induction l with
  | nil => exact FSound.none _ _
  | cons p l ih =>
    have ih' := ih fun q hq => h q (by simp [hq])
    show FSound Try.prog f (cond (Nat.beq f p.1) p.2 (pickF f l))
    cases e : Nat.beq f p.1 with
    | true => have := beq_eq e; subst this; exact h p (by simp)
    | false => exact ih'
theorem FS.cons {l : List (Nat × FnM)} {k : Nat} {M : FnM} (hM : FSound Try.prog k M) (h : FS l) : FS ((k, M) :: l) := by
  intro p hp
  rcases List.mem_cons.1 hp with rfl | hp
  · exact hM
  · exact h p hp

theorem hK1' {o : Orc} (a : o 60 = pureO S60) (b : o 71 = pureO S71) : ∀ g S, K1 g = some S → o g = pureO S := by
  intro g S h
  unfold K1 at h
  split at h
  · rename_i e; subst e; cases h; exact a
  · split at h
    · rename_i e; subst e; cases h; exact b
    · cases h
theorem hK3' {o : Orc} (a : o 61 = pureO S61) (b : o 73 = pureO S73) (c : o 75 = pureO S75) : ∀ g S, K3 g = some S → o g = pureO S := by
  intro g S h
  unfold K3 at h
  split at h
  · rename_i e; subst e; cases h; exact a
  · split at h
    · rename_i e; subst e; cases h; exact b
    · split at h
      · rename_i e; subst e; cases h; exact c
      · cases h
theorem hK6' {o : Orc} (a : o 62 = pureO S62) : ∀ g S, K6 g = some S → o g = pureO S := by
  intro g S h
  unfold K6 at h
  split at h
  · rename_i e; subst e; cases h; exact a
  · cases h

def L0 : List (Nat × FnM) := []
theorem z0 : FS L0 := fun p hp => by cases hp
def L1 : List (Nat × FnM) := (59, pureO Swithin) :: L0
theorem z1 : FS L1 := FS.cons (E59 z0.orc) z0
def L2 : List (Nat × FnM) := (54, pureO Sindex) :: L1
theorem z2 : FS L2 := FS.cons (E54 z1.orc) z1
def L3 : List (Nat × FnM) := (74, pureO Scontains) :: L2
theorem z3 : FS L3 := FS.cons (E74 z2.orc rfl) z2
def L4 : List (Nat × FnM) := (79, pureO Spow) :: L3
theorem z4 : FS L4 := FS.cons (E79 z3.orc rfl) z3
def L5 : List (Nat × FnM) := (60, pureO S60) :: L4
theorem z5 : FS L5 := FS.cons (E60 z4.orc rfl) z4
def L6 : List (Nat × FnM) := (71, pureO S71) :: L5
theorem z6 : FS L6 := FS.cons (E71 z5.orc) z5
def L7 : List (Nat × FnM) := (61, pureO S61) :: L6
theorem z7 : FS L7 := FS.cons (E61 z6.orc rfl) z6
def L8 : List (Nat × FnM) := (73, pureO S73) :: L7
theorem z8 : FS L8 := FS.cons (E73 z7.orc) z7
def L9 : List (Nat × FnM) := (75, pureO S75) :: L8
theorem z9 : FS L9 := FS.cons (E75 z8.orc) z8
def L10 : List (Nat × FnM) := (63, pureO S63) :: L9
theorem z10 : FS L10 := FS.cons (E63 z9.orc rfl rfl) z9
def L11 : List (Nat × FnM) := (62, pureO S62) :: L10
theorem z11 : FS L11 := FS.cons (E62 z10.orc rfl) z10
def L12 : List (Nat × FnM) := (70, pureO (Sidx1 K1)) :: L11
theorem z12 : FS L12 := FS.cons (E70 z11.orc (hK1' rfl rfl)) z11
def L13 : List (Nat × FnM) := (72, pureO (Sidx3 K3)) :: L12
theorem z13 : FS L13 := FS.cons (E72 z12.orc (hK3' rfl rfl rfl)) z12
def L14 : List (Nat × FnM) := (80, pureO (Sidx6 K6)) :: L13
theorem z14 : FS L14 := FS.cons (E80 z13.orc (hK6' rfl)) z13
def L15 : List (Nat × FnM) := (64, pureO (hasOf (Sidx1 K1))) :: L14
theorem z15 : FS L15 := FS.cons (E64 z14.orc rfl) z14
def L16 : List (Nat × FnM) := (65, pureO (hasOf (Sidx3 K3))) :: L15
theorem z16 : FS L16 := FS.cons (E65 z15.orc rfl) z15
def L17 : List (Nat × FnM) := (66, pureO (hasOf (Sidx6 K6))) :: L16
theorem z17 : FS L17 := FS.cons (E66 z16.orc rfl) z16
def L18 : List (Nat × FnM) := (58, pureO S58) :: L17
theorem z18 : FS L18 := FS.cons (E58 z17.orc rfl rfl) z17
def L19 : List (Nat × FnM) := (42, pureO S42) :: L18
theorem z19 : FS L19 := FS.cons (E42 z18.orc rfl rfl rfl rfl rfl rfl rfl rfl) z18
def L20 : List (Nat × FnM) := (67, pureO S67) :: L19
theorem z20 : FS L20 := FS.cons (E67 z19.orc) z19
def L21 : List (Nat × FnM) := (43, pureO S43) :: L20
theorem z21 : FS L21 := FS.cons (E43 z20.orc rfl rfl) z20
def L22 : List (Nat × FnM) := (51, pureO (Smat whoM)) :: L21
theorem z22 : FS L22 := FS.cons (E51 z21.orc rfl rfl) z21
def L23 : List (Nat × FnM) := (52, pureO (Smat twiceM)) :: L22
theorem z23 : FS L23 := FS.cons (E52 z22.orc rfl rfl) z22
def L24 : List (Nat × FnM) := (50, pureO Scomes) :: L23
theorem z24 : FS L24 := FS.cons (E50 z23.orc) z23
def L25 : List (Nat × FnM) := (81, pureO S81) :: L24
theorem z25 : FS L25 := FS.cons (E81 z24.orc) z24
def L26 : List (Nat × FnM) := (76, pureO S76) :: L25
theorem z26 : FS L26 := FS.cons (E76 z25.orc rfl rfl) z25
def L27 : List (Nat × FnM) := (53, pureO (Smat winsM)) :: L26
theorem z27 : FS L27 := FS.cons (E53 z26.orc rfl rfl) z26
def L28 : List (Nat × FnM) := (32, pureO S32) :: L27
theorem z28 : FS L28 := FS.cons (E32 z27.orc rfl rfl rfl rfl rfl) z27
/-- All of them. -/
abbrev LM : List (Nat × FnM) := L28
theorem zM : FS LM := z28
end Go.Proofs.Ytminfdcdmgpnjaa.K
