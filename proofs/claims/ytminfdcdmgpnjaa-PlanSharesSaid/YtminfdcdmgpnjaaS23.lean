/- A matrix that is handed in, read. -/
import Derived.Test.YtminfdcdmgpnjaaS22
import Derived.Test.YtminfdcdmgpnjaaK21
set_option linter.unusedVariables false
set_option linter.unusedSimpArgs false
set_option maxRecDepth 100000
namespace Go.Proofs.Ytminfdcdmgpnjaa.K
open Go

def tysOf (P : Program) (t : TypeId) : Option (List TypeId) := match P.underlying t with
  | some (.struct fs) => some (fs.toList.map Field.type)
  | _ => none
def all2 (Q : TypeId → List V → Prop) : List TypeId → List (List V) → Prop
  | [], [] => True
  | t :: ts, c :: cs => Q t c ∧ all2 Q ts cs
  | _, _ => False
theorem all2_parts {Q : TypeId → List V → Prop} : ∀ {fs : List Field} {cs : List (List V)}, partsOk Q fs cs → all2 Q (fs.map Field.type) cs
  | [], [], _ => trivial
  | [], _ :: _, h => h
  | _ :: _, [], h => h
  | f :: fs, c :: cs, h => ⟨h.1, all2_parts h.2⟩
theorem all2_cons {Q : TypeId → List V → Prop} {t : TypeId} {ts : List TypeId} {cs : List (List V)} (h : all2 Q (t :: ts) cs) : ∃ p ps, cs = p :: ps ∧ Q t p ∧ all2 Q ts ps := by
  cases cs with
  | nil => exact h.elim
  | cons p ps => exact ⟨p, ps, rfl, h.1, h.2⟩
theorem all2_nil {Q : TypeId → List V → Prop} {cs : List (List V)} (h : all2 Q [] cs) : cs = [] := by
  cases cs with
  | nil => rfl
  | cons p ps => exact h.elim
theorem cells_struct {P : Program} {t : TypeId} {ts : List TypeId} {d : Nat} {cs : List V} {bl : BL} (ht : tysOf P t = some ts) (h : Cells P (d + 1) t cs bl) : ∃ parts : List (List V), cs = parts.flatten ∧ all2 (fun t c => Cells P d t c bl) ts parts := by
  unfold tysOf at ht
  unfold Cells at h
  split at ht
  · rename_i fs e
    rw [e] at h
    cases ht
    obtain ⟨parts, h1, h2⟩ := h
    exact ⟨parts, h1, all2_parts h2⟩
  · cases ht
theorem cells_int {P : Program} {t : TypeId} {k : IntKind} {d : Nat} {cs : List V} {bl : BL} (ht : P.underlying t = some (.int k)) (h : Cells P (d + 1) t cs bl) : ∃ n, (Lit.int k n).wf = true ∧ cs = [.int k n] := by
  unfold Cells at h; rw [ht] at h; exact h
theorem cells_bool {P : Program} {t : TypeId} {d : Nat} {cs : List V} {bl : BL} (ht : P.underlying t = some .bool) (h : Cells P (d + 1) t cs bl) : ∃ b, cs = [.bool b] := by
  unfold Cells at h; rw [ht] at h; exact h
theorem rdRow_flat {α : Type} {es : Nat} {dec : List V → Option α} {Q : α → Prop} : ∀ {ls : List (List V)}, (∀ c ∈ ls, c.length = es ∧ ∃ x, dec c = some x ∧ Q x) → ∃ xs, rdRow es dec ls.length ls.flatten = some xs ∧ ∀ x ∈ xs, Q x
  | [], _ => ⟨[], rfl, fun x h => by cases h⟩
  | c :: ls, h => by
    obtain ⟨hl, x, hx, hq⟩ := h c (by simp)
    obtain ⟨xs, h1, h2⟩ := rdRow_flat (ls := ls) fun c hc => h c (by simp [hc])
    refine ⟨x :: xs, ?_, fun y hy => ?_⟩
    · simp only [List.length_cons, rdRow, List.flatten_cons]
      rw [List.take_append_of_le_length (by omega), List.take_of_length_le (by omega), hx, List.drop_append_of_le_length (by omega), List.drop_of_length_le (by omega), List.nil_append, h1]
      rfl
    · rcases List.mem_cons.1 hy with rfl | hy
      · exact hq
      · exact h2 y hy
theorem cells_slice {P : Program} {t e : TypeId} {d es : Nat} {cs : List V} {bl : BL} {α : Type} {dec : List V → Option α} {Q : α → Prop} (n : Nat) (ht : P.underlying t = some (.slice e)) (hs : sz P e = es)
    (hd : ∀ c, Cells P d e c bl → c.length = es ∧ ∃ x, dec c = some x ∧ Q x) (h : Cells P (d + 1) t cs bl) : ∃ v xs, cs = [v] ∧ rdL es dec ⟨n, bl⟩ v = some xs ∧ ∀ x ∈ xs, Q x := by
  unfold Cells at h
  rw [ht] at h
  rcases h with rfl | ⟨id, m, ls, rfl, hk, _, hn, hc⟩
  · exact ⟨.nils, [], rfl, rfl, fun x h => by cases h⟩
  · obtain ⟨xs, h1, h2⟩ := rdRow_flat (es := es) (dec := dec) (Q := Q) (ls := ls) fun c hx => hd c (hc c hx)
    refine ⟨_, xs, rfl, ?_, h2⟩
    subst hn
    simp only [rdL, hs, Nat.beq_refl, cond_true, rowOf, hk, Option.bind_some, List.drop_zero]
    exact h1

theorem i64_of {d : Nat} {cs : List V} {bl : BL} (h : Cells Try.prog (d + 1) 3 cs bl) : ∃ n, cs = [.int .i64 n] := by
  obtain ⟨n, _, e⟩ := cells_int (k := .i64) (by kernel_rfl) h
  exact ⟨n, e⟩
theorem u32_of {d : Nat} {cs : List V} {bl : BL} (h : Cells Try.prog (d + 1) 22 cs bl) : ∃ n, 0 ≤ n ∧ cs = [.int .u32 n] := by
  obtain ⟨n, hw, e⟩ := cells_int (k := .u32) (by kernel_rfl) h
  refine ⟨n, ?_, e⟩
  have h0 : IntKind.u32.min = 0 := by decide
  simp [Lit.wf, h0] at hw
  omega

theorem win_of {d : Nat} {c : List V} {bl : BL} (h : Cells Try.prog (d + 2) 39 c bl) : c.length = 6 ∧ ∃ x, winOf c = some x ∧ True := by
  obtain ⟨parts, rfl, ha⟩ := cells_struct (ts := [3, 3, 3, 3, 3, 3]) (by kernel_rfl) h
  obtain ⟨p1, ps1, rfl, h1, ha1⟩ := all2_cons ha
  obtain ⟨p2, ps2, rfl, h2, ha2⟩ := all2_cons ha1
  obtain ⟨p3, ps3, rfl, h3, ha3⟩ := all2_cons ha2
  obtain ⟨p4, ps4, rfl, h4, ha4⟩ := all2_cons ha3
  obtain ⟨p5, ps5, rfl, h5, ha5⟩ := all2_cons ha4
  obtain ⟨p6, ps6, rfl, h6, ha6⟩ := all2_cons ha5
  cases all2_nil ha6
  obtain ⟨a, rfl⟩ := i64_of h1
  obtain ⟨b, rfl⟩ := i64_of h2
  obtain ⟨c, rfl⟩ := i64_of h3
  obtain ⟨d, rfl⟩ := i64_of h4
  obtain ⟨e, rfl⟩ := i64_of h5
  obtain ⟨f, rfl⟩ := i64_of h6
  exact ⟨rfl, _, rfl, trivial⟩
theorem msg_of {d : Nat} {c : List V} {bl : BL} (h : Cells Try.prog (d + 2) 70 c bl) : c.length = 3 ∧ ∃ x, msgOf c = some x ∧ 0 ≤ x.id := by
  obtain ⟨parts, rfl, ha⟩ := cells_struct (ts := [22, 3, 4]) (by kernel_rfl) h
  obtain ⟨p1, ps1, rfl, h1, ha1⟩ := all2_cons ha
  obtain ⟨p2, ps2, rfl, h2, ha2⟩ := all2_cons ha1
  obtain ⟨p3, ps3, rfl, h3, ha3⟩ := all2_cons ha2
  cases all2_nil ha3
  obtain ⟨a, hw, rfl⟩ := u32_of h1
  obtain ⟨b, rfl⟩ := i64_of h2
  obtain ⟨c, rfl⟩ := cells_bool (by kernel_rfl) h3
  exact ⟨rfl, _, rfl, hw⟩
theorem int_of {d : Nat} {c : List V} {bl : BL} (h : Cells Try.prog (d + 1) 3 c bl) : c.length = 1 ∧ ∃ x, intOf c = some x ∧ True := by
  obtain ⟨n, rfl⟩ := i64_of h
  exact ⟨rfl, _, rfl, trivial⟩

theorem mat_of {d : Nat} {cs : List V} {bl : BL} (n : Nat) (h : Cells Try.prog (d + 4) 27 cs bl) : ∃ m, matOf ⟨n, bl⟩ cs = some m ∧ ranged m = true := by
  obtain ⟨parts, rfl, ha⟩ := cells_struct (ts := [3, 3, 3, 3, 3, 3, 3, 22, 23, 24, 25]) (by kernel_rfl) h
  obtain ⟨p1, ps1, rfl, h1, ha1⟩ := all2_cons ha
  obtain ⟨p2, ps2, rfl, h2, ha2⟩ := all2_cons ha1
  obtain ⟨p3, ps3, rfl, h3, ha3⟩ := all2_cons ha2
  obtain ⟨p4, ps4, rfl, h4, ha4⟩ := all2_cons ha3
  obtain ⟨p5, ps5, rfl, h5, ha5⟩ := all2_cons ha4
  obtain ⟨p6, ps6, rfl, h6, ha6⟩ := all2_cons ha5
  obtain ⟨p7, ps7, rfl, h7, ha7⟩ := all2_cons ha6
  obtain ⟨p8, ps8, rfl, h8, ha8⟩ := all2_cons ha7
  obtain ⟨p9, ps9, rfl, h9, ha9⟩ := all2_cons ha8
  obtain ⟨p10, ps10, rfl, h10, ha10⟩ := all2_cons ha9
  obtain ⟨p11, ps11, rfl, h11, ha11⟩ := all2_cons ha10
  cases all2_nil ha11
  obtain ⟨a, rfl⟩ := i64_of h1
  obtain ⟨b, rfl⟩ := i64_of h2
  obtain ⟨c, rfl⟩ := i64_of h3
  obtain ⟨e, rfl⟩ := i64_of h4
  obtain ⟨f, rfl⟩ := i64_of h5
  obtain ⟨g, rfl⟩ := i64_of h6
  obtain ⟨i, rfl⟩ := i64_of h7
  obtain ⟨r, hr, rfl⟩ := u32_of h8
  obtain ⟨v1, xs, rfl, e1, _⟩ := cells_slice (t := 23) (e := 3) (d := d + 2) (es := 1) (dec := intOf) (Q := fun _ => True) n (by kernel_rfl) (by kernel_rfl) (fun c hc => int_of hc) h9
  obtain ⟨v2, ys, rfl, e2, q2⟩ := cells_slice (t := 24) (e := 70) (d := d + 2) (es := 3) (dec := msgOf) (Q := fun x => 0 ≤ x.id) n (by kernel_rfl) (by kernel_rfl) (fun c hc => msg_of hc) h10
  obtain ⟨v3, zs, rfl, e3, _⟩ := cells_slice (t := 25) (e := 39) (d := d + 2) (es := 6) (dec := winOf) (Q := fun _ => True) n (by kernel_rfl) (by kernel_rfl) (fun c hc => win_of hc) h11
  refine ⟨⟨a, b, c, e, f, g, i, r, xs, ys, zs⟩, ?_, ?_⟩
  · simp only [List.flatten_cons, List.flatten_nil, List.cons_append, List.nil_append, matOf, e1, e2, e3, Option.bind_some]
  · simp only [ranged, hr, decide_true, Bool.true_and, List.all_eq_true, decide_eq_true_eq]
    exact q2
end Go.Proofs.Ytminfdcdmgpnjaa.K
