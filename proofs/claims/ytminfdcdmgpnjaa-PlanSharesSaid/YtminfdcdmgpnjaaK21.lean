/- A law's row, out of its run: whatever can be read, the call returns true and lets all that was there be. -/
import Derived.Test.YtminfdcdmgpnjaaK19
import Derived.ProofKit
set_option linter.unusedVariables false
set_option linter.unusedSimpArgs false
namespace Go.Proofs.Ytminfdcdmgpnjaa.K
open Go Go.RowKit Go.ChangeShapes Go.WideShapes

/-- An argument of a type. -/
def argOk (P : Program) (d : Nat) (t : TypeId) (v : V) (bl : BL) : Prop :=
  match P.underlying t with
  | some (.struct _) => ∃ cs, v = .agg cs ∧ Cells P d t cs bl
  | _ => Cells P d t [v] bl
def argsOk (P : Program) (d : Nat) : List TypeId → List V → BL → Prop
  | [], [], _ => True
  | t :: ts, v :: vs, bl => argOk P d t v bl ∧ argsOk P d ts vs bl
  | _, _, _ => False

theorem argOk.mono {P : Program} {d : Nat} {t : TypeId} {v : V} {bl bl' : BL} (hl : Les bl bl') (h : argOk P d t v bl) : argOk P d t v bl' := by
  unfold argOk at h ⊢
  split at h
  · obtain ⟨cs, e, hc⟩ := h; exact ⟨cs, e, hc.mono hl⟩
  · exact h.mono hl
theorem argsOk.mono {P : Program} {d : Nat} {bl bl' : BL} (hl : Les bl bl') : ∀ {ts : List TypeId} {vs : List V}, argsOk P d ts vs bl → argsOk P d ts vs bl'
  | [], [], h => h
  | [], _ :: _, h => h
  | _ :: _, [], h => h
  | t :: ts, v :: vs, h => ⟨h.1.mono hl, argsOk.mono hl h.2⟩

section
variable {H : Type} {enc : TypeId × Value → H} {P : Program} {w : World} {spare : Nat → Bool} {held : Bool}

theorem cell_one {t : TypeId} {v : Value} {d : Nat} (ho : okT P d t = true) (hs : ∀ fs, P.underlying t ≠ some (.struct fs)) {base : Nat} (h : Value.okWide P w .any base t v) : v.cells = #[v] := by
  cases d with
  | zero => simp [okT] at ho
  | succ d =>
    unfold okT at ho
    unfold Value.okWide Cell.okWide Cell.ok at h
    split at ho
    · rename_i k e; rw [e] at h; cases v <;> simp at h <;> rfl
    · rename_i e; rw [e] at h; cases v <;> simp at h <;> rfl
    · rename_i e; rw [e] at h; cases v <;> simp at h <;> rfl
    · rename_i el e; rw [e] at h; cases v <;> simp at h <;> rfl
    · rename_i fs e; exact absurd e (hs fs)
    · cases ho

theorem arg_reads {base : Nat} {t : TypeId} {v : Value} {d : Nat} {x : DataW H} {ps : List MemPlace} (ho : okT P d t = true) (hw : Value.okWide P w .any base t v) (h : DataW.Trod enc P w 0 spare held t v x ps) :
    ∀ ρ n bl, RoSt w ρ n bl → ∃ ρ' n' bl' a, RoSt w ρ' n' bl' ∧ Grow ρ n bl ρ' n' bl' ∧ VRel ρ' a v ∧ argOk P d t a bl' := by
  intro ρ n bl hst
  obtain ⟨m, hm⟩ := h
  obtain ⟨ρ', n', bl', vs, h1, g1, l1, c1⟩ := trod_reads m d t _ _ ho hm ρ n bl hst
  by_cases hs : ∃ fs, P.underlying t = some (.struct fs)
  · obtain ⟨fs, hfs⟩ := hs
    unfold Value.okWide at hw
    rw [hfs] at hw
    obtain ⟨cs, rfl, _⟩ := hw
    refine ⟨ρ', n', bl', .agg vs, h1, g1, ⟨cs, rfl, by simpa [Value.cells] using l1⟩, ?_⟩
    unfold argOk
    rw [hfs]
    exact ⟨vs, rfl, c1⟩
  · have hs' : ∀ fs, P.underlying t ≠ some (.struct fs) := fun fs e => hs ⟨fs, e⟩
    have hone := cell_one ho hs' hw
    rw [hone] at l1
    match vs, l1 with
    | [a], l1 =>
      refine ⟨ρ', n', bl', a, h1, g1, l1.1, ?_⟩
      unfold argOk
      split
      · rename_i fs e; exact absurd e (hs' fs)
      · exact c1

theorem args_read {base d : Nat} : ∀ (ts : List TypeId) (vs : List Value) (ds : List (DataW H)) (ps : List MemPlace), ts.all (okT P d) = true →
    (∀ (j : Nat) t v, ts[j]? = some t → vs[j]? = some v → Value.okWide P w .any base t v) → DataW.TrodAll enc P w 0 spare held ts vs ds ps →
    ∀ ρ n bl, RoSt w ρ n bl → ∃ ρ' n' bl' as, RoSt w ρ' n' bl' ∧ Grow ρ n bl ρ' n' bl' ∧ LRel ρ' as vs ∧ argsOk P d ts as bl'
  | [], [], [], ps, _, _, _, ρ, n, bl, hst => ⟨ρ, n, bl, [], hst, Grow.refl, trivial, trivial⟩
  | t :: ts, v :: vs, x :: ds, ps, ho, hw, ⟨p, q, h, hr, e⟩, ρ, n, bl, hst => by
    simp only [List.all_cons, Bool.and_eq_true] at ho
    obtain ⟨ρ1, n1, bl1, a, h1, g1, l1, c1⟩ := arg_reads ho.1 (hw 0 t v rfl rfl) h ρ n bl hst
    obtain ⟨ρ2, n2, bl2, as, h2, g2, l2, c2⟩ := args_read ts vs ds q ho.2 (fun j t' v' ht hv => hw (j + 1) t' v' (by simpa using ht) (by simpa using hv)) hr ρ1 n1 bl1 h1
    exact ⟨ρ2, n2, bl2, a :: as, h2, g1.trans g2, ⟨VRel.mono g2.sub _ _ l1, l2⟩, c1.mono g2.les, c2⟩
  | [], _ :: _, _, _, _, _, h, _, _, _, _ => by cases h
  | [], [], _ :: _, _, _, _, h, _, _, _, _ => by cases h
  | _ :: _, [], _, _, _, _, h, _, _, _, _ => by cases h
  | _ :: _, _ :: _, [], _, _, _, h, _, _, _, _ => by cases h
end

theorem trod_len {H : Type} {enc : TypeId × Value → H} {P : Program} {w : World} {spare : Nat → Bool} {held : Bool} : ∀ {ts : List TypeId} {vs : List Value} {ds : List (DataW H)} {ps : List MemPlace},
    DataW.TrodAll enc P w 0 spare held ts vs ds ps → ds.length = ts.length
  | [], [], [], _, _ => rfl
  | _ :: _, _ :: _, _ :: _, _, ⟨_, _, _, h, _⟩ => by simp [trod_len h]
  | [], _ :: _, _, _, h => by cases h
  | [], [], _ :: _, _, h => by cases h
  | _ :: _, [], _, _, h => by cases h
  | _ :: _, _ :: _, [], _, h => by cases h

/-- The blocks: read-only, numbered below. -/
def RoBl (n : Nat) (bl : BL) : Prop := ∀ id b, lk id bl = some b → id < n ∧ b.own = false ∧ b.under n

theorem law_core {P : Program} {f : FuncId} {fn : Func} {s : ChangeSpec} {M : FnM} {bt : TypeId}
    (hl : laidOutB P = true) (hrd : fn.params.toList.all (fun t => P.readableRec t && decide (t < P.types.size)) = true)
    (hres : fn.resultTypes = #[bt]) (hb : P.underlying bt = some .bool) (hvars : s.vars = [])
    (hspec : ∀ (H : Type) (ds : List (DataW H)), ds.length = fn.params.toList.length → s.fn H (ds ++ []) = { results := [.lit (.bool true)], args := ds })
    (hM : FCalls P f M)
    {H : Type} {enc : TypeId × Value → H} {apart fresh handsOn : Bool} (W : World) (args : Array Value) (ds gs : List (DataW H)) (before : List MemPlace)
    (hW : DataW.Whole enc P fn.params.toList s.vars apart W args.toList ds gs before)
    {ρ : Rho} {n : Nat} {bl : BL} {as : List V} {H' : Heap} (hst : RoSt W ρ n bl) (hlr : LRel ρ as args.toList) (hrun : M as ⟨n, bl⟩ pureK = some (.bool true, H')) :
    Calls P f args W fun e W' => ∃ v, e = .returned v ∧ s.post enc P fn apart fresh handsOn false W args v W' := by
  have hW' := hW
  obtain ⟨p, q, hA, hV, rfl, hfz, hnd⟩ := hW
  rw [hvars] at hV
  obtain ⟨rfl, rfl⟩ : gs = [] ∧ q = [] := by
    cases gs with
    | nil => exact ⟨rfl, hV⟩
    | cons => exact hV.elim
  obtain ⟨v, H1, hk, hs⟩ := hM as ⟨n, bl⟩ pureK _ hrun
  cases hk
  have hc := hs ρ W args.toList hst.rel hst.fresh hlr
  simp only [Array.toArray_toList] at hc
  refine hc.mono fun e W' ⟨u, he, ρ', hgo, hv⟩ => ⟨u, he, ?_⟩
  have hu : u = .bool true := vbool hv
  subst hu
  have hbel : Below W.heap.size W W' := ⟨hgo.os, hgo.tape, hgo.output, hgo.size, fun k hk => hgo.block k hk fun ⟨id, b, pl, hb, ho, _⟩ => by
    rw [(hst.ro id b hb).2] at ho; cases ho⟩
  have hlt : ∀ x ∈ p, x.block < W.heap.size := fun x hx => hW'.lt x (by simp [hx])
  have hlen := trod_len hA
  have hsp : s.fn H (ds ++ []) = { results := [.lit (.bool true)], args := ds } := hspec H ds hlen
  refine ⟨ds, [], p ++ [], [], p, [], hW', ?_, ?_, ?_, ?_, fun h => by cases h⟩
  · rw [hsp, hres]
    exact trodAll_mk1 (shut_bool hb true)
  · rw [hsp]
    have key : ∀ (ts : List TypeId) (vs : List Value) (ds : List (DataW H)) (ps : List MemPlace), ts.all (fun t => P.readableRec t && decide (t < P.types.size)) = true → (∀ x ∈ ps, x.block < W.heap.size) →
        DataW.TrodAll enc P W 0 (fun _ => true) true ts vs ds ps → DataW.TrodAll enc P W' 0 (fun b => decide (b < W.heap.size)) true ts vs ds ps := by
      intro ts
      induction ts with
      | nil => intro vs ds ps _ _ h; cases vs <;> cases ds <;> first | exact h | cases h
      | cons t ts ih =>
        intro vs ds ps ho hlt h
        cases vs with
        | nil => cases h
        | cons v vs =>
          cases ds with
          | nil => cases h
          | cons x ds =>
            obtain ⟨p, q, h1, h2, rfl⟩ := h
            simp only [List.all_cons, Bool.and_eq_true, decide_eq_true_eq] at ho
            exact ⟨p, q, Below.trod hl ho.1.1 ho.1.2 h1 hbel (fun x hx => hlt x (by simp [hx])), ih vs ds q (by simpa using ho.2) (fun x hx => hlt x (by simp [hx])) h2, rfl⟩
    exact key _ _ _ _ hrd hlt hA
  · rw [hvars, hsp]; rfl
  · refine World.keptBut_mono (fun x hx => ⟨hx, ?_⟩) (hbel.frame (· ∈ p ++ []))
    simpa using hx


/-- THE LAW's CALL. -/
theorem law_call {P : Program} {f : FuncId} {fn : Func} {s : ChangeSpec} {M : FnM} {bt : TypeId} {d : Nat}
    (hl : laidOutB P = true) (hrd : fn.params.toList.all (fun t => P.readableRec t && decide (t < P.types.size)) = true) (hok : fn.params.toList.all (okT P d) = true)
    (hres : fn.resultTypes = #[bt]) (hb : P.underlying bt = some .bool) (hvars : s.vars = [])
    (hspec : ∀ (H : Type) (ds : List (DataW H)), ds.length = fn.params.toList.length → s.fn H (ds ++ []) = { results := [.lit (.bool true)], args := ds })
    (hM : FCalls P f M) (hlaw : ∀ vs n bl, argsOk P d fn.params.toList vs bl → underL n vs → RoBl n bl → ∃ H', M vs ⟨n, bl⟩ pureK = some (.bool true, H'))
    {H : Type} {enc : TypeId × Value → H} {apart fresh handsOn : Bool} (W : World) (base : Nat) (args : Array Value) (ds gs : List (DataW H)) (before : List MemPlace)
    (hval : ∀ (j : Nat) t v, fn.params[j]? = some t → args[j]? = some v → Value.okWide P W .any base t v)
    (hW : DataW.Whole enc P fn.params.toList s.vars apart W args.toList ds gs before) :
    Calls P f args W fun e W' => ∃ v, e = .returned v ∧ s.post enc P fn apart fresh handsOn false W args v W' := by
  have hW' := hW
  obtain ⟨p, q, hA, _⟩ := hW'
  obtain ⟨ρ, n, bl, as, hst, hg, hlr, hao⟩ := args_read fn.params.toList args.toList ds p hok (fun j t v ht hv => hval j t v (by simpa using ht) (by simpa using hv)) hA _ _ _ (RoSt.empty W)
  have hro : RoBl n bl := fun id b hb => ⟨(hst.ro id b hb).1, (hst.ro id b hb).2, (HRel.known hst.rel hst.fresh hb).2⟩
  obtain ⟨H', hrun⟩ := hlaw as n bl hao (LRel.known hst.fresh _ _ hlr) hro
  exact law_core hl hrd hres hb hvars hspec hM W args ds gs before hW hst hlr hrun

/-! ### Arguments without blocks -/
def scal (P : Program) (t : TypeId) : Bool :=
  match P.underlying t with
  | some (.int _) | some .bool | some .string => true
  | _ => false

theorem arg_scal {P : Program} {H : Type} {enc : TypeId × Value → H} {w : World} {spare : Nat → Bool} {held : Bool} {base : Nat} {t : TypeId} {v : Value} {d : Nat} {x : DataW H} {ps : List MemPlace} (ho : okT P d t = true) (hc : scal P t = true)
    (hw : Value.okWide P w .any base t v) (h : DataW.Trod enc P w 0 spare held t v x ps) : ∃ a, (∀ ρ, VRel ρ a v) ∧ argOk P d t a [] := by
  obtain ⟨ρ', n', bl', a, h1, g1, l1, c1⟩ := arg_reads ho hw h _ _ _ (RoSt.empty w)
  cases d with
  | zero => simp [okT] at ho
  | succ d =>
    unfold argOk Cells at c1
    unfold scal at hc
    split at hc
    · rename_i k e
      rw [e] at c1
      obtain ⟨n, hn, e'⟩ := c1
      simp only [List.cons.injEq, and_true] at e'
      subst e'
      refine ⟨.int k n, fun ρ => l1, ?_⟩
      unfold argOk Cells
      rw [e]
      exact ⟨n, hn, rfl⟩
    · rename_i e
      rw [e] at c1
      obtain ⟨n, e'⟩ := c1
      simp only [List.cons.injEq, and_true] at e'
      subst e'
      refine ⟨.bool n, fun ρ => l1, ?_⟩
      unfold argOk Cells
      rw [e]
      exact ⟨n, rfl⟩
    · rename_i e
      rw [e] at c1
      obtain ⟨n, h1, h2, e'⟩ := c1
      simp only [List.cons.injEq, and_true] at e'
      subst e'
      refine ⟨.str n, fun ρ => l1, ?_⟩
      unfold argOk Cells
      rw [e]
      exact ⟨n, h1, h2, rfl⟩
    · cases hc

theorem args_scal {P : Program} {H : Type} {enc : TypeId × Value → H} {w : World} {spare : Nat → Bool} {held : Bool} {base d : Nat} : ∀ (ts : List TypeId) (vs : List Value) (ds : List (DataW H)) (ps : List MemPlace), ts.all (fun t => okT P d t && scal P t) = true →
    (∀ (j : Nat) t v, ts[j]? = some t → vs[j]? = some v → Value.okWide P w .any base t v) → DataW.TrodAll enc P w 0 spare held ts vs ds ps →
    ∃ as, (∀ ρ, LRel ρ as vs) ∧ argsOk P d ts as []
  | [], [], [], ps, _, _, _ => ⟨[], fun _ => trivial, trivial⟩
  | t :: ts, v :: vs, x :: ds, ps, ho, hw, ⟨p, q, h, hr, e⟩ => by
    simp only [List.all_cons, Bool.and_eq_true] at ho
    obtain ⟨a, l1, c1⟩ := arg_scal ho.1.1 ho.1.2 (hw 0 t v rfl rfl) h
    obtain ⟨as, l2, c2⟩ := args_scal ts vs ds q (by simpa using ho.2) (fun j t' v' ht hv => hw (j + 1) t' v' (by simpa using ht) (by simpa using hv)) hr
    exact ⟨a :: as, fun ρ => ⟨l1 ρ, l2 ρ⟩, c1, c2⟩
  | [], _ :: _, _, _, _, _, h => by cases h
  | [], [], _ :: _, _, _, _, h => by cases h
  | _ :: _, [], _, _, _, _, h => by cases h
  | _ :: _, _ :: _, [], _, _, _, h => by cases h

/-- THE LAW's CALL, its arguments without blocks. -/
theorem law_call0 {P : Program} {f : FuncId} {fn : Func} {s : ChangeSpec} {M : FnM} {bt : TypeId} {d : Nat}
    (hl : laidOutB P = true) (hrd : fn.params.toList.all (fun t => P.readableRec t && decide (t < P.types.size)) = true) (hok : fn.params.toList.all (fun t => okT P d t && scal P t) = true)
    (hres : fn.resultTypes = #[bt]) (hb : P.underlying bt = some .bool) (hvars : s.vars = [])
    (hspec : ∀ (H : Type) (ds : List (DataW H)), ds.length = fn.params.toList.length → s.fn H (ds ++ []) = { results := [.lit (.bool true)], args := ds })
    (hM : FCalls P f M) (hlaw : ∀ vs, argsOk P d fn.params.toList vs [] → ∃ H', M vs ⟨0, []⟩ pureK = some (.bool true, H'))
    {H : Type} {enc : TypeId × Value → H} {apart fresh handsOn : Bool} (W : World) (base : Nat) (args : Array Value) (ds gs : List (DataW H)) (before : List MemPlace)
    (hval : ∀ (j : Nat) t v, fn.params[j]? = some t → args[j]? = some v → Value.okWide P W .any base t v)
    (hW : DataW.Whole enc P fn.params.toList s.vars apart W args.toList ds gs before) :
    Calls P f args W fun e W' => ∃ v, e = .returned v ∧ s.post enc P fn apart fresh handsOn false W args v W' := by
  have hW' := hW
  obtain ⟨p, q, hA, _⟩ := hW'
  obtain ⟨as, hlr, hao⟩ := args_scal fn.params.toList args.toList ds p hok (fun j t v ht hv => hval j t v (by simpa using ht) (by simpa using hv)) hA
  obtain ⟨H', hrun⟩ := hlaw as hao
  exact law_core hl hrd hres hb hvars hspec hM W args ds gs before hW (RoSt.empty W) (hlr _) hrun

theorem argOk_int {P : Program} {d : Nat} {t : TypeId} {k : IntKind} {v : V} {bl : BL} (hu : P.underlying t = some (.int k)) (h : argOk P (d + 1) t v bl) : ∃ n, (Lit.int k n).wf = true ∧ v = .int k n := by
  unfold argOk Cells at h
  rw [hu] at h
  obtain ⟨n, hn, e⟩ := h
  simp only [List.cons.injEq, and_true] at e
  exact ⟨n, hn, e⟩
theorem argOk_bool {P : Program} {d : Nat} {t : TypeId} {v : V} {bl : BL} (hu : P.underlying t = some .bool) (h : argOk P (d + 1) t v bl) : ∃ b, v = .bool b := by
  unfold argOk Cells at h
  rw [hu] at h
  obtain ⟨n, e⟩ := h
  simp only [List.cons.injEq, and_true] at e
  exact ⟨n, e⟩
theorem argOk_str {P : Program} {d : Nat} {t : TypeId} {v : V} {bl : BL} (hu : P.underlying t = some .string) (h : argOk P (d + 1) t v bl) : ∃ s : List Nat, s.length ≤ Go.maxLen ∧ (∀ x ∈ s, x < 256) ∧ v = .str s := by
  unfold argOk Cells at h
  rw [hu] at h
  obtain ⟨n, h1, h2, e⟩ := h
  simp only [List.cons.injEq, and_true] at e
  exact ⟨n, h1, h2, e⟩

end Go.Proofs.Ytminfdcdmgpnjaa.K
