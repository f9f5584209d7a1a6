/- A region in the order of its text: in memory as over the blocks. -/
import Derived.Test.YtminfdcdmgpnjaaK12a
set_option linter.unusedVariables false
set_option linter.unusedSimpArgs false
namespace Go.Proofs.Ytminfdcdmgpnjaa.K
open Go

/-! ### Temporaries -/
def ARel (ρ : Rho) (a : Tms) (tm : Array Value) : Prop := a.length ≤ tm.size ∧ ∀ t, t < a.length → VRel ρ (tget a t) (tm.getD t undef)

theorem tget_over : ∀ (a : Tms) (t : Nat), a.length ≤ t → tget a t = .undef
  | [], _, _ => rfl
  | _ :: _, 0, h => by simp at h
  | _ :: a, t + 1, h => tget_over a t (by simpa using h)

theorem tget_set : ∀ (a : Tms) (t : Nat) (v : V) (i : Nat), tget (tset a t v) i = if i = t ∧ t < a.length then v else tget a i
  | [], t, v, i => by simp [tset, tget]
  | x :: a, 0, v, 0 => by simp [tset, tget]
  | x :: a, 0, v, i + 1 => by simp [tset, tget]
  | x :: a, t + 1, v, 0 => by simp [tset, tget]
  | x :: a, t + 1, v, i + 1 => by simp [tset, tget, tget_set a t v i]

theorem tset_len : ∀ (a : Tms) (t : Nat) (v : V), (tset a t v).length = a.length
  | [], _, _ => rfl
  | _ :: _, 0, _ => rfl
  | _ :: a, t + 1, v => by simp [tset, tset_len a t v]

section
variable {P : Program} {ρ : Rho}

theorem ARel.get {a : Tms} {tm : Array Value} (h : ARel ρ a tm) (t : Nat) : VRel ρ (tget a t) (tm.getD t undef) := by
  rcases Nat.lt_or_ge t a.length with h1 | h1
  · exact h.2 t h1
  · rw [tget_over a t h1]; trivial

theorem ARel.mono {ρ' : Rho} {a : Tms} {tm : Array Value} (h : ARel ρ a tm) (hs : Sub ρ ρ') : ARel ρ' a tm :=
  ⟨h.1, fun t ht => VRel.mono hs _ _ (h.2 t ht)⟩

theorem ev_get {a : Tms} {act : Act} (h : ∀ t, VRel ρ (tget a t) (act.tmps.getD t undef)) (x : Operand) : VRel ρ (ev a x) (act.eval x) := by
  cases x with
  | tmp t => exact h t
  | const v => exact ofValue_rel ρ v
  | func f => simp only [ev, Act.eval, VRel]; exact ⟨#[], rfl, trivial⟩
  | global g => trivial

theorem ARel.ev {a : Tms} {act : Act} (h : ARel ρ a act.tmps) (x : Operand) : VRel ρ (K.ev a x) (act.eval x) := ev_get h.get x

theorem ARel.set {a : Tms} {tm : Array Value} (h : ARel ρ a tm) {t : Nat} {v : V} {u : Value} (hv : VRel ρ v u) : ARel ρ (tset a t v) (tm.setIfInBounds t u) := by
  refine ⟨by rw [tset_len, Array.size_setIfInBounds]; exact h.1, fun i hi => ?_⟩
  rw [tset_len] at hi
  rw [tget_set]
  by_cases e : i = t
  · subst e
    rw [if_pos ⟨rfl, hi⟩]
    have : i < tm.size := Nat.lt_of_lt_of_le hi h.1
    simpa [Array.getD_eq_getD_getElem?, this] using hv
  · rw [if_neg (by simp [e])]
    have := h.2 i hi
    simpa [Array.getD_eq_getD_getElem?, Array.getElem?_setIfInBounds, Ne.symm e] using this

theorem ARel.setL {a : Tms} {tm : Array Value} (h : ARel ρ a tm) {t : Nat} {v : V} (hv : VRel ρ v (tm.getD t undef)) : ARel ρ (tset a t v) tm := by
  refine ⟨by rw [tset_len]; exact h.1, fun i hi => ?_⟩
  rw [tset_len] at hi
  rw [tget_set]
  by_cases e : i = t
  · subst e; rw [if_pos ⟨rfl, hi⟩]; exact hv
  · rw [if_neg (by simp [e])]; exact h.2 i hi

theorem ARel.put {a : Tms} {act : Act} (h : ARel ρ a act.tmps) {d : Option Tmp} {v : V} {u : Value} (hv : VRel ρ v u) : ARel ρ (putD a d v) (act.put d u).tmps := by
  cases d with
  | none => exact h
  | some d => exact h.set hv

theorem put_defers (act : Act) (d : Option Tmp) (u : Value) : (act.put d u).defers = act.defers := by cases d <;> rfl

theorem VRel.undef {ρ : Rho} (u : Value) : VRel ρ .undef u := trivial
theorem VRel.skipped (ρ : Rho) : VRel ρ (.tup []) Go.undef := by simp only [VRel]; exact ⟨#[], rfl, trivial⟩

/-! ### Guards -/
theorem yields {x : V} {tm : Array Value} {ops : List Oper} {j : Nat} {t : Tmp} {b : Bool} (hv : VRel ρ x (tm.getD t undef)) (hj : (nth ops j).bind (·.dst) = some t) (hb : x = .bool b) :
    yielded ops.toArray tm j = some b := by
  unfold yielded
  rw [hb] at hv
  simp only [VRel] at hv
  rw [nth_eq] at hj
  have h1 : tm[t]? = some (.bool b) := by
    simp only [Array.getD_eq_getD_getElem?] at hv
    cases e : tm[t]? with
    | none => rw [e] at hv; simp [undef] at hv
    | some y => rw [e] at hv; simp at hv; rw [hv]
  have h2 : (ops.toArray[j]?).bind (·.dst) = some t := by simpa using hj
  rw [h2]
  simp [h1]

theorem yieldsN {x : V} {tm : Array Value} {ops : List Oper} {j : Nat} {t : Tmp} (hv : VRel ρ x (tm.getD t undef)) (hj : (nth ops j).bind (·.dst) = some t) (hb : x = .tup []) :
    yielded ops.toArray tm j = none := by
  unfold yielded
  rw [hb] at hv
  simp only [VRel] at hv
  obtain ⟨l, hv, _⟩ := hv
  rw [nth_eq] at hj
  have h2 : (ops.toArray[j]?).bind (·.dst) = some t := by simpa using hj
  rw [h2]
  simp only [Array.getD_eq_getD_getElem?] at hv
  simp only [Option.bind_some]
  cases e : tm[t]? with
  | none => rfl
  | some y => rw [e] at hv; simp at hv; rw [hv]

variable {r : V × Heap} {orc : Orc}

/-- A step: what an operation asks is done, or the operation isn't wanted. -/
theorem step1_cases {sl : Option Nat} {ops : List Oper} {o : Oper} {a : Tms} {H : Heap} {K : Tms → Heap → Ans} (h : step1 P orc ops sl o a H K = some r) :
    ∃ a1, (a1 = a ∨ (∃ j want t b, o.guard = some (j, want) ∧ (nth ops j).bind (·.dst) = some t ∧ tget a t = .bool b ∧ a1 = tset a t (.bool b))) ∧
      (((o.guard = none ∨ ∃ j want t, o.guard = some (j, want) ∧ (nth ops j).bind (·.dst) = some t ∧ tget a t = .bool want) ∧
          req P a1 o (exec orc sl H fun v H' => K (putD a1 o.dst v) H') = some r) ∨
       ((∃ j want t, o.guard = some (j, want) ∧ (nth ops j).bind (·.dst) = some t ∧ (tget a t = .bool (!want) ∨ tget a t = .tup [])) ∧ K (putD a1 o.dst (.tup [])) H = some r)) := by
  unfold step1 at h
  split at h
  · rename_i hg
    exact ⟨a, .inl rfl, .inl ⟨.inl hg, h⟩⟩
  · rename_i j want hg
    split at h
    · cases h
    · rename_i t ht
      split at h
      · rename_i b hb
        refine ⟨tset a t (.bool b), .inr ⟨j, want, t, b, hg, ht, hb, rfl⟩, ?_⟩
        cases b <;> cases want <;> simp only [cond_true, cond_false] at h
        · exact .inl ⟨.inr ⟨j, _, t, hg, ht, hb⟩, h⟩
        · exact .inr ⟨⟨j, _, t, hg, ht, .inl hb⟩, h⟩
        · exact .inr ⟨⟨j, _, t, hg, ht, .inl hb⟩, h⟩
        · exact .inl ⟨.inr ⟨j, _, t, hg, ht, hb⟩, h⟩
      · rename_i hb
        exact ⟨a, .inl rfl, .inr ⟨⟨j, want, t, hg, ht, .inr hb⟩, h⟩⟩
      · cases h

theorem step1_ok {ops : List Oper} {o : Oper} {a : Tms} {H : Heap} {K : Tms → Heap → Ans} (ho : ∀ f, FSound P f (orc f)) (h : step1 P orc ops none o a H K = some r) :
    ∃ a' H', K a' H' = some r ∧ ∀ ρ act w, HRel ρ H.bl w → Fresh ρ H.next → ARel ρ a act.tmps → ∀ next Q,
      (∀ ρ' act' w', Goes ρ H w ρ' H' w' → ARel ρ' a' act'.tmps → act'.defers = act.defers → next act' w') →
      if Region.wanted o (yielded ops.toArray act.tmps) then o.wp P act w next Q else next (act.put o.dst undef) w := by
  obtain ⟨a1, ha1, hc⟩ := step1_cases h
  have harel : ∀ ρ (tm : Array Value), ARel ρ a tm → ARel ρ a1 tm := by
    intro ρ tm ht
    rcases ha1 with rfl | ⟨j, want, t, b, _, _, hb, rfl⟩
    · exact ht
    · exact ht.setL (by rw [← hb]; exact ht.get t)
  rcases hc with ⟨hg, h⟩ | ⟨⟨j, want, t, hg, ht, hb⟩, h⟩
  · -- asked
    have hwant : ∀ ρ (tm : Array Value), ARel ρ a tm → Region.wanted o (yielded ops.toArray tm) = true := by
      intro ρ tm hr
      rcases hg with hg | ⟨j, want, t, hg, ht, hb⟩
      · simp [Region.wanted, hg]
      · simp [Region.wanted, hg, yields (hr.get t) ht hb]
    obtain ⟨rq, hq, hrq⟩ := req_rq h
    obtain ⟨v, H', hk, hs⟩ := exec_ok ho hrq
    refine ⟨_, H', hk, fun ρ act w hR hf hA next Q hnext => ?_⟩
    rw [if_pos (hwant ρ _ hA)]
    have hA1 := harel ρ _ hA
    refine hs ρ w _ hR hf (req_does hq fun x _ => hA1.ev x) o act next Q fun u w' ⟨ρ', hg', hv⟩ => ?_
    exact hnext ρ' _ w' hg' ((hA1.mono (hg'.sub hf)).put hv) (put_defers _ _ _)
  · -- not wanted
    refine ⟨_, H, h, fun ρ act w hR hf hA next Q hnext => ?_⟩
    have hw : Region.wanted o (yielded ops.toArray act.tmps) = false := by
      rcases hb with hb | hb
      · simp [Region.wanted, hg, yields (hA.get t) ht hb]
      · simp [Region.wanted, hg, yieldsN (hA.get t) ht hb]
    rw [hw]
    simp only [Bool.false_eq_true, if_false]
    exact hnext ρ _ w (Goes.refl hR hf) ((harel ρ _ hA).put (VRel.skipped _)) (put_defers _ _ _)


/-- A region in the order of its text. -/
theorem runOps_ok (ho : ∀ f, FSound P f (orc f)) (ops : List Oper) : ∀ (l : List Oper) (a : Tms) (H : Heap) (K : Tms → Heap → Ans), runOps P orc ops l a H K = some r →
    ∃ a' H', K a' H' = some r ∧ ∀ ρ act w, HRel ρ H.bl w → Fresh ρ H.next → ARel ρ a act.tmps → ∀ Q : Exit → Act → World → Prop,
      (∀ ρ' act' w', Goes ρ H w ρ' H' w' → ARel ρ' a' act'.tmps → act'.defers = act.defers → Q .normal act' w') → wpList P ops.toArray Q l act w
  | [], a, H, K, h => ⟨a, H, h, fun ρ act w hR hf hA Q hQ => hQ ρ act w (Goes.refl hR hf) hA rfl⟩
  | o :: l, a, H, K, h => by
    simp only [runOps] at h
    obtain ⟨a1, H1, h1, hs1⟩ := step1_ok ho h
    obtain ⟨a2, H2, h2, hs2⟩ := runOps_ok ho ops l a1 H1 K h1
    refine ⟨a2, H2, h2, fun ρ act w hR hf hA Q hQ => ?_⟩
    have := hs1 ρ act w hR hf hA (wpList P ops.toArray Q l) Q fun ρ1 act1 w1 hg hA1 hd => hs2 ρ1 act1 w1 hg.rel hg.fresh hA1 Q fun ρ2 act2 w2 hg2 hA2 hd2 =>
      hQ ρ2 act2 w2 (hg.trans hg2) hA2 (hd2.trans hd)
    unfold wpList
    split
    · rename_i hw; rw [if_pos hw] at this; exact .inl this
    · rename_i hw; rw [if_neg hw] at this; exact this

end
end Go.Proofs.Ytminfdcdmgpnjaa.K
