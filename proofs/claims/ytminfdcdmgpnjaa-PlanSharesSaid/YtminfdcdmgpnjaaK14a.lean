/- For a region whose order is open: what comes before what; blocks made early stay as they are. -/
import Derived.Test.YtminfdcdmgpnjaaK13b
set_option linter.unusedVariables false
set_option linter.unusedSimpArgs false
namespace Go.Proofs.Ytminfdcdmgpnjaa.K
open Go

/-! ### What comes before -/
def maskOf (f : Nat → Nat) (o : Oper) : Nat := o.after.toList.foldl (fun s e => cond (Region.binds .any e) (s ||| 2 ^ e.on ||| f e.on) s) 0

theorem mask_bit (f : Nat → Nat) (j : Nat) : ∀ (l : List Edge) (s : Nat), (l.foldl (fun s e => cond (Region.binds .any e) (s ||| 2 ^ e.on ||| f e.on) s) s).testBit j = true →
    s.testBit j = true ∨ ∃ e ∈ l, Region.binds .any e = true ∧ (e.on = j ∨ (f e.on).testBit j = true)
  | [], s, h => .inl h
  | e :: l, s, h => by
    simp only [List.foldl_cons] at h
    rcases mask_bit f j l _ h with h1 | ⟨e', he', hb, hj⟩
    · cases hbe : Region.binds .any e with
      | false => rw [hbe] at h1; exact .inl h1
      | true =>
        rw [hbe] at h1
        simp only [cond_true] at h1
        rw [Nat.testBit_or, Bool.or_eq_true] at h1
        rcases h1 with h1 | h1
        · rcases or_bit.1 h1 with h1 | h1
          · exact .inl h1
          · exact .inr ⟨e, by simp, hbe, .inl h1⟩
        · exact .inr ⟨e, by simp, hbe, .inr h1⟩
    · exact .inr ⟨e', by simp [he'], hb, hj⟩

theorem befores_ext (ops : List Oper) : ∀ (l : List Oper) (acc : List Nat), ∃ ext, befores ops acc l = acc ++ ext
  | [], acc => ⟨[], by simp [befores]⟩
  | o :: l, acc => by
    simp only [befores]
    obtain ⟨ext, h⟩ := befores_ext ops l (acc ++ [maskOf (fun i => (nth acc i).getD 0) o])
    refine ⟨maskOf (fun i => (nth acc i).getD 0) o :: ext, ?_⟩
    exact h.trans (by simp)

theorem nth_app_lt {α : Type} (a b : List α) (i : Nat) (h : i < a.length) : nth (a ++ b) i = nth a i := by
  rw [nth_append, if_pos h]

theorem befores_at (ops : List Oper) : ∀ (l : List Oper) (acc : List Nat) (k : Nat) (o : Oper), nth l k = some o →
    (∀ k o, nth l k = some o → ∀ e ∈ o.after.toList, Region.binds .any e = true → e.on < acc.length + k) →
    ∀ j, (bit (befores ops acc l) (acc.length + k)).testBit j = true → ∃ e ∈ o.after.toList, Region.binds .any e = true ∧ (e.on = j ∨ (bit (befores ops acc l) e.on).testBit j = true)
  | [], _, _, _, h, _, _, _ => by simp [nth] at h
  | o :: l, acc, 0, o', h, hlt, j, hj => by
    simp [nth] at h; subst h
    simp only [befores] at hj ⊢
    obtain ⟨ext, he⟩ := befores_ext ops l (acc ++ [maskOf (fun i => (nth acc i).getD 0) o])
    have e0 : (acc ++ [o.after.toList.foldl (fun s e => cond (Region.binds .any e) (s ||| 2 ^ e.on ||| (nth acc e.on).getD 0) s) 0]) = acc ++ [maskOf (fun i => (nth acc i).getD 0) o] := rfl
    rw [e0, he] at hj ⊢
    have e1 : bit (acc ++ [maskOf (fun i => (nth acc i).getD 0) o] ++ ext) (acc.length + 0) = maskOf (fun i => (nth acc i).getD 0) o := by
      simp [bit, nth_eq]
    rw [e1] at hj
    rcases mask_bit (fun i => (nth acc i).getD 0) j o.after.toList 0 hj with h1 | ⟨e, hm, hb, h2⟩
    · simp at h1
    · refine ⟨e, hm, hb, h2.imp id fun h3 => ?_⟩
      have hlt' := hlt 0 o rfl e hm hb
      have : bit (acc ++ [maskOf (fun i => (nth acc i).getD 0) o] ++ ext) e.on = (nth acc e.on).getD 0 := by
        simp only [bit]
        rw [List.append_assoc, nth_app_lt _ _ _ (by omega)]
      rw [this]; exact h3
  | o :: l, acc, k + 1, o', h, hlt, j, hj => by
    simp only [befores] at hj ⊢
    have := befores_at ops l (acc ++ [maskOf (fun i => (nth acc i).getD 0) o]) k o' (by simpa [nth] using h)
      (fun k' o'' h' e he hb => by have := hlt (k' + 1) o'' (by simpa [nth] using h') e he hb; simp; omega) j
      (by
        have e : (acc ++ [maskOf (fun i => (nth acc i).getD 0) o]).length + k = acc.length + (k + 1) := by simp; omega
        rw [e]; exact hj)
    exact this

/-- What is closed under what an operation waits for holds all that comes before. -/
theorem before_closed {ops : List Oper} {S : Nat → Prop} (hedge : ∀ i o, nth ops i = some o → ∀ e ∈ o.after.toList, Region.binds .any e = true → e.on < i)
    (hn : ∀ i, S i → ∃ o, nth ops i = some o) (hcl : ∀ i o, S i → nth ops i = some o → ∀ e ∈ o.after.toList, Region.binds .any e = true → S e.on) :
    ∀ (n i : Nat), i < n → S i → ∀ j, (bit (befores ops [] ops) i).testBit j = true → S j := by
  intro n
  induction n with
  | zero => intro i h; omega
  | succ n ih =>
    intro i hi hS j hj
    obtain ⟨o, ho⟩ := hn i hS
    have := befores_at ops ops [] i o ho (fun k o h e he hb => by simpa using hedge k o h e he hb) j (by simpa using hj)
    obtain ⟨e, he, hb, h⟩ := this
    have hSe := hcl i o hS ho e he hb
    rcases h with rfl | h
    · exact hSe
    · have := hedge i o ho e he hb
      exact ih e.on (by omega) hSe j h

theorem before_ready {ops : List Oper} {S : Nat → Prop} (hedge : ∀ i o, nth ops i = some o → ∀ e ∈ o.after.toList, Region.binds .any e = true → e.on < i)
    (hn : ∀ i, S i → ∃ o, nth ops i = some o) (hcl : ∀ i o, S i → nth ops i = some o → ∀ e ∈ o.after.toList, Region.binds .any e = true → S e.on)
    {i : Nat} {o : Oper} (ho : nth ops i = some o) (hr : ∀ e ∈ o.after.toList, Region.binds .any e = true → S e.on) :
    ∀ j, (bit (befores ops [] ops) i).testBit j = true → S j := by
  intro j hj
  obtain ⟨e, he, hb, h⟩ := befores_at ops ops [] i o ho (fun k o h e he hb => by simpa using hedge k o h e he hb) j (by simpa using hj)
  have hSe := hr e he hb
  rcases h with rfl | h
  · exact hSe
  · exact before_closed hedge hn hcl (e.on + 1) e.on (by omega) hSe j h

/-! ### Blocks beside -/
theorem lk_app (id : Nat) : ∀ a b : BL, lk id (a ++ b) = match lk id a with | some x => some x | none => lk id b
  | [], b => rfl
  | (i, x) :: a, b => by
    rw [List.cons_append, lk_cons, lk_cons, lk_app id a b]
    split <;> rfl

theorem lk_filter (id : Nat) (c : Nat → Bool) : ∀ a : BL, lk id (a.filter fun p => c p.1) = if c id then lk id a else none
  | [] => by simp [lk]
  | (i, x) :: a => by
    simp only [List.filter_cons]
    by_cases e : id = i
    · subst e
      by_cases hc : c id = true
      · simp [hc, lk_cons]
      · simp only [Bool.not_eq_true] at hc
        simp [hc, lk_filter id c a]
    · by_cases hc : c i = true
      · simp only [hc, if_true, lk_cons, if_neg e, lk_filter id c a]
      · simp only [Bool.not_eq_true] at hc
        simp only [hc, Bool.false_eq_true, if_false, lk_cons, if_neg e, lk_filter id c a]

/-- Blocks beside those that were known to what was done stay as they are. -/
theorem Goes.frame {ρ ρ' : Rho} {n : Nat} {bl cl pl : BL} {H' : Heap} {w w' : World} (hR : HRel ρ bl w) (hf : Fresh ρ n) (h : Goes ρ ⟨n, cl⟩ w ρ' H' w')
    (hc : ∀ id b, lk id cl = some b → lk id bl = some b) (hp : ∀ id b, lk id pl = some b → lk id bl = some b ∧ lk id cl = none ∧ id < n) :
    Goes ρ ⟨n, bl⟩ w ρ' ⟨H'.next, pl ++ H'.bl⟩ w' := by
  have hsub : Sub ρ ρ' := Goes.sub (H := ⟨n, cl⟩) h hf
  have hext : ∀ id, id < n → ρ' id = ρ id := h.ext
  have hlt : ∀ {id b p}, lk id bl = some b → b.real = true → ρ id = some p → p.addr.block < w.heap.size := fun hl hr hp => (hR.ok _ _ hl).lt hr hp
  have cases' : ∀ {id b}, lk id (pl ++ H'.bl) = some b → (lk id pl = some b) ∨ (lk id H'.bl = some b) := by
    intro id b hl
    rw [lk_app] at hl
    split at hl
    · rename_i x hx; cases hl; exact .inl hx
    · exact .inr hl
  constructor
  · constructor
    · intro id b hl
      rcases cases' hl with hl | hl
      · obtain ⟨hb, hcn, hid⟩ := hp id b hl
        refine ((hR.ok id b hb).sub hsub).heap fun hr p hpp => ?_
        rw [hext id hid] at hpp
        refine h.block _ (hlt hb hr hpp) ?_
        rintro ⟨i0, b0, p0, h0, ho0, hp0, e⟩
        have hne : i0 ≠ id := by rintro rfl; rw [hcn] at h0; cases h0
        exact hR.inj i0 b0 (hc _ _ h0) ho0 id b hb hr hne p0 p hp0 hpp e
      · exact h.rel.ok id b hl
    · intro id b hl ho id' b' hl' hr' hne p p' hp1 hp2
      rcases cases' hl with hl | hl
      · obtain ⟨hb, hcn, hid⟩ := hp id b hl
        rw [hext id hid] at hp1
        rcases cases' hl' with hl' | hl'
        · obtain ⟨hb', hcn', hid'⟩ := hp id' b' hl'
          rw [hext id' hid'] at hp2
          exact hR.inj id b hb ho id' b' hb' hr' hne p p' hp1 hp2
        · intro e
          have hk := hlt hb (own_real ho) hp1
          obtain ⟨i0, b0, p0, h0, hr0, hp0, e0⟩ := h.real _ (e ▸ hk) ⟨id', b', p', hl', hr', hp2, rfl⟩
          have hne0 : id ≠ i0 := by rintro rfl; rw [hcn] at h0; cases h0
          exact hR.inj id b hb ho i0 b0 (hc _ _ h0) hr0 hne0 p p0 hp1 hp0 (by rw [e, e0])
      · rcases cases' hl' with hl' | hl'
        · obtain ⟨hb', hcn', hid'⟩ := hp id' b' hl'
          rw [hext id' hid'] at hp2
          intro e
          have hk := hlt hb' hr' hp2
          obtain ⟨i0, b0, p0, h0, hr0, hp0, e0⟩ := h.own _ (e.symm ▸ hk) ⟨id, b, p, hl, ho, hp1, rfl⟩
          have hne0 : i0 ≠ id' := by rintro rfl; rw [hcn'] at h0; cases h0
          exact hR.inj i0 b0 (hc _ _ h0) hr0 id' b' hb' hr' hne0 p0 p' hp0 hp2 (by rw [e0, e])
        · exact h.rel.inj id b hl ho id' b' hl' hr' hne p p' hp1 hp2
  · exact h.ext
  · exact h.fresh
  · exact h.next
  · exact h.os
  · exact h.tape
  · exact h.output
  · exact h.size
  · exact fun k hk hno => h.block k hk fun ⟨i, b, p, hl, ho, hpp, e⟩ => hno ⟨i, b, p, hc _ _ hl, ho, hpp, e⟩
  · rintro k hk ⟨i, b, p, hl, ho, hpp, e⟩
    rcases cases' hl with hl | hl
    · obtain ⟨hb, hcn, hid⟩ := hp i b hl
      rw [hext i hid] at hpp
      exact ⟨i, b, p, hb, ho, hpp, e⟩
    · obtain ⟨i0, b0, p0, h0, x⟩ := h.own k hk ⟨i, b, p, hl, ho, hpp, e⟩
      exact ⟨i0, b0, p0, hc _ _ h0, x⟩
  · rintro k hk ⟨i, b, p, hl, ho, hpp, e⟩
    rcases cases' hl with hl | hl
    · obtain ⟨hb, hcn, hid⟩ := hp i b hl
      rw [hext i hid] at hpp
      exact ⟨i, b, p, hb, ho, hpp, e⟩
    · obtain ⟨i0, b0, p0, h0, x⟩ := h.real k hk ⟨i, b, p, hl, ho, hpp, e⟩
      exact ⟨i0, b0, p0, hc _ _ h0, x⟩
  · intro i b hl hi
    rcases cases' hl with hl | hl
    · exact ⟨b, (hp i b hl).1⟩
    · obtain ⟨b0, h0⟩ := h.dom i b hl hi
      exact ⟨b0, hc _ _ h0⟩

/-- A block made, under a number that was kept free. -/
theorem Goes.slot {ρ0 ρ : Rho} {H0 : Heap} {w0 w w' : World} {g : Nat} {bl : BL} (h : Goes ρ0 H0 w0 ρ ⟨g, bl⟩ w) {id : Nat} (hid : H0.next ≤ id) (hg : id < g) (hn : ρ id = none)
    {b : Blk} {p : Place} (hpb : p.addr.block = w.heap.size) (hk : ∀ k, k < w.heap.size → w'.heap[k]? = w.heap[k]?) (hb : BOk (ρ.set id p) w' id b)
    (hos : w'.os = w.os) (htp : w'.tape = w.tape) (hou : w'.output = w.output) (hsz : w.heap.size ≤ w'.heap.size) :
    Goes ρ0 H0 w0 (ρ.set id p) ⟨g, (id, b) :: bl⟩ w' where
  rel := h.rel.newBlk hn hpb hk hb
  ext := fun i hi => by simp only [Rho.set]; rw [if_neg (by omega)]; exact h.ext i hi
  fresh := fun i hi => by
    simp only at hi
    simp only [Rho.set]; rw [if_neg (by omega)]; exact h.fresh i hi
  next := h.next
  os := hos.trans h.os
  tape := htp.trans h.tape
  output := hou.trans h.output
  size := Nat.le_trans h.size hsz
  block := fun k hk' hno => (hk k (Nat.lt_of_lt_of_le hk' h.size)).trans (h.block k hk' hno)
  own := fun k hk' ⟨i, c, q, hc, hco, hq, e⟩ => by
    have hs := h.size
    simp only [lk_cons] at hc
    simp only [Rho.set] at hq
    split at hc
    · rename_i e'
      rw [if_pos e'] at hq; cases hq
      omega
    · rename_i e'
      rw [if_neg e'] at hq
      exact h.own k hk' ⟨i, c, q, hc, hco, hq, e⟩
  real := fun k hk' ⟨i, c, q, hc, hco, hq, e⟩ => by
    have hs := h.size
    simp only [lk_cons] at hc
    simp only [Rho.set] at hq
    split at hc
    · rename_i e'
      rw [if_pos e'] at hq; cases hq
      omega
    · rename_i e'
      rw [if_neg e'] at hq
      exact h.real k hk' ⟨i, c, q, hc, hco, hq, e⟩
  dom := fun i c hc hi => by
    simp only [lk_cons] at hc
    rw [if_neg (by omega)] at hc
    exact h.dom i c hc hi

/-- Less is said of the end. -/
theorem Goes.less {ρ0 ρ : Rho} {H0 : Heap} {w0 w : World} {g : Nat} {bl bl' : BL} (h : Goes ρ0 H0 w0 ρ ⟨g, bl⟩ w) (hl : ∀ id b, lk id bl' = some b → lk id bl = some b) : Goes ρ0 H0 w0 ρ ⟨g, bl'⟩ w where
  rel := h.rel.less hl
  ext := h.ext
  fresh := h.fresh
  next := h.next
  os := h.os
  tape := h.tape
  output := h.output
  size := h.size
  block := h.block
  own := fun k hk ⟨i, b, p, hb, x⟩ => h.own k hk ⟨i, b, p, hl _ _ hb, x⟩
  real := fun k hk ⟨i, b, p, hb, x⟩ => h.real k hk ⟨i, b, p, hl _ _ hb, x⟩
  dom := fun i b hb hi => h.dom i b (hl _ _ hb) hi

end Go.Proofs.Ytminfdcdmgpnjaa.K
