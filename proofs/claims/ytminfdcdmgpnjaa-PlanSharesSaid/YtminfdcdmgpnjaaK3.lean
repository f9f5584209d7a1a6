/- What loads, stores and new blocks do to the memory that the plain heap describes. -/
import Derived.Test.YtminfdcdmgpnjaaK2
import Derived.Laws.Tables
set_option linter.unusedVariables false
set_option linter.unusedSimpArgs false
namespace Go.Proofs.Ytminfdcdmgpnjaa.K
open Go

theorem add0 (b n : Nat) : (⟨b, 0, none⟩ : Addr).add n = ⟨b, n, none⟩ := by
  unfold Addr.add; split <;> simp_all

theorem add_add (a : Addr) (i j : Nat) : (a.add i).add j = a.add (i + j) := by
  unfold Addr.add
  by_cases hi : i = 0
  · subst hi; simp
  · by_cases hj : j = 0
    · subst hj; simp [hi]
    · simp [hi, hj, Nat.add_assoc]

theorem add_block (a : Addr) (i : Nat) : (a.add i).block = a.block := by
  unfold Addr.add; split <;> rfl

theorem cell_of {w : World} {g n : Nat} {arr : Array Value} {t : TypeId} {fr : Nat × Nat} (h : w.heap[g]? = some (.cells arr t fr)) : w.cell? ⟨g, n, none⟩ = arr[n]? := by
  simp [World.cell?, h]

theorem cell_block {w w' : World} {a : Addr} (h : w'.heap[a.block]? = w.heap[a.block]?) : w'.cell? a = w.cell? a := by
  simp only [World.cell?, h]

/-! ### Loads -/
theorem ldc_rel {ρ : Rho} {H : Heap} {w : World} (h : HRel ρ H.bl w) {id off : Nat} {c : V} (hc : H.ldc id off = some c) :
    ∃ p v, ρ id = some p ∧ w.cell? (p.addr.add off) = some v ∧ VRel ρ c v := by
  unfold Heap.ldc at hc
  split at hc
  · rename_i l hl
    obtain ⟨p, arr, t, hp, ha, hh, hs, _, hr⟩ := h.ok id _ hl
    obtain ⟨v, hv, hvr⟩ := hr off c hc
    refine ⟨p, v, hp, ?_, hvr⟩
    rw [ha, add0, cell_of hh, hv]
  · rename_i l hl
    obtain ⟨p, hp, hr⟩ := h.ok id _ hl
    obtain ⟨v, hv, hvr⟩ := hr off c hc
    exact ⟨p, v, hp, hv, hvr⟩
  · cases hc

theorem ldI_some {H : Heap} {k : IntKind} {id off : Nat} {n : Int} (h : ldI H k id off = some n) : H.ldc id off = some (.int k n) := by
  unfold ldI at h
  split at h
  · rename_i k' m hm
    by_cases e : k' = k
    · subst e; simp at h; subst h; exact hm
    · simp [e] at h
  · cases h
theorem ldB_some {H : Heap} {id off : Nat} {b : Bool} (h : ldB H id off = some b) : H.ldc id off = some (.bool b) := by
  unfold ldB at h
  split at h
  · rename_i hm; simp at h; subst h; exact hm
  · cases h
theorem ldS_some {H : Heap} {id off : Nat} {s : List Nat} (h : ldS H id off = some s) : H.ldc id off = some (.str s) := by
  unfold ldS at h
  split at h
  · rename_i hm; simp at h; subst h; exact hm
  · cases h
theorem ldV_some {H : Heap} {id off : Nat} {v : V} (h : ldV H id off = some v) : H.ldc id off = some v ∧ v.one = true := by
  unfold ldV at h
  split at h
  · rename_i u hm
    by_cases e : u.one = true
    · simp [e] at h; subst h; exact ⟨hm, e⟩
    · simp [e] at h
  · cases h

theorem ldFlat_some {H : Heap} {id : Nat} : ∀ (ks : List Kd) (off : Nat) (K : List V → Ans) (r : V × Heap), ldFlat H id ks off K = some r →
    ∃ l, K l = some r ∧ l.length = ks.length ∧ ∀ i c, nth l i = some c → H.ldc id (off + i) = some c ∧ c.one = true
  | [], off, K, r, h => ⟨[], h, rfl, fun i c hc => by simp [nth] at hc⟩
  | k :: ks, off, K, r, h => by
    have main : ∀ (c : V), H.ldc id off = some c → c.one = true → ldFlat H id ks (off + 1) (fun l => K (c :: l)) = some r →
        ∃ l, K l = some r ∧ l.length = (k :: ks).length ∧ ∀ i c, nth l i = some c → H.ldc id (off + i) = some c ∧ c.one = true := by
      intro c hc h1 hk
      obtain ⟨l, hl, hn, hi⟩ := ldFlat_some ks (off + 1) _ r hk
      refine ⟨c :: l, hl, by simp [hn], fun i c' hc' => ?_⟩
      cases i with
      | zero => simp [nth] at hc'; subst hc'; exact ⟨hc, h1⟩
      | succ i => have := hi i c' (by simpa [nth] using hc'); rwa [show off + 1 + i = off + (i + 1) by omega] at this
    cases k with
    | int k =>
      simp only [ldFlat] at h
      obtain ⟨n, hn, h⟩ := Option.bind_eq_some_iff.1 h
      exact main _ (ldI_some hn) rfl h
    | bool =>
      simp only [ldFlat] at h
      obtain ⟨n, hn, h⟩ := Option.bind_eq_some_iff.1 h
      exact main _ (ldB_some hn) rfl h
    | str =>
      simp only [ldFlat] at h
      obtain ⟨n, hn, h⟩ := Option.bind_eq_some_iff.1 h
      exact main _ (ldS_some hn) rfl h
    | oth =>
      simp only [ldFlat] at h
      obtain ⟨n, hn, h⟩ := Option.bind_eq_some_iff.1 h
      exact main _ (ldV_some hn).1 (ldV_some hn).2 h
    | agg => simp [ldFlat] at h

/-- Cells in memory for cells of the heap. -/
theorem cells_rel {ρ : Rho} {H : Heap} {w : World} (h : HRel ρ H.bl w) {id : Nat} {p : Place} (hp : ρ id = some p) :
    ∀ (l : List V) (off : Nat), (∀ i c, nth l i = some c → H.ldc id (off + i) = some c) →
    ∃ vs : List Value, LRel ρ l vs ∧ ∀ j v, vs[j]? = some v → w.cell? (p.addr.add (off + j)) = some v
  | [], off, _ => ⟨[], trivial, fun j v hv => by simp at hv⟩
  | c :: l, off, hl => by
    obtain ⟨p', v, hp', hc, hr⟩ := ldc_rel h (hl 0 c rfl)
    rw [hp] at hp'; cases hp'
    obtain ⟨vs, hvs, hcs⟩ := cells_rel h hp l (off + 1) (fun i c' hc' => by
      have := hl (i + 1) c' (by simpa [nth] using hc'); rwa [show off + (i + 1) = off + 1 + i by omega] at this)
    refine ⟨v :: vs, ⟨hr, hvs⟩, fun j u hu => ?_⟩
    cases j with
    | zero => simp at hu; subst hu; simpa using hc
    | succ j => have := hcs j u (by simpa using hu); rwa [show off + 1 + j = off + (j + 1) by omega] at this

theorem ldc_id {ρ : Rho} {H : Heap} {w : World} (h : HRel ρ H.bl w) {id : Nat} {b : Blk} (hl : lk id H.bl = some b) : ∃ p, ρ id = some p := by
  have := h.ok id b hl
  cases b <;> simp only [BOk] at this <;> first
    | (obtain ⟨p, _, _, hp, _⟩ := this; exact ⟨p, hp⟩)
    | (obtain ⟨p, hp, _⟩ := this; exact ⟨p, hp⟩)
    | (obtain ⟨p, _, _, _, _, _, hp, _⟩ := this; exact ⟨p, hp⟩)

theorem run_loadCells_rel {P : Program} {ρ : Rho} {w : World} {a : Addr} {vs : List Value} {n : Nat} (hn : vs.length = n)
    (h : ∀ j v, vs[j]? = some v → w.cell? (a.add j) = some v) : (loadCells a n).run P w = .ok vs.toArray w := by
  subst hn
  exact run_loadCells_list w a vs h

/-! ### Block facts elsewhere -/
theorem BOk.sub {ρ ρ' : Rho} (hs : Sub ρ ρ') {w : World} {id : Nat} {b : Blk} (h : BOk ρ w id b) : BOk ρ' w id b := by
  cases b with
  | row cs =>
    obtain ⟨p, arr, t, hp, ha, hh, hz, hl, hr⟩ := h
    exact ⟨p, arr, t, hs _ _ hp, ha, hh, hz, hl, fun i c hc => let ⟨v, hv, r⟩ := hr i c hc; ⟨v, hv, VRel.mono hs _ _ r⟩⟩
  | ro cs =>
    obtain ⟨p, hp, hr⟩ := h
    exact ⟨p, hs _ _ hp, fun i c hc => let ⟨v, hv, r⟩ := hr i c hc; ⟨v, hv, VRel.mono hs _ _ r⟩⟩
  | map es =>
    obtain ⟨p, ents, clock, hp, ha, hh, hr⟩ := h
    refine ⟨p, ents, clock, hs _ _ hp, ha, hh, ?_⟩
    generalize ents.toList = l at hr
    induction es generalizing l with
    | nil =>
      cases l with
      | nil => trivial
      | cons x l => simp [ERel] at hr
    | cons e es ih =>
      obtain ⟨k, v⟩ := e
      cases l with
      | nil => simp [ERel] at hr
      | cons x l =>
        simp only [ERel] at hr ⊢
        exact ⟨VRel.mono hs _ _ hr.1, VRel.mono hs _ _ hr.2.1, ih l hr.2.2⟩
  | chan n =>
    obtain ⟨p, cap, buf, cl, s, r, hp, x⟩ := h
    exact ⟨p, cap, buf, cl, s, r, hs _ _ hp, x⟩

theorem own_real {b : Blk} (h : b.own = true) : b.real = true := by cases b <;> first | rfl | cases h

theorem BOk.heap {ρ : Rho} {w w' : World} {id : Nat} {b : Blk} (h : BOk ρ w id b) (he : b.real = true → ∀ p, ρ id = some p → w'.heap[p.addr.block]? = w.heap[p.addr.block]?) : BOk ρ w' id b := by
  cases b with
  | row cs =>
    obtain ⟨p, arr, t, hp, ha, hh, x⟩ := h
    exact ⟨p, arr, t, hp, ha, (he rfl p hp).trans hh, x⟩
  | ro cs =>
    obtain ⟨p, hp, hr⟩ := h
    refine ⟨p, hp, fun i c hc => ?_⟩
    obtain ⟨v, hv, r⟩ := hr i c hc
    refine ⟨v, ?_, r⟩
    rw [← hv]
    exact cell_block (by rw [add_block]; exact he (by cases cs with | nil => simp [nth] at hc | cons _ _ => rfl) p hp)
  | map es =>
    obtain ⟨p, ents, clock, hp, ha, hh, hr⟩ := h
    exact ⟨p, ents, clock, hp, ha, (he rfl p hp).trans hh, hr⟩
  | chan n =>
    obtain ⟨p, cap, buf, cl, s, r, hp, ha, hh, x⟩ := h
    exact ⟨p, cap, buf, cl, s, r, hp, ha, (he rfl p hp).trans hh, x⟩

/-- The block exists in memory. A read-only row without cells says nothing. -/
theorem BOk.lt {ρ : Rho} {w : World} {id : Nat} {b : Blk} (h : BOk ρ w id b) (ho : b.real = true) {p : Place} (hp : ρ id = some p) : p.addr.block < w.heap.size := by
  have lt_of : ∀ {g : Nat} {o : Obj}, w.heap[g]? = some o → g < w.heap.size := by
    intro g o hg
    rcases Nat.lt_or_ge g w.heap.size with h' | h'
    · exact h'
    · rw [Array.getElem?_eq_none h'] at hg; cases hg
  cases b with
  | row cs =>
    obtain ⟨p', arr, t, hp', ha, hh, x⟩ := h
    rw [hp] at hp'; cases hp'; exact lt_of hh
  | ro cs =>
    obtain ⟨p', hp', hr⟩ := h
    rw [hp] at hp'; cases hp'
    cases cs with
    | nil => cases ho
    | cons c cs =>
      obtain ⟨v, hv, _⟩ := hr 0 c rfl
      have hz : p.addr.add 0 = p.addr := by simp [Addr.add]
      rw [hz] at hv
      unfold World.cell? at hv
      split at hv
      · rename_i hh; exact lt_of hh
      · cases hv
  | map es =>
    obtain ⟨p', ents, clock, hp', ha, hh, hr⟩ := h
    rw [hp] at hp'; cases hp'; exact lt_of hh
  | chan n =>
    obtain ⟨p', cap, buf, cl, s, r, hp', ha, hh, x⟩ := h
    rw [hp] at hp'; cases hp'; exact lt_of hh

/-! ### A block of one's own is written -/
theorem Goes.write {ρ : Rho} {H : Heap} {w w' : World} (h : HRel ρ H.bl w) (hf : Fresh ρ H.next) {id : Nat} {b b' : Blk} {p : Place}
    (hl : lk id H.bl = some b) (ho : b.own = true) (ho' : b'.own = true) (hp : ρ id = some p)
    (hos : w'.os = w.os) (htp : w'.tape = w.tape) (hou : w'.output = w.output) (hsz : w'.heap.size = w.heap.size)
    (hk : ∀ k, k ≠ p.addr.block → w'.heap[k]? = w.heap[k]?) (hb : BOk ρ w' id b') :
    Goes ρ H w ρ { H with bl := upd id b' H.bl } w' where
  rel := by
    constructor
    · intro i c hc
      dsimp only at hc
      rw [lk_upd] at hc
      split at hc
      · rename_i e; subst e
        rw [hl] at hc; simp at hc; subst hc; exact hb
      · rename_i e
        refine (h.ok i c hc).heap fun hr q hq => hk _ ?_
        exact fun e' => h.inj id b hl ho i c hc hr (Ne.symm e) p q hp hq e'.symm
    · intro i c hc hco i' c' hc' hcr hne q q' hq hq'
      dsimp only at hc hc'
      have get : ∀ {j : Nat} {d : Blk}, lk j (upd id b' H.bl) = some d → ∃ d0, lk j H.bl = some d0 ∧ (d.own = true → d0.own = true) ∧ (d.real = true → d0.real = true) := by
        intro j d hd
        rw [lk_upd] at hd
        split at hd
        · rename_i e; subst e; exact ⟨b, hl, fun _ => ho, fun _ => own_real ho⟩
        · exact ⟨d, hd, fun x => x, fun x => x⟩
      obtain ⟨d0, hd0, hdo, _⟩ := get hc
      obtain ⟨d1, hd1, _, hdr⟩ := get hc'
      exact h.inj i d0 hd0 (hdo hco) i' d1 hd1 (hdr hcr) hne q q' hq hq'
  ext := fun _ _ => rfl
  fresh := hf
  next := Nat.le_refl _
  os := hos
  tape := htp
  output := hou
  size := by rw [hsz]; exact Nat.le_refl _
  block := fun k hk' hn => hk k fun e => hn ⟨id, b, p, hl, ho, hp, e.symm⟩
  own := fun k hk' ⟨i, c, q, hc, hco, hq, e⟩ => by
    dsimp only at hc
    rw [lk_upd] at hc
    split at hc
    · rename_i e'; subst e'; exact ⟨i, b, q, hl, ho, hq, e⟩
    · exact ⟨i, c, q, hc, hco, hq, e⟩
  real := fun k hk' ⟨i, c, q, hc, hco, hq, e⟩ => by
    dsimp only at hc
    rw [lk_upd] at hc
    split at hc
    · rename_i e'; subst e'; exact ⟨i, b, q, hl, own_real ho, hq, e⟩
    · exact ⟨i, c, q, hc, hco, hq, e⟩
  dom := fun i c hc _ => by
    dsimp only at hc
    rw [lk_upd] at hc
    split at hc
    · rename_i e'; subst e'; exact ⟨b, hl⟩
    · exact ⟨c, hc⟩


/-! ### A new block -/
def Rho.set (ρ : Rho) (id : Nat) (p : Place) : Rho := fun i => if i = id then some p else ρ i

theorem Rho.sub_set {ρ : Rho} {id : Nat} (hn : ρ id = none) (p : Place) : Sub ρ (ρ.set id p) := by
  intro i q hq
  unfold Rho.set
  split
  · rename_i e; subst e; rw [hn] at hq; cases hq
  · exact hq

theorem lk_none {ρ : Rho} {bl : BL} {w : World} (h : HRel ρ bl w) {id : Nat} (hn : ρ id = none) : lk id bl = none := by
  cases e : lk id bl with
  | none => rfl
  | some c =>
    have := h.ok id c e
    cases c <;> simp only [BOk] at this <;> first
      | (obtain ⟨p, _, _, hp, _⟩ := this; rw [hn] at hp; cases hp)
      | (obtain ⟨p, hp, _⟩ := this; rw [hn] at hp; cases hp)
      | (obtain ⟨p, _, _, _, _, _, hp, _⟩ := this; rw [hn] at hp; cases hp)

theorem HRel.newBlk {ρ : Rho} {bl : BL} {w w' : World} (h : HRel ρ bl w) {id : Nat} (hn : ρ id = none) {b : Blk} {p : Place} (hpb : p.addr.block = w.heap.size)
    (hk : ∀ k, k < w.heap.size → w'.heap[k]? = w.heap[k]?) (hb : BOk (ρ.set id p) w' id b) : HRel (ρ.set id p) ((id, b) :: bl) w' := by
  have hnone := lk_none h hn
  have old : ∀ {i c}, lk i ((id, b) :: bl) = some c → i ≠ id → lk i bl = some c := by
    intro i c hc hne; rw [lk_cons, if_neg hne] at hc; exact hc
  have setne : ∀ {i}, i ≠ id → ρ.set id p i = ρ i := by intro i hne; simp [Rho.set, hne]
  have seteq : ρ.set id p id = some p := by simp [Rho.set]
  constructor
  · intro i c hc
    by_cases hne : i = id
    · subst hne
      rw [lk_cons, if_pos rfl] at hc; cases hc; exact hb
    · have hc' := old hc hne
      have h0 := h.ok i c hc'
      refine (h0.sub (Rho.sub_set hn p)).heap fun hr q hq => hk _ ?_
      rw [setne hne] at hq
      exact h0.lt hr hq
  · intro i c hc hco i' c' hc' hcr hne q q' hq hq'
    by_cases hi : i = id
    · subst hi
      rw [seteq] at hq; cases hq
      have hne' : i' ≠ i := fun e => hne e.symm
      rw [setne hne'] at hq'
      have := (h.ok i' c' (old hc' hne')).lt hcr hq'
      rw [hpb]; omega
    · by_cases hi' : i' = id
      · subst hi'
        rw [seteq] at hq'; cases hq'
        rw [setne hi] at hq
        have := (h.ok i c (old hc hi)).lt (own_real hco) hq
        rw [hpb]; omega
      · rw [setne hi] at hq; rw [setne hi'] at hq'
        exact h.inj i c (old hc hi) hco i' c' (old hc' hi') hcr hne q q' hq hq'

theorem Goes.newBlk {ρ : Rho} {H : Heap} {w w' : World} (h : HRel ρ H.bl w) (hf : Fresh ρ H.next) {b : Blk} {p : Place} (hpb : p.addr.block = w.heap.size)
    (hk : ∀ k, k < w.heap.size → w'.heap[k]? = w.heap[k]?) (hb : BOk (ρ.set H.next p) w' H.next b)
    (hos : w'.os = w.os) (htp : w'.tape = w.tape) (hou : w'.output = w.output) (hsz : w.heap.size ≤ w'.heap.size) :
    Goes ρ H w (ρ.set H.next p) (H.new b) w' where
  rel := h.newBlk (hf _ (Nat.le_refl _)) hpb hk hb
  ext := fun id hid => by simp only [Rho.set]; rw [if_neg (by omega)]
  fresh := fun id hid => by
    simp only [Heap.new] at hid
    simp only [Rho.set]
    rw [if_neg (by omega)]
    exact hf id (by omega)
  next := by simp [Heap.new]
  os := hos
  tape := htp
  output := hou
  size := hsz
  block := fun k hk' _ => hk k hk'
  own := fun k hk' ⟨i, c, q, hc, hco, hq, e⟩ => by
    simp only [Heap.new, lk_cons] at hc
    simp only [Rho.set] at hq
    split at hc
    · rename_i e'
      rw [if_pos e'] at hq; cases hq
      omega
    · rename_i e'
      rw [if_neg e'] at hq
      exact ⟨i, c, q, hc, hco, hq, e⟩
  real := fun k hk' ⟨i, c, q, hc, hco, hq, e⟩ => by
    simp only [Heap.new, lk_cons] at hc
    simp only [Rho.set] at hq
    split at hc
    · rename_i e'
      rw [if_pos e'] at hq; cases hq
      omega
    · rename_i e'
      rw [if_neg e'] at hq
      exact ⟨i, c, q, hc, hco, hq, e⟩
  dom := fun i c hc hi => by
    simp only [Heap.new, lk_cons] at hc
    rw [if_neg (by omega)] at hc
    exact ⟨c, hc⟩


end Go.Proofs.Ytminfdcdmgpnjaa.K
