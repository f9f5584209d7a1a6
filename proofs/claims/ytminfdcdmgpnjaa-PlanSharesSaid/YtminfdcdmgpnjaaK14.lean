/- A region whose order is open: every order does in memory what the one order does over the blocks. -/
import Derived.Test.YtminfdcdmgpnjaaK14a
set_option linter.unusedVariables false
set_option linter.unusedSimpArgs false
namespace Go.Proofs.Ytminfdcdmgpnjaa.K
open Go

def Ev.isNew (e : Ev) : Bool := match e.k with | .new .. => true | _ => false

section
variable {P : Program} {r : V × Heap} {orc : Orc} {ops : List Oper} {bf : List Nat} {base : Nat} {sf : DSt}

/-- The row goes on as far as one looks. -/
theorem suf_at : ∀ (pre D post : List Ev) (e : Ev) (G : Heap) (N : BL), Suf P bf base sf D (pre ++ e :: post) G N → ∃ G' N', Suf P bf base sf (D ++ pre) (e :: post) G' N'
  | [], D, post, e, G, N, h => ⟨G, N, by simpa using h⟩
  | x :: pre, D, post, e, G, N, h => by
    obtain ⟨_, h⟩ := h
    have fin : ∀ G N, Suf P bf base sf (D ++ [x]) (pre ++ e :: post) G N → ∃ G' N', Suf P bf base sf (D ++ x :: pre) (e :: post) G' N' := by
      intro G N h
      obtain ⟨G', N', h'⟩ := suf_at pre (D ++ [x]) post e G N h
      exact ⟨G', N', by simpa using h'⟩
    obtain ⟨i, k⟩ := x
    cases k with
    | skip => exact fin _ _ h
    | val v => exact fin _ _ h
    | new b mk => exact fin _ _ h
    | read rq v => exact fin _ _ h.2.2
    | hv rq v H => exact fin _ _ h.2.2.2.2

/-- What lies before the next change. -/
theorem suf_walk : ∀ (pre D post : List Ev) (G : Heap) (N : BL), Suf P bf base sf D (pre ++ post) G N → (∀ x ∈ pre, x.isHv = false) →
    ∃ N', Suf P bf base sf (D ++ pre) post G N' ∧
      (∀ id b, lk id (N' ++ G.bl) = some b → (∃ x ∈ pre, ∃ mk, x.k = .new b mk ∧ id = base + x.i) ∨ lk id (N ++ G.bl) = some b) ∧
      (∀ x ∈ pre, ∀ rq v, x.k = .read rq v → Rd P rq v G) ∧ (∀ x ∈ pre, x.isNew = true → ∃ p ∈ N', p.1 = base + x.i) ∧ (∀ p ∈ N, p ∈ N')
  | [], D, post, G, N, h, _ => ⟨N, by simpa using h, fun id b hl => .inr hl, fun x hx => by simp at hx, fun x hx => by simp at hx, fun p hp => hp⟩
  | x :: pre, D, post, G, N, h, hn => by
    obtain ⟨_, h⟩ := h
    have hn' : ∀ y ∈ pre, y.isHv = false := fun y hy => hn y (by simp [hy])
    obtain ⟨i, k⟩ := x
    have plain : Suf P bf base sf (D ++ [⟨i, k⟩]) (pre ++ post) G N → (∀ rq v, k = .read rq v → Rd P rq v G) → (Ev.mk i k).isNew = false → ∃ N', Suf P bf base sf (D ++ (⟨i, k⟩ : Ev) :: pre) post G N' ∧
      (∀ id b, lk id (N' ++ G.bl) = some b → (∃ x ∈ (⟨i, k⟩ : Ev) :: pre, ∃ mk, x.k = .new b mk ∧ id = base + x.i) ∨ lk id (N ++ G.bl) = some b) ∧
      (∀ x ∈ (⟨i, k⟩ : Ev) :: pre, ∀ rq v, x.k = .read rq v → Rd P rq v G) ∧ (∀ x ∈ (⟨i, k⟩ : Ev) :: pre, x.isNew = true → ∃ p ∈ N', p.1 = base + x.i) ∧ (∀ p ∈ N, p ∈ N') := by
      intro h hrd hnw
      obtain ⟨N', h1, h2, h3, h4, h5⟩ := suf_walk pre _ post G N h hn'
      refine ⟨N', by simpa using h1, fun id b hl => (h2 id b hl).imp (fun ⟨x, hx, y⟩ => ⟨x, by simp [hx], y⟩) (fun z => z), fun x hx rq v hk => ?_, fun x hx hxn => ?_, h5⟩
      · rcases List.mem_cons.1 hx with rfl | hx
        · exact hrd rq v hk
        · exact h3 x hx rq v hk
      · rcases List.mem_cons.1 hx with rfl | hx
        · rw [hnw] at hxn; cases hxn
        · exact h4 x hx hxn
    cases k with
    | skip => exact plain h (fun _ _ e => by cases e) rfl
    | val v => exact plain h (fun _ _ e => by cases e) rfl
    | new b mk =>
      obtain ⟨N', h1, h2, h3, h4, h5⟩ := suf_walk pre _ post G _ h hn'
      refine ⟨N', by simpa using h1, fun id b' hl => ?_, fun x hx rq v hk => ?_, fun x hx hxn => ?_, fun p hp => h5 p (by simp [hp])⟩
      · rcases h2 id b' hl with ⟨x, hx, y⟩ | h6
        · exact .inl ⟨x, by simp [hx], y⟩
        · rw [List.cons_append, lk_cons] at h6
          split at h6
          · rename_i e; cases h6; exact .inl ⟨⟨i, .new b mk⟩, by simp, mk, rfl, e⟩
          · exact .inr h6
      · rcases List.mem_cons.1 hx with rfl | hx
        · cases hk
        · exact h3 x hx rq v hk
      · rcases List.mem_cons.1 hx with rfl | hx
        · exact ⟨(base + i, b), h5 _ (by simp), rfl⟩
        · exact h4 x hx hxn
    | read rq v => exact plain h.2.2 (fun rq' v' e => by cases e; exact h.1) rfl
    | hv rq v H => have := hn ⟨i, .hv rq v H⟩ (by simp); cases this

/-- How the machine stands, while the operations `listed` are done. -/
structure Sim (P : Program) (ops : List Oper) (bf : List Nat) (base : Nat) (sf : DSt) (T : List Ev) (a0 : Tms) (act0 : Act) (ρ0 : Rho) (H0 : Heap) (w0 : World) (S : Nat → Prop) (act : Act) (w : World)
    (ρ : Rho) (D R : List Ev) (G : Heap) (bl : BL) : Prop where
  row : D ++ R = T
  suf : Suf P bf base sf D R G []
  gD : ∀ e ∈ D, (e.isHv = true → S e.i) ∧ (e.isNew = true → S e.i) ∧ ∀ rq v, e.k = .read rq v → ¬ S e.i → Rd P rq v G
  gR : ∀ e ∈ R, e.isHv = true → ¬ S e.i
  goes : Goes ρ0 H0 w0 ρ ⟨G.next, bl⟩ w
  sub : ∀ id b, lk id G.bl = some b → lk id bl = some b
  pend : ∀ e ∈ R, ∀ b mk, e.k = .new b mk → S e.i → lk (base + e.i) bl = some b
  slots : ∀ e ∈ R, lk (base + e.i) G.bl = none
  free : ∀ i, i < ops.length → ¬ S i → ρ (base + i) = none
  gn : base + ops.length ≤ G.next
  tm : ∀ t, (∀ j, writer ops t = some j → S j) → VRel ρ (tget sf.a t) (act.tmps.getD t undef)
  t0 : ∀ t j, writer ops t = some j → ¬ S j → VRel ρ (tget a0 t) (act.tmps.getD t undef)
  tl : sf.a.length ≤ act.tmps.size
  df : act.defers = act0.defers
  clo : ∀ i o, S i → nth ops i = some o → ∀ e ∈ o.after.toList, Region.binds .any e = true → S e.on
  lt : ∀ i, S i → i < ops.length

variable {T : List Ev} {a0 : Tms} {act0 act : Act} {ρ0 ρ : Rho} {H0 : Heap} {w0 w : World} {S : Nat → Prop} {D R : List Ev} {G : Heap} {bl : BL}

/-- An operation that is no change is done. -/
theorem Sim.next (h : Sim P ops bf base sf T a0 act0 ρ0 H0 w0 S act w ρ D R G bl) {i : Nat} {o : Oper} (ho : nth ops i = some o) (hssa : ∀ t, writer ops t = some i → o.dst = some t) (hssb : ∀ t, o.dst = some t → writer ops t = some i)
    {ρ' : Rho} {w' : World} {bl' : BL} {u : Value}
    (hg : Goes ρ0 H0 w0 ρ' ⟨G.next, bl'⟩ w') (hs : Sub ρ ρ') (hsub : ∀ id b, lk id G.bl = some b → lk id bl' = some b)
    (hp : ∀ e ∈ R, ∀ b mk, e.k = .new b mk → (S e.i ∨ e.i = i) → lk (base + e.i) bl' = some b)
    (hfree : ∀ j, j < ops.length → ¬ (S j ∨ j = i) → ρ' (base + j) = none)
    (hnh : ∀ e ∈ D ++ R, e.i = i → e.isHv = false)
    (hr : ∀ e ∈ o.after.toList, Region.binds .any e = true → S e.on)
    (hu : ∀ d, o.dst = some d → VRel ρ' (tget sf.a d) u) : Sim P ops bf base sf T a0 act0 ρ0 H0 w0 (fun j => S j ∨ j = i) (act.put o.dst u) w' ρ' D R G bl' where
  row := h.row
  suf := h.suf
  gD := fun e he => ⟨fun x => .inl ((h.gD e he).1 x), fun x => .inl ((h.gD e he).2.1 x), fun rq v hk hn => (h.gD e he).2.2 rq v hk fun hS => hn (.inl hS)⟩
  gR := fun e he hv hS => by
    rcases hS with hS | hS
    · exact h.gR e he hv hS
    · rw [hnh e (by simp [he]) hS] at hv; cases hv
  goes := hg
  sub := hsub
  pend := hp
  slots := h.slots
  free := hfree
  gn := h.gn
  tm := fun t ht => by
    by_cases e : o.dst = some t
    · rw [e]
      simp only [Act.put]
      by_cases hlt : t < act.tmps.size
      · have := hu t e
        simpa [Array.getD_eq_getD_getElem?, hlt] using this
      · rw [tget_over sf.a t (Nat.le_trans h.tl (Nat.le_of_not_lt hlt))]; trivial
    · have : (act.put o.dst u).tmps.getD t undef = act.tmps.getD t undef := by
        cases hd : o.dst with
        | none => rfl
        | some d =>
          have hne : d ≠ t := fun x => e (by rw [hd, x])
          simp [Act.put, Array.getD_eq_getD_getElem?, Array.getElem?_setIfInBounds, hne]
      rw [this]
      refine VRel.mono hs _ _ (h.tm t fun j hj => ?_)
      rcases ht j hj with hS | rfl
      · exact hS
      · exact absurd (hssa t hj) e
  t0 := fun t j ht hj => by
    have hne : o.dst ≠ some t := fun e => by
      have := hssb t e
      rw [this] at ht; cases ht
      exact hj (.inr rfl)
    have : (act.put o.dst u).tmps.getD t undef = act.tmps.getD t undef := by
      cases hd : o.dst with
      | none => rfl
      | some d =>
        have hne' : d ≠ t := fun x => hne (by rw [hd, x])
        simp [Act.put, Array.getD_eq_getD_getElem?, Array.getElem?_setIfInBounds, hne']
    rw [this]
    exact VRel.mono hs _ _ (h.t0 t j ht fun x => hj (.inl x))
  tl := by
    have := h.tl
    cases o.dst <;> simp [Act.put] <;> omega
  df := (put_defers _ _ _).trans h.df
  clo := fun j o' hS ho' e he hb => by
    rcases hS with hS | rfl
    · exact .inl (h.clo j o' hS ho' e he hb)
    · rw [ho] at ho'; cases ho'; exact .inl (hr e he hb)
  lt := fun j hS => by
    rcases hS with hS | rfl
    · exact h.lt j hS
    · rw [nth_eq] at ho; exact (List.getElem?_eq_some_iff.1 ho).1


/-- A change is done. -/
theorem Sim.change (h : Sim P ops bf base sf T a0 act0 ρ0 H0 w0 S act w ρ D R G bl) {i : Nat} {o : Oper} (ho : nth ops i = some o) (hssa : ∀ t, writer ops t = some i → o.dst = some t) (hssb : ∀ t, o.dst = some t → writer ops t = some i)
    (hnd : (T.map Ev.i).Nodup) {pre post : List Ev} {rq : Rq} {v : V} {H' : Heap} (hR : R = pre ++ ⟨i, .hv rq v H'⟩ :: post) (hpre : ∀ x ∈ pre, x.isHv = false) (hpn : ∀ x ∈ pre, x.isNew = true → S x.i)
    (hlen : ∀ e ∈ T, e.i < ops.length)
    {N : BL} (hN : ∀ id b, lk id (N ++ G.bl) = some b → (∃ x ∈ pre, ∃ mk, x.k = .new b mk ∧ id = base + x.i) ∨ lk id G.bl = some b)
    (hsuf : Suf P bf base sf (D ++ pre ++ [⟨i, .hv rq v H'⟩]) post H' [])
    (hrd : ∀ x ∈ D ++ pre, ∀ rq' v', x.k = .read rq' v' → ¬ S x.i → Rd P rq' v' H')
    {ρ' : Rho} {w' : World} {u : Value} (hg : Goes ρ ⟨G.next, N ++ G.bl⟩ w ρ' H' w')
    (hr : ∀ e ∈ o.after.toList, Region.binds .any e = true → S e.on)
    (hu : ∀ d, o.dst = some d → VRel ρ' (tget sf.a d) u) :
    ∃ bl', Sim P ops bf base sf T a0 act0 ρ0 H0 w0 (fun j => S j ∨ j = i) (act.put o.dst u) w' ρ' (D ++ pre ++ [⟨i, .hv rq v H'⟩]) post H' bl' := by
  classical
  have hf : Fresh ρ G.next := h.goes.fresh
  have hsub : Sub ρ ρ' := Goes.sub (H := ⟨G.next, N ++ G.bl⟩) hg hf
  have hTeq : T = D ++ (pre ++ ⟨i, .hv rq v H'⟩ :: post) := by rw [← h.row, hR]
  have hposT : ∀ x ∈ post, x ∈ T := fun x hx => by rw [hTeq]; simp [hx]
  have hpreT : ∀ x ∈ pre, x ∈ T := fun x hx => by rw [hTeq]; simp [hx]
  have hiT : (⟨i, .hv rq v H'⟩ : Ev) ∈ T := by rw [hTeq]; simp
  -- all numbers differ
  rw [hTeq] at hnd
  simp only [List.map_append, List.map_cons, List.nodup_append, List.nodup_cons, List.mem_append, List.mem_cons, List.mem_map] at hnd
  have hpp : ∀ x ∈ pre, ∀ y ∈ post, x.i ≠ y.i := by
    intro x hx y hy
    exact hnd.2.1.2.2 x.i ⟨x, hx, rfl⟩ y.i (.inr ⟨y, hy, rfl⟩)
  have hip : ∀ y ∈ post, y.i ≠ i := by
    intro y hy e
    exact hnd.2.1.2.1.1 ⟨y, hy, e⟩
  have hRp : ∀ x ∈ post, x ∈ R := fun x hx => by rw [hR]; simp [hx]
  have hRpre : ∀ x ∈ pre, x ∈ R := fun x hx => by rw [hR]; simp [hx]
  -- what the change knew of lies in what is there
  have hcl : ∀ id b, lk id (N ++ G.bl) = some b → lk id bl = some b := by
    intro id b hl
    rcases hN id b hl with ⟨x, hx, mk, hk, rfl⟩ | hl
    · exact h.pend x (hRpre x hx) b mk hk (hpn x hx (by simp [Ev.isNew, hk]))
    · exact h.sub id b hl
  let c : Nat → Bool := fun id => decide (∃ x ∈ post, x.isNew = true ∧ S x.i ∧ id = base + x.i)
  have hc : ∀ id, c id = true ↔ ∃ x ∈ post, x.isNew = true ∧ S x.i ∧ id = base + x.i := fun id => by simp [c]
  have hcn : ∀ x ∈ post, lk (base + x.i) (N ++ G.bl) = none := by
    intro x hx
    cases e : lk (base + x.i) (N ++ G.bl) with
    | none => rfl
    | some b =>
      rcases hN _ b e with ⟨y, hy, mk, hk, e'⟩ | hl
      · exact absurd (by omega) (hpp y hy x hx)
      · rw [h.slots x (hRp x hx)] at hl; cases hl
  have hn : ∀ x ∈ post, base + x.i < G.next := fun x hx => by have := hlen x (hposT x hx); have := h.gn; omega
  have hslots : ∀ x ∈ post, lk (base + x.i) H'.bl = none := by
    intro x hx
    cases e : lk (base + x.i) H'.bl with
    | none => rfl
    | some b =>
      obtain ⟨b0, h0⟩ := hg.dom _ _ e (hn x hx)
      rw [hcn x hx] at h0; cases h0
  have hfr := Goes.frame (pl := bl.filter fun p => c p.1) h.goes.rel hf hg hcl (fun id b hl => by
    rw [lk_filter id c] at hl
    split at hl
    · rename_i hcc
      obtain ⟨x, hx, hnew, hS, rfl⟩ := (hc id).1 hcc
      exact ⟨hl, hcn x hx, hn x hx⟩
    · cases hl)
  have hnext : G.next ≤ H'.next := hg.next
  have hext : ∀ id, id < G.next → ρ' id = ρ id := hg.ext
  refine ⟨(bl.filter fun p => c p.1) ++ H'.bl, ?_⟩
  constructor
  · rw [hTeq]; simp
  · exact hsuf
  · intro e he
    rcases List.mem_append.1 he with he | he
    · refine ⟨fun hv => ?_, fun hv => ?_, fun rq' v' hk hn' => hrd e he rq' v' hk fun hS => hn' (.inl hS)⟩
      · rcases List.mem_append.1 he with he | he
        · exact .inl ((h.gD e he).1 hv)
        · rw [hpre e he] at hv; cases hv
      · rcases List.mem_append.1 he with he | he
        · exact .inl ((h.gD e he).2.1 hv)
        · exact .inl (hpn e he hv)
    · simp at he; subst he
      exact ⟨fun _ => .inr rfl, fun hx => (by cases hx), fun rq' v' hk => by cases hk⟩
  · intro e he hv hS
    rcases hS with hS | hS
    · exact h.gR e (hRp e he) hv hS
    · exact hip e he hS
  · exact h.goes.trans hfr
  · intro id b hl
    rw [lk_app, lk_filter id c]
    split
    · rename_i x hx
      split at hx
      · rename_i hcc
        obtain ⟨y, hy, _, _, rfl⟩ := (hc id).1 hcc
        rw [hslots y hy] at hl; cases hl
      · cases hx
    · exact hl
  · intro e he b mk hk hS
    have hS' : S e.i := by
      rcases hS with hS | hS
      · exact hS
      · exact absurd hS (hip e he)
    rw [lk_app, lk_filter _ c, if_pos ((hc _).2 ⟨e, he, by simp [Ev.isNew, hk], hS', rfl⟩), h.pend e (hRp e he) b mk hk hS']
  · exact hslots
  · intro j hj hS
    rw [hext _ (by have := h.gn; omega)]
    exact h.free j hj fun x => hS (.inl x)
  · have := h.gn; omega
  · intro t ht
    by_cases e : o.dst = some t
    · rw [e]
      simp only [Act.put]
      by_cases hlt : t < act.tmps.size
      · have := hu t e
        simpa [Array.getD_eq_getD_getElem?, hlt] using this
      · rw [tget_over sf.a t (Nat.le_trans h.tl (Nat.le_of_not_lt hlt))]; trivial
    · have : (act.put o.dst u).tmps.getD t undef = act.tmps.getD t undef := by
        cases hd : o.dst with
        | none => rfl
        | some d =>
          have hne : d ≠ t := fun x => e (by rw [hd, x])
          simp [Act.put, Array.getD_eq_getD_getElem?, Array.getElem?_setIfInBounds, hne]
      rw [this]
      refine VRel.mono hsub _ _ (h.tm t fun j hj => ?_)
      rcases ht j hj with hS | rfl
      · exact hS
      · exact absurd (hssa t hj) e
  · intro t j ht hj
    have hne : o.dst ≠ some t := fun e => by
      have := hssb t e
      rw [this] at ht; cases ht
      exact hj (.inr rfl)
    have : (act.put o.dst u).tmps.getD t undef = act.tmps.getD t undef := by
      cases hd : o.dst with
      | none => rfl
      | some d =>
        have hne' : d ≠ t := fun x => hne (by rw [hd, x])
        simp [Act.put, Array.getD_eq_getD_getElem?, Array.getElem?_setIfInBounds, hne']
    rw [this]
    exact VRel.mono hsub _ _ (h.t0 t j ht fun x => hj (.inl x))
  · have := h.tl
    cases o.dst <;> simp [Act.put] <;> omega
  · exact (put_defers _ _ _).trans h.df
  · intro j o' hS ho' e he hb
    rcases hS with hS | rfl
    · exact .inl (h.clo j o' hS ho' e he hb)
    · rw [ho] at ho'; cases ho'; exact .inl (hr e he hb)
  · intro j hS
    rcases hS with hS | rfl
    · exact h.lt j hS
    · rw [nth_eq] at ho; exact (List.getElem?_eq_some_iff.1 ho).1


/-- What is known of a region, out of its text. -/
structure Stat (ops : List Oper) (bf : List Nat) : Prop where
  bfe : bf = befores ops [] ops
  edge : ∀ i o, nth ops i = some o → ∀ e ∈ o.after.toList, Region.binds .any e = true → e.on < i
  ssa : ∀ i o d, nth ops i = some o → o.dst = some d → writer ops d = some i
  look : ∀ i o t j, nth ops i = some o → t ∈ looks ops o → writer ops t = some j → (bit bf i).testBit j = true ∨ (bit bf j).testBit i = true
  wr : ∀ i t, writer ops t = some i → ∃ o, nth ops i = some o ∧ o.dst = some t

/-- What is known of its run. -/
structure Ran (P : Program) (ops : List Oper) (bf : List Nat) (base : Nat) (a0 : Tms) (sf : DSt) (T : List Ev) : Prop where
  all : ∀ i, i < ops.length → ∃ e ∈ T, e.i = i
  nodup : (T.map Ev.i).Nodup
  fact : ∀ e ∈ T, ∃ o, nth ops e.i = some o ∧ Fact P ops (Cof ops bf a0 sf.a e.i) o e.k ∧ ∀ d, o.dst = some d → tget sf.a d = gives base e.i e.k ∨ tget sf.a d = .undef
  suf : ∃ G, Suf P bf base sf [] T G []

theorem Ran.lt (h : Ran P ops bf base a0 sf T) : ∀ e ∈ T, e.i < ops.length := by
  intro e he
  obtain ⟨o, ho, _⟩ := h.fact e he
  rw [nth_eq] at ho
  exact (List.getElem?_eq_some_iff.1 ho).1

theorem mem_same {T : List Ev} (hnd : (T.map Ev.i).Nodup) {x y : Ev} (hx : x ∈ T) (hy : y ∈ T) (h : x.i = y.i) : x = y := by
  induction T with
  | nil => cases hx
  | cons e T ih =>
    simp only [List.map_cons, List.nodup_cons, List.mem_map] at hnd
    rcases List.mem_cons.1 hx with h1 | h1
    · rcases List.mem_cons.1 hy with h2 | h2
      · rw [h1, h2]
      · exact absurd ⟨y, h2, by rw [← h, h1]⟩ hnd.1
    · rcases List.mem_cons.1 hy with h2 | h2
      · exact absurd ⟨x, h1, by rw [h, h2]⟩ hnd.1
      · exact ih hnd.2 h1 h2

theorem sim_step (hst : Stat ops bf) (hran : Ran P ops bf base a0 sf T) (hb0 : base = H0.next) (h : Sim P ops bf base sf T a0 act0 ρ0 H0 w0 S act w ρ D R G bl) {i : Nat} {o : Oper} (ho : nth ops i = some o) (hnS : ¬ S i)
    (hr : ∀ e ∈ o.after.toList, Region.binds .any e = true → S e.on) {Q : Exit → Act → World → Prop} {K : Act → World → Prop}
    (hK : ∀ act' w' ρ' D' R' G' bl', Sim P ops bf base sf T a0 act0 ρ0 H0 w0 (fun j => S j ∨ j = i) act' w' ρ' D' R' G' bl' → K act' w') :
    wpOp P ops.toArray Q i K act w := by
  have hops : ops.toArray[i]? = some o := by simpa [nth_eq] using ho
  have hin : i < ops.length := by rw [nth_eq] at ho; exact (List.getElem?_eq_some_iff.1 ho).1
  have hbits : ∀ j, (bit bf i).testBit j = true → S j := by
    intro j hj
    rw [hst.bfe] at hj
    exact before_ready (S := S) hst.edge (fun j hS => by have := h.lt j hS; exact ⟨ops[j], by rw [nth_eq]; simp [this]⟩) h.clo ho hr j hj
  obtain ⟨e, heT, hei⟩ := hran.all i hin
  obtain ⟨o', ho', hfact, hdst⟩ := hran.fact e heT
  rw [hei, ho] at ho'; cases ho'
  -- what it looks at is there
  have hlk : ∀ t ∈ looks ops o, VRel ρ (Cof ops bf a0 sf.a i t) (act.tmps.getD t undef) := by
    intro t ht
    unfold Cof
    split
    · rename_i j hj
      split
      · rename_i hb
        refine h.t0 t j hj fun hSj => hnS ?_
        rw [hst.bfe] at hb
        exact before_closed (S := S) hst.edge (fun j hS => by have := h.lt j hS; exact ⟨ops[j], by rw [nth_eq]; simp [this]⟩) h.clo (j + 1) j (by omega) hSj i hb
      · rename_i hb
        refine h.tm t fun j' hj' => ?_
        rw [hj] at hj'; cases hj'
        rcases hst.look i o t j ho ht hj with h1 | h1
        · exact hbits j h1
        · exact absurd h1 hb
    · rename_i hn
      exact h.tm t fun j hj => by rw [hn] at hj; cases hj
  have hev : ∀ x ∈ o.op.operands.toList, VRel ρ (evC (Cof ops bf a0 sf.a i) x) (act.eval x) := by
    intro x hx
    cases x with
    | tmp t => exact hlk t (by simp only [looks, List.mem_append, List.mem_filterMap]; exact .inl ⟨.tmp t, hx, rfl⟩)
    | const v => exact ofValue_rel ρ v
    | func f => simp only [evC, ev, Act.eval, VRel]; exact ⟨#[], rfl, trivial⟩
    | global g => trivial
  have hyl : ∀ {j want t b}, o.guard = some (j, want) → (nth ops j).bind (·.dst) = some t → Cof ops bf a0 sf.a i t = .bool b → yielded ops.toArray act.tmps j = some b := by
    intro j want t b hg ht hv
    refine yields (hlk t ?_) ht hv
    simp only [looks, List.mem_append, hg, ht]
    exact .inr (by simp)
  have hwan : Wan ops (Cof ops bf a0 sf.a i) o → Region.wanted o (yielded ops.toArray act.tmps) = true := by
    rintro (hg | ⟨j, want, t, hg, ht, hv⟩)
    · simp [Region.wanted, hg]
    · simp [Region.wanted, hg, hyl hg ht hv]
  have hssa : ∀ t, writer ops t = some i → o.dst = some t := by
    intro t ht
    obtain ⟨o', ho', hd⟩ := hst.wr i t ht
    rw [ho] at ho'; cases ho'; exact hd
  have hssb : ∀ t, o.dst = some t → writer ops t = some i := fun t hd => hst.ssa i o t ho hd
  have hf : Fresh ρ G.next := h.goes.fresh
  have hmem : e ∈ D ∨ e ∈ R := by have := h.row ▸ heT; simpa using this
  have hsame : ∀ x ∈ D ++ R, x.i = i → x = e := fun x hx hxi => mem_same hran.nodup (h.row ▸ hx) heT (by rw [hxi, hei])
  -- nothing new, no change
  have easy : e.isHv = false → e.isNew = false → ∀ u, (∀ d, o.dst = some d → VRel ρ (tget sf.a d) u) → K (act.put o.dst u) w := by
    intro h1 h2 u hu
    refine hK _ _ _ _ _ _ _ (h.next ho hssa hssb h.goes (fun _ _ x => x) h.sub (fun x hx b mk hk hS => ?_) (fun j hj hS => h.free j hj fun x => hS (.inl x)) (fun x hx hxi => by rw [hsame x hx hxi]; exact h1) hr hu)
    rcases hS with hS | hS
    · exact h.pend x hx b mk hk hS
    · rw [← hsame x (by simp [hx]) hS] at h2; simp [Ev.isNew, hk] at h2
  have hval : ∀ {ρ' : Rho} {v : V} {u : Value}, VRel ρ' v u → (∀ d, o.dst = some d → tget sf.a d = v ∨ tget sf.a d = .undef) → ∀ d, o.dst = some d → VRel ρ' (tget sf.a d) u := by
    intro ρ' v u hv hd d hdd
    rcases hd d hdd with e | e
    · rw [e]; exact hv
    · rw [e]; trivial
  unfold wpOp
  rw [hops]
  simp only
  obtain ⟨ei, k⟩ := e
  simp only at hei
  subst hei
  cases k with
  | skip =>
    obtain ⟨j, want, t, hg, ht, hv⟩ := hfact
    have hw : Region.wanted o (yielded ops.toArray act.tmps) = false := by
      rcases hv with hv | hv
      · simp [Region.wanted, hg, hyl hg ht hv]
      · have hlt : VRel ρ (Cof ops bf a0 sf.a ei t) (act.tmps.getD t undef) := hlk t (by
          simp only [looks, List.mem_append, hg, ht]
          exact .inr (by simp))
        simp [Region.wanted, hg, yieldsN hlt ht hv]
    rw [hw]
    simp only [Bool.false_eq_true, if_false]
    exact easy rfl rfl _ (hval (VRel.skipped _) hdst)
  | val v =>
    rw [if_pos (hwan hfact.1)]
    obtain ⟨u, hu, hs⟩ := hfact.2 ρ act.eval hev
    refine .inl ?_
    show o.upon P act K Q ((execOp act.eval o).run P w)
    rw [hs w]
    exact easy rfl rfl u (hval hu hdst)
  | read rq v =>
    rw [if_pos (hwan hfact.1)]
    have hRd : Rd P rq v G := by
      rcases hmem with hm | hm
      · exact (h.gD _ hm).2.2 rq v rfl hnS
      · obtain ⟨pre, post, hR⟩ := List.append_of_mem hm
        have hs := h.suf
        rw [hR] at hs
        obtain ⟨G', N', hs'⟩ := suf_at pre D post _ G [] hs
        have hcond := hs'.2.2.1
        have hpre : ∀ x ∈ pre, x.isHv = false := by
          intro x hx
          cases hv : x.isHv with
          | false => rfl
          | true => exact absurd (hbits _ (hcond x (by simp [hx]) hv)) (h.gR x (by rw [hR]; simp [hx]) hv)
        have hs2 : Suf P bf base sf D ((pre ++ [⟨ei, .read rq v⟩]) ++ post) G [] := by simpa using hs
        obtain ⟨N2, _, _, h3, _⟩ := suf_walk (pre ++ [⟨ei, .read rq v⟩]) D post G [] hs2 (fun x hx => by
          rcases List.mem_append.1 hx with hx | hx
          · exact hpre x hx
          · simp at hx; subst hx; rfl)
        exact h3 ⟨ei, .read rq v⟩ (by simp) rq v rfl
    obtain ⟨u, hu, hvu⟩ := hRd ρ w _ (h.goes.rel.less h.sub) (hfact.2 ρ act.eval hev)
    refine .inl ?_
    show o.upon P act K Q ((execOp act.eval o).run P w)
    rw [hu]
    exact easy rfl rfl u (hval hvu hdst)
  | new b mk =>
    rw [if_pos (hwan hfact.1)]
    obtain ⟨s', hs', hm⟩ := hfact.2 ρ act.eval hev
    obtain ⟨obj, u, size, hrun, hok⟩ := hm w
    have hfree := h.free ei hin hnS
    obtain ⟨hbk, hvu⟩ := hok (base + ei) hfree
    refine .inl ?_
    show o.upon P act K Q ((execOp act.eval o).run P w)
    rw [hs', asNext_run hrun]
    have hgn := h.gn
    refine hK _ _ _ _ _ _ _ (h.next ho hssa hssb (Goes.slot h.goes (id := base + ei) (by rw [hb0]; omega) (by omega) hfree rfl (fun k hk => Go.RowKit.Below.heap_alloc w obj k hk) hbk rfl rfl rfl ?_)
      (Rho.sub_set hfree _) (fun id b' hl => ?_) (fun x hx b' mk' hk hS => ?_) (fun j hj hS => ?_) (fun x hx hxi => by rw [hsame x hx hxi]; rfl) hr (hval hvu hdst))
    · show w.heap.size ≤ (w.heap.push obj).size
      simp
    · rw [lk_cons]
      split
      · rename_i e
        subst e
        have := lk_none h.goes.rel hfree
        rw [h.sub _ _ hl] at this; cases this
      · exact h.sub id b' hl
    · rw [lk_cons]
      by_cases e : x.i = ei
      · have := hsame x (by simp [hx]) e
        subst this
        cases hk
        simp
      · rw [if_neg (by omega)]
        rcases hS with hS | hS
        · exact h.pend x hx b' mk' hk hS
        · exact absurd hS e
    · have hne : j ≠ ei := fun x => hS (.inr x)
      simp only [Rho.set]
      rw [if_neg (by omega)]
      exact h.free j hj fun x => hS (.inl x)
  | hv rq v H' =>
    rw [if_pos (hwan hfact.1)]
    have hm : (⟨ei, .hv rq v H'⟩ : Ev) ∈ R := by
      rcases hmem with hm | hm
      · exact absurd ((h.gD _ hm).1 rfl) hnS
      · exact hm
    obtain ⟨pre, post, hR⟩ := List.append_of_mem hm
    have hs := h.suf
    rw [hR] at hs
    obtain ⟨G1, N1, hs1⟩ := suf_at pre D post _ G [] hs
    have hcond := hs1.2.1
    have hpre : ∀ x ∈ pre, x.isHv = false := by
      intro x hx
      cases hv : x.isHv with
      | false => rfl
      | true => exact absurd (hbits _ (hcond x (by simp [hx]) hv)) (h.gR x (by rw [hR]; simp [hx]) hv)
    obtain ⟨N', hs2, hN, hrdp, hnew, _⟩ := suf_walk pre D _ G [] hs hpre
    obtain ⟨_, hc1, hc2, hex, hrd, hsuf⟩ := hs2
    have hpn : ∀ x ∈ pre, x.isNew = true → S x.i := by
      intro x hx hxn
      obtain ⟨p, hp, e1⟩ := hnew x hx hxn
      obtain ⟨j, e2, hj⟩ := hc2 p hp
      have : j = x.i := by omega
      subst this
      exact hbits _ hj
    have hRpre : ∀ x ∈ pre, x ∈ R := fun x hx => by rw [hR]; simp [hx]
    have hNl : ∀ id b, lk id (N' ++ G.bl) = some b → (∃ x ∈ pre, ∃ mk, x.k = .new b mk ∧ id = base + x.i) ∨ lk id G.bl = some b := fun id b hl => by simpa using hN id b hl
    have hcl : ∀ id b, lk id (N' ++ G.bl) = some b → lk id bl = some b := by
      intro id b hl
      rcases hNl id b hl with ⟨x, hx, mk, hk, rfl⟩ | hl
      · exact h.pend x (hRpre x hx) b mk hk (hpn x hx (by simp [Ev.isNew, hk]))
      · exact h.sub id b hl
    refine .inl ?_
    refine hex ρ w _ (h.goes.rel.less hcl) hf (hfact.2 ρ act.eval hev) o act K Q fun u w' ⟨ρ', hg, hvu⟩ => ?_
    obtain ⟨bl', hsim⟩ := Sim.change h ho hssa hssb hran.nodup hR hpre hpn hran.lt hNl hsuf (fun x hx rq' v' hk hnS' => by
      cases hbx : (bit bf ei).testBit x.i with
      | true => exact absurd (hbits _ hbx) hnS'
      | false => exact hrd x hx rq' v' hk hbx) hg hr (hval hvu hdst)
    exact hK _ _ _ _ _ _ _ hsim


theorem mask_has (f : Nat → Nat) (j : Nat) : ∀ (l : List Edge) (s : Nat), (s.testBit j = true ∨ ∃ e ∈ l, Region.binds .any e = true ∧ e.on = j) →
    (l.foldl (fun s e => cond (Region.binds .any e) (s ||| 2 ^ e.on ||| f e.on) s) s).testBit j = true
  | [], s, h => by
    rcases h with h | ⟨e, he, _⟩
    · exact h
    · cases he
  | e :: l, s, h => by
    simp only [List.foldl_cons]
    refine mask_has f j l _ ?_
    rcases h with h | ⟨e', he', hb, rfl⟩
    · refine .inl ?_
      cases Region.binds .any e with
      | false => exact h
      | true => simp only [cond_true, Nat.testBit_or, h, Bool.true_or]
    · rcases List.mem_cons.1 he' with h1 | h1
      · subst h1
        refine .inl ?_
        rw [hb]
        simp only [cond_true, Nat.testBit_or]
        simp
      · exact .inr ⟨e', h1, hb, rfl⟩

theorem befores_has (ops : List Oper) : ∀ (l : List Oper) (acc : List Nat) (k : Nat) (o : Oper), nth l k = some o →
    ∀ e ∈ o.after.toList, Region.binds .any e = true → (bit (befores ops acc l) (acc.length + k)).testBit e.on = true
  | [], _, _, _, h, _, _, _ => by simp [nth] at h
  | o :: l, acc, 0, o', h, e, he, hb => by
    simp [nth] at h; subst h
    simp only [befores]
    obtain ⟨ext, hx⟩ := befores_ext ops l (acc ++ [maskOf (fun i => (nth acc i).getD 0) o])
    have e0 : (acc ++ [o.after.toList.foldl (fun s e => cond (Region.binds .any e) (s ||| 2 ^ e.on ||| (nth acc e.on).getD 0) s) 0]) = acc ++ [maskOf (fun i => (nth acc i).getD 0) o] := rfl
    rw [e0, hx]
    have e1 : bit (acc ++ [maskOf (fun i => (nth acc i).getD 0) o] ++ ext) (acc.length + 0) = maskOf (fun i => (nth acc i).getD 0) o := by
      simp [bit, nth_eq]
    rw [e1]
    exact mask_has (fun i => (nth acc i).getD 0) e.on o.after.toList 0 (.inr ⟨e, he, hb, rfl⟩)
  | o :: l, acc, k + 1, o', h, e, he, hb => by
    simp only [befores]
    have := befores_has ops l (acc ++ [maskOf (fun i => (nth acc i).getD 0) o]) k o' (by simpa [nth] using h) e he hb
    have e2 : (acc ++ [maskOf (fun i => (nth acc i).getD 0) o]).length + k = acc.length + (k + 1) := by simp; omega
    rw [e2] at this
    exact this

theorem writer_some {ops : List Oper} {t : Tmp} {i : Nat} (h : writer ops t = some i) : ∃ o, nth ops i = some o ∧ o.dst = some t := by
  unfold writer at h
  rw [List.findIdx?_eq_some_iff_getElem] at h
  obtain ⟨hlt, hd, _⟩ := h
  exact ⟨ops[i], by rw [nth_eq]; simp [hlt], by simpa using hd⟩

theorem regionOk_stat {ops : List Oper} {π : List Nat} (h : regionOk ops (befores ops [] ops) π = true) : Stat ops (befores ops [] ops) ∧ ∀ i, i < ops.length → i ∈ π := by
  simp only [regionOk, Bool.and_eq_true, List.all_eq_true] at h
  obtain ⟨⟨⟨⟨⟨h1, h2⟩, h3⟩, h4⟩, h5⟩, h6⟩ := h
  have mem : ∀ {i o}, nth ops i = some o → (o, i) ∈ ops.zipIdx := by
    intro i o ho
    rw [nth_eq] at ho
    rw [List.mem_zipIdx_iff_getElem?]
    exact ho
  refine ⟨⟨rfl, fun i o ho e he hb => ?_, fun i o d ho hd => ?_, fun i o t j ho ht hw => ?_, fun i t hw => writer_some hw⟩, fun i hi => ?_⟩
  · have := h2 _ (mem ho) e he
    simp only [hb, Bool.not_true, Bool.false_or] at this
    exact blt_lt this
  · have := h3 _ (mem ho)
    simp only [hd] at this
    simpa using this
  · have := h4 _ (mem ho) t ht
    simp only [hw, Bool.or_eq_true] at this
    exact this
  · have := h6 i (by simpa using hi)
    simpa using this

theorem filter_le {α : Type} {p p' : α → Bool} (himp : ∀ x, p' x = true → p x = true) : ∀ l : List α, (l.filter p').length ≤ (l.filter p).length
  | [] => by simp
  | z :: l => by
    have ih := filter_le himp l
    simp only [List.filter_cons]
    cases hz : p' z with
    | true => rw [himp z hz]; simpa using ih
    | false =>
      cases hp : p z with
      | true => simp; omega
      | false => simpa using ih

theorem filter_less {α : Type} {p p' : α → Bool} (himp : ∀ x, p' x = true → p x = true) : ∀ {l : List α} {x : α}, x ∈ l → p x = true → p' x = false → (l.filter p').length < (l.filter p).length
  | [], x, hx, _, _ => by cases hx
  | y :: l, x, hx, h1, h2 => by
    have hle := filter_le himp l
    simp only [List.filter_cons]
    rcases List.mem_cons.1 hx with e | hx
    · subst e
      rw [h1, h2]
      simp; omega
    · have ih := filter_less himp hx h1 h2
      cases hz : p' y with
      | true => rw [himp y hz]; simpa using ih
      | false =>
        cases hp : p y with
        | true => simp; omega
        | false => simpa using ih

/-- ALL ORDERS. -/
theorem sim_any (hst : Stat ops bf) (hran : Ran P ops bf base a0 sf T) (hb0 : base = H0.next) {Q : Exit → Act → World → Prop}
    (hQ : ∀ ρ' act' w', Goes ρ0 H0 w0 ρ' ⟨sf.G.next, sf.N ++ sf.G.bl⟩ w' → ARel ρ' sf.a act'.tmps → act'.defers = act0.defers → Q .normal act' w') :
    ∀ (fuel : Nat) (listed : Array Bool) (act : Act) (w : World) (ρ : Rho) (D R : List Ev) (G : Heap) (bl : BL),
      Sim P ops bf base sf T a0 act0 ρ0 H0 w0 (fun i => listed.getD i false = true) act w ρ D R G bl → listed.size = ops.length →
      ((List.range ops.length).filter fun i => !listed.getD i true).length ≤ fuel → wpAny P .any ops.toArray Q fuel listed act w := by
  -- nothing is ready: all is done
  have fin : ∀ (listed : Array Bool) (act : Act) (w : World) (ρ : Rho) (D R : List Ev) (G : Heap) (bl : BL),
      Sim P ops bf base sf T a0 act0 ρ0 H0 w0 (fun i => listed.getD i false = true) act w ρ D R G bl → listed.size = ops.length →
      (∀ i, i < ops.length → listed.getD i false = true) → Q .normal act w := by
    intro listed act w ρ D R G bl h hsz hall
    have hS : ∀ e ∈ T, listed.getD e.i false = true := fun e he => hall e.i (hran.lt e he)
    have hRT : ∀ e ∈ R, e ∈ T := fun e he => by rw [← h.row]; simp [he]
    have hnv : ∀ x ∈ R, x.isHv = false := by
      intro x hx
      cases hv : x.isHv with
      | false => rfl
      | true => exact absurd (hS x (hRT x hx)) (h.gR x hx hv)
    have hsuf := h.suf
    rw [show R = R ++ [] by simp] at hsuf
    obtain ⟨N', hs, hN, _⟩ := suf_walk R D [] G [] hsuf hnv
    obtain ⟨e1, e2⟩ := hs
    refine hQ ρ act w ?_ ⟨h.tl, fun t _ => h.tm t fun j hj => ?_⟩ h.df
    · rw [e1, e2]
      refine h.goes.less fun id b hl => ?_
      rcases hN id b hl with ⟨x, hx, mk, hk, rfl⟩ | hl
      · exact h.pend x hx b mk hk (hS x (hRT x hx))
      · exact h.sub id b (by simpa using hl)
    · obtain ⟨o, ho, _⟩ := hst.wr j t hj
      rw [nth_eq] at ho
      exact hall j (List.getElem?_eq_some_iff.1 ho).1
  have rdy : ∀ (listed : Array Bool) (i : Nat), listed.size = ops.length → (i ∈ Region.ready .any ops.toArray listed ↔ i < ops.length ∧ listed.getD i false = false ∧ ∃ o, nth ops i = some o ∧ ∀ e ∈ o.after.toList, Region.binds .any e = true → listed.getD e.on false = true) := by
    intro listed i hsz
    simp only [Region.ready, List.mem_filter, List.mem_range, List.size_toArray, Bool.and_eq_true, Bool.not_eq_true']
    constructor
    · rintro ⟨hi, hl, hm⟩
      have ho : ops[i]? = some ops[i] := by simp [hi]
      refine ⟨hi, ?_, ops[i], by rw [nth_eq, ho], fun e he hb => ?_⟩
      · have hi' : i < listed.size := by omega
        simpa [Array.getD_eq_getD_getElem?, hi'] using hl
      · simp [hi] at hm
        obtain ⟨k, hk, rfl⟩ := Array.mem_iff_getElem.1 (Array.mem_def.2 he)
        rcases hm k hk with h1 | h1
        · rw [hb] at h1; cases h1
        · simpa [Array.getD_eq_getD_getElem?] using h1
    · rintro ⟨hi, hl, o, ho, he⟩
      refine ⟨hi, ?_, ?_⟩
      · have hi' : i < listed.size := by omega
        simpa [Array.getD_eq_getD_getElem?, hi'] using hl
      · have ho' : ops.toArray[i]? = some o := by simpa [nth_eq] using ho
        rw [ho']
        simp only [Option.map_some, Option.getD_some, Array.all_eq_true]
        intro k hk
        cases hb : Region.binds .any o.after[k] with
        | false => rfl
        | true =>
          simp only [Bool.not_true, Bool.false_or]
          exact he _ (by simp) hb
  have done : ∀ (listed : Array Bool) (act : Act) (w : World) (ρ : Rho) (D R : List Ev) (G : Heap) (bl : BL),
      Sim P ops bf base sf T a0 act0 ρ0 H0 w0 (fun i => listed.getD i false = true) act w ρ D R G bl → listed.size = ops.length →
      Region.ready .any ops.toArray listed = [] → ∀ i, i < ops.length → listed.getD i false = true := by
    intro listed act w ρ D R G bl h hsz hr
    -- the first of the row that isn't done would be ready
    have key : ∀ (R0 D0 : List Ev) (G : Heap) (N : BL), D0 ++ R0 = T → Suf P bf base sf D0 R0 G N → (∀ e ∈ D0, listed.getD e.i false = true) → ∀ e ∈ T, listed.getD e.i false = true := by
      intro R0
      induction R0 with
      | nil => intro D0 G N hD _ hd e he; rw [← hD] at he; simp at he; exact hd e he
      | cons x R0 ih =>
        intro D0 G N hD hs hd
        have hx : listed.getD x.i false = true := by
          cases hl : listed.getD x.i false with
          | true => rfl
          | false =>
            have hxT : x ∈ T := by rw [← hD]; simp
            obtain ⟨o, ho, _⟩ := hran.fact x hxT
            have : x.i ∈ Region.ready .any ops.toArray listed := (rdy listed x.i hsz).2 ⟨hran.lt x hxT, hl, o, ho, fun e he hb => by
              have hbit : (bit bf x.i).testBit e.on = true := by
                rw [hst.bfe]
                simpa using befores_has ops ops [] x.i o ho e he hb
              obtain ⟨y, hy, e1⟩ := hs.1 e.on hbit
              rw [← e1]; exact hd y hy⟩
            rw [hr] at this; cases this
        obtain ⟨_, hs⟩ := hs
        have hd' : ∀ e ∈ D0 ++ [x], listed.getD e.i false = true := by
          intro e he
          rcases List.mem_append.1 he with he | he
          · exact hd e he
          · simp at he; subst he; exact hx
        obtain ⟨xi, k⟩ := x
        cases k with
        | skip => exact ih _ _ _ (by simpa using hD) hs hd'
        | val v => exact ih _ _ _ (by simpa using hD) hs hd'
        | new b mk => exact ih _ _ _ (by simpa using hD) hs hd'
        | read rq v => exact ih _ _ _ (by simpa using hD) hs.2.2 hd'
        | hv rq v H => exact ih _ _ _ (by simpa using hD) hs.2.2.2.2 hd'
    intro i hi
    obtain ⟨e, he, rfl⟩ := hran.all i hi
    obtain ⟨G', hs⟩ := hran.suf
    exact key T [] G' [] (by simp) hs (fun e he => by cases he) e he
  intro fuel
  induction fuel with
  | zero =>
    intro listed act w ρ D R G bl h hsz hc
    have hr : Region.ready .any ops.toArray listed = [] := by
      cases e : Region.ready .any ops.toArray listed with
      | nil => rfl
      | cons i l =>
        have hi : i ∈ Region.ready .any ops.toArray listed := by rw [e]; simp
        obtain ⟨hlt, hl, _⟩ := (rdy listed i hsz).1 hi
        have hmem : i ∈ (List.range ops.length).filter fun i => !listed.getD i true := by
          simp only [List.mem_filter, List.mem_range, Bool.not_eq_true']
          refine ⟨hlt, ?_⟩
          have hi' : i < listed.size := by omega
          simpa [Array.getD_eq_getD_getElem?, hi'] using hl
        have := List.length_pos_of_mem hmem
        omega
    exact ⟨hr, fin _ _ _ _ _ _ _ _ h hsz (done _ _ _ _ _ _ _ _ h hsz hr)⟩
  | succ fuel ih =>
    intro listed act w ρ D R G bl h hsz hc
    refine ⟨fun hr => fin _ _ _ _ _ _ _ _ h hsz (done _ _ _ _ _ _ _ _ h hsz hr), fun i hi => ?_⟩
    obtain ⟨hlt, hl, o, ho, he⟩ := (rdy listed i hsz).1 hi
    refine sim_step hst hran hb0 h ho (fun (h1 : listed.getD i false = true) => by rw [hl] at h1; cases h1) he fun act' w' ρ' D' R' G' bl' hsim => ih _ _ _ ρ' D' R' G' bl' ?_ (by simp [hsz]) ?_
    · have : (fun j => (listed.setIfInBounds i true).getD j false = true) = fun j => listed.getD j false = true ∨ j = i := by
        funext j
        have hi' : i < listed.size := by omega
        by_cases e : j = i
        · subst e; simp [Array.getD_eq_getD_getElem?, hi']
        · simp [Array.getD_eq_getD_getElem?, Array.getElem?_setIfInBounds, Ne.symm e, e]
      rw [this]; exact hsim
    · have hi' : i < listed.size := by omega
      have hl' : listed.getD i true = false := by simpa [Array.getD_eq_getD_getElem?, hi'] using hl
      have := filter_less (p := fun j => !listed.getD j true) (p' := fun j => !(listed.setIfInBounds i true).getD j true) (fun j hj => by
        by_cases e : j = i
        · subst e; simp [Array.getD_eq_getD_getElem?, hi'] at hj
        · simpa [Array.getD_eq_getD_getElem?, Array.getElem?_setIfInBounds, Ne.symm e] using hj) (l := List.range ops.length) (x := i) (by simpa using hlt) (by simp [hl']) (by simp [Array.getD_eq_getD_getElem?, hi'])
      omega


theorem runD_ok (ho : ∀ f, FSound P f (orc f)) (ops : List Oper) (π : List Nat) (a : Tms) (H : Heap) (K : Tms → Heap → Ans) (h : runD P orc ops π a H K = some r) :
    ∃ a' H', K a' H' = some r ∧ ∀ ρ act w, HRel ρ H.bl w → Fresh ρ H.next → ARel ρ a act.tmps → ∀ Q : Exit → Act → World → Prop,
      (∀ ρ' act' w', Goes ρ H w ρ' H' w' → ARel ρ' a' act'.tmps → act'.defers = act.defers → Q .normal act' w') →
      wpAny P .any ops.toArray Q ops.toArray.size (Array.replicate ops.toArray.size false) act w := by
  unfold runD at h
  obtain ⟨hok, h⟩ := ofCond h
  obtain ⟨hst, hall⟩ := regionOk_stat hok
  have hs0 : St H.next [] (⟨a, H.skip ops.length, [], [], 0, 0, 0⟩ : DSt) :=
    ⟨fun j hj => by simp at hj, fun x hx => (List.not_mem_nil hx).elim, fun p hp => (List.not_mem_nil hp).elim, fun x hx => (List.not_mem_nil hx).elim, fun x hx => (List.not_mem_nil hx).elim⟩
  obtain ⟨sf, T, hK, hT, _, hnd, hkeep, hlen, hfact, hsuf⟩ := goD_ok (P := P) ho (fun i o d h1 h2 => hst.ssa i o d h1 h2) (fun i o t j h1 h2 h3 => hst.look i o t j h1 h2 h3) a π [] _ _ hs0 ⟨fun _ _ _ _ => rfl, fun j hj => by simp at hj⟩ h
  have hran : Ran P ops (befores ops [] ops) H.next a sf T := ⟨fun i hi => by
    have := hall i hi
    rw [← hT] at this
    obtain ⟨e, he, e1⟩ := List.mem_map.1 this
    exact ⟨e, he, e1⟩, by rw [hT]; exact hnd, hfact, _, hsuf⟩
  refine ⟨sf.a, _, hK, fun ρ act w hR hf hA Q hQ => ?_⟩
  refine sim_any (P := P) (a0 := a) (act0 := act) (ρ0 := ρ) (H0 := H) (w0 := w) hst hran rfl hQ _ _ act w ρ [] T (H.skip ops.length) H.bl ?_ (by simp) ?_
  · have hS : ∀ i, ¬ (Array.replicate ops.toArray.size false).getD i false = true := by
      intro i
      simp only [Array.getD_eq_getD_getElem?, Array.getElem?_replicate]
      split <;> simp
    constructor
    · rfl
    · exact hsuf
    · intro e he; cases he
    · intro e he hv; exact hS _
    · have hg := Goes.refl hR hf
      exact ⟨hg.rel, hg.ext, fun id hid => hf id (by simp only [Heap.skip] at hid; omega), by simp [Heap.skip], hg.os, hg.tape, hg.output, hg.size, hg.block, hg.own, hg.real, hg.dom⟩
    · exact fun id b hl => hl
    · intro e he b mk hk hs; exact absurd hs (hS _)
    · intro e he
      exact lk_none hR (hf _ (by omega))
    · intro i hi _; exact hf _ (by omega)
    · simp [Heap.skip]
    · intro t ht
      have hwn : writer ops t = none := by
        cases e : writer ops t with
        | none => rfl
        | some j => exact absurd (ht j e) (hS j)
      rw [hkeep t (fun j hj => by rw [hwn] at hj; cases hj)]
      exact hA.get t
    · exact fun t j _ _ => hA.get t
    · rw [hlen]; exact hA.1
    · rfl
    · intro i o hs; exact absurd hs (hS i)
    · intro i hs; exact absurd hs (hS i)
  · have := List.length_filter_le (fun i => !(Array.replicate ops.toArray.size false).getD i true) (List.range ops.length)
    simpa using this

end
end Go.Proofs.Ytminfdcdmgpnjaa.K
