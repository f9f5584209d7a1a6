/- A function's run may be told shorter: new blocks dropped and numbered anew. -/
import Derived.Test.YtminfdcdmgpnjaaK15
set_option linter.unusedVariables false
set_option linter.unusedSimpArgs false
namespace Go.Proofs.Ytminfdcdmgpnjaa.K
open Go

mutual
def V.ren (σ : Nat → Nat) : V → V
  | .ptr id off => .ptr (σ id) off
  | .sl id off len es g => .sl (σ id) off len es g
  | .map id => .map (σ id)
  | .chan id => .chan (σ id)
  | .fn f caps => .fn f (renL σ caps)
  | .iface t v => .iface t (v.ren σ)
  | .agg cs => .agg (renL σ cs)
  | .tup vs => .tup (renL σ vs)
  | .undef => .undef
  | .int k n => .int k n
  | .bool b => .bool b
  | .str s => .str s
  | .nilp => .nilp
  | .nils => .nils
  | .nilm => .nilm
  | .nilc => .nilc
  | .nilf => .nilf
  | .nili => .nili
def renL (σ : Nat → Nat) : List V → List V
  | [] => []
  | v :: vs => v.ren σ :: renL σ vs
end

mutual
/-- All numbers of blocks in it are below n. -/
def V.under (n : Nat) : V → Prop
  | .ptr id _ => id < n
  | .sl id _ _ _ _ => id < n
  | .map id => id < n
  | .chan id => id < n
  | .fn _ caps => underL n caps
  | .iface _ v => v.under n
  | .agg cs => underL n cs
  | .tup vs => underL n vs
  | .undef => True
  | .int _ _ => True
  | .bool _ => True
  | .str _ => True
  | .nilp => True
  | .nils => True
  | .nilm => True
  | .nilc => True
  | .nilf => True
  | .nili => True
def underL (n : Nat) : List V → Prop
  | [] => True
  | v :: vs => v.under n ∧ underL n vs
end

def Blk.ren (σ : Nat → Nat) : Blk → Blk
  | .row cs => .row (renL σ cs)
  | .ro cs => .ro (renL σ cs)
  | .map es => .map (es.map fun (k, v) => (k.ren σ, v.ren σ))
  | .chan n => .chan n
def Blk.under (n : Nat) : Blk → Prop
  | .row cs => underL n cs
  | .ro cs => underL n cs
  | .map es => ∀ p ∈ es, p.1.under n ∧ p.2.under n
  | .chan _ => True

mutual
theorem VRel.ren {σ : Nat → Nat} {n : Nat} {ρ ρ' : Rho} (hr : ∀ id, id < n → ρ' id = ρ (σ id)) : ∀ (v : V) (u : Value), v.under n → VRel ρ (v.ren σ) u → VRel ρ' v u
  | .undef, u, hb, h => trivial
  | .int k m, u, hb, h => by simpa only [VRel, V.ren] using h
  | .bool b, u, hb, h => by simpa only [VRel, V.ren] using h
  | .str s, u, hb, h => by simpa only [VRel, V.ren] using h
  | .nilp, u, hb, h => by simpa only [VRel, V.ren] using h
  | .nils, u, hb, h => by simpa only [VRel, V.ren] using h
  | .nilm, u, hb, h => by simpa only [VRel, V.ren] using h
  | .nilc, u, hb, h => by simpa only [VRel, V.ren] using h
  | .nilf, u, hb, h => by simpa only [VRel, V.ren] using h
  | .nili, u, hb, h => by simpa only [VRel, V.ren] using h
  | .ptr id off, u, hb, h => by simp only [VRel, V.ren, V.under] at *; rw [hr id hb]; exact h
  | .sl id off len es g, u, hb, h => by simp only [VRel, V.ren, V.under] at *; rw [hr id hb]; exact h
  | .map id, u, hb, h => by simp only [VRel, V.ren, V.under] at *; rw [hr id hb]; exact h
  | .chan id, u, hb, h => by simp only [VRel, V.ren, V.under] at *; rw [hr id hb]; exact h
  | .fn f caps, u, hb, h => by
    simp only [VRel, V.ren, V.under] at *
    obtain ⟨a, e, hl⟩ := h
    exact ⟨a, e, LRel.ren hr _ _ hb hl⟩
  | .iface t v, u, hb, h => by
    simp only [VRel, V.ren, V.under] at *
    obtain ⟨x, e, hl⟩ := h
    exact ⟨x, e, VRel.ren hr v x hb hl⟩
  | .agg cs, u, hb, h => by
    simp only [VRel, V.ren, V.under] at *
    obtain ⟨a, e, hl⟩ := h
    exact ⟨a, e, LRel.ren hr _ _ hb hl⟩
  | .tup vs, u, hb, h => by
    simp only [VRel, V.ren, V.under] at *
    obtain ⟨a, e, hl⟩ := h
    exact ⟨a, e, LRel.ren hr _ _ hb hl⟩
theorem LRel.ren {σ : Nat → Nat} {n : Nat} {ρ ρ' : Rho} (hr : ∀ id, id < n → ρ' id = ρ (σ id)) : ∀ (vs : List V) (us : List Value), underL n vs → LRel ρ (renL σ vs) us → LRel ρ' vs us
  | [], [], _, _ => trivial
  | [], _ :: _, _, h => by simp [renL, LRel] at h
  | _ :: _, [], _, h => by simp [renL, LRel] at h
  | v :: vs, u :: us, hb, h => by
    simp only [underL, renL, LRel] at *
    exact ⟨VRel.ren hr v u hb.1 h.1, LRel.ren hr vs us hb.2 h.2⟩
end

mutual
theorem VRel.known {n : Nat} {ρ : Rho} (hf : Fresh ρ n) : ∀ (v : V) (u : Value), VRel ρ v u → v.under n
  | .undef, u, h => trivial
  | .int k m, u, h => trivial
  | .bool b, u, h => trivial
  | .str s, u, h => trivial
  | .nilp, u, h => trivial
  | .nils, u, h => trivial
  | .nilm, u, h => trivial
  | .nilc, u, h => trivial
  | .nilf, u, h => trivial
  | .nili, u, h => trivial
  | .ptr id off, u, h => by
    simp only [VRel, V.under] at *
    obtain ⟨p, hp, _⟩ := h
    exact Nat.lt_of_not_le fun hle => by rw [hf id hle] at hp; cases hp
  | .sl id off len es g, u, h => by
    simp only [VRel, V.under] at *
    obtain ⟨p, A, c, hp, _⟩ := h
    exact Nat.lt_of_not_le fun hle => by rw [hf id hle] at hp; cases hp
  | .map id, u, h => by
    simp only [VRel, V.under] at *
    obtain ⟨p, hp, _⟩ := h
    exact Nat.lt_of_not_le fun hle => by rw [hf id hle] at hp; cases hp
  | .chan id, u, h => by
    simp only [VRel, V.under] at *
    obtain ⟨p, hp, _⟩ := h
    exact Nat.lt_of_not_le fun hle => by rw [hf id hle] at hp; cases hp
  | .fn f caps, u, h => by
    simp only [VRel, V.under] at *
    obtain ⟨a, e, hl⟩ := h
    exact LRel.known hf _ _ hl
  | .iface t v, u, h => by
    simp only [VRel, V.under] at *
    obtain ⟨x, e, hl⟩ := h
    exact VRel.known hf v x hl
  | .agg cs, u, h => by
    simp only [VRel, V.under] at *
    obtain ⟨a, e, hl⟩ := h
    exact LRel.known hf _ _ hl
  | .tup vs, u, h => by
    simp only [VRel, V.under] at *
    obtain ⟨a, e, hl⟩ := h
    exact LRel.known hf _ _ hl
theorem LRel.known {n : Nat} {ρ : Rho} (hf : Fresh ρ n) : ∀ (vs : List V) (us : List Value), LRel ρ vs us → underL n vs
  | [], [], _ => trivial
  | [], _ :: _, h => by simp [LRel] at h
  | _ :: _, [], h => by simp [LRel] at h
  | v :: vs, u :: us, h => by
    simp only [underL, LRel] at *
    exact ⟨VRel.known hf v u h.1, LRel.known hf vs us h.2⟩
end

theorem underL_nth {n : Nat} : ∀ {vs : List V}, (∀ i c, nth vs i = some c → c.under n) → underL n vs
  | [], _ => trivial
  | v :: vs, h => ⟨h 0 v rfl, underL_nth fun i c hc => h (i + 1) c (by simpa [nth] using hc)⟩
theorem underL_get {n : Nat} : ∀ {vs : List V} {i : Nat} {c : V}, underL n vs → nth vs i = some c → c.under n
  | [], i, c, _, h => by simp [nth] at h
  | v :: vs, 0, c, hb, h => by simp [nth] at h; subst h; exact hb.1
  | v :: vs, i + 1, c, hb, h => underL_get (vs := vs) hb.2 (by simpa [nth] using h)
theorem nth_ren {σ : Nat → Nat} : ∀ {vs : List V} {i : Nat}, nth (renL σ vs) i = (nth vs i).map (V.ren σ)
  | [], i => by simp [renL, nth]
  | v :: vs, 0 => by simp [renL, nth]
  | v :: vs, i + 1 => by simp [renL, nth, nth_ren (vs := vs)]
theorem renL_len {σ : Nat → Nat} : ∀ {vs : List V}, (renL σ vs).length = vs.length
  | [] => rfl
  | v :: vs => by simp [renL, renL_len (vs := vs)]

theorem CRel.ren {σ : Nat → Nat} {n : Nat} {ρ ρ' : Rho} (hr : ∀ id, id < n → ρ' id = ρ (σ id)) {cs : List V} {arr : Array Value} (hb : underL n cs) (h : CRel ρ (renL σ cs) arr) : CRel ρ' cs arr := by
  refine ⟨by rw [← renL_len (σ := σ)]; exact h.1, fun i c hc => ?_⟩
  obtain ⟨v, hv, hr'⟩ := h.2 i (c.ren σ) (by rw [nth_ren, hc]; rfl)
  exact ⟨v, hv, VRel.ren hr c v (underL_get hb hc) hr'⟩

theorem ERel.ren {σ : Nat → Nat} {n : Nat} {ρ ρ' : Rho} (hr : ∀ id, id < n → ρ' id = ρ (σ id)) : ∀ {es : List (V × V)} {l : List MapEntry}, (∀ p ∈ es, p.1.under n ∧ p.2.under n) →
    ERel ρ (es.map fun (k, v) => (k.ren σ, v.ren σ)) l → ERel ρ' es l
  | [], [], _, _ => trivial
  | [], _ :: _, _, h => by simp [ERel] at h
  | (_, _) :: _, [], _, h => by simp [ERel] at h
  | (k, v) :: es, e :: l, hb, h => by
    simp only [List.map_cons, ERel] at *
    have := hb (k, v) (by simp)
    exact ⟨VRel.ren hr k _ this.1 h.1, VRel.ren hr v _ this.2 h.2.1, ERel.ren hr (fun p hp => hb p (by simp [hp])) h.2.2⟩

theorem BOk.ren {σ : Nat → Nat} {n : Nat} {ρ ρ' : Rho} (hr : ∀ id, id < n → ρ' id = ρ (σ id)) {w : World} {id : Nat} {b : Blk} (hid : id < n) (hb : b.under n) (h : BOk ρ w (σ id) (b.ren σ)) : BOk ρ' w id b := by
  cases b with
  | row cs =>
    obtain ⟨p, arr, t, hp, ha, hh, hs, hc⟩ := h
    exact ⟨p, arr, t, by rw [hr id hid]; exact hp, ha, hh, hs, hc.ren hr hb⟩
  | ro cs =>
    obtain ⟨p, hp, hc⟩ := h
    refine ⟨p, by rw [hr id hid]; exact hp, fun i c hi => ?_⟩
    obtain ⟨v, hv, hv'⟩ := hc i (c.ren σ) (by rw [nth_ren, hi]; rfl)
    exact ⟨v, hv, VRel.ren hr c v (underL_get hb hi) hv'⟩
  | map es =>
    obtain ⟨p, ents, clock, hp, ha, hh, he⟩ := h
    exact ⟨p, ents, clock, by rw [hr id hid]; exact hp, ha, hh, he.ren hr hb⟩
  | chan m =>
    obtain ⟨p, cap, buf, cl, s, r, hp, x⟩ := h
    exact ⟨p, cap, buf, cl, s, r, by rw [hr id hid]; exact hp, x⟩

theorem ERel.known {n : Nat} {ρ : Rho} (hf : Fresh ρ n) : ∀ {es : List (V × V)} {l : List MapEntry}, ERel ρ es l → ∀ p ∈ es, p.1.under n ∧ p.2.under n
  | [], _, _, p, hp => by cases hp
  | (_, _) :: _, [], h, _, _ => by simp [ERel] at h
  | (k, v) :: es, e :: l, h, p, hp => by
    simp only [ERel] at h
    rcases List.mem_cons.1 hp with rfl | hp
    · exact ⟨VRel.known hf _ _ h.1, VRel.known hf _ _ h.2.1⟩
    · exact ERel.known hf h.2.2 p hp

theorem HRel.known {n : Nat} {ρ : Rho} {bl : BL} {w : World} (h : HRel ρ bl w) (hf : Fresh ρ n) {id : Nat} {b : Blk} (hl : lk id bl = some b) : id < n ∧ b.under n := by
  have hid : id < n := by
    obtain ⟨p, hp⟩ := ldc_id (H := ⟨0, bl⟩) h hl
    exact Nat.lt_of_not_le fun hle => by rw [hf id hle] at hp; cases hp
  refine ⟨hid, ?_⟩
  have hb := h.ok id b hl
  cases b with
  | row cs =>
    obtain ⟨p, arr, t, hp, ha, hh, hs, hc⟩ := hb
    refine underL_nth fun i c hi => ?_
    obtain ⟨v, _, hv⟩ := hc.2 i c hi
    exact VRel.known hf c v hv
  | ro cs =>
    obtain ⟨p, hp, hc⟩ := hb
    refine underL_nth fun i c hi => ?_
    obtain ⟨v, _, hv⟩ := hc i c hi
    exact VRel.known hf c v hv
  | map es =>
    obtain ⟨p, ents, clock, hp, ha, hh, he⟩ := hb
    exact ERel.known hf he
  | chan m => trivial

/-- Told shorter: value and heap v, H2 for the run's v1, H1, begun at H. -/
structure As (H : Heap) (σ : Nat → Nat) (v1 : V) (H1 : Heap) (v : V) (H2 : Heap) : Prop where
  val : v1 = v.ren σ
  vb : v.under H2.next
  next : H.next ≤ H2.next
  old : ∀ id, id < H.next → σ id = id
  new : ∀ id, H.next ≤ id → id < H2.next → H.next ≤ σ id
  inj : ∀ id id', id < H2.next → id' < H2.next → σ id = σ id' → id = id'
  blk : ∀ id b, lk id H2.bl = some b → id < H2.next ∧ lk (σ id) H1.bl = some (b.ren σ) ∧ b.under H2.next
  dom : ∀ id b, lk id H2.bl = some b → id < H.next → ∃ b0, lk id H.bl = some b0

/-- What holds of arguments and heap at every call. -/
structure WF (vs : List V) (H : Heap) : Prop where
  vs : underL H.next vs
  bl : ∀ id b, lk id H.bl = some b → id < H.next ∧ b.under H.next

abbrev pureK : V → Heap → Ans := fun v H => some (v, H)

theorem FSound.as {P : Program} {f : FuncId} {M S : FnM} (hM : FSound P f M)
    (hS : ∀ vs H K r, S vs H K = some r → ∃ v H2, K v H2 = some r ∧ (WF vs H → ∃ σ v1 H1, M vs H pureK = some (v1, H1) ∧ As H σ v1 H1 v H2)) : FSound P f S := by
  intro vs H K r h
  obtain ⟨v, H2, hk, hw⟩ := hS vs H K r h
  refine ⟨v, H2, hk, fun ρ w us hR hf hl => ?_⟩
  obtain ⟨σ, v1, H1, hm, ha⟩ := hw ⟨LRel.known hf _ _ hl, fun id b hb => hR.known hf hb⟩
  obtain ⟨v1', H1', e, hs⟩ := hM vs H pureK _ hm
  cases e
  have hsem := hs ρ w us hR hf hl
  have conv : ∀ u w', (∃ ρ', Goes ρ H w ρ' H1 w' ∧ VRel ρ' v1 u) → ∃ ρ', Goes ρ H w ρ' H2 w' ∧ VRel ρ' v u := by
    rintro u w' ⟨ρ1, hg, hv⟩
    let ρ2 : Rho := fun id => if id < H2.next then ρ1 (σ id) else Option.none
    have hr : ∀ id, id < H2.next → ρ2 id = ρ1 (σ id) := fun id hid => by simp [ρ2, hid]
    refine ⟨ρ2, ?_, VRel.ren hr v u ha.vb (by rw [← ha.val]; exact hv)⟩
    have hold : ∀ id, id < H.next → ρ2 id = ρ id := fun id hid => by
      rw [hr id (Nat.lt_of_lt_of_le hid ha.next), ha.old id hid]; exact hg.ext id hid
    have own_ren : ∀ b : Blk, (b.ren σ).own = b.own := fun b => by cases b <;> rfl
    have real_ren : ∀ b : Blk, (b.ren σ).real = b.real := fun b => by
      cases b with
      | ro cs => cases cs <;> rfl
      | _ => rfl
    constructor
    · constructor
      · intro id b hb
        obtain ⟨hid, hl1, hbb⟩ := ha.blk id b hb
        exact (hg.rel.ok _ _ hl1).ren hr hid hbb
      · intro id b hb ho id' b' hb' hr' hne p p' hp hp'
        obtain ⟨hid, hl1, _⟩ := ha.blk id b hb
        obtain ⟨hid', hl1', _⟩ := ha.blk id' b' hb'
        rw [hr id hid] at hp
        rw [hr id' hid'] at hp'
        exact hg.rel.inj _ _ hl1 (by rw [own_ren]; exact ho) _ _ hl1' (by rw [real_ren]; exact hr') (fun e => hne (ha.inj id id' hid hid' e)) p p' hp hp'
    · exact hold
    · intro id hid; simp only [ρ2]; rw [if_neg (by omega)]
    · exact ha.next
    · exact hg.os
    · exact hg.tape
    · exact hg.output
    · exact hg.size
    · exact hg.block
    · rintro k hk ⟨id, b, p, hb, ho, hp, e⟩
      obtain ⟨hid, hl1, _⟩ := ha.blk id b hb
      rw [hr id hid] at hp
      exact hg.own k hk ⟨_, _, p, hl1, by rw [own_ren]; exact ho, hp, e⟩
    · rintro k hk ⟨id, b, p, hb, ho, hp, e⟩
      obtain ⟨hid, hl1, _⟩ := ha.blk id b hb
      rw [hr id hid] at hp
      exact hg.real k hk ⟨_, _, p, hl1, by rw [real_ren]; exact ho, hp, e⟩
    · exact ha.dom
  rcases hsem with ⟨fn, h1, h2, h3, h4⟩ | ⟨u, w', h1, h2⟩
  · exact .inl ⟨fn, h1, h2, h3, h4.mono fun e w' ⟨u, hu, hx⟩ => ⟨u, hu, conv u w' hx⟩⟩
  · exact .inr ⟨u, w', h1, conv u w' h2⟩

mutual
theorem ren_id : ∀ v : V, v.ren id = v
  | .ptr _ _ | .sl _ _ _ _ _ | .map _ | .chan _ | .undef | .int _ _ | .bool _ | .str _ | .nilp | .nils | .nilm | .nilc | .nilf | .nili => by simp [V.ren]
  | .fn f caps => by simp [V.ren, renL_id caps]
  | .iface t v => by simp [V.ren, ren_id v]
  | .agg cs => by simp [V.ren, renL_id cs]
  | .tup vs => by simp [V.ren, renL_id vs]
theorem renL_id : ∀ vs : List V, renL id vs = vs
  | [] => rfl
  | v :: vs => by simp [renL, ren_id v, renL_id vs]
end
theorem blk_ren_id (b : Blk) : b.ren id = b := by
  cases b with
  | row cs => simp [Blk.ren, renL_id]
  | ro cs => simp [Blk.ren, renL_id]
  | map es =>
    simp only [Blk.ren]
    congr 1
    induction es with
    | nil => rfl
    | cons p es ih => obtain ⟨k, v⟩ := p; simp [ren_id, ih]
  | chan n => rfl

/-- A function that leaves the heap as it was, but for new blocks that nobody sees. -/
theorem As.pure {H H1 : Heap} {v : V} (hv : v.under H.next) (hbl : ∀ id b, lk id H.bl = some b → lk id H1.bl = some b) (hw : ∀ id b, lk id H.bl = some b → id < H.next ∧ b.under H.next) : As H id v H1 v H where
  val := (ren_id v).symm
  vb := hv
  next := Nat.le_refl _
  old := fun _ _ => rfl
  new := fun _ h _ => h
  inj := fun _ _ _ _ h => h
  blk := fun id b hb => ⟨(hw id b hb).1, by rw [blk_ren_id]; exact hbl id b hb, (hw id b hb).2⟩
  dom := fun id b hb _ => ⟨b, hb⟩

end Go.Proofs.Ytminfdcdmgpnjaa.K
