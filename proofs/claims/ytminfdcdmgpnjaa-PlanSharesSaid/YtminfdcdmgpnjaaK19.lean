/- Arguments that can be read as data: plain values over read-only blocks. -/
import Derived.Test.YtminfdcdmgpnjaaK22
import Derived.ChangeReads
set_option linter.unusedVariables false
set_option linter.unusedSimpArgs false
namespace Go.Proofs.Ytminfdcdmgpnjaa.K
open Go

/-- Fields one behind the other. -/
def ctg (P : Program) : List Field → Nat → Nat → Bool
  | [], off, n => Nat.beq off n
  | f :: fs, off, n => Nat.beq f.offset off && ctg P fs (off + sz P f.type) n

/-- Types that are read here. -/
def okT (P : Program) : Nat → TypeId → Bool
  | 0, _ => false
  | d + 1, t => match P.underlying t with
    | some (.int _) | some .bool | some .string => Nat.beq (sz P t) 1
    | some (.slice e) => Nat.beq (sz P t) 1 && Nat.blt 0 (sz P e) && okT P d e
    | some (.struct fs) => ctg P fs.toList 0 (sz P t) && fs.toList.all fun f => okT P d f.type
    | _ => false

def partsOk (Q : TypeId → List V → Prop) : List Field → List (List V) → Prop
  | [], [] => True
  | f :: fs, c :: cs => Q f.type c ∧ partsOk Q fs cs
  | _, _ => False

/-- The cells are a datum of the type; what they point to lies in read-only blocks. -/
def Cells (P : Program) : Nat → TypeId → List V → BL → Prop
  | 0, _, _, _ => False
  | d + 1, t, cs, bl => match P.underlying t with
    | some (.int k) => ∃ n, (Lit.int k n).wf = true ∧ cs = [.int k n]
    | some .bool => ∃ b, cs = [.bool b]
    | some .string => ∃ s : List Nat, s.length ≤ Go.maxLen ∧ (∀ x ∈ s, x < 256) ∧ cs = [.str s]
    | some (.slice e) => cs = [.nils] ∨ ∃ id n, ∃ ls : List (List V), cs = [.sl id 0 n (sz P e) false] ∧ lk id bl = some (.ro ls.flatten) ∧ n ≤ Go.maxLen ∧ ls.length = n ∧ ∀ c ∈ ls, Cells P d e c bl
    | some (.struct fs) => ∃ parts : List (List V), cs = parts.flatten ∧ partsOk (fun t c => Cells P d t c bl) fs.toList parts
    | _ => False

theorem partsOk.mono {Q Q' : TypeId → List V → Prop} : ∀ {fs : List Field} {cs : List (List V)}, (∀ f ∈ fs, ∀ c, Q f.type c → Q' f.type c) → partsOk Q fs cs → partsOk Q' fs cs
  | [], [], _, h => h
  | [], _ :: _, _, h => h
  | _ :: _, [], _, h => h
  | f :: fs, c :: cs, hq, h => ⟨hq f (by simp) c h.1, partsOk.mono (fun f' hf => hq f' (by simp [hf])) h.2⟩


theorem Cells.mono {P : Program} {bl bl' : BL} (hl : Les bl bl') : ∀ {d : Nat} {t : TypeId} {cs : List V}, Cells P d t cs bl → Cells P d t cs bl'
  | 0, _, _, h => h
  | d + 1, t, cs, h => by
    unfold Cells at h ⊢
    split at h
    · exact h
    · exact h
    · exact h
    · rcases h with h | ⟨id, n, ls, h1, h2, h3, h4, h5⟩
      · exact .inl h
      · exact .inr ⟨id, n, ls, h1, hl _ _ h2, h3, h4, fun c hc => Cells.mono hl (h5 c hc)⟩
    · obtain ⟨parts, h1, h2⟩ := h
      exact ⟨parts, h1, h2.mono fun f _ c hc => Cells.mono hl hc⟩
    · cases h

theorem parts_len {P : Program} {Q : TypeId → List V → Prop} : ∀ {fs : List Field} {cs : List (List V)} {off n : Nat}, (∀ f ∈ fs, ∀ c, Q f.type c → c.length = sz P f.type) → partsOk Q fs cs → ctg P fs off n = true →
    off + cs.flatten.length = n
  | [], [], off, n, _, _, h => by simp only [ctg] at h; simp [beq_eq h]
  | [], _ :: _, _, _, _, h, _ => h.elim
  | _ :: _, [], _, _, _, h, _ => h.elim
  | f :: fs, c :: cs, off, n, hq, h, hc => by
    simp only [ctg, Bool.and_eq_true] at hc
    have := parts_len (fun f' hf => hq f' (by simp [hf])) h.2 hc.2
    have h1 := hq f (by simp) c h.1
    simp only [List.flatten_cons, List.length_append]
    omega

theorem Cells.len {P : Program} {bl : BL} : ∀ {d : Nat} {t : TypeId} {cs : List V}, okT P d t = true → Cells P d t cs bl → cs.length = sz P t
  | 0, _, _, _, h => h.elim
  | d + 1, t, cs, ho, h => by
    unfold Cells at h
    unfold okT at ho
    split at h
    · rename_i k e
      rw [e] at ho
      obtain ⟨n, _, rfl⟩ := h
      simpa using (beq_eq ho).symm
    · rename_i e
      rw [e] at ho
      obtain ⟨n, rfl⟩ := h
      simpa using (beq_eq ho).symm
    · rename_i e
      rw [e] at ho
      obtain ⟨n, _, _, rfl⟩ := h
      simpa using (beq_eq ho).symm
    · rename_i e' e
      rw [e] at ho
      simp only [Bool.and_eq_true] at ho
      rcases h with rfl | ⟨id, n, ls, rfl, _⟩ <;> simpa using (beq_eq ho.1.1).symm
    · rename_i fs e
      rw [e] at ho
      simp only [Bool.and_eq_true, List.all_eq_true] at ho
      obtain ⟨parts, rfl, h2⟩ := h
      have := parts_len (P := P) (fun f hf c hc => Cells.len (ho.2 f hf) hc) h2 ho.1
      simpa using this
    · cases h

theorem addr_add (a : Addr) (x y : Nat) : (a.add x).add y = a.add (x + y) := by
  unfold Addr.add
  by_cases hx : x = 0
  · subst hx; simp
  · by_cases hy : y = 0
    · subst hy; simp [hx]
    · simp [hx, hy]; omega

theorem nth_flatten {s : Nat} (hs : 0 < s) : ∀ {ls : List (List V)} {i : Nat} {c : V}, (∀ l ∈ ls, l.length = s) → nth ls.flatten i = some c → ∃ l, nth ls (i / s) = some l ∧ nth l (i % s) = some c
  | [], i, c, _, h => by simp [nth] at h
  | l :: ls, i, c, hl, h => by
    rw [List.flatten_cons, nth_append] at h
    have hl1 := hl l (by simp)
    split at h
    · rename_i hlt
      rw [hl1] at hlt
      exact ⟨l, by rw [Nat.div_eq_of_lt hlt]; rfl, by rw [Nat.mod_eq_of_lt hlt]; exact h⟩
    · rename_i hge
      rw [hl1] at hge h
      obtain ⟨l', h1, h2⟩ := nth_flatten hs (fun x hx => hl x (by simp [hx])) h
      have e : i = (i - s) + s := by omega
      refine ⟨l', ?_, ?_⟩
      · rw [e, Nat.add_div_right _ hs]; exact h1
      · rw [e, Nat.add_mod_right]; exact h2

theorem mapM_len {α β : Type} {f : α → Option β} : ∀ {l : List α} {r : List β}, l.mapM f = some r → r.length = l.length
  | [], r, h => by simp at h; subst h; rfl
  | a :: l, r, h => by
    simp only [List.mapM_cons, Option.bind_eq_bind, Option.bind_eq_some_iff] at h
    obtain ⟨b, _, r', hr, e⟩ := h
    simp at e; subst e
    simp [mapM_len hr]
theorem mapM_nth {α β : Type} {f : α → Option β} : ∀ {l : List α} {r : List β}, l.mapM f = some r → ∀ (i : Nat) (a : α), l[i]? = some a → ∃ b, r[i]? = some b ∧ f a = some b
  | [], r, h, i, a, ha => by simp at ha
  | x :: l, r, h, i, a, ha => by
    simp only [List.mapM_cons, Option.bind_eq_bind, Option.bind_eq_some_iff] at h
    obtain ⟨b, hb, r', hr, e⟩ := h
    simp at e; subst e
    cases i with
    | zero => simp at ha; subst ha; exact ⟨b, by simp, hb⟩
    | succ i => simp at ha; obtain ⟨b', h1, h2⟩ := mapM_nth hr i a ha; exact ⟨b', by simpa using h1, h2⟩

/-- Values known over a memory: read-only blocks alone. -/
structure RoSt (w : World) (ρ : Rho) (n : Nat) (bl : BL) : Prop where
  rel : HRel ρ bl w
  fresh : Fresh ρ n
  ro : ∀ id b, lk id bl = some b → id < n ∧ b.own = false

structure Grow (ρ : Rho) (n : Nat) (bl : BL) (ρ' : Rho) (n' : Nat) (bl' : BL) : Prop where
  next : n ≤ n'
  sub : Sub ρ ρ'
  les : Les bl bl'

theorem Grow.refl {ρ : Rho} {n : Nat} {bl : BL} : Grow ρ n bl ρ n bl := ⟨Nat.le_refl _, fun _ _ h => h, fun _ _ h => h⟩
theorem Grow.trans {ρ ρ1 ρ2 : Rho} {n n1 n2 : Nat} {bl bl1 bl2 : BL} (a : Grow ρ n bl ρ1 n1 bl1) (b : Grow ρ1 n1 bl1 ρ2 n2 bl2) : Grow ρ n bl ρ2 n2 bl2 :=
  ⟨Nat.le_trans a.next b.next, fun i p h => b.sub i p (a.sub i p h), fun i x h => b.les i x (a.les i x h)⟩

theorem RoSt.empty (w : World) : RoSt w (fun _ => none) 0 [] :=
  ⟨⟨fun id b h => by simp [lk] at h, fun id b h => by simp [lk] at h⟩, fun _ _ => rfl, fun id b h => by simp [lk] at h⟩

/-- One read-only block more. -/
theorem RoSt.add {w : World} {ρ : Rho} {n : Nat} {bl : BL} (h : RoSt w ρ n bl) (a : Addr) (size : Nat) (cs : List V)
    (hc : ∀ i c, nth cs i = some c → ∃ v, w.cell? (a.add i) = some v ∧ VRel ρ c v) :
    RoSt w (ρ.set n ⟨a, size⟩) (n + 1) ((n, .ro cs) :: bl) ∧ Grow ρ n bl (ρ.set n ⟨a, size⟩) (n + 1) ((n, .ro cs) :: bl) := by
  have hn : ρ n = none := h.fresh n (Nat.le_refl _)
  have hs : Sub ρ (ρ.set n ⟨a, size⟩) := Rho.sub_set hn _
  have hne : ∀ id b, lk id bl = some b → id ≠ n := fun id b hb => by have := (h.ro id b hb).1; omega
  refine ⟨⟨⟨fun id b hb => ?_, fun id b hb ho => ?_⟩, fun id hid => ?_, fun id b hb => ?_⟩, Nat.le_succ _, hs, fun id b hb => ?_⟩
  · rw [lk_cons] at hb
    split at hb
    · rename_i e; subst e; cases hb
      refine ⟨⟨a, size⟩, by simp [Rho.set], fun i c hi => ?_⟩
      obtain ⟨v, h1, h2⟩ := hc i c hi
      exact ⟨v, h1, VRel.mono hs _ _ h2⟩
    · exact (h.rel.ok id b hb).sub hs
  · rw [lk_cons] at hb
    split at hb
    · cases hb; cases ho
    · rw [(h.ro id b hb).2] at ho; cases ho
  · simp only [Rho.set]; rw [if_neg (by omega)]; exact h.fresh id (by omega)
  · rw [lk_cons] at hb
    split at hb
    · rename_i e; subst e; cases hb; exact ⟨by omega, rfl⟩
    · have := h.ro id b hb; exact ⟨by omega, this.2⟩
  · rw [lk_cons, if_neg (hne id b hb)]; exact hb

section
variable {H : Type} {enc : TypeId × Value → H} {P : Program} {w : World} {base : Nat} {spare : Nat → Bool} {held : Bool}

def Reads (P : Program) (w : World) (d : Nat) (t : TypeId) (cs : List Value) : Prop :=
  ∀ ρ n bl, RoSt w ρ n bl → ∃ ρ' n' bl' vs, RoSt w ρ' n' bl' ∧ Grow ρ n bl ρ' n' bl' ∧ LRel ρ' vs cs ∧ Cells P d t vs bl'

theorem reads_fields {d : Nat} {cs : List Value} : ∀ (fs : List Field) (off n : Nat), ctg P fs off n = true → (∀ f ∈ fs, Reads P w d f.type ((cs.drop f.offset).take (sz P f.type))) →
    (∀ f ∈ fs, okT P d f.type = true) → n = cs.length → off ≤ n →
    ∀ ρ nx bl, RoSt w ρ nx bl → ∃ ρ' n' bl' parts, RoSt w ρ' n' bl' ∧ Grow ρ nx bl ρ' n' bl' ∧ LRel ρ' parts.flatten (cs.drop off) ∧ partsOk (fun t c => Cells P d t c bl') fs parts
  | [], off, n, hc, _, _, hn, _, ρ, nx, bl, h => by
    simp only [ctg] at hc
    have := beq_eq hc
    refine ⟨ρ, nx, bl, [], h, Grow.refl, ?_, trivial⟩
    rw [List.drop_eq_nil_of_le (by omega)]
    trivial
  | f :: fs, off, n, hc, hr, ho, hn, hle, ρ, nx, bl, h => by
    simp only [ctg, Bool.and_eq_true] at hc
    have he := beq_eq hc.1
    obtain ⟨ρ1, n1, bl1, vs, h1, g1, l1, c1⟩ := hr f (by simp) ρ nx bl h
    have hle2 : off + sz P f.type ≤ n := by
      have key : ∀ (fs : List Field) (o n : Nat), ctg P fs o n = true → o ≤ n := by
        intro fs
        induction fs with
        | nil => intro o n h; simp only [ctg] at h; exact Nat.le_of_eq (beq_eq h)
        | cons f fs ih => intro o n h; simp only [ctg, Bool.and_eq_true] at h; have := ih _ _ h.2; omega
      exact key _ _ _ hc.2
    obtain ⟨ρ2, n2, bl2, parts, h2, g2, l2, c2⟩ := reads_fields fs _ n hc.2 (fun f' hf => hr f' (by simp [hf])) (fun f' hf => ho f' (by simp [hf])) hn hle2 ρ1 n1 bl1 h1
    refine ⟨ρ2, n2, bl2, vs :: parts, h2, g1.trans g2, ?_, c1.mono g2.les, c2⟩
    have e : cs.drop off = (cs.drop off).take (sz P f.type) ++ cs.drop (off + sz P f.type) := by
      rw [← List.drop_drop, List.take_append_drop]
    rw [e, List.flatten_cons]
    rw [he] at l1
    exact (LRel.mono g2.sub _ _ l1).append l2

theorem reads_elems {d : Nat} {e : TypeId} : ∀ (l : List (List Value)), (∀ c ∈ l, Reads P w d e c) →
    ∀ ρ nx bl, RoSt w ρ nx bl → ∃ ρ' n' bl' ls, RoSt w ρ' n' bl' ∧ Grow ρ nx bl ρ' n' bl' ∧ ls.length = l.length ∧ (∀ c ∈ ls, Cells P d e c bl') ∧ ∀ i c, nth ls i = some c → ∃ v, l[i]? = some v ∧ LRel ρ' c v
  | [], _, ρ, nx, bl, h => ⟨ρ, nx, bl, [], h, Grow.refl, rfl, fun c hc => (by cases hc), fun i c hc => by simp [nth] at hc⟩
  | x :: l, hr, ρ, nx, bl, h => by
    obtain ⟨ρ1, n1, bl1, vs, h1, g1, l1, c1⟩ := hr x (by simp) ρ nx bl h
    obtain ⟨ρ2, n2, bl2, ls, h2, g2, e2, c2, m2⟩ := reads_elems l (fun c hc => hr c (by simp [hc])) ρ1 n1 bl1 h1
    refine ⟨ρ2, n2, bl2, vs :: ls, h2, g1.trans g2, by simp [e2], fun c hc => ?_, fun i c hc => ?_⟩
    · rcases List.mem_cons.1 hc with rfl | hc
      · exact c1.mono g2.les
      · exact c2 c hc
    · cases i with
      | zero => simp [nth] at hc; subst hc; exact ⟨x, by simp, LRel.mono g2.sub _ _ l1⟩
      | succ i => obtain ⟨v, hv, hl⟩ := m2 i c (by simpa [nth] using hc); exact ⟨v, by simpa using hv, hl⟩

/-- WHAT CAN BE READ AS DATA IS A PLAIN VALUE OVER READ-ONLY BLOCKS. -/
theorem trod_reads : ∀ (n d : Nat) (t : TypeId) (cs : List Value) (x : DataW H × List MemPlace), okT P d t = true → DataW.trod enc P w base spare held n t cs = some x → Reads P w d t cs
  | 0, d, t, cs, x, _, h => by simp [DataW.trod] at h
  | n + 1, 0, t, cs, x, ho, h => by simp [okT] at ho
  | n + 1, d + 1, t, cs, x, ho, h => by
    intro ρ nx bl hst
    rw [DataW.trod_step] at h
    unfold DataW.trodStep at h
    unfold okT at ho
    unfold Cells
    split at ho
    · rename_i k e
      rw [e] at h
      simp only at h
      rcases cs with _ | ⟨c, _ | ⟨c2, cs⟩⟩
      · simp at h
      rotate_left
      · simp at h
      cases c <;> first | (exfalso; simp at h; done) | skip
      simp only at h
      split at h
      · rename_i hk
        obtain ⟨rfl, hw⟩ := hk
        exact ⟨ρ, nx, bl, [.int _ _], hst, Grow.refl, ⟨rfl, trivial⟩, _, hw, rfl⟩
      · cases h
    · rename_i e
      rw [e] at h
      simp only at h
      rcases cs with _ | ⟨c, _ | ⟨c2, cs⟩⟩
      · simp at h
      rotate_left
      · simp at h
      cases c <;> first | (exfalso; simp at h; done) | skip
      exact ⟨ρ, nx, bl, [.bool _], hst, Grow.refl, ⟨rfl, trivial⟩, _, rfl⟩
    · rename_i e
      rw [e] at h
      simp only at h
      rcases cs with _ | ⟨c, _ | ⟨c2, cs⟩⟩
      · simp at h
      rotate_left
      · simp at h
      cases c <;> first | (exfalso; simp at h; done) | skip
      rename_i s
      simp only at h
      split at h
      · rename_i hk
        refine ⟨ρ, nx, bl, [.str (s.data.toList.map UInt8.toNat)], hst, Grow.refl, ⟨⟨s, rfl, rfl⟩, trivial⟩, _, ?_, ?_, rfl⟩
        · rw [List.length_map]; exact hk
        · intro x hx
          obtain ⟨y, _, rfl⟩ := List.mem_map.1 hx
          exact y.toNat_lt
      · cases h
    · rename_i el e
      rw [e] at h
      simp only at h
      simp only [Bool.and_eq_true] at ho
      rcases cs with _ | ⟨c, _ | ⟨c2, cs⟩⟩
      · simp at h
      rotate_left
      · simp at h
      cases c <;> first | (exfalso; simp at h; done) | skip
      rename_i ad len cap
      rcases ad with _ | a
      · rcases len with _ | len
        · rcases cap with _ | cap
          · exact ⟨ρ, nx, bl, [.nils], hst, Grow.refl, ⟨rfl, trivial⟩, .inl rfl⟩
          · simp at h
        · simp at h
      · simp only at h
        split at h
        · rename_i hb
          obtain ⟨hb1, hb2, hb3⟩ := hb
          simp only [Option.bind_eq_some_iff] at h
          obtain ⟨elems, hm, _⟩ := h
          have hs : 0 < sz P el := blt_lt ho.1.2
          -- the elements' cells
          have hcells : ∀ i, i < len → ∃ cs' y, w.cells? base (a.add (i * P.cellsOf el)) (P.cellsOf el) = some cs' ∧ DataW.trod enc P w base spare held n el cs' = some y := by
            intro i hi
            obtain ⟨y, _, hy⟩ := mapM_nth hm i i (by simp [hi])
            rw [Option.bind_eq_some_iff] at hy
            obtain ⟨cs', h1, h2⟩ := hy
            exact ⟨cs', y, h1, h2⟩
          let row : Nat → List Value := fun i => (w.cells? base (a.add (i * P.cellsOf el)) (P.cellsOf el)).getD []
          have hrow : ∀ i, i < len → w.cells? base (a.add (i * P.cellsOf el)) (P.cellsOf el) = some (row i) := by
            intro i hi
            obtain ⟨cs', _, h1, _⟩ := hcells i hi
            simp [row, h1]
          obtain ⟨ρ1, n1, bl1, ls, h1, g1, e1, c1, m1⟩ := reads_elems (P := P) (w := w) (d := d) (e := el) ((List.range len).map row) (fun c hc => by
            obtain ⟨i, hi, rfl⟩ := List.mem_map.1 hc
            have hi' : i < len := by simpa using hi
            obtain ⟨cs', y, h1, h2⟩ := hcells i hi'
            have : row i = cs' := by simp [row, h1]
            rw [this]
            exact trod_reads n d el cs' y ho.2 h2) ρ nx bl hst
          have e1' : ls.length = len := by simpa using e1
          obtain ⟨h2, g2⟩ := h1.add a (len * sz P el) ls.flatten (by
            intro i c hc
            obtain ⟨l, hl1, hl2⟩ := nth_flatten hs (fun l hl => Cells.len ho.2 (c1 l hl)) hc
            obtain ⟨v, hv, hlr⟩ := m1 _ _ hl1
            have hlt : i / sz P el < len := by
              rw [nth_eq] at hl1
              have := (List.getElem?_eq_some_iff.1 hl1).1
              omega
            have hvr : v = row (i / sz P el) := by simpa [hlt] using hv.symm
            obtain ⟨u, hu, hur⟩ := hlr.nth hl2
            refine ⟨u, ?_, hur⟩
            have hc := hrow _ hlt
            unfold World.cells? at hc
            split at hc
            · have hjl : i % sz P el < P.cellsOf el := Nat.mod_lt _ hs
              obtain ⟨b, hb1, hb2⟩ := mapM_nth hc (i % sz P el) (i % sz P el) (by simp [hjl])
              rw [hvr, hb1] at hu
              cases hu
              rw [addr_add] at hb2
              rw [← hb2]
              congr 2
              show i = i / sz P el * sz P el + i % sz P el
              exact (Nat.div_add_mod' i (sz P el)).symm
            · cases hc)
          refine ⟨_, _, _, [.sl n1 0 len (sz P el) false], h2, g1.trans g2, ⟨?_, trivial⟩, .inr ⟨n1, len, ls, rfl, by rw [lk_cons, if_pos rfl], Nat.le_trans hb2 hb3, e1', fun c hc => (c1 c hc).mono g2.les⟩⟩
          refine ⟨⟨a, len * sz P el⟩, a, cap, by simp [Rho.set], rfl, hb2, fun h => (by cases h), fun _ => ?_⟩
          simp [Addr.add]
        · cases h
    · rename_i fs e
      rw [e] at h
      simp only at h
      simp only [Bool.and_eq_true, List.all_eq_true] at ho
      split at h
      · rename_i hlen
        simp only [Option.map_eq_some_iff] at h
        obtain ⟨xs, hm, _⟩ := h
        obtain ⟨ρ', n', bl', parts, h1, g1, l1, c1⟩ := reads_fields (P := P) (w := w) (d := d) (cs := cs) fs.toList 0 (sz P t) ho.1 (fun f hf => by
          obtain ⟨i, hi, rfl⟩ := List.mem_iff_getElem.1 hf
          obtain ⟨y, _, hy⟩ := mapM_nth hm i fs.toList[i] (List.getElem?_eq_getElem hi)
          exact trod_reads n d _ _ y (ho.2 _ hf) hy) (fun f hf => ho.2 f hf) hlen.symm (Nat.zero_le _) ρ nx bl hst
        exact ⟨ρ', n', bl', parts.flatten, h1, g1, by simpa using l1, parts, rfl, c1⟩
      · cases h
    · cases ho
end
end Go.Proofs.Ytminfdcdmgpnjaa.K
