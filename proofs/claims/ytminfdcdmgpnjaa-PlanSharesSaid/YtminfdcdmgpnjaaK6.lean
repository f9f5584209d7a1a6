/- What an operation asks of the heap is what the machine's operation does: what is built, and new blocks. -/
import Derived.Test.YtminfdcdmgpnjaaK5
set_option linter.unusedVariables false
set_option linter.unusedSimpArgs false
namespace Go.Proofs.Ytminfdcdmgpnjaa.K
open Go

section
variable {P : Program} {ρ : Rho} {r : V × Heap} {K : Rq → Ans}

theorem over_len : ∀ (l cs : List V), (over l cs).length = l.length
  | _, [] => by simp [over]
  | [], _ :: _ => by simp [over]
  | _ :: l, _ :: cs => by simp [over, over_len l cs]
theorem setAt_len : ∀ (l : List V) (n : Nat) (cs : List V), (setAt l n cs).length = l.length
  | l, 0, cs => by simp [setAt, over_len]
  | [], _ + 1, _ => by simp [setAt]
  | _ :: l, n + 1, cs => by simp [setAt, setAt_len l n cs]

/-- Written over, as lists. -/
theorem over_rel : ∀ {l cs : List V} {us vs : List Value}, LRel ρ l us → LRel ρ cs vs → cs.length ≤ l.length → LRel ρ (over l cs) (vs ++ us.drop vs.length)
  | l, [], us, [], hl, _, _ => by simpa [over] using hl
  | _, [], _, _ :: _, _, h, _ => by simp [LRel] at h
  | _, _ :: _, _, [], _, h, _ => by simp [LRel] at h
  | [], _ :: _, _, _, _, _, h => by simp at h
  | _ :: _, _ :: _, [], _, h, _, _ => by simp [LRel] at h
  | x :: l, c :: cs, u :: us, v :: vs, hl, hc, hle => by
    simp only [LRel] at hl hc
    simp only [over, List.cons_append, List.length_cons, List.drop_succ_cons, LRel]
    exact ⟨hc.1, over_rel hl.2 hc.2 (by simpa using hle)⟩
theorem setAt_rel : ∀ {l : List V} {n : Nat} {cs : List V} {us vs : List Value}, LRel ρ l us → LRel ρ cs vs → n + cs.length ≤ l.length →
    LRel ρ (setAt l n cs) (us.take n ++ vs ++ us.drop (n + vs.length))
  | l, 0, cs, us, vs, hl, hc, hle => by simpa [setAt] using over_rel hl hc (by simpa using hle)
  | [], n + 1, cs, us, vs, hl, hc, hle => by simp at hle
  | _ :: _, _ + 1, _, [], _, h, _, _ => by simp [LRel] at h
  | x :: l, n + 1, cs, u :: us, vs, hl, hc, hle => by
    simp only [LRel] at hl
    have := setAt_rel (n := n) hl.2 hc (by simp at hle; omega)
    simp only [setAt, List.take_succ_cons, List.cons_append, LRel]
    refine ⟨hl.1, ?_⟩
    rw [show n + 1 + vs.length = (n + vs.length) + 1 by omega, List.drop_succ_cons]
    exact this

/-- 'Instr.fill' writes one part's cells as a splice. -/
theorem foldl_set (off : Nat) : ∀ (vs : List Value) (k : Nat) (arr : Array Value), off + k + vs.length ≤ arr.size →
    (((vs.zipIdx k).foldl (fun cs (c, j) => cs.setIfInBounds (off + j) c) arr).toList = arr.toList.take (off + k) ++ vs ++ arr.toList.drop (off + k + vs.length))
  | [], k, arr, _ => by simp
  | v :: vs, k, arr, h => by
    simp only [List.length_cons] at h
    simp only [List.zipIdx_cons, List.foldl_cons]
    rw [foldl_set off vs (k + 1) _ (by simp; omega)]
    have e := list_seg_step arr.toList (off + k) v vs (by simp; omega)
    simpa [Array.toList_setIfInBounds, Nat.add_assoc] using e

theorem fill_ok {place : Nat → Option (Nat × Nat)} : ∀ {ps : List (Nat × V)} {us : List (Nat × Value)} {cells : List V} {arr : Array Value} {l : List V},
    LRel ρ cells arr.toList → ps.map (·.1) = us.map (·.1) → LRel ρ (ps.map (·.2)) (us.map (·.2)) → fillV place cells ps = some l →
    ∃ arr', Instr.fill place arr us = some arr' ∧ LRel ρ l arr'.toList
  | [], [], cells, arr, l, hc, _, _, h => by
    simp [fillV] at h; subst h
    exact ⟨arr, rfl, hc⟩
  | [], _ :: _, _, _, _, _, hm, _, _ => by simp at hm
  | _ :: _, [], _, _, _, _, hm, _, _ => by simp at hm
  | (i, v) :: ps, (j, u) :: us, cells, arr, l, hc, hm, hp, h => by
    simp only [List.map_cons, List.cons.injEq] at hm
    simp only [List.map_cons, LRel] at hp
    obtain ⟨rfl, hm⟩ := hm
    simp only [fillV] at h
    split at h
    · cases h
    · rename_i off size hpl
      cases hcond : (Nat.beq v.cells.length size && Nat.ble (off + size) cells.length && v.cells.all V.one) with
      | false => rw [hcond] at h; cases h
      | true =>
        rw [hcond] at h
        simp only [Bool.and_eq_true] at hcond
        have hsz := beq_eq hcond.1.1
        have hle := ble_le hcond.1.2
        have hne : ∀ vs, v ≠ .tup vs := by
          rintro vs rfl; simp [V.cells, V.one] at hcond
        have hnu : v ≠ .undef := by
          rintro rfl; simp [V.cells, V.one] at hcond
        have hvc := VRel.cells hp.1 hne hnu
        have hlen := LRel.len hvc
        have hcl := LRel.len hc
        have hsu : u.cells.size = size := by simpa [hsz] using hlen.symm
        have hfit : off + 0 + u.cells.toList.length ≤ arr.size := by
          simp only [Array.length_toList, hsu]
          simp only [Array.length_toList] at hcl
          omega
        have hset := foldl_set off u.cells.toList 0 arr hfit
        have hrel : LRel ρ (setAt cells off v.cells) ((u.cells.zipIdx.foldl (fun cs (c, j) => cs.setIfInBounds (off + j) c) arr)).toList := by
          have e : (u.cells.zipIdx.foldl (fun cs (c, j) => cs.setIfInBounds (off + j) c) arr) = (u.cells.toList.zipIdx 0).foldl (fun cs (c, j) => cs.setIfInBounds (off + j) c) arr := by
            rw [← Array.foldl_toList]; simp
          rw [e, hset]
          simpa using setAt_rel hc hvc (by omega)
        obtain ⟨arr', ha, hr⟩ := fill_ok hrel hm hp.2 h
        refine ⟨arr', ?_, hr⟩
        have hcs : arr.size = cells.length := by simpa using hcl.symm
        simp only [Instr.fill, hpl, hsu, ne_eq, not_true_eq_false, decide_false, Bool.false_or]
        rw [if_neg (by simp; omega)]
        exact ha

theorem run_mapM {α β : Type} (f : α → Sem β) (g : α → β) (w : World) : ∀ (l : List α), (∀ a ∈ l, (f a).run P w = .ok (g a) w) → (l.mapM f).run P w = .ok (l.map g) w
  | [], _ => by simp
  | a :: l, h => by
    simp only [List.mapM_cons, Sem.run_bind, h a (by simp), Result.andThen_ok, run_mapM f g w l (fun b hb => h b (by simp [hb])), Sem.run_pure, List.map_cons]

theorem ofCell_cells (u : Value) : (ofCell u).cells = [ofCell u] := by
  unfold ofCell
  split <;> rfl

theorem ofValue_cells (u : Value) : LRel ρ (ofValue u).cells u.cells.toList := by
  unfold ofValue
  split
  · exact ofCells_rel ρ _
  · rename_i hne
    have e : u.cells = #[u] := by
      cases u <;> first
        | rfl
        | exact absurd rfl (hne _)
    rw [e, ofCell_cells]
    exact ⟨ofCell_rel ρ u, trivial⟩

theorem zeroL_ok {t : TypeId} {l : List V} (h : zeroL P t = some l) : ∃ z, (∀ ρ, LRel ρ l z.cells.toList) ∧ ∀ w, (zeroValue t).run P w = .ok z w := by
  unfold zeroL at h
  split at h
  · rename_i i hi
    split at h
    · rename_i v hv
      simp only [Option.some.injEq] at h
      subst h
      exact ⟨v, fun ρ => ofValue_cells v, fun w => by simp [zeroValue, run_typeInfo w hi, hv]⟩
    · cases h
  · cases h

/-- Parts of a composite: the machine's and ours. -/
def PRel (ρ : Rho) (ps : List (Nat × V)) (us : List (Nat × Value)) : Prop := ps.map (·.1) = us.map (·.1) ∧ LRel ρ (ps.map (·.2)) (us.map (·.2))

theorem build_ok {t : TypeId} {ps : List (Nat × V)} {us : Array (Nat × Value)} {l z : List V} {place : Nat → Option (Nat × Nat)} (hp : PRel ρ ps us.toList) (hz : zeroL P t = some z) (hf : fillV place z ps = some l)
    (hpl : (∃ fs, P.underlying t = some (.struct fs) ∧ place = nth (fieldsOf P t) ∧ (∀ f ∈ fs.toList, sz P f.type ≠ 0)) ∨
      (∃ n e, P.underlying t = some (.array n e) ∧ place = (fun i => some (i * sz P e, sz P e)) ∧ sz P e ≠ 0)) : Gives P ρ (Instr.build t us) (.agg l) := by
  obtain ⟨zv, hzr, hzv⟩ := zeroL_ok hz
  obtain ⟨arr', ha, hr⟩ := fill_ok (hzr ρ) hp.1 hp.2 hf
  refine ⟨.agg arr', ?_, fun w => ?_⟩
  · simp only [VRel]; exact ⟨_, rfl, hr⟩
  · rcases hpl with ⟨fs, ht, rfl, hfs⟩ | ⟨n, e, ht, rfl, he⟩
    · have hm : (fs.mapM fun f => (do pure (f.offset, ← sizeOf f.type) : Sem (Nat × Nat))).run P w = .ok (fs.map fun f => (f.offset, sz P f.type)) w := by
        rw [Array.mapM_eq_mapM_toList, Sem.run_map, run_mapM _ (fun f => (f.offset, sz P f.type)) w fs.toList (fun f hf => by simp [run_sz' (hfs f hf)])]
        simp only [Result.andThen_ok]
        rw [← Array.toList_map, Array.toArray_toList]
      have e : (fun i => (fs.map fun f => (f.offset, sz P f.type))[i]?) = nth (fieldsOf P t) := by
        funext i
        simp [nth_eq, fieldsOf, ht]
      simp only [Instr.build, Sem.run_bind, hzv, Result.andThen_ok, run_underlying ht, hm, e, ha, Sem.run_pure]
    · simp only [Instr.build, Sem.run_bind, hzv, Result.andThen_ok, run_underlying ht, run_sz' he, ha, Sem.run_pure]

/-! ### New blocks -/
/-- The machine's operation makes one new block; ours is its picture. -/
def Makes (P : Program) (ρ : Rho) (s : Sem Value) (b : Blk) (mk : Nat → V) : Prop :=
  ∀ w, ∃ obj u size, s.run P w = .ok u (w.alloc obj) ∧ ∀ id, ρ id = none →
    BOk (ρ.set id ⟨⟨w.heap.size, 0, none⟩, size⟩) (w.alloc obj) id b ∧ VRel (ρ.set id ⟨⟨w.heap.size, 0, none⟩, size⟩) (mk id) u

theorem alloc_block (w : World) (o : Obj) : (w.alloc o).heap[w.heap.size]? = some o := by
  show (w.heap.push o)[w.heap.size]? = some o
  simp

/-- The place of a new block. -/
abbrev newP (w : World) (n : Nat) : Place := ⟨⟨w.heap.size, 0, none⟩, n⟩
theorem set_eq (ρ : Rho) (id : Nat) (p : Place) : ρ.set id p id = some p := by simp [Rho.set]

theorem CRel.of {ρ : Rho} {l : List V} {arr : Array Value} (h : LRel ρ l arr.toList) : CRel ρ l arr := by
  refine ⟨by have := LRel.len h; simp at this; omega, fun i c hc => ?_⟩
  obtain ⟨v, hv, hr⟩ := LRel.nth h hc
  exact ⟨v, by simpa using hv, hr⟩

/-- A row that starts with these cells. -/
theorem makes_row {s : Sem Value} {l : List V} {mk : Nat → V} {t : TypeId} {arr : Array Value} (hl : ∀ ρ', Sub ρ ρ' → CRel ρ' l arr)
    (hs : ∀ w, ∃ u, s.run P w = .ok u (w.alloc (.cells arr t (0, 0))) ∧ ∀ ρ' id, ρ' id = some ⟨⟨w.heap.size, 0, none⟩, arr.size⟩ → VRel ρ' (mk id) u) : Makes P ρ s (.row l) mk := by
  intro w
  obtain ⟨u, hr, hv⟩ := hs w
  refine ⟨_, u, arr.size, hr, fun id hn => ⟨⟨newP w arr.size, arr, t, set_eq _ _ _, rfl, alloc_block w _, rfl, hl _ (Rho.sub_set hn _)⟩, hv _ id (set_eq _ _ _)⟩⟩

theorem alloc_ok {t : TypeId} {l : List V} (h : zeroL P t = some l) : Makes P ρ (Instr.alloc t true (.tuple #[])) (.row l) (fun id => .ptr id 0) := by
  obtain ⟨z, hzr, hz⟩ := zeroL_ok h
  refine makes_row (t := t) (arr := z.cells) (fun ρ' _ => CRel.of (hzr ρ')) (fun w => ⟨.pointer (some ⟨w.heap.size, 0, none⟩), by simp [Instr.alloc, hz, newVar, newRow], fun ρ' id hid => ?_⟩)
  simp only [VRel]
  exact ⟨_, hid, by simp [Addr.add]⟩

theorem box_ok {t : TypeId} {x : V} {u : Value} (hx : VRel ρ x u) (h1 : x.cells.all V.one = true) : Makes P ρ (Instr.box t u) (.row x.cells) (fun id => .ptr id 0) := by
  have hne : ∀ vs, x ≠ .tup vs := by rintro vs rfl; simp [V.cells, V.one] at h1
  have hnu : x ≠ .undef := by rintro rfl; simp [V.cells, V.one] at h1
  refine makes_row (t := t) (arr := u.cells) (fun ρ' hs => CRel.of (LRel.mono hs _ _ (VRel.cells hx hne hnu))) (fun w => ⟨.pointer (some ⟨w.heap.size, 0, none⟩), by simp [Instr.box, newVar, newRow], fun ρ' id hid => ?_⟩)
  simp only [VRel]
  exact ⟨_, hid, by simp [Addr.add]⟩

theorem makeMap_ok {t : TypeId} : Makes P ρ (Instr.makeMap t none) (.map []) (fun id => .map id) := by
  intro w
  refine ⟨.map #[] 0, .map (some w.heap.size), 0, by simp [Instr.makeMap], fun id hn => ⟨⟨newP w 0, #[], 0, set_eq _ _ _, rfl, alloc_block w _, trivial⟩, ?_⟩⟩
  simp only [VRel]
  exact ⟨newP w 0, set_eq _ _ _, rfl⟩


theorem nth_append {α : Type} : ∀ (a b : List α) (i : Nat), nth (a ++ b) i = if i < a.length then nth a i else nth b (i - a.length)
  | [], b, i => by simp
  | x :: a, b, 0 => by simp [nth]
  | x :: a, b, i + 1 => by
    simp only [List.cons_append, nth, nth_append a b i, List.length_cons, Nat.add_lt_add_iff_right, Nat.add_sub_add_right]

theorem nth_rep {α : Type} (z : List α) : ∀ (n i : Nat), nth (List.replicate n z).flatten i = if i < n * z.length then nth z (i % z.length) else none
  | 0, i => by simp [nth]
  | n + 1, i => by
    rw [List.replicate_succ, List.flatten_cons, nth_append, nth_rep z n]
    have hm : (n + 1) * z.length = z.length + n * z.length := by rw [Nat.add_mul]; omega
    by_cases h : i < z.length
    · rw [if_pos h, if_pos (by omega), Nat.mod_eq_of_lt h]
    · rw [if_neg h]
      by_cases h2 : i < (n + 1) * z.length
      · rw [if_pos (by omega), if_pos h2]
        congr 1
        exact (Nat.mod_eq_sub_mod (by omega)).symm
      · rw [if_neg (by omega), if_neg h2]

/-- Zero cells, row behind row. -/
theorem zeros_rel {ρ : Rho} {z : List V} {zc : Array Value} (hz : LRel ρ z zc.toList) (n m : Nat) (h : n * z.length ≤ m) (hm : m ≠ 0 → zc.size ≠ 0) :
    CRel ρ (List.replicate n z).flatten ((Array.range m).map (zc[· % zc.size]!)) := by
  have hl := LRel.len hz
  simp only [Array.length_toList] at hl
  refine ⟨by simp; exact h, fun i c hc => ?_⟩
  rw [nth_rep] at hc
  split at hc
  · rename_i hi
    obtain ⟨v, hv, hr⟩ := LRel.nth hz hc
    refine ⟨v, ?_, hr⟩
    have him : i < m := by omega
    have hp : 0 < zc.size := by have := hm (by omega); omega
    have hlt : i % zc.size < zc.size := Nat.mod_lt _ hp
    rw [hl] at hv
    rw [Array.getElem?_map, Array.getElem?_range, if_pos him]
    simp only [Option.map_some]
    rw [Array.getElem?_toList, Array.getElem?_eq_getElem hlt] at hv
    rw [getElem!_pos zc _ hlt]
    exact hv
  · cases hc

theorem LRel.ofC {ρ : Rho} {l : List V} {arr : Array Value} (h : CRel ρ l arr) (hn : l.length = arr.size) : LRel ρ l arr.toList := by
  refine LRel.of (by simpa using hn) fun i c v hc hv => ?_
  obtain ⟨v', hv', hr⟩ := h.2 i c hc
  rw [Array.getElem?_toList] at hv
  rw [hv] at hv'; cases hv'
  exact hr

theorem buildSlice_ok {t e : TypeId} {n : Nat} {ps : List (Nat × V)} {us : Array (Nat × Value)} {l z : List V} (hp : PRel ρ ps us.toList) (ht : P.underlying t = some (.slice e))
    (h0 : 0 < n * sz P e) (h1 : n * sz P e ≤ 65536) (hz : zeroL P e = some z) (hzl : z.length = sz P e)
    (hf : fillV (fun i => some (i * sz P e, sz P e)) (List.replicate n z).flatten ps = some l) :
    Makes P ρ (Instr.buildSlice t n us) (.row l) (fun id => .sl id 0 n (sz P e) true) := by
  obtain ⟨zv, hzr, hzv⟩ := zeroL_ok hz
  have hpos : sz P e ≠ 0 := by intro h; rw [h] at h0; omega
  have hzs : zv.cells.size = sz P e := by have := LRel.len (hzr ρ); simp at this; omega
  have hlen : ((List.replicate n z).flatten).length = n * sz P e := by simp [hzl]
  have key : ∀ ρ', Sub ρ ρ' → ∃ arr', Instr.fill (fun i => some (i * sz P e, sz P e)) ((Array.range (n * sz P e)).map (zv.cells[· % zv.cells.size]!)) us.toList = some arr' ∧ LRel ρ' l arr'.toList := by
    intro ρ' hs
    have hc := zeros_rel (hzr ρ') n (n * sz P e) (by rw [hzl]; exact Nat.le_refl _) (fun _ => by omega)
    exact fill_ok (LRel.ofC hc (by simp [hlen])) hp.1 (LRel.mono hs _ _ hp.2) hf
  obtain ⟨arr', ha, _⟩ := key ρ (fun _ _ h => h)
  refine makes_row (t := e) (arr := arr') (fun ρ' hs => ?_) (fun w => ⟨.slice (some ⟨w.heap.size, 0, none⟩) n n, ?_, fun ρ' id hid => ?_⟩)
  · obtain ⟨arr'', ha', hr⟩ := key ρ' hs
    rw [ha] at ha'; cases ha'
    exact CRel.of hr
  · have hbig : ¬ n * sz P e > 2 ^ 24 := by omega
    simp only [Instr.buildSlice, Sem.run_bind, run_underlying ht, Result.andThen_ok, run_sz' hpos, hbig, if_false, Sem.run_pure]
    rw [if_neg (by omega)]
    simp [hzv, ha, newRow]
  · obtain ⟨arr2, ha2, hr⟩ := key ρ (fun _ _ h => h)
    rw [ha] at ha2; cases ha2
    have hl2 := LRel.len hr
    simp only [VRel]
    refine ⟨_, _, n, hid, rfl, Nat.le_refl _, fun _ => ?_, fun _ => by simp [Addr.add]⟩
    have : l.length = n * sz P e := by
      have fl : ∀ (ps : List (Nat × V)) (cells l : List V), fillV (fun i => some (i * sz P e, sz P e)) cells ps = some l → l.length = cells.length := by
        intro ps
        induction ps with
        | nil => intro cells l h; simp [fillV] at h; rw [h]
        | cons q ps ih =>
          intro cells l h
          obtain ⟨i, v⟩ := q
          simp only [fillV] at h
          cases hc : (Nat.beq v.cells.length (sz P e) && Nat.ble (i * sz P e + sz P e) cells.length && v.cells.all V.one) with
          | false => rw [hc] at h; cases h
          | true => rw [hc] at h; rw [ih _ _ h, setAt_len]
      rw [fl _ _ _ hf, hlen]
    simp at hl2
    show 0 + n * sz P e ≤ arr'.size
    omega

theorem makeSlice_ok {t e : TypeId} {l c : Int} {k k' : IntKind} {z : List V} (ht : P.underlying t = some (.slice e)) (h0 : 0 ≤ l) (h1 : l ≤ c) (h2 : c ≤ 4294967296) (hb : P.bytesOf e ≤ 1024) (hpos : 0 < sz P e)
    (hz : zeroL P e = some z) (hzl : z.length = sz P e) :
    Makes P ρ (Instr.makeSlice t (.int k l) (.int k' c)) (.row (List.replicate l.toNat z).flatten) (fun id => .sl id 0 l.toNat (sz P e) true) := by
  obtain ⟨zv, hzr, hzv⟩ := zeroL_ok hz
  have hzs : zv.cells.size = sz P e := by have := LRel.len (hzr ρ); simp at this; omega
  have hi : ∃ i, P.info? e = some i := by
    cases hi : P.info? e with
    | some i => exact ⟨i, rfl⟩
    | none => simp [sz, Program.cellsOf, hi] at hpos
  obtain ⟨i, hi⟩ := hi
  have hbi : i.bytes ≤ 1024 := by simpa [Program.bytesOf, hi] using hb
  have wl : IntKind.i64.wrap l = l := by unfold IntKind.wrap; simp [IntKind.bits, IntKind.signed]; omega
  have wc : IntKind.i64.wrap c = c := by unfold IntKind.wrap; simp [IntKind.bits, IntKind.signed]; omega
  have hmul : (i.bytes : Int) * c ≤ 2 ^ 48 := by
    have h3 : (i.bytes : Int) ≤ 1024 := by omega
    have h4 : (i.bytes : Int) * c ≤ 1024 * 4294967296 := Int.mul_le_mul h3 h2 (by omega) (by omega)
    omega
  refine makes_row (t := e) (arr := (Array.range (c.toNat * sz P e)).map (zv.cells[· % zv.cells.size]!)) (fun ρ' hs => ?_) (fun w => ⟨.slice (some ⟨w.heap.size, 0, none⟩) l.toNat c.toNat, ?_, fun ρ' id hid => ?_⟩)
  · refine zeros_rel (hzr ρ') _ _ ?_ (fun _ => by omega)
    rw [hzl]
    exact Nat.mul_le_mul_right _ (by omega)
  · have hroom : ¬ c.toNat * i.bytes > roomBytes := by
      have h5 : c.toNat * i.bytes ≤ 4294967296 * 1024 := Nat.mul_le_mul (by omega) hbi
      unfold roomBytes; omega
    simp only [Instr.makeSlice, Sem.run_bind, run_underlying ht, Result.andThen_ok, asInt, asIntOf, Sem.run_pure, run_typeInfo w hi, wl, wc]
    have hg : (decide (c < 0) || decide ((i.bytes : Int) * c > 2 ^ 48) || decide (l < 0) || decide (l > c)) = false := by
      simp only [Bool.or_eq_false_iff, decide_eq_false_iff_not]
      omega
    have hsz := fun w => run_sz' (P := P) (e := e) (by omega) w
    simp only [hg, Bool.false_eq_true, if_false, Sem.run_pure, Result.andThen_ok, askRoom, hroom]
    by_cases hc0 : c.toNat * sz P e = 0
    · simp [hsz, hc0, newRow, Array.range_zero']
    · simp [hsz, hc0, hzv, newRow]
  · simp only [VRel]
    refine ⟨_, _, c.toNat, hid, rfl, by omega, fun _ => ?_, fun _ => by simp [Addr.add]⟩
    simp

theorem makeChan_ok {t e : TypeId} {d : ChanDir} {n : Int} {k : IntKind} (ht : P.underlying t = some (.chan d e)) (h0 : 0 ≤ n) (h1 : n ≤ 4096) (hb : P.bytesOf e ≤ 1024) (hi : (P.info? e).isSome = true) :
    Makes P ρ (Instr.makeChan t (.int k n)) (.chan 0) (fun id => .chan id) := by
  obtain ⟨i, hi⟩ := Option.isSome_iff_exists.1 hi
  have hbi : i.bytes ≤ 1024 := by simpa [Program.bytesOf, hi] using hb
  have hmul : (i.bytes : Int) * n ≤ 1024 * 4096 := Int.mul_le_mul (by omega) h1 h0 (by omega)
  intro w
  refine ⟨.chan n.toNat #[] false 0 0 false, .chan (some w.heap.size), 0, ?_, fun id hn => ⟨⟨newP w 0, _, _, _, _, _, set_eq _ _ _, rfl, alloc_block w _, rfl⟩, ?_⟩⟩
  · have hg : ¬ (n < 0 ∨ n > IntKind.i64.max ∨ (i.bytes : Int) * n > 2 ^ 48 - 112) := by simp; omega
    simp only [Instr.makeChan, Sem.run_bind, asInt, asIntOf, Sem.run_pure, Result.andThen_ok, run_underlying ht, run_typeInfo w hi]
    rw [if_neg hg]
    simp
  · simp only [VRel]
    exact ⟨newP w 0, set_eq _ _ _, rfl⟩

end
end Go.Proofs.Ytminfdcdmgpnjaa.K
