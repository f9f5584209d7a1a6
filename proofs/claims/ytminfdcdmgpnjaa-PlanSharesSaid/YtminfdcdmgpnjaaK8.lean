/- What is asked of the heap is done in memory alike: stores, appends, copies, maps. -/
import Derived.Test.YtminfdcdmgpnjaaK7
set_option linter.unusedVariables false
set_option linter.unusedSimpArgs false
namespace Go.Proofs.Ytminfdcdmgpnjaa.K
open Go

section
variable {P : Program}

/-- A store into a row of one's own. -/
theorem stN_ok {ρ : Rho} {H H' : Heap} {w : World} (h : HRel ρ H.bl w) (hf : Fresh ρ H.next) {id off : Nat} {cs : List V} {vs : List Value} {p : Place} (hp : ρ id = some p)
    (hs : stN H id off cs = some H') (hv : LRel ρ cs vs) :
    ∃ w', (storeCells (p.addr.add off) vs).run P w = .ok () w' ∧ Goes ρ H w ρ H' w' := by
  unfold stN at hs
  split at hs
  · rename_i l hl
    cases hc : (cs.all V.one && Nat.ble (off + cs.length) l.length) with
    | false => rw [hc] at hs; cases hs
    | true =>
      rw [hc] at hs
      simp only [cond_true, Option.some.injEq] at hs
      simp only [Bool.and_eq_true] at hc
      subst hs
      have hle := ble_le hc.2
      obtain ⟨p', arr, t, hp', ha, hh, hz, hcl, hr⟩ := h.ok id _ hl
      rw [hp] at hp'; cases hp'
      have hvl := LRel.len hv
      have h1 : ∀ v ∈ vs, v.oneCell' = true := by
        intro v hvm
        obtain ⟨i, hi, rfl⟩ := List.mem_iff_getElem.1 hvm
        have hic : i < cs.length := by omega
        obtain ⟨u, hu, hur⟩ := LRel.nth hv (i := i) (c := cs[i]) (by rw [nth_eq, List.getElem?_eq_getElem hic])
        rw [List.getElem?_eq_getElem hi] at hu
        simp only [Option.some.injEq] at hu
        rw [hu]
        exact VRel.one hur (List.all_eq_true.1 hc.1 _ (List.getElem_mem hic))
      have hfit : off + 0 + vs.length ≤ arr.size := by omega
      have hst := run_storeCells_at P p.addr.block off t vs 0 arr w hh hfit h1
      have hadd : p.addr.add off = ⟨p.addr.block, off, none⟩ := by rw [ha, add0]
      refine ⟨_, by rw [hadd]; exact hst, ?_⟩
      refine Goes.write h hf hl rfl rfl hp rfl rfl rfl (by simp) (fun k hk => setRow_other _ _ _ _ hk) ?_
      refine ⟨p, _, t, hp, ha, setRow_heap _ _ _ _ _ _ hh, ?_, ?_⟩
      · simp; omega
      · refine ⟨by rw [setAt_len]; simp; omega, fun i c hci => ?_⟩
        -- the written row, cell by cell
        have sp : ∀ (l cs : List V) (n i : Nat), n + cs.length ≤ l.length → nth (setAt l n cs) i = if n ≤ i ∧ i < n + cs.length then nth cs (i - n) else nth l i := by
          have ov : ∀ (l cs : List V) (i : Nat), cs.length ≤ l.length → nth (over l cs) i = if i < cs.length then nth cs i else nth l i := by
            intro l
            induction l with
            | nil =>
              intro cs i hle
              cases cs with
              | nil => simp [over]
              | cons c cs => simp at hle
            | cons x l ih =>
              intro cs i hle
              cases cs with
              | nil => simp [over]
              | cons c cs =>
                cases i with
                | zero => simp [over, nth]
                | succ i => simp only [over, nth, ih cs i (by simpa using hle), List.length_cons, Nat.add_lt_add_iff_right]
          intro l cs n
          induction n generalizing l with
          | zero => intro i hle; simp only [setAt, ov l cs i (by simpa using hle)]; simp
          | succ n ih =>
            intro i hle
            cases l with
            | nil => simp at hle
            | cons x l =>
              cases i with
              | zero => simp [setAt, nth]
              | succ i =>
                simp only [setAt, nth, ih l i (by simp at hle; omega)]
                by_cases hq : n ≤ i ∧ i < n + cs.length
                · rw [if_pos hq, if_pos (by omega), show i + 1 - (n + 1) = i - n by omega]
                · rw [if_neg hq, if_neg (by omega)]
        rw [sp l cs off i hle] at hci
        by_cases hq : off ≤ i ∧ i < off + cs.length
        · rw [if_pos hq] at hci
          obtain ⟨u, hu, hur⟩ := LRel.nth hv hci
          refine ⟨u, ?_, hur⟩
          simp only [Nat.add_zero, List.getElem?_toArray, List.append_assoc]
          rw [List.getElem?_append_right (by simp; omega), List.getElem?_append_left (by simp; omega)]
          simp only [List.length_take, Array.length_toList]
          rw [show min off arr.size = off by omega]
          exact hu
        · rw [if_neg hq] at hci
          obtain ⟨u, hu, hur⟩ := hr i c hci
          refine ⟨u, ?_, hur⟩
          simp only [Nat.add_zero, List.getElem?_toArray, List.append_assoc]
          have hlt : i < arr.size := (Array.getElem?_eq_some_iff.1 hu).1
          rcases Nat.lt_or_ge i off with hio | hio
          · rw [List.getElem?_append_left (by simp; omega), List.getElem?_take, if_pos hio, Array.getElem?_toList]; exact hu
          · rw [List.getElem?_append_right (by simp; omega), List.getElem?_append_right (by simp; omega), List.getElem?_drop]
            simp only [List.length_take, Array.length_toList]
            rw [show off + vs.length + (i - min off arr.size - vs.length) = i by omega, Array.getElem?_toList]; exact hu
  · cases hs

/-- Bytes read. -/
theorem bytesOf_some : ∀ (l : List V) (off n : Nat) (s : List Nat), bytesOf l off n = some s →
    ∃ ns : List Int, ns.length = n ∧ s = ns.map (fun n => n.toNat % 256) ∧ ∀ j m, ns[j]? = some m → nth l (off + j) = some (.int .u8 m)
  | l, off, 0, s, h => by
    simp [bytesOf] at h; subst h
    exact ⟨[], rfl, rfl, fun j m hj => by simp at hj⟩
  | [], off, n + 1, s, h => by simp [bytesOf] at h
  | x :: l, 0, n + 1, s, h => by
    cases x with
    | int k m =>
      cases k <;> simp only [bytesOf] at h <;> first
        | (cases h; done)
        | (obtain ⟨s', hs', rfl⟩ := Option.map_eq_some_iff.1 h
           obtain ⟨ns, hn, rfl, hc⟩ := bytesOf_some l 0 n s' hs'
           refine ⟨m :: ns, by simp [hn], rfl, fun j q hj => ?_⟩
           cases j with
           | zero => simp at hj; subst hj; rfl
           | succ j => simp at hj; have := hc j q hj; simpa [nth] using this)
    | _ => simp [bytesOf] at h
  | x :: l, o + 1, n + 1, s, h => by
    simp only [bytesOf] at h
    obtain ⟨ns, hn, rfl, hc⟩ := bytesOf_some l o (n + 1) s h
    exact ⟨ns, hn, rfl, fun j q hj => by have := hc j q hj; rw [show o + 1 + j = (o + j) + 1 by omega]; exact this⟩

theorem ldBytes_some {H : Heap} {id off n : Nat} {s : List Nat} (h : ldBytes H id off n = some s) :
    ∃ ns : List Int, ns.length = n ∧ s = ns.map (fun n => n.toNat % 256) ∧ ∀ j m, ns[j]? = some m → H.ldc id (off + j) = some (.int .u8 m) := by
  unfold ldBytes at h
  split at h
  · rename_i l hl
    obtain ⟨ns, hn, hs, hc⟩ := bytesOf_some l off n s h
    exact ⟨ns, hn, hs, fun j m hj => by simp only [Heap.ldc, hl]; exact hc j m hj⟩
  · rename_i l hl
    obtain ⟨ns, hn, hs, hc⟩ := bytesOf_some l off n s h
    exact ⟨ns, hn, hs, fun j m hj => by simp only [Heap.ldc, hl]; exact hc j m hj⟩
  · cases h

theorem cutN_some {cs l : List V} {off n : Nat} (h : cutN cs off n = some l) : l.length = n ∧ (∀ i c, nth l i = some c → nth cs (off + i) = some c) ∧ l.all V.one = true := by
  unfold cutN at h
  cases hb : (Nat.ble (off + n) cs.length && ((cs.drop off).take n).all V.one) with
  | false => rw [hb] at h; cases h
  | true =>
    rw [hb] at h
    simp only [cond_true, Option.some.injEq] at h
    subst h
    simp only [Bool.and_eq_true] at hb
    have := ble_le hb.1
    refine ⟨by simp; omega, fun i c hc => ?_, hb.2⟩
    rw [nth_eq, List.getElem?_take] at hc
    split at hc
    · rw [List.getElem?_drop] at hc; rw [nth_eq]; exact hc
    · cases hc

theorem ldN_some {H : Heap} {id off n : Nat} {l : List V} (h : ldN H id off n = some l) : l.length = n ∧ (∀ i c, nth l i = some c → H.ldc id (off + i) = some c) ∧ l.all V.one = true := by
  unfold ldN at h
  split at h
  · rename_i cs hl
    obtain ⟨a, b, c⟩ := cutN_some h
    exact ⟨a, fun i c hc => by simp only [Heap.ldc, hl]; exact b i c hc, c⟩
  · rename_i cs hl
    obtain ⟨a, b, c⟩ := cutN_some h
    exact ⟨a, fun i c hc => by simp only [Heap.ldc, hl]; exact b i c hc, c⟩
  · cases h

theorem all_one {ρ : Rho} {xs : List V} {vs : List Value} (hv : LRel ρ xs vs) (h1 : xs.all V.one = true) : ∀ v ∈ vs, v.oneCell' = true := by
  intro v hvm
  have hvl := LRel.len hv
  obtain ⟨i, hi, rfl⟩ := List.mem_iff_getElem.1 hvm
  have hic : i < xs.length := by omega
  obtain ⟨u, hu, hur⟩ := LRel.nth hv (i := i) (c := xs[i]) (by rw [nth_eq, List.getElem?_eq_getElem hic])
  rw [List.getElem?_eq_getElem hi] at hu
  simp only [Option.some.injEq] at hu
  rw [hu]
  exact VRel.one hur (List.all_eq_true.1 h1 _ (List.getElem_mem hic))

theorem src_one {H : Heap} {x : V} {es n : Nat} {xs : List V} (hs : srcCells H x es n = some xs) : xs.all V.one = true := by
  unfold srcCells at hs
  split at hs
  · simp only [Option.some.injEq] at hs; subst hs; rfl
  · rename_i id off len es' g
    cases hb : Nat.beq es es' with
    | false => rw [hb] at hs; cases hs
    | true => rw [hb] at hs; exact (ldN_some hs).2.2
  · cases hb : Nat.beq es 1 with
    | false => rw [hb] at hs; cases hs
    | true =>
      rw [hb] at hs
      simp only [cond_true, Option.some.injEq] at hs; subst hs
      rw [List.all_eq_true]
      intro x hx
      obtain ⟨b, _, rfl⟩ := List.mem_map.1 hx
      rfl
  · cases hs

/-- The cells that an append or a copy reads. -/
theorem src_ok {ρ : Rho} {H : Heap} {w : World} (h : HRel ρ H.bl w) {x : V} {ux : Value} {es n : Nat} {xs : List V} (hx : VRel ρ x ux) (hs : srcCells H x es n = some xs) (hes : 0 < es)
    (hn : n ≤ lenOfV x) :
    ∃ vs : List Value, LRel ρ xs vs ∧ vs.length = n * es ∧ ∀ w', w'.heap = w.heap → (Builtin.lenOf ux).run P w' = .ok (lenOfV x) w' ∧ (Builtin.firstCells es n ux).run P w' = .ok vs.toArray w' := by
  unfold srcCells at hs
  split at hs
  · simp only [Option.some.injEq] at hs; subst hs
    rw [vnils hx]
    simp only [lenOfV, Nat.le_zero] at hn
    subst hn
    exact ⟨[], trivial, by simp, fun w' _ => ⟨by simp [Builtin.lenOf, lenOfV], by simp [Builtin.firstCells]⟩⟩
  · rename_i id off len es' g
    cases hb : Nat.beq es es' with
    | false => rw [hb] at hs; cases hs
    | true =>
      rw [hb] at hs
      have he := beq_eq hb
      subst he
      simp only [cond_true] at hs
      obtain ⟨p, A, cap, hp, rfl, hlc, _, hA⟩ := vsl hx
      obtain ⟨hl, hc, _⟩ := ldN_some hs
      obtain ⟨vs, hv, hcs⟩ := cells_rel h hp xs off hc
      have hlen := LRel.len hv
      refine ⟨vs, hv, by omega, fun w' hw' => ⟨by simp [Builtin.lenOf, lenOfV], ?_⟩⟩
      simp only [Builtin.firstCells]
      refine run_loadCells_rel (ρ := ρ) (by omega) fun j v hj => ?_
      have hj' : j < vs.length := (List.getElem?_eq_some_iff.1 hj).1
      simp only [lenOfV] at hn
      have : cap ≠ 0 := by
        intro h0
        have h0' : n = 0 := by omega
        rw [h0', Nat.zero_mul] at hl
        omega
      rw [hA this, add_add, cell_block (w := w) (w' := w') (by rw [hw'])]
      exact hcs j v hj
  · rename_i s
    cases hb : Nat.beq es 1 with
    | false => rw [hb] at hs; cases hs
    | true =>
    rw [hb] at hs
    have hk := beq_eq hb
    simp only [cond_true, Option.some.injEq] at hs; subst hs
    obtain ⟨b, rfl, rfl⟩ := vstr hx
    subst hk
    simp only [lenOfV, size_map] at hn
    refine ⟨((b.extract 0 n).data.map fun b => Value.int .u8 b.toNat).toList, ?_, ?_, fun w' _ => ⟨by simp [Builtin.lenOf, lenOfV, size_map], by simp only [Builtin.firstCells, Array.toArray_toList]; rfl⟩⟩
    · simp only [Array.toList_map, ByteArray.data_extract, Array.toList_extract, List.extract_eq_take_drop, Nat.sub_zero, List.drop_zero, ← List.map_take, List.map_map]
      generalize b.data.toList.take n = l
      induction l with
      | nil => trivial
      | cons x l ih => exact ⟨by simp only [VRel, Function.comp_apply]; rfl, ih⟩
    · simp [ByteArray.data_extract]; omega
  · cases hs


theorem growBy_le (n : Nat) : ∀ (r c : Nat), c ≤ n → Builtin.growBy n r c ≤ 2 * n + 192
  | 0, c, h => by simp [Builtin.growBy]; omega
  | r + 1, c, h => by
    simp only [Builtin.growBy]
    split
    · omega
    · rename_i hc
      by_cases h2 : c + (c + 768) / 4 ≤ n
      · exact growBy_le n r _ h2
      · cases r with
        | zero => simp [Builtin.growBy]; omega
        | succ r =>
          simp only [Builtin.growBy]
          rw [if_pos (by omega)]
          omega

theorem nextcap_le {need cap : Nat} (h : cap < need) : Builtin.nextslicecap need cap ≤ 2 * need + 192 := by
  unfold Builtin.nextslicecap
  split
  · omega
  · split
    · omega
    · exact growBy_le need 4 cap (by omega)

theorem appT_ok {e : TypeId} (h : appT P e = true) : 0 < sz P e ∧ (∃ i, P.info? e = some i ∧ i.bytes ≤ 1024) ∧ ∃ z, (∀ ρ, ∃ l : List V, l.length = sz P e ∧ LRel ρ l z.cells.toList) ∧ (∀ w, (zeroValue e).run P w = .ok z w) ∧ z.cells.size = sz P e := by
  unfold appT at h
  simp only [Bool.and_eq_true] at h
  have h0 := blt_lt h.1.1
  have h1 := ble_le h.1.2
  refine ⟨h0, ?_, ?_⟩
  · cases hi : P.info? e with
    | some i => exact ⟨i, rfl, by simpa [Program.bytesOf, hi] using h1⟩
    | none => simp [sz, Program.cellsOf, hi] at h0
  · have h2 := h.2
    split at h2
    · rename_i z hz
      obtain ⟨zv, hr, hv⟩ := zeroL_ok hz
      have hl := beq_eq h2
      refine ⟨zv, fun ρ => ⟨z, hl, hr ρ⟩, hv, ?_⟩
      have := LRel.len (hr (fun _ => none))
      simp at this; omega
    · cases h2

/-- The machine's append, where there is room. -/
theorem append_room {t t' ty e : TypeId} {base : Option Addr} {n c : Nat} {ux : Value} {m : Nat} {vs : List Value} {w : World} (ht : P.underlying t = some (.slice e))
    (ht' : (∃ e', P.underlying t' = some (.slice e')) ∨ P.underlying t' = some .string) (he : appT P e = true)
    (hl : (Builtin.lenOf ux).run P w = .ok m w) (hc : (Builtin.firstCells (sz P e) m ux).run P w = .ok vs.toArray w) (hroom : n + m ≤ c) :
    (Builtin.append_ #[t, t'] ty #[.slice base n c, ux]).run P w = match base with
      | some a => ((storeCells (a.add (n * sz P e)) vs).run P w).andThen fun _ w' => .ok (.slice base (n + m) c) w'
      | none => .ok (.slice none (n + m) c) w := by
  have hpos := (appT_ok he).1
  have hsz := fun w => run_sz' (P := P) (e := e) (by omega) w
  rcases ht' with ⟨e', ht'⟩ | ht'
  · cases base with
    | none => simp [Builtin.append_, run_underlying ht, run_underlying ht', hsz, hl, hc, hroom]
    | some a => simp [Builtin.append_, run_underlying ht, run_underlying ht', hsz, hl, hc, hroom]
  · cases base with
    | none => simp [Builtin.append_, run_underlying ht, run_underlying ht', hsz, hl, hc, hroom]
    | some a => simp [Builtin.append_, run_underlying ht, run_underlying ht', hsz, hl, hc, hroom]

/-- The machine's append, where a new array is made. -/
theorem append_new {t t' ty e : TypeId} {base : Option Addr} {n c : Nat} {ux : Value} {m : Nat} {us vs : List Value} {w : World} (ht : P.underlying t = some (.slice e))
    (ht' : (∃ e', P.underlying t' = some (.slice e')) ∨ P.underlying t' = some .string) (he : appT P e = true)
    (hl : ∀ w', w'.heap = w.heap → (Builtin.lenOf ux).run P w' = .ok m w') (hc : ∀ w', w'.heap = w.heap → (Builtin.firstCells (sz P e) m ux).run P w' = .ok vs.toArray w')
    (ho : ∀ w', w'.heap = w.heap → (Builtin.firstCells (sz P e) n (.slice base n c)).run P w' = .ok us.toArray w') (hroom : ¬ n + m ≤ c) (hlim : n + m ≤ lim) :
    ∃ (z : Value) (cap : Nat), n + m ≤ cap ∧ z.cells.size = sz P e ∧ (Builtin.append_ #[t, t'] ty #[.slice base n c, ux]).run P w =
      .ok (.slice (some ⟨w.heap.size, 0, none⟩) (n + m) cap) (w.drew.alloc (.cells (us.toArray ++ vs.toArray ++ Builtin.zeroCells z.cells (cap - (n + m))) e (0, 0))) := by
  obtain ⟨hpos, ⟨i, hi, hb⟩, z, _, hz, hzs⟩ := appT_ok he
  have hlv : lim = 4294967296 := rfl
  have h1 : ¬ ((n + m : Nat) : Int) > IntKind.i64.max := by simp; omega
  have h2 : ¬ Builtin.nextslicecap (n + m) c * i.bytes > 2 ^ 48 := by
    have := nextcap_le (need := n + m) (cap := c) (by omega)
    have h3 : Builtin.nextslicecap (n + m) c * i.bytes ≤ (2 * (n + m) + 192) * 1024 := Nat.mul_le_mul this hb
    omega
  refine ⟨z, (Question.appendCap (n + m) c e).cut (w.tape w.drawn (.appendCap (n + m) c e)), ?_, hzs, ?_⟩
  · simp only [Question.cut]; omega
  · generalize hcap : (Question.appendCap (n + m) c e).cut (w.tape w.drawn (.appendCap (n + m) c e)) = cap
    have hch : (choose (.appendCap (n + m) c e)).run P w = .ok cap w.drew := by
      simp only [choose, Sem.run, Question.forced, Bool.false_eq_true, if_false, hcap]
      rfl
    have hask : ∀ b w', (askRoom b).run P w' = .ok () w' := by
      intro b w'
      unfold askRoom
      split <;> rfl
    have hsz := fun w => run_sz' (P := P) (e := e) (by omega) w
    have hti := fun w => run_typeInfo (P := P) w hi
    have hdw : w.drew.heap = w.heap := rfl
    have hfd : (Question.appendCap (n + m) c e).forced = false := rfl
    have h1' : ¬ (9223372036854775807 < (n : Int) + (m : Int)) := by simp at h1; omega
    have h2' : ¬ 281474976710656 < Builtin.nextslicecap (n + m) c * i.bytes := by simpa using h2
    rcases ht' with ⟨e', ht'⟩ | ht'
    · simp [Builtin.append_, run_underlying ht, run_underlying ht', hsz, hl w rfl, hc w.drew hdw, ho w.drew hdw, hroom, hti, h1', h2', hfd, hcap, hask, hz, newRow]
      rw [← List.append_toArray, Array.append_assoc]
    · simp [Builtin.append_, run_underlying ht, run_underlying ht', hsz, hl w rfl, hc w.drew hdw, ho w.drew hdw, hroom, hti, h1', h2', hfd, hcap, hask, hz, newRow]
      rw [← List.append_toArray, Array.append_assoc]


/-- A row of one's own moves: into a longer row in its place. -/
theorem Goes.grow {ρ : Rho} {H : Heap} {w w' : World} (h : HRel ρ H.bl w) (hf : Fresh ρ H.next) {id : Nat} {b b' : Blk} {p : Place}
    (hl : lk id H.bl = some b) (ho : b.own = true) (ho' : b'.own = true) (hp : ρ id = some p)
    (hos : w'.os = w.os) (htp : w'.tape = w.tape) (hou : w'.output = w.output) (hsz : w'.heap.size = w.heap.size)
    (hk : ∀ k, k ≠ p.addr.block → w'.heap[k]? = w.heap[k]?) (hb : BOk (ρ.set H.next p) w' H.next b') :
    Goes ρ H w (ρ.set H.next p) ⟨H.next + 1, (H.next, b') :: del id H.bl⟩ w' := by
  have hn : ρ H.next = none := hf _ (Nat.le_refl _)
  have hsub := Rho.sub_set hn p
  have hne : id ≠ H.next := fun e => by rw [e, hn] at hp; cases hp
  have hcases : ∀ {i c}, lk i ((H.next, b') :: del id H.bl) = some c → (i = H.next ∧ c = b') ∨ (i ≠ H.next ∧ i ≠ id ∧ lk i H.bl = some c) := by
    intro i c hc
    rw [lk_cons] at hc
    split at hc
    · rename_i e; cases hc; exact .inl ⟨e, rfl⟩
    · rename_i e
      rw [lk_del] at hc
      split at hc
      · cases hc
      · rename_i e2; exact .inr ⟨e, e2, hc⟩
  have setne : ∀ {i}, i ≠ H.next → ρ.set H.next p i = ρ i := by intro i hne; simp [Rho.set, hne]
  have seteq : ρ.set H.next p H.next = some p := set_eq _ _ _
  constructor
  · constructor
    · intro i c hc
      rcases hcases hc with ⟨rfl, rfl⟩ | ⟨h1, h2, h3⟩
      · exact hb
      · refine ((h.ok i c h3).sub hsub).heap fun hr q hq => hk _ ?_
        rw [setne h1] at hq
        exact fun e' => h.inj id b hl ho i c h3 hr (Ne.symm h2) p q hp hq e'.symm
    · intro i c hc hco i' c' hc' hcr hii q q' hq hq'
      rcases hcases hc with ⟨rfl, rfl⟩ | ⟨h1, h2, h3⟩
      · rcases hcases hc' with ⟨rfl, rfl⟩ | ⟨h1', h2', h3'⟩
        · exact absurd rfl hii
        · rw [seteq] at hq; cases hq
          rw [setne h1'] at hq'
          exact h.inj id b hl ho i' c' h3' hcr (Ne.symm h2') p q' hp hq'
      · rw [setne h1] at hq
        rcases hcases hc' with ⟨rfl, rfl⟩ | ⟨h1', h2', h3'⟩
        · rw [seteq] at hq'; cases hq'
          exact fun e => h.inj id b hl ho i c h3 (own_real hco) (Ne.symm h2) p q hp hq e.symm
        · rw [setne h1'] at hq'
          exact h.inj i c h3 hco i' c' h3' hcr hii q q' hq hq'
  · exact fun i hi => setne (by omega)
  · exact fun i hi => by rw [setne (by simp only at hi; omega)]; exact hf i (by simp only at hi; omega)
  · simp
  · exact hos
  · exact htp
  · exact hou
  · rw [hsz]; exact Nat.le_refl _
  · exact fun k hk' hno => hk k fun e => hno ⟨id, b, p, hl, ho, hp, e.symm⟩
  · rintro k hk' ⟨i, c, q, hc, hco, hq, e⟩
    rcases hcases hc with ⟨rfl, rfl⟩ | ⟨h1, h2, h3⟩
    · rw [seteq] at hq; cases hq
      exact ⟨id, b, p, hl, ho, hp, e⟩
    · rw [setne h1] at hq
      exact ⟨i, c, q, h3, hco, hq, e⟩
  · rintro k hk' ⟨i, c, q, hc, hco, hq, e⟩
    rcases hcases hc with ⟨rfl, rfl⟩ | ⟨h1, h2, h3⟩
    · rw [seteq] at hq; cases hq
      exact ⟨id, b, p, hl, own_real ho, hp, e⟩
    · rw [setne h1] at hq
      exact ⟨i, c, q, h3, hco, hq, e⟩
  · intro i c hc hi
    rcases hcases hc with ⟨rfl, rfl⟩ | ⟨h1, h2, h3⟩
    · omega
    · exact ⟨c, h3⟩


/-- Less is known of the heap; the rest goes on. -/
theorem Goes.ofLess {ρ ρ' : Rho} {n : Nat} {bl bl0 : BL} {H' : Heap} {w w' : World} (hl : ∀ id b, lk id bl0 = some b → lk id bl = some b) (h : Goes ρ ⟨n, bl0⟩ w ρ' H' w') : Goes ρ ⟨n, bl⟩ w ρ' H' w' where
  rel := h.rel
  ext := h.ext
  fresh := h.fresh
  next := h.next
  os := h.os
  tape := h.tape
  output := h.output
  size := h.size
  block := fun k hk hno => h.block k hk fun ⟨i, c, q, hc, hco, hq, e⟩ => hno ⟨i, c, q, hl _ _ hc, hco, hq, e⟩
  own := fun k hk ho => let ⟨i, c, q, hc, hco, hq, e⟩ := h.own k hk ho; ⟨i, c, q, hl _ _ hc, hco, hq, e⟩
  real := fun k hk ho => let ⟨i, c, q, hc, hco, hq, e⟩ := h.real k hk ho; ⟨i, c, q, hl _ _ hc, hco, hq, e⟩
  dom := fun id b hb hid => let ⟨b0, h0⟩ := h.dom id b hb hid; ⟨b0, hl _ _ h0⟩

end
end Go.Proofs.Ytminfdcdmgpnjaa.K
