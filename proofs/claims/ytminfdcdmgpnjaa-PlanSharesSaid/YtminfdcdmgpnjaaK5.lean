/- What an operation asks of the heap is what the machine's operation does: conversions, slices, indexes, parts. -/
import Derived.Test.YtminfdcdmgpnjaaK4
set_option linter.unusedVariables false
set_option linter.unusedSimpArgs false
namespace Go.Proofs.Ytminfdcdmgpnjaa.K
open Go

section
variable {P : Program} {ρ : Rho} {r : V × Heap} {K : Rq → Ans}

theorem vstr {s : List Nat} {u : Value} (h : VRel ρ (.str s) u) : ∃ b : ByteArray, u = .string b ∧ b.data.toList.map UInt8.toNat = s := by simpa only [VRel] using h
theorem mstr (b : ByteArray) : VRel ρ (.str (b.data.toList.map UInt8.toNat)) (.string b) := by simp only [VRel]; exact ⟨b, rfl, rfl⟩
theorem vptr {i o : Nat} {u : Value} (h : VRel ρ (.ptr i o) u) : ∃ p, ρ i = some p ∧ u = .pointer (some (p.addr.add o)) := by simpa only [VRel] using h
theorem vsl {i o n es : Nat} {g : Bool} {u : Value} (h : VRel ρ (.sl i o n es g) u) :
    ∃ p A cap, ρ i = some p ∧ u = .slice (some A) n cap ∧ n ≤ cap ∧ (g = true → o + cap * es ≤ p.size) ∧ (cap ≠ 0 → A = p.addr.add o) := by simpa only [VRel] using h
theorem vnils {u : Value} (h : VRel ρ .nils u) : u = .slice none 0 0 := by simpa only [VRel] using h
theorem vagg {cs : List V} {u : Value} (h : VRel ρ (.agg cs) u) : ∃ a : Array Value, u = .agg a ∧ LRel ρ cs a.toList := by simpa only [VRel] using h
theorem vtup {cs : List V} {u : Value} (h : VRel ρ (.tup cs) u) : ∃ a : Array Value, u = .tuple a ∧ LRel ρ cs a.toList := by simpa only [VRel] using h

theorem isU8_ok {e : TypeId} (h : isU8 P e = true) : P.underlying e = some (.int .u8) := by
  unfold isU8 at h
  split at h
  · assumption
  · cases h

/-- A conversion: of a value alone, or of a row's bytes. -/
theorem convV_ok {s d : TypeId} {x : V} {u : Value} (hx : VRel ρ x u) (h : convV P s d x K = some r) :
    (∃ z, K (.val z) = some r ∧ Gives P ρ (convert s d u) z) ∨
    (∃ id off len g e, x = .sl id off len 1 g ∧ K (.bytes id off len) = some r ∧ P.underlying s = some (.slice e) ∧ P.underlying d = some .string ∧ P.underlying e = some (.int .u8)) := by
  unfold convV at h
  split at h
  · rename_i e hs hd
    obtain ⟨hc, h⟩ := ofCond h
    unfold asBy at h
    split at h
    · rename_i id off ln es g _
      obtain ⟨he, h⟩ := ofCond h
      have he := beq_eq he
      subst he
      exact .inr ⟨id, off, ln, g, e, rfl, h, hs, hd, isU8_ok hc⟩
    · rw [vnils hx]
      refine .inl ⟨_, h, .string .empty, ⟨.empty, rfl, rfl⟩, fun w => ?_⟩
      simp [convert, run_underlying hs, run_underlying hd, run_underlying (isU8_ok hc), Conv.bytesToString]
    · cases h
  · rename_i ds k hs hd
    split at h
    · rw [vint hx]
      exact .inl ⟨_, h, _, mint _ _, fun w => by simp [convert, run_underlying hs, run_underlying hd, Conv.intToInt]⟩
    · cases h
  · rename_i ds _ hs hd
    split at h
    · obtain ⟨b, rfl, rfl⟩ := vstr hx
      exact .inl ⟨_, h, _, mstr b, fun w => by simp [convert, run_underlying hs, run_underlying hd]⟩
    · cases h
  · cases h

/-! ### Slices -/
theorem bounds_ok {n cap : Nat} {lo hi : Option V} {ulo uhi : Option Value} {k : Nat → Nat → Ans} (hn : n ≤ cap) (sl : Bool)
    (hlo : ∀ v, lo = some v → ∃ u, ulo = some u ∧ VRel ρ v u) (hlo' : lo = none → ulo = none)
    (hhi : ∀ v, hi = some v → ∃ u, uhi = some u ∧ VRel ρ v u) (hhi' : hi = none → uhi = none)
    (h : bounds n lo hi k = some r) : ∃ l m, k l m = some r ∧ l ≤ m ∧ m ≤ n ∧ ∀ w, (Instr.sliceBounds sl n cap ulo uhi none).run P w = .ok (l, m, cap) w := by
  have bd : ∀ (kk : IntKind) (i : Int) (y : Nat) (c : BoundsCode) (w : World), 0 ≤ i → i ≤ y → (Instr.sliceBound (.int kk i) y c).run P w = .ok i.toNat w := by
    intro kk i y c w h0 h1
    simp [Instr.sliceBound, asIntOf, h0, h1]
  unfold bounds at h
  split at h
  · rw [hlo' rfl, hhi' rfl]
    exact ⟨0, n, h, Nat.zero_le _, Nat.le_refl _, fun w => by simp [Instr.sliceBounds]⟩
  · rename_i kk l
    obtain ⟨hc, h⟩ := ofCond h
    simp only [Bool.and_eq_true, decide_eq_true_eq] at hc
    obtain ⟨u, hu, hr⟩ := hlo _ rfl
    rw [hu, hhi' rfl, vint hr]
    refine ⟨l.toNat, n, h, by omega, Nat.le_refl _, fun w => ?_⟩
    simp [Instr.sliceBounds, bd _ _ _ _ _ hc.1 hc.2]
  · rename_i kk m
    obtain ⟨hc, h⟩ := ofCond h
    simp only [Bool.and_eq_true, decide_eq_true_eq] at hc
    obtain ⟨u, hu, hr⟩ := hhi _ rfl
    rw [hu, hlo' rfl, vint hr]
    refine ⟨0, m.toNat, h, Nat.zero_le _, by omega, fun w => ?_⟩
    simp [Instr.sliceBounds, bd _ _ cap _ _ hc.1 (by omega)]
  · rename_i k1 l k2 m
    obtain ⟨hc, h⟩ := ofCond h
    obtain ⟨hc', h⟩ := ofCond h
    simp only [Bool.and_eq_true, decide_eq_true_eq] at hc hc'
    obtain ⟨u, hu, hr⟩ := hlo _ rfl
    obtain ⟨u', hu', hr'⟩ := hhi _ rfl
    rw [hu, hu', vint hr, vint hr']
    refine ⟨l.toNat, m.toNat, h, by omega, by omega, fun w => ?_⟩
    simp [Instr.sliceBounds, bd _ _ cap _ _ hc.1 (by omega), bd k1 l m.toNat _ _ hc'.1 (by omega)]
  · cases h

theorem run_sz' {e : TypeId} (h : sz P e ≠ 0) (w : World) : (sizeOf e).run P w = .ok (sz P e) w := by
  cases hi : P.info? e with
  | some i => exact run_sizeOf w hi
  | none => exact absurd (by simp [sz, Program.cellsOf, hi]) h

theorem sliceV_ok {t : TypeId} {x : V} {u : Value} {lo hi : Option V} {ulo uhi : Option Value} (hx : VRel ρ x u)
    (hlo : ∀ v, lo = some v → ∃ u, ulo = some u ∧ VRel ρ v u) (hlo' : lo = none → ulo = none)
    (hhi : ∀ v, hi = some v → ∃ u, uhi = some u ∧ VRel ρ v u) (hhi' : hi = none → uhi = none)
    (h : sliceV P t x lo hi K = some r) : ∃ z, K (.val z) = some r ∧ Gives P ρ (Instr.sliceAt t u ulo uhi none) z := by
  unfold sliceV at h
  split at h
  · rename_i s ht
    obtain ⟨b, rfl, rfl⟩ := vstr hx
    rw [size_map] at h
    obtain ⟨l, m, h, hl, hm, hb⟩ := bounds_ok (P := P) (ρ := ρ) (Nat.le_refl _) false hlo hlo' hhi hhi' h
    refine ⟨_, h, .string (b.extract l m), ?_, fun w => ?_⟩
    · simp only [VRel]
      refine ⟨_, rfl, ?_⟩
      simp [ByteArray.data_extract, List.extract_eq_take_drop, List.map_take, List.map_drop]
    · simp [Instr.sliceAt, Instr.slice, run_underlying ht, hb]
  · rename_i e id off len es g ht
    obtain ⟨hc, h⟩ := ofCond h
    simp only [Bool.and_eq_true] at hc
    have hes := beq_eq hc.1
    have hpos := blt_lt hc.2
    obtain ⟨p, A, cap, hp, rfl, hlc, hfit', hA⟩ := vsl hx
    obtain ⟨l, m, h, hl, hm, hb⟩ := bounds_ok (P := P) (ρ := ρ) hlc true hlo hlo' hhi hhi' h
    refine ⟨_, h, .slice (some (if cap = l then A else A.add (l * es))) (m - l) (cap - l), ?_, fun w => ?_⟩
    · simp only [VRel]
      refine ⟨p, _, cap - l, hp, rfl, by omega, fun hg => ?_, fun hne => ?_⟩
      · have : off + l * es + (cap - l) * es = off + (l + (cap - l)) * es := by rw [Nat.add_mul]; omega
        rw [this, show l + (cap - l) = cap by omega]; exact hfit' hg
      · rw [if_neg (by omega), hA (by omega), add_add]
    · simp only [Instr.sliceAt, run_underlying ht, Sem.run_bind, Result.andThen_ok, Instr.slice, hb, run_sz' (P := P) (e := e) (by omega) w, Sem.run_pure, hes]
      split <;> simp
  · rename_i e ht
    obtain ⟨hc, h⟩ := ofCond h
    have hpos := blt_lt hc
    rw [vnils hx]
    obtain ⟨l, m, h, hl, hm, hb⟩ := bounds_ok (P := P) (ρ := ρ) (Nat.le_refl 0) true hlo hlo' hhi hhi' h
    have h1 : m = 0 := by omega
    have h2 : l = 0 := by omega
    subst h1; subst h2
    refine ⟨_, h, .slice none 0 0, by simp only [VRel], fun w => ?_⟩
    simp [Instr.sliceAt, run_underlying ht, Instr.slice, hb, run_sz' (P := P) (e := e) (by omega) w]
  · rename_i n e id off ht
    obtain ⟨hc, h⟩ := ofCond h
    have hpos := blt_lt hc
    obtain ⟨p, hp, rfl⟩ := vptr hx
    obtain ⟨l, m, h, hl, hm, hb⟩ := bounds_ok (P := P) (ρ := ρ) (Nat.le_refl n) false hlo hlo' hhi hhi' h
    refine ⟨_, h, .slice (some (if n = l then p.addr.add off else (p.addr.add off).add (l * sz P e))) (m - l) (n - l), ?_, fun w => ?_⟩
    · simp only [VRel]
      refine ⟨p, _, n - l, hp, rfl, by omega, (fun hg => by cases hg), fun hne => ?_⟩
      rw [if_neg (by omega), add_add]
    · simp [Instr.sliceAt, run_underlying ht, Instr.sureAddr, hb, run_sz' (P := P) (e := e) (by omega) w]
  · cases h

/-! ### Indexes -/
theorem idxA_ok {t : TypeId} {x i : V} {u v : Value} (hx : VRel ρ x u) (hi : VRel ρ i v) (h : idxA P t x i K = some r) :
    ∃ z, K (.val z) = some r ∧ Gives P ρ (Instr.indexAt t u v) z := by
  unfold idxA at h
  split at h
  · rename_i e id off len es g k n ht
    obtain ⟨hc, h⟩ := ofCond h
    obtain ⟨hb, h⟩ := ofCond h
    simp only [Bool.and_eq_true, decide_eq_true_eq] at hc hb
    have hes := beq_eq hc.1
    have hpos := blt_lt hc.2
    obtain ⟨p, A, cap, hp, rfl, hlc, hfit', hA⟩ := vsl hx
    rw [vint hi]
    refine ⟨_, h, .pointer (some (A.add (n.toNat * es))), ?_, fun w => ?_⟩
    · simp only [VRel]
      exact ⟨p, hp, by rw [hA (by omega), add_add]⟩
    · simp [Instr.indexAt, asIntOf, run_underlying ht, hb, run_sz' (P := P) (e := e) (by omega) w, hes]
  · rename_i n e id off k j ht
    obtain ⟨hb, h⟩ := ofCond h
    simp only [Bool.and_eq_true, decide_eq_true_eq] at hb
    have hpos := blt_lt hb.2
    obtain ⟨p, hp, rfl⟩ := vptr hx
    rw [vint hi]
    refine ⟨_, h, .pointer (some ((p.addr.add off).add (j.toNat * sz P e))), ?_, fun w => ?_⟩
    · simp only [VRel]
      exact ⟨p, hp, by rw [add_add]⟩
    · simp [Instr.indexAt, asIntOf, run_underlying ht, Instr.sureAddr, hb.1, run_sz' (P := P) (e := e) (by omega) w]
  · cases h


theorem idxV_ok {t : TypeId} {x i : V} {u v : Value} (hx : VRel ρ x u) (hi : VRel ρ i v) (h : idxV P t x i K = some r) :
    ∃ z, K (.val z) = some r ∧ Gives P ρ (Instr.index t u v) z := by
  unfold idxV at h
  split at h
  · rename_i s k n ht
    obtain ⟨hb, h⟩ := ofCond h
    obtain ⟨c, hcc, h⟩ := Option.bind_eq_some_iff.1 h
    have hb := of_decide_eq_true hb
    obtain ⟨b, rfl, rfl⟩ := vstr hx
    rw [vint hi]
    rw [nth_eq, List.getElem?_map] at hcc
    obtain ⟨x, hx', rfl⟩ := Option.map_eq_some_iff.1 hcc
    have hg : b[n.toNat]? = some x := by
      obtain ⟨hlt, he⟩ := List.getElem?_eq_some_iff.1 hx'
      have hs : n.toNat < b.size := hlt
      rw [ByteArray.getElem?_lt' b _ hs, ← he]
      rfl
    refine ⟨_, h, _, mint _ _, fun w => ?_⟩
    simp [Instr.index, asIntOf, run_underlying ht, hb, hg]
  · rename_i n e cs k j ht
    obtain ⟨hb, h⟩ := ofCond h
    simp only [Bool.and_eq_true, decide_eq_true_eq] at hb
    obtain ⟨hle, h⟩ := ofCond h
    have hfit := ble_le hle
    have hpos := blt_lt hb.2
    have hagg := hb.1.2
    obtain ⟨a, rfl, ha⟩ := vagg hx
    rw [vint hi]
    have hl := LRel.len ha
    have hz := fun w => run_sz' (P := P) (e := e) (by omega) w
    obtain ⟨d, hd⟩ : ∃ d, P.underlying e = some d := by
      unfold aggT at hagg
      cases hd : P.underlying e with
      | some d => exact ⟨d, rfl⟩
      | none => simp [hd] at hagg
    refine ⟨_, h, mkT P e ((a.toList.drop (j.toNat * sz P e)).take (sz P e)), ?_, fun w => ?_⟩
    · simp only [mkT, hagg, if_true, VRel]
      exact ⟨_, rfl, LRel.take _ (LRel.drop _ ha)⟩
    · have hj : j.toNat * sz P e + sz P e ≤ a.size := by
        have : (j.toNat + 1) * sz P e = j.toNat * sz P e + sz P e := by rw [Nat.add_mul]; omega
        simp at hl; omega
      simp [Instr.index, asIntOf, run_underlying ht, hb.1.1, hz, run_part hd (by simp [hagg]) hj]
  · cases h

theorem ofCondA {α : Type} {r : α} {c : Bool} {x : Option α} (h : cond c x none = some r) : c = true ∧ x = some r := by
  cases c
  · cases h
  · exact ⟨rfl, h⟩
theorem asKd_eq {α : Type} {r : α} {k : Kd} {v : V} {K : V → Option α} (h : asKd k v K = some r) : K v = some r := by
  cases k with
  | int k =>
    simp only [asKd, asI] at h
    split at h
    · rename_i k' n
      obtain ⟨hc, h⟩ := ofCondA h
      have := of_decide_eq_true hc
      subst this; exact h
    · cases h
  | bool =>
    simp only [asKd, asB] at h
    split at h
    · exact h
    · cases h
  | str =>
    simp only [asKd, asS] at h
    split at h
    · exact h
    · cases h
  | oth => exact h
  | agg =>
    simp only [asKd, asA] at h
    split at h
    · exact h
    · cases h
theorem partV_ok {t : TypeId} {d : TypeDesc} {cs : List V} {off : Nat} {a : Array Value} (hd : P.underlying t = some d) (ha : LRel ρ cs a.toList) (h : partV P t cs off K = some r) :
    ∃ z, K (.val z) = some r ∧ Gives P ρ (part t a off) z := by
  unfold partV at h
  have hl := LRel.len ha
  cases hagg : aggT P t with
  | true =>
    rw [hagg] at h
    obtain ⟨hle, h⟩ := ofCond h
    have hfit := ble_le hle
    refine ⟨_, h, mkT P t ((a.toList.drop off).take (sz P t)), ?_, fun w => ?_⟩
    · simp only [mkT, hagg, if_true, VRel]
      exact ⟨_, rfl, LRel.take _ (LRel.drop _ ha)⟩
    · exact run_part hd (by simp [hagg]) (by simp at hl; omega) w
  | false =>
    rw [hagg] at h
    obtain ⟨c, hcc, h⟩ := Option.bind_eq_some_iff.1 h
    have h := asKd_eq h
    obtain ⟨u, hu, hur⟩ := LRel.nth ha hcc
    refine ⟨_, h, u, hur, fun w => ?_⟩
    rw [Array.getElem?_toList] at hu
    simp [part, run_agg hd, hagg, hu]

theorem field_ok {t : TypeId} {fs : Array Field} {f : Field} {i : Nat} {cs : List V} {u : Value} (hx : VRel ρ (.agg cs) u) (ht : P.underlying t = some (.struct fs)) (hf : nth fs.toList i = some f)
    (hd : (P.underlying f.type).isSome = true) (h : partV P f.type cs f.offset K = some r) : ∃ z, K (.val z) = some r ∧ Gives P ρ (Instr.field t u i) z := by
  obtain ⟨a, rfl, ha⟩ := vagg hx
  obtain ⟨d, hd⟩ := Option.isSome_iff_exists.1 hd
  obtain ⟨z, hz, u, hu, hr⟩ := partV_ok hd ha h
  rw [nth_eq, Array.getElem?_toList] at hf
  exact ⟨z, hz, u, hu, fun w => by simp [Instr.field, run_underlying ht, hf, asAgg, hr]⟩

/-! ### min, max, len -/
theorem minV_ok : ∀ {v : V} {vs : List V} {u : Value} {us : List Value} {z : V}, VRel ρ v u → LRel ρ vs us → minV v vs = some z →
    ∃ y, VRel ρ z y ∧ ∀ w, (us.foldlM Builtin.min2 u).run P w = .ok y w
  | v, [], u, [], z, hv, _, h => by
    simp [minV] at h; subst h
    exact ⟨u, hv, fun w => by simp⟩
  | .int k x, .int k' y :: r, u, u' :: us, z, hv, hl, h => by
    simp only [minV] at h
    simp only [LRel] at hl
    rw [vint hv, vint hl.1]
    obtain ⟨y', hy, hr⟩ := minV_ok (mint k (if y < x then y else x)) hl.2 h
    exact ⟨y', hy, fun w => by simp [List.foldlM_cons, Builtin.min2, hr]⟩
  | _, _ :: _, _, [], _, _, hl, _ => by simp [LRel] at hl
  | _, [], _, _ :: _, _, _, hl, _ => by simp [LRel] at hl

theorem maxV_ok : ∀ {v : V} {vs : List V} {u : Value} {us : List Value} {z : V}, VRel ρ v u → LRel ρ vs us → maxV v vs = some z →
    ∃ y, VRel ρ z y ∧ ∀ w, (us.foldlM Builtin.max2 u).run P w = .ok y w
  | v, [], u, [], z, hv, _, h => by
    simp [maxV] at h; subst h
    exact ⟨u, hv, fun w => by simp⟩
  | .int k x, .int k' y :: r, u, u' :: us, z, hv, hl, h => by
    simp only [maxV] at h
    simp only [LRel] at hl
    rw [vint hv, vint hl.1]
    obtain ⟨y', hy, hr⟩ := maxV_ok (mint k (if y > x then y else x)) hl.2 h
    exact ⟨y', hy, fun w => by simp [List.foldlM_cons, Builtin.max2, hr]⟩
  | _, _ :: _, _, [], _, _, hl, _ => by simp [LRel] at hl
  | _, [], _, _ :: _, _, _, hl, _ => by simp [LRel] at hl

/-- The length: of a value alone, or of a map, a channel. -/
theorem lenV_ok {t ty : TypeId} {ts : List TypeId} {x : V} {u : Value} (hx : VRel ρ x u) (h : lenV P t x K = some r) :
    (∃ z, K (.val z) = some r ∧ Gives P ρ (Builtin.len_ (t :: ts).toArray ty #[u]) z) ∨ (∃ id k e, x = .map id ∧ K (.lenM id) = some r ∧ P.underlying t = some (.map k e)) ∨
      (∃ id k e, x = .chan id ∧ K (.lenC id) = some r ∧ P.underlying t = some (.chan k e)) := by
  unfold lenV at h
  split at h
  · rename_i s ht
    obtain ⟨b, rfl, rfl⟩ := vstr hx
    rw [size_map] at h
    exact .inl ⟨_, h, _, mint _ _, fun w => by simp [Builtin.len_, run_underlying ht, goInt]⟩
  · rename_i n e ht
    exact .inl ⟨_, h, _, mint _ _, fun w => by simp [Builtin.len_, run_underlying ht, goInt]⟩
  · rename_i e _ _ len _ _ ht
    obtain ⟨p, A, cap, hp, rfl, _⟩ := vsl hx
    exact .inl ⟨_, h, _, mint _ _, fun w => by simp [Builtin.len_, run_underlying ht, goInt]⟩
  · rename_i e ht
    rw [vnils hx]
    exact .inl ⟨_, h, _, mint _ _, fun w => by simp [Builtin.len_, run_underlying ht, goInt]⟩
  · rename_i k e id ht
    exact .inr (.inl ⟨id, k, e, rfl, h, ht⟩)
  · rename_i k e ht
    simp only [VRel] at hx
    subst hx
    exact .inl ⟨_, h, _, mint _ _, fun w => by simp [Builtin.len_, run_underlying ht, goInt]⟩
  · rename_i d e id ht
    exact .inr (.inr ⟨id, d, e, rfl, h, ht⟩)
  · cases h

end
end Go.Proofs.Ytminfdcdmgpnjaa.K
