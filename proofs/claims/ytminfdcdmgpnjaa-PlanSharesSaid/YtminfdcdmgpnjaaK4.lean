/- What an operation asks of the heap is what the machine's operation does: values alone. -/
import Derived.Test.YtminfdcdmgpnjaaK3
import Derived.Laws.Entries
import Derived.ChangeKeysEq
import Derived.Laws.Strings
import Derived.Laws.StructEq
set_option linter.unusedVariables false
set_option linter.unusedSimpArgs false
namespace Go.Proofs.Ytminfdcdmgpnjaa.K
open Go

/-- The machine's operation gives the value, whatever the memory. -/
def Gives (P : Program) (ρ : Rho) (s : Sem Value) (v : V) : Prop := ∃ u, VRel ρ v u ∧ ∀ w, s.run P w = .ok u w

theorem ofCond {c : Bool} {x : Ans} {r : V × Heap} (h : cond c x none = some r) : c = true ∧ x = some r := by
  cases c with
  | true => exact ⟨rfl, h⟩
  | false => cases h
theorem ofCond' {c : Bool} {x : Ans} {r : V × Heap} (h : cond c none x = some r) : c = false ∧ x = some r := by
  cases c with
  | false => exact ⟨rfl, h⟩
  | true => cases h

section
variable {P : Program} {ρ : Rho} {r : V × Heap} {K : Rq → Ans}

theorem vint {k : IntKind} {n : Int} {u : Value} (h : VRel ρ (.int k n) u) : u = .int k n := by simpa only [VRel] using h
theorem vbool {b : Bool} {u : Value} (h : VRel ρ (.bool b) u) : u = .bool b := by simpa only [VRel] using h
theorem mint (k : IntKind) (n : Int) : VRel ρ (.int k n) (.int k n) := by simp only [VRel]
theorem mbool (b : Bool) : VRel ρ (.bool b) (.bool b) := by simp only [VRel]

theorem intOp_ok {op : BinOp} {k : IntKind} {x y : Int} {t : TypeId} (h : intOp op k x y K = some r) :
    ∃ v, K (.val v) = some r ∧ Gives P ρ (binOp op t (.int k x) (.int k y)) v := by
  cases op <;> simp only [intOp] at h <;> first
    | (cases h; done)
    | (refine ⟨_, h, _, mint _ _, fun w => ?_⟩; rw [binOp_add]; rfl)
    | (refine ⟨_, h, _, mint _ _, fun w => ?_⟩; rw [binOp_sub]; rfl)
    | (refine ⟨_, h, _, mint _ _, fun w => ?_⟩; rw [binOp_mul]; rfl)
    | (refine ⟨_, h, _, mint _ _, fun w => ?_⟩; rw [binOp_and]; rfl)
    | (refine ⟨_, h, _, mint _ _, fun w => ?_⟩; rw [binOp_or]; rfl)
    | (refine ⟨_, h, _, mint _ _, fun w => ?_⟩; rw [binOp_xor]; rfl)
    | (refine ⟨_, h, _, mbool _, fun w => ?_⟩; simp [binOp, Op.intCmp]; done)
    | (obtain ⟨hc, h⟩ := ofCond' h; refine ⟨_, h, _, mint _ _, fun w => ?_⟩; simp [binOp, Op.intDiv, of_decide_eq_false hc]; done)

theorem shiftOp_ok {op : BinOp} {k k' : IntKind} {x y : Int} {t : TypeId} (h : shiftOp op k x y K = some r) :
    ∃ v, K (.val v) = some r ∧ Gives P ρ (binOp op t (.int k x) (.int k' y)) v := by
  cases op <;> simp only [shiftOp] at h <;> first
    | (cases h; done)
    | (obtain ⟨hc, h⟩ := ofCond' h; refine ⟨_, h, _, mint _ _, fun w => ?_⟩; simp [binOp, Op.shift, of_decide_eq_false hc]; done)

theorem toNat_inj : ∀ {a b : List UInt8}, a.map UInt8.toNat = b.map UInt8.toNat → a = b
  | [], [], _ => rfl
  | [], _ :: _, h => by simp at h
  | _ :: _, [], h => by simp at h
  | x :: a, y :: b, h => by
    simp only [List.map_cons, List.cons.injEq] at h
    rw [toNat_inj h.2, UInt8.toNat_inj.1 h.1]

theorem bytes_eq (a b : ByteArray) : (a.toList == b.toList) = (a.data.toList.map UInt8.toNat == b.data.toList.map UInt8.toNat) := by
  rw [ByteArray.toList_eq, ByteArray.toList_eq, Bool.eq_iff_iff, beq_iff_eq, beq_iff_eq]
  exact ⟨fun h => by rw [h], toNat_inj⟩

theorem size_map (b : ByteArray) : (b.data.toList.map UInt8.toNat).length = b.size := by
  rw [List.length_map]; rfl

theorem strOp_ok {op : BinOp} {x y : List Nat} {t : TypeId} {a b : ByteArray} (hx : a.data.toList.map UInt8.toNat = x) (hy : b.data.toList.map UInt8.toNat = y) (h : strOp op x y K = some r) :
    ∃ v, K (.val v) = some r ∧ Gives P ρ (binOp op t (.string a) (.string b)) v := by
  subst hx; subst hy
  cases op
  case add =>
    simp only [strOp] at h
    obtain ⟨hc, h⟩ := ofCond h
    have hle := ble_le hc
    rw [size_map, size_map] at hle
    have hb : big = 1099511627776 := rfl
    refine ⟨_, h, .string (a ++ b), ⟨a ++ b, rfl, by simp⟩, fun w => ?_⟩
    have : ¬ ((a.size + b.size : Nat) : Int) > IntKind.i64.max := by simp; omega
    simp only [binOp, Op.stringOp]
    rw [if_neg this]
    rfl
  case eql =>
    simp only [strOp] at h
    exact ⟨_, h, _, mbool _, fun w => by rw [binOp_string_eql, bytes_eq]; rfl⟩
  case neq =>
    simp only [strOp] at h
    exact ⟨_, h, _, mbool _, fun w => by rw [binOp_string_neq, bytes_eq]; rfl⟩
  all_goals (simp only [strOp] at h; cases h)

theorem unV_ok {op : UnOp} {x : V} {u : Value} (hx : VRel ρ x u) (h : unV op x K = some r) : ∃ v, K (.val v) = some r ∧ Gives P ρ (Op.unary op u) v := by
  unfold unV at h
  split at h
  · rw [vint hx]
    exact ⟨_, h, _, mint _ _, fun w => by simp [Op.unary, Op.intArith]⟩
  · rw [vbool hx]
    exact ⟨_, h, _, mbool _, fun w => by simp [Op.unary]⟩
  · cases h

end

/-! ### Types -/
section
variable {P : Program}

theorem info_of {t : TypeId} {d : TypeDesc} (h : P.underlying t = some d) : ∃ i, P.info? t = some i := by
  unfold Program.underlying at h
  cases hi : P.info? t with
  | some i => exact ⟨i, rfl⟩
  | none => simp [hi] at h

theorem run_sz {t : TypeId} {d : TypeDesc} (h : P.underlying t = some d) (w : World) : (sizeOf t).run P w = .ok (sz P t) w := by
  obtain ⟨i, hi⟩ := info_of h
  exact run_sizeOf w hi

theorem run_agg {t : TypeId} {d : TypeDesc} (h : P.underlying t = some d) (w : World) : (isAgg t).run P w = .ok (aggT P t) w := by
  simp only [isAgg, Sem.run_bind, run_underlying h, Result.andThen_ok, aggT, h]
  cases d <;> rfl

def mkT (P : Program) (t : TypeId) (us : List Value) : Value := if aggT P t then .agg us.toArray else us.headD (.tuple #[])

theorem run_part {t : TypeId} {d : TypeDesc} (h : P.underlying t = some d) (h1 : aggT P t = false → sz P t = 1) {xs : Array Value} {off : Nat} (hl : off + sz P t ≤ xs.size) (w : World) :
    (part t xs off).run P w = .ok (mkT P t ((xs.toList.drop off).take (sz P t))) w := by
  simp only [part, Sem.run_bind, run_agg h, Result.andThen_ok, mkT]
  cases e : aggT P t with
  | true =>
    simp only [if_true, Sem.run_bind, run_sz h, Result.andThen_ok, Sem.run_pure]
    congr 2
    apply Array.ext'
    simp [List.extract_eq_take_drop]
  | false =>
    rw [h1 e] at hl ⊢
    have hlt : off < xs.size := by omega
    simp only [Bool.false_eq_true, if_false, Array.getElem?_eq_getElem hlt, Sem.run_pure]
    congr 1
    have : xs.toList.drop off = xs[off] :: xs.toList.drop (off + 1) := by
      rw [List.drop_eq_getElem_cons (by simpa using hlt)]; simp
    rw [this]; rfl

theorem eqFlat_append : ∀ (ks ks' : List Kd) (cs ds : List V) (b : Bool), eqFlat (ks ++ ks') cs ds = some b →
    ∃ b1 b2, eqFlat ks (cs.take ks.length) (ds.take ks.length) = some b1 ∧ eqFlat ks' (cs.drop ks.length) (ds.drop ks.length) = some b2 ∧ b = (b1 && b2)
  | [], ks', cs, ds, b, h => ⟨true, b, rfl, h, by simp⟩
  | k :: ks, ks', [], ds, b, h => by simp [eqFlat] at h
  | k :: ks, ks', _ :: _, [], b, h => by simp [eqFlat] at h
  | k :: ks, ks', c :: cs, d :: ds, b, h => by
    simp only [List.cons_append, eqFlat] at h
    obtain ⟨e, he, h⟩ := Option.bind_eq_some_iff.1 h
    obtain ⟨b', hb, rfl⟩ := Option.map_eq_some_iff.1 h
    obtain ⟨b1, b2, h1, h2, rfl⟩ := eqFlat_append ks ks' cs ds b' hb
    exact ⟨e && b1, b2, by simp [eqFlat, he, h1], h2, by rw [Bool.and_assoc]⟩

theorem eqFlat_len : ∀ (ks : List Kd) (cs ds : List V) (b : Bool), eqFlat ks cs ds = some b → cs.length = ks.length ∧ ds.length = ks.length
  | [], [], [], _, _ => ⟨rfl, rfl⟩
  | [], [], _ :: _, _, h => by simp [eqFlat] at h
  | [], _ :: _, _, _, h => by simp [eqFlat] at h
  | _ :: _, [], _, _, h => by simp [eqFlat] at h
  | _ :: _, _ :: _, [], _, h => by simp [eqFlat] at h
  | k :: ks, c :: cs, d :: ds, b, h => by
    simp only [eqFlat] at h
    obtain ⟨e, he, h⟩ := Option.bind_eq_some_iff.1 h
    obtain ⟨b', hb, _⟩ := Option.map_eq_some_iff.1 h
    have := eqFlat_len ks cs ds b' hb
    simp [this.1, this.2]

theorem eqT_sz : ∀ (d : Nat) (t : TypeId), eqT P d t = true → (flat P d t).length = sz P t ∧ (aggT P t = false → sz P t = 1) ∧ ∃ x, P.underlying t = some x
  | 0, t, h => by simp [eqT] at h
  | d + 1, t, h => by
    unfold eqT at h
    unfold flat aggT
    split at h
    · rename_i k hk; rw [hk]; exact ⟨by simp [beq_eq h], fun _ => beq_eq h, _, rfl⟩
    · rename_i hk; rw [hk]; exact ⟨by simp [beq_eq h], fun _ => beq_eq h, _, rfl⟩
    · rename_i hk; rw [hk]; exact ⟨by simp [beq_eq h], fun _ => beq_eq h, _, rfl⟩
    · rename_i fs hk
      rw [hk]
      simp only [Bool.and_eq_true] at h
      refine ⟨?_, fun e => by simp at e, _, rfl⟩
      have key : ∀ (l : List Field) (off n : Nat), eqFs P (eqT P d) l off n = true → off + (l.flatMap fun f => flat P d f.type).length = n := by
        intro l
        induction l with
        | nil => intro off n h; simp only [eqFs] at h; simp [beq_eq h]
        | cons f l ih =>
          intro off n h
          simp only [eqFs, Bool.and_eq_true] at h
          have := ih _ _ h.2
          have hz := (eqT_sz d f.type h.1.2).1
          simp only [List.flatMap_cons, List.length_append]
          omega
      have := key _ _ _ h.2
      simpa using this
    · cases h

theorem eqC_ok {ρ : Rho} {k : Kd} {c d : V} {u v : Value} {e : Bool} (h : eqC k c d = some e) (hc : VRel ρ c u) (hd : VRel ρ d v) :
    (∃ k0 a b, k = .int k0 ∧ u = .int k0 a ∧ v = .int k0 b ∧ e = (a == b)) ∨ (∃ a b, k = .bool ∧ u = .bool a ∧ v = .bool b ∧ e = (a == b)) ∨
      (∃ a b : ByteArray, k = .str ∧ u = .string a ∧ v = .string b ∧ e = (a.toList == b.toList)) := by
  unfold eqC at h
  split at h
  · rename_i k0 k a k' b
    cases hk : decide (k = k0) && decide (k' = k0) with
    | false => simp [hk] at h
    | true =>
      simp only [Bool.and_eq_true, decide_eq_true_eq] at hk
      obtain ⟨rfl, rfl⟩ := hk
      simp at h
      exact .inl ⟨_, a, b, rfl, vint hc, vint hd, h.symm⟩
  · simp at h; exact .inr (.inl ⟨_, _, rfl, vbool hc, vbool hd, h.symm⟩)
  · simp only [VRel] at hc hd
    obtain ⟨a, rfl, rfl⟩ := hc
    obtain ⟨b, rfl, rfl⟩ := hd
    simp only [Option.some.injEq] at h
    exact .inr (.inr ⟨a, b, rfl, rfl, rfl, by rw [bytes_eq]; exact h.symm⟩)
  · cases h

theorem eq_ok {ρ : Rho} : ∀ (d : Nat) (t : TypeId), eqT P d t = true → ∀ (cs ds : List V) (us vs : List Value) (b : Bool), LRel ρ cs us → LRel ρ ds vs → eqFlat (flat P d t) cs ds = some b →
    ∀ (m : Nat) (w : World), d ≤ m → (Op.equalIn m t (mkT P t us) (mkT P t vs)).run P w = .ok b w
  | 0, t, h => by simp [eqT] at h
  | d + 1, t, h => by
    intro cs ds us vs b hc hd hb m w hm
    obtain ⟨m, rfl⟩ : ∃ n, m = n + 1 := ⟨m - 1, by omega⟩
    have scalar : ∀ (k : Kd), flat P (d + 1) t = [k] → aggT P t = false → ∃ c c' u v e, us = [u] ∧ vs = [v] ∧ VRel ρ c u ∧ VRel ρ c' v ∧ eqC k c c' = some e ∧ b = e ∧ mkT P t us = u ∧ mkT P t vs = v := by
      intro k hk ha
      rw [hk] at hb
      have hl := eqFlat_len _ _ _ _ hb
      match cs, ds, us, vs, hc, hd with
      | [c], [c'], [u], [v], hc, hd =>
        simp only [eqFlat] at hb
        obtain ⟨e, he, hb⟩ := Option.bind_eq_some_iff.1 hb
        simp at hb
        exact ⟨c, c', u, v, e, rfl, rfl, hc.1, hd.1, he, hb.symm, by simp [mkT, ha], by simp [mkT, ha]⟩
      | [c], [c'], [], _, hc, _ => simp [LRel] at hc
      | [c], [c'], _ :: _ :: _, _, hc, _ => simp [LRel] at hc
      | [c], [c'], [_], [], _, hd => simp [LRel] at hd
      | [c], [c'], [_], _ :: _ :: _, _, hd => simp [LRel] at hd
      | [], _, _, _, _, _ => simp at hl
      | [_], [], _, _, _, _ => simp at hl
      | [_], _ :: _ :: _, _, _, _, _ => simp at hl
      | _ :: _ :: _, _, _, _, _, _ => simp at hl
    unfold eqT at h
    split at h
    · rename_i k hk
      obtain ⟨c, c', u, v, e, rfl, rfl, hu, hv, he, rfl, e1, e2⟩ := scalar (.int k) (by simp [flat, hk]) (by simp [aggT, hk])
      rw [e1, e2]
      rcases eqC_ok he hu hv with ⟨k0, a, b, _, rfl, rfl, rfl⟩ | ⟨a, b, hkk, _⟩ | ⟨a, b, hkk, _⟩
      · exact run_equalIn_int w m t k0 k a b hk
      · cases hkk
      · cases hkk
    · rename_i hk
      obtain ⟨c, c', u, v, e, rfl, rfl, hu, hv, he, rfl, e1, e2⟩ := scalar .bool (by simp [flat, hk]) (by simp [aggT, hk])
      rw [e1, e2]
      rcases eqC_ok he hu hv with ⟨k0, a, b, hkk, _⟩ | ⟨a, b, _, rfl, rfl, rfl⟩ | ⟨a, b, hkk, _⟩
      · cases hkk
      · exact run_equalIn_bool' w m t a b hk
      · cases hkk
    · rename_i hk
      obtain ⟨c, c', u, v, e, rfl, rfl, hu, hv, he, rfl, e1, e2⟩ := scalar .str (by simp [flat, hk]) (by simp [aggT, hk])
      rw [e1, e2]
      rcases eqC_ok he hu hv with ⟨k0, a, b, hkk, _⟩ | ⟨a, b, hkk, _⟩ | ⟨a, b, _, rfl, rfl, rfl⟩
      · cases hkk
      · cases hkk
      · exact run_equalIn_string w m t a b hk
    · rename_i fs hk
      have ha : aggT P t = true := by simp [aggT, hk]
      have hfo : P.fieldsOf t = fs := by simp [Program.fieldsOf, hk]
      simp only [Bool.and_eq_true, Bool.not_eq_true'] at h
      have e1 : mkT P t us = .agg us.toArray := by simp [mkT, ha]
      have e2 : mkT P t vs = .agg vs.toArray := by simp [mkT, ha]
      rw [e1, e2, run_equalIn_struct w m t _ _ (by rw [hk, hfo]) h.1, hfo]
      have hfl : flat P (d + 1) t = fs.toList.flatMap fun f => flat P d f.type := by simp [flat, hk]
      rw [hfl] at hb
      have key : ∀ (l : List Field) (off n : Nat) (b : Bool), eqFs P (eqT P d) l off n = true → eqFlat (l.flatMap fun f => flat P d f.type) (cs.drop off) (ds.drop off) = some b →
          off ≤ cs.length → off ≤ ds.length → (Op.eqFields m us.toArray vs.toArray l).run P w = .ok b w := by
        intro l
        induction l with
        | nil =>
          intro off n b h hb _ _
          have hl := eqFlat_len _ _ _ _ hb
          simp only [List.flatMap_nil, List.length_nil] at hl
          simp only [List.flatMap_nil] at hb
          rw [List.eq_nil_of_length_eq_zero hl.1, List.eq_nil_of_length_eq_zero hl.2] at hb
          simp [eqFlat] at hb
          simp [Op.eqFields, hb]
        | cons f l ih =>
          intro off n b h hb hoc hod
          simp only [eqFs, Bool.and_eq_true, decide_eq_true_eq] at h
          obtain ⟨⟨⟨hoff, hname⟩, hft⟩, hrest⟩ := h
          have hoff := beq_eq hoff
          obtain ⟨hz, hone, x, hx⟩ := eqT_sz d f.type hft
          simp only [List.flatMap_cons] at hb
          have hlen := eqFlat_len _ _ _ _ hb
          obtain ⟨b1, b2, h1, h2, rfl⟩ := eqFlat_append _ _ _ _ _ hb
          rw [hz] at h1 h2
          simp only [List.length_append, List.length_drop, hz] at hlen
          have hcu := LRel.len hc
          have hdu := LRel.len hd
          have p1 := run_part (P := P) hx hone (xs := us.toArray) (off := f.offset) (by simp; omega) w
          have p2 := run_part (P := P) hx hone (xs := vs.toArray) (off := f.offset) (by simp; omega) w
          have q := eq_ok d f.type hft _ _ _ _ b1 (LRel.take (sz P f.type) (LRel.drop off hc)) (LRel.take (sz P f.type) (LRel.drop off hd)) h1 m w (by omega)
          rw [hoff] at p1 p2
          simp only [List.drop_drop] at h2
          have r := ih (off + sz P f.type) n b2 hrest h2 (by omega) (by omega)
          simp only [Op.eqFields, ne_eq, hname, not_false_eq_true, if_true, Sem.run_bind, hoff, p1, p2, q, Result.andThen_ok]
          cases b1 with
          | true => simpa using r
          | false => simp
      exact key _ 0 _ b h.2 (by simpa using hb) (Nat.zero_le _) (Nat.zero_le _)
    · cases h


variable {ρ : Rho} {r : V × Heap} {K : Rq → Ans}

theorem eq_nilp {t e : TypeId} (d : Nat) (ht : P.underlying t = some (.pointer e)) (w : World) : (Op.equalIn (d + 1) t (.pointer none) (.pointer none)).run P w = .ok true w := by simp [Op.equalIn, run_underlying ht]
theorem eq_nilp_l {t e : TypeId} (d : Nat) (ht : P.underlying t = some (.pointer e)) (a : Addr) (w : World) : (Op.equalIn (d + 1) t (.pointer none) (.pointer (some a))).run P w = .ok false w := by simp [Op.equalIn, run_underlying ht]
theorem eq_nilp_r {t e : TypeId} (d : Nat) (ht : P.underlying t = some (.pointer e)) (a : Addr) (w : World) : (Op.equalIn (d + 1) t (.pointer (some a)) (.pointer none)).run P w = .ok false w := by simp [Op.equalIn, run_underlying ht]
theorem eq_nils {t e : TypeId} (d : Nat) (ht : P.underlying t = some (.slice e)) (w : World) : (Op.equalIn (d + 1) t (.slice none 0 0) (.slice none 0 0)).run P w = .ok true w := by simp [Op.equalIn, run_underlying ht]
theorem eq_nils_l {t e : TypeId} (d : Nat) (ht : P.underlying t = some (.slice e)) (a : Addr) (n c : Nat) (w : World) : (Op.equalIn (d + 1) t (.slice none 0 0) (.slice (some a) n c)).run P w = .ok false w := by simp [Op.equalIn, run_underlying ht]
theorem eq_nils_r {t e : TypeId} (d : Nat) (ht : P.underlying t = some (.slice e)) (a : Addr) (n c : Nat) (w : World) : (Op.equalIn (d + 1) t (.slice (some a) n c) (.slice none 0 0)).run P w = .ok false w := by simp [Op.equalIn, run_underlying ht]

/-- The two results of a comparison. -/
theorem eqOp_0 {α : Type} {K : Rq → Option α} {t : TypeId} {neg : Bool} {x y : V} : eqOp P t neg x y K = eqOp0 P t neg x y K := by
  unfold eqOp eqOp0
  cases P.underlying t with
  | none => cases x <;> cases y <;> rfl
  | some d => cases d <;> cases x <;> cases y <;> rfl

theorem eqOp_ok {t : TypeId} {neg : Bool} {x y : V} {u v : Value} {ox oy : Operand} (hx : VRel ρ x u) (hy : VRel ρ y v) (h : eqOp P t neg x y K = some r) :
    ∃ z, K (.val z) = some r ∧ Gives P ρ (do eqGuard (cond neg .neq .eql) t ox oy u v; binOp (cond neg .neq .eql) t u v) z := by
  have fin : ∀ (b : Bool), (∀ w, (eqGuard (cond neg .neq .eql) t ox oy u v).run P w = .ok () w) → (∀ w, (Op.equalIn 10000 t u v).run P w = .ok b w) →
      (∀ op w, (op = .eql → (binOp op t u v).run P w = ((Op.equalIn 10000 t u v).run P w).andThen fun b w' => .ok (.bool b) w') ∧
        (op = .neq → (binOp op t u v).run P w = ((Op.equalIn 10000 t u v).run P w).andThen fun b w' => .ok (.bool (!b)) w')) →
      Gives P ρ (do eqGuard (cond neg .neq .eql) t ox oy u v; binOp (cond neg .neq .eql) t u v) (.bool (cond neg (!b) b)) := by
    intro b hg he hb
    refine ⟨_, mbool _, fun w => ?_⟩
    rw [Sem.run_bind, hg, Result.andThen_ok]
    cases neg with
    | true => rw [cond_true, (hb .neq w).2 rfl, he]; rfl
    | false => rw [cond_false, (hb .eql w).1 rfl, he]; rfl
  have gen : ∀ (hb : ∀ op, op = .eql ∨ op = .neq → binOp op t u v = (match op with | .eql => (do pure (.bool (← Op.equal t u v))) | _ => (do pure (.bool (!(← Op.equal t u v)))))),
      (∀ op w, (op = .eql → (binOp op t u v).run P w = ((Op.equalIn 10000 t u v).run P w).andThen fun b w' => .ok (.bool b) w') ∧
        (op = .neq → (binOp op t u v).run P w = ((Op.equalIn 10000 t u v).run P w).andThen fun b w' => .ok (.bool (!b)) w')) := by
    intro hb op w
    refine ⟨fun e => ?_, fun e => ?_⟩
    · rw [hb op (.inl e), e]; simp [Op.equal, Op.maxDepth]
    · rw [hb op (.inr e), e]; simp [Op.equal, Op.maxDepth]
  rw [eqOp_0] at h
  unfold eqOp0 at h
  split at h
  · rename_i a b ht
    have hu := vbool hx; have hv := vbool hy; subst hu; subst hv
    exact ⟨_, h, fin (a == b) (fun w => by first | (rw [eqGuard_at_bool]; rfl) | (rw [eqGuard_at_pointer]; rfl) | (rw [eqGuard_at_slice]; rfl)) (fun w => run_equalIn_bool' w 9999 t a b ht) (gen (by rintro op (rfl | rfl) <;> rfl))⟩
  · rename_i e ht
    simp only [VRel] at hx hy; subst hx; subst hy
    refine ⟨_, h, ?_⟩
    have := fin true (fun w => by first | (rw [eqGuard_at_bool]; rfl) | (rw [eqGuard_at_pointer]; rfl) | (rw [eqGuard_at_slice]; rfl)) (eq_nilp 9999 ht) (gen (by rintro op (rfl | rfl) <;> rfl))
    cases neg <;> exact this
  · rename_i e _ _ ht
    simp only [VRel] at hx hy; subst hx; obtain ⟨p, _, rfl⟩ := hy
    refine ⟨_, h, ?_⟩
    have := fin false (fun w => by first | (rw [eqGuard_at_bool]; rfl) | (rw [eqGuard_at_pointer]; rfl) | (rw [eqGuard_at_slice]; rfl)) (eq_nilp_l 9999 ht _) (gen (by rintro op (rfl | rfl) <;> rfl))
    cases neg <;> exact this
  · rename_i e _ _ ht
    simp only [VRel] at hx hy; subst hy; obtain ⟨p, _, rfl⟩ := hx
    refine ⟨_, h, ?_⟩
    have := fin false (fun w => by first | (rw [eqGuard_at_bool]; rfl) | (rw [eqGuard_at_pointer]; rfl) | (rw [eqGuard_at_slice]; rfl)) (eq_nilp_r 9999 ht _) (gen (by rintro op (rfl | rfl) <;> rfl))
    cases neg <;> exact this
  · rename_i e ht
    simp only [VRel] at hx hy; subst hx; subst hy
    refine ⟨_, h, ?_⟩
    have := fin true (fun w => by first | (rw [eqGuard_at_bool]; rfl) | (rw [eqGuard_at_pointer]; rfl) | (rw [eqGuard_at_slice]; rfl)) (eq_nils 9999 ht) (gen (by rintro op (rfl | rfl) <;> rfl))
    cases neg <;> exact this
  · rename_i e _ _ _ _ ht
    simp only [VRel] at hx hy; subst hx; obtain ⟨p, A, cap, _, rfl, _⟩ := hy
    refine ⟨_, h, ?_⟩
    have := fin false (fun w => by first | (rw [eqGuard_at_bool]; rfl) | (rw [eqGuard_at_pointer]; rfl) | (rw [eqGuard_at_slice]; rfl)) (eq_nils_l 9999 ht _ _ _) (gen (by rintro op (rfl | rfl) <;> rfl))
    cases neg <;> exact this
  · rename_i e _ _ _ _ ht
    simp only [VRel] at hx hy; subst hy; obtain ⟨p, A, cap, _, rfl, _⟩ := hx
    refine ⟨_, h, ?_⟩
    have := fin false (fun w => by first | (rw [eqGuard_at_bool]; rfl) | (rw [eqGuard_at_pointer]; rfl) | (rw [eqGuard_at_slice]; rfl)) (eq_nils_r 9999 ht _ _ _) (gen (by rintro op (rfl | rfl) <;> rfl))
    cases neg <;> exact this
  · rename_i fs a b ht
    obtain ⟨hc, h⟩ := ofCond h
    simp only [Bool.and_eq_true, Bool.not_eq_true'] at hc
    obtain ⟨q, hq, h⟩ := Option.bind_eq_some_iff.1 h
    simp only [VRel] at hx hy
    obtain ⟨ua, rfl, ha⟩ := hx
    obtain ⟨va, rfl, hb⟩ := hy
    have hagg : aggT P t = true := by simp [aggT, ht]
    have key := fun w => eq_ok (P := P) 20 t hc.1 a b _ _ q ha hb hq 10000 w (by omega)
    simp only [mkT, hagg, if_true, Array.toArray_toList] at key
    exact ⟨_, h, fin q (fun w => run_eqGuard_agg w _ t ox oy _ _ hc.2) key (gen (by rintro op (rfl | rfl) <;> rfl))⟩
  · cases h

theorem binV_0 {α : Type} {K : Rq → Option α} {r : α} {op : BinOp} {t : TypeId} {x y : V} (h : binV P op t x y K = some r) : binV0 P op t x y K = some r := by
  unfold binV at h
  split at h
  · split at h
    · exact h
    · cases h
  · split at h
    · exact h
    · cases h
  · rw [← h]
    unfold binV0
    split
    · exfalso
      split at h
      · rw [eqOp_0] at h; unfold eqOp0 at h; split at h <;> first | cases h | simp_all
      · rw [eqOp_0] at h; unfold eqOp0 at h; split at h <;> first | cases h | simp_all
      · cases h
    · exfalso
      split at h
      · rw [eqOp_0] at h; unfold eqOp0 at h; split at h <;> first | cases h | simp_all
      · rw [eqOp_0] at h; unfold eqOp0 at h; split at h <;> first | cases h | simp_all
      · cases h
    · rfl

theorem binV_ok {op : BinOp} {t : TypeId} {x y : V} {u v : Value} {ox oy : Operand} (hx : VRel ρ x u) (hy : VRel ρ y v) (h : binV P op t x y K = some r) :
    ∃ z, K (.val z) = some r ∧ Gives P ρ (do eqGuard op t ox oy u v; binOp op t u v) z := by
  have pre : ∀ {z : V}, (∀ w, (eqGuard op t ox oy u v).run P w = .ok () w) → Gives P ρ (binOp op t u v) z → Gives P ρ (do eqGuard op t ox oy u v; binOp op t u v) z := by
    rintro z hg ⟨a, ha, hr⟩
    exact ⟨a, ha, fun w => by rw [Sem.run_bind, hg, Result.andThen_ok, hr]⟩
  replace h := binV_0 h
  unfold binV0 at h
  split at h
  · rename_i k a k' b
    have hu := vint hx; have hv := vint hy; subst hu; subst hv
    have hg : ∀ w, (eqGuard op t ox oy (.int k a) (.int k' b)).run P w = .ok () w := fun w => by rw [eqGuard_at_int]; rfl
    split at h
    · obtain ⟨z, hz, hgv⟩ := shiftOp_ok (P := P) (ρ := ρ) (k' := k') (t := t) h
      exact ⟨z, hz, pre hg hgv⟩
    · obtain ⟨z, hz, hgv⟩ := shiftOp_ok (P := P) (ρ := ρ) (k' := k') (t := t) h
      exact ⟨z, hz, pre hg hgv⟩
    · obtain ⟨hk, h2⟩ := ofCond h
      have hk := of_decide_eq_true hk; subst hk
      obtain ⟨z, hz, hgv⟩ := intOp_ok (P := P) (ρ := ρ) (t := t) h2
      exact ⟨z, hz, pre hg hgv⟩
  · simp only [VRel] at hx hy
    obtain ⟨a, rfl, ha⟩ := hx
    obtain ⟨b, rfl, hb⟩ := hy
    obtain ⟨z, hz, hgv⟩ := strOp_ok (P := P) (ρ := ρ) (t := t) ha hb h
    exact ⟨z, hz, pre (fun w => by rw [eqGuard_at_string]; rfl) hgv⟩
  · split at h
    · exact eqOp_ok (neg := false) hx hy h
    · exact eqOp_ok (neg := true) hx hy h
    · cases h

end
end Go.Proofs.Ytminfdcdmgpnjaa.K
