/- What an operation asks of the heap is what the machine's operation does: all operations together. -/
import Derived.Test.YtminfdcdmgpnjaaK6
set_option linter.unusedVariables false
set_option linter.unusedSimpArgs false
namespace Go.Proofs.Ytminfdcdmgpnjaa.K
open Go

def asNext (s : Sem Value) : Sem Next := do pure (.value (← s))
theorem asNext_run {P : Program} {s : Sem Value} {w w' : World} {u : Value} (h : s.run P w = .ok u w') : (asNext s).run P w = .ok (.value u) w' := by
  simp [asNext, h]

/-- What was asked, as the machine's operation s does it. -/
def Does (P : Program) (ρ : Rho) (s : Sem Next) : Rq → Prop
  | .val v => ∃ u, VRel ρ v u ∧ ∀ w, s.run P w = .ok (.value u) w
  | .ld id off ks ag => ∃ p, ρ id = some p ∧ ∀ (vs : List Value) (w : World), vs.length = ks.length → (∀ j v, vs[j]? = some v → w.cell? (p.addr.add (off + j)) = some v) →
      (ag = false → vs.length = 1) → s.run P w = .ok (.value (match ag with | true => .agg vs.toArray | false => vs.headD (.tuple #[]))) w
  | .bytes id off len => ∃ p, ρ id = some p ∧ ∀ (ns : List Int) (w : World), ns.length = len → (∀ j n, ns[j]? = some n → w.cell? (p.addr.add (off + j)) = some (.int .u8 n)) →
      s.run P w = .ok (.value (.string ⟨(ns.map fun n => UInt8.ofNat n.toNat).toArray⟩)) w
  | .look id k zero ok => ∃ p ku zu, ρ id = some p ∧ VRel ρ k ku ∧ VRel ρ zero zu ∧ ∀ (ents : Array MapEntry) (clock : Nat) (w : World) (res : Option (Nat × Value)),
      w.heap[p.addr.block]? = some (.map ents clock) → Instr.findNow (.int .i64) ku ents.toList 0 = some res →
      s.run P w = .ok (.value (match ok with
        | true => .tuple #[(res.map (·.2)).getD zu, .bool res.isSome]
        | false => (res.map (·.2)).getD zu)) w
  | .lenM id => ∃ p, ρ id = some p ∧ ∀ (ents : Array MapEntry) (clock : Nat) (w : World), w.heap[p.addr.block]? = some (.map ents clock) → s.run P w = .ok (.value (.int .i64 (ents.size : Int))) w
  | .lenC id => ∃ p, ρ id = some p ∧ ∀ cap (buf : Array Value) cl sn rc (w : World), w.heap[p.addr.block]? = some (.chan cap buf cl sn rc false) → s.run P w = .ok (.value (.int .i64 (buf.size : Int))) w
  | .new b mk => ∃ s', s = asNext s' ∧ Makes P ρ s' b mk
  | .st id off cs => ∃ p, ρ id = some p ∧ (cs.all V.one = true → ∃ vs, LRel ρ cs vs ∧ ∀ w, s.run P w = ((storeCells (p.addr.add off) vs).run P w).andThen fun _ w => .ok .skip w)
  | .app x y es => ∃ ux uy t t' ty e, VRel ρ x ux ∧ VRel ρ y uy ∧ s = asNext (Builtin.append_ #[t, t'] ty #[ux, uy]) ∧ P.underlying t = some (.slice e) ∧ sz P e = es ∧ appT P e = true ∧
      ((∃ e', P.underlying t' = some (.slice e')) ∨ (P.underlying t' = some .string ∧ es = 1))
  | .cpy x y es => ∃ ux uy t ts ty e, VRel ρ x ux ∧ VRel ρ y uy ∧ s = asNext (Builtin.copy_ (t :: ts).toArray ty #[ux, uy]) ∧ P.underlying t = some (.slice e) ∧ sz P e = es ∧ 0 < es
  | .put id k v => ∃ p ku vu t kt et kk, ρ id = some p ∧ VRel ρ k ku ∧ VRel ρ v vu ∧ P.underlying t = some (.map kt et) ∧ P.underlying kt = some (.int kk) ∧
      ∀ w, s.run P w = ((Instr.mapUpdate t (.map (some p.addr.block)) ku vu).run P w).andThen fun _ w => .ok .skip w
  | .call f vs rt => ∃ vs', LRel ρ vs vs' ∧ s = callFunc f vs'.toArray

section
variable {P : Program} {ρ : Rho} {r : V × Heap} {K : Rq → Ans}

theorem Does.ofGives {s : Sem Value} {v : V} (h : Gives P ρ s v) : Does P ρ (asNext s) (.val v) := by
  obtain ⟨u, hu, hr⟩ := h
  exact ⟨u, hu, fun w => asNext_run (hr w)⟩

theorem ev_list {a : Tms} {ev' : Operand → Value} : ∀ {l : List Operand}, (∀ x ∈ l, VRel ρ (ev a x) (ev' x)) → LRel ρ (l.map (ev a)) (l.map ev')
  | [], _ => trivial
  | x :: l, h => ⟨h x (by simp), ev_list (fun y hy => h y (by simp [hy]))⟩

theorem ev_parts {a : Tms} {ev' : Operand → Value} (ps : List (Nat × Operand)) (h : ∀ x ∈ ps.map (·.2), VRel ρ (ev a x) (ev' x)) :
    PRel ρ (ps.map fun (i, x) => (i, ev a x)) (ps.map fun (i, x) => (i, ev' x)) := by
  refine ⟨by simp [Function.comp_def], ?_⟩
  have := ev_list (ρ := ρ) (a := a) (ev' := ev') (l := ps.map (·.2)) h
  simpa [Function.comp_def] using this

theorem eachU8 {ns : List Int} (g : Value → ByteArray → Sem (ForInStep ByteArray)) (hg : ∀ n r, g (.int .u8 n) r = pure (ForInStep.yield (r.push (UInt8.ofNat n.toNat)))) :
    ∀ (s : ByteArray) (w : World), (forIn (m := Sem) (ns.map (Value.int .u8)) s g).run P w = .ok ⟨s.data ++ (ns.map fun n => UInt8.ofNat n.toNat).toArray⟩ w := by
  induction ns with
  | nil => intro s w; simp
  | cons n ns ih =>
    intro s w
    simp only [List.map_cons, List.forIn_cons, hg, Sem.run_bind, Sem.run_pure, Result.andThen_ok, ih]
    congr 1
    simp [ByteArray.push]

theorem bytes_run {e s d : TypeId} {A : Addr} {len cap : Nat} {p : Place} {off : Nat} (hs : P.underlying s = some (.slice e)) (hd : P.underlying d = some .string) (he : P.underlying e = some (.int .u8))
    (hA : cap ≠ 0 → A = p.addr.add off) (hlc : len ≤ cap) (ns : List Int) (w : World) (hn : ns.length = len) (hc : ∀ j n, ns[j]? = some n → w.cell? (p.addr.add (off + j)) = some (.int .u8 n)) :
    (convert s d (.slice (some A) len cap)).run P w = .ok (.string ⟨(ns.map fun n => UInt8.ofNat n.toNat).toArray⟩) w := by
  have hl : (loadCells A len).run P w = .ok (ns.map (Value.int .u8)).toArray w := by
    refine run_loadCells_rel (ρ := fun _ => none) (by simp [hn]) fun j v hv => ?_
    rw [List.getElem?_map] at hv
    obtain ⟨n, hn', rfl⟩ := Option.map_eq_some_iff.1 hv
    have hj : j < ns.length := (List.getElem?_eq_some_iff.1 hn').1
    rw [hA (by omega), add_add]
    exact hc j n hn'
  simp only [convert, Sem.run_bind, run_underlying hs, run_underlying hd, Result.andThen_ok, run_underlying he, Conv.bytesToString, hl]
  rw [← Array.forIn_toList]
  rw [eachU8 (P := P) (ns := ns) _ (fun n r => rfl) ByteArray.empty w]
  simp


theorem opt_of {a : Tms} {ev' : Operand → Value} {o : Option Operand} (h : ∀ x ∈ o.toList, VRel ρ (ev a x) (ev' x)) :
    (∀ v, o.map (ev a) = some v → ∃ u, o.map ev' = some u ∧ VRel ρ v u) ∧ (o.map (ev a) = none → o.map ev' = none) := by
  cases o with
  | none => exact ⟨fun v hv => by simp at hv, fun _ => rfl⟩
  | some x => exact ⟨fun v hv => by simp at hv; subst hv; exact ⟨_, rfl, h x (by simp)⟩, fun hn => by simp at hn⟩

theorem fieldsOf_nth {t : TypeId} {i o n : Nat} (h : nth (fieldsOf P t) i = some (o, n)) : ∃ fs f, P.underlying t = some (.struct fs) ∧ fs[i]? = some f ∧ f.offset = o ∧ sz P f.type = n := by
  unfold fieldsOf at h
  split at h
  · rename_i fs hfs
    rw [nth_eq, List.getElem?_map] at h
    obtain ⟨f, hf, he⟩ := Option.map_eq_some_iff.1 h
    simp only [Prod.mk.injEq] at he
    exact ⟨fs, f, hfs, by rwa [Array.getElem?_toList] at hf, he.1, he.2⟩
  · simp [nth] at h

theorem fieldAddr_ok {t : TypeId} {i o n id off : Nat} {u : Value} (hx : VRel ρ (.ptr id off) u) (hf : nth (fieldsOf P t) i = some (o, n)) (hn : 0 < n) : Gives P ρ (Instr.fieldAt t u i) (.ptr id (off + o)) := by
  obtain ⟨fs, f, ht, hfi, rfl, rfl⟩ := fieldsOf_nth hf
  obtain ⟨p, hp, rfl⟩ := vptr hx
  refine ⟨.pointer (some ((p.addr.add off).add f.offset)), ?_, fun w => ?_⟩
  · simp only [VRel]; exact ⟨p, hp, by rw [add_add]⟩
  · have : sz P f.type ≠ 0 := by omega
    simp [Instr.fieldAt, run_underlying ht, hfi, Instr.sureAddr, fieldPlace, run_sz' this, this]

theorem load_ok {t : TypeId} {id off : Nat} {u : Value} (hx : VRel ρ (.ptr id off) u) (hl : (flat P 20 t).length = sz P t) : Does P ρ (asNext (Instr.loadAt t u)) (.ld id off (flat P 20 t) (aggT P t)) := by
  obtain ⟨p, hp, rfl⟩ := vptr hx
  refine ⟨p, hp, fun vs w hn hc h1 => asNext_run ?_⟩
  cases hd : P.underlying t with
  | none =>
    have e0 : flat P 20 t = [] := by simp [flat, hd]
    have ea : aggT P t = false := by simp [aggT, hd]
    have := h1 ea
    rw [e0, this] at hn
    simp at hn
  | some d =>
    cases ea : aggT P t with
    | true =>
      have hnil : vs.length = sz P t := by rw [hn, hl]
      have hld : (loadCells (p.addr.add off) (sz P t)).run P w = .ok vs.toArray w :=
        run_loadCells_rel (ρ := fun _ => none) hnil (fun j v hv => by rw [add_add]; exact hc j v hv)
      have hszr : (sizeOf t).run P w = .ok (sz P t) w := run_sz hd w
      simp [Instr.loadAt, Instr.sureAddr, loadVar, run_agg hd, ea, hszr, hld]
    | false =>
      have h2 := h1 ea
      match vs, h2 with
      | [v], _ =>
        have hcv := hc 0 v rfl
        simp only [Nat.add_zero] at hcv
        simp [Instr.loadAt, Instr.sureAddr, loadVar, run_agg hd, ea, hcv]

theorem store_ok {t : TypeId} {id off : Nat} {v : V} {u uv : Value} (hx : VRel ρ (.ptr id off) u) (hv : VRel ρ v uv) (hl : v.cells.length = sz P t) (h0 : sz P t ≠ 0) :
    Does P ρ (do Instr.storeAt t u uv; pure .skip) (.st id off v.cells) := by
  obtain ⟨p, hp, rfl⟩ := vptr hx
  refine ⟨p, hp, fun h1 => ?_⟩
  have hne : ∀ vs, v ≠ .tup vs := by rintro vs rfl; simp [V.cells, V.one] at h1
  have hnu : v ≠ .undef := by rintro rfl; simp [V.cells, V.one] at h1
  have hr := VRel.cells hv hne hnu
  have hl2 := LRel.len hr
  refine ⟨uv.cells.toList, hr, fun w => ?_⟩
  have hs : uv.cells.size = sz P t := by simp at hl2; omega
  simp [Instr.storeAt, Instr.sureAddr, storeVar, run_sz' h0, hs]


theorem lookup_ok {t kt e : TypeId} {kk : IntKind} {id : Nat} {k : V} {u uk : Value} {ok : Bool} (hx : VRel ρ (.map id) u) (hk : VRel ρ k uk) (ht : P.underlying t = some (.map kt e)) (hkt : P.underlying kt = some (.int kk))
    (hz : (zeroV P e).one = true) : Does P ρ (asNext (Instr.lookup t u uk ok)) (.look id k (zeroV P e) ok) := by
  simp only [VRel] at hx
  obtain ⟨p, hp, rfl⟩ := hx
  unfold zeroV at hz ⊢
  cases hi : P.info? e with
  | none => rw [hi] at hz; cases hz
  | some i =>
    rw [hi] at hz
    simp only at hz ⊢
    cases hzv : i.zero with
    | none => rw [hzv] at hz; cases hz
    | some zv =>
      rw [hzv] at hz
      simp only at hz ⊢
      have hzr : ∀ w, (zeroValue e).run P w = .ok zv w := fun w => by simp [zeroValue, run_typeInfo w hi, hzv]
      refine ⟨p, uk, zv, hp, hk, ofValue_rel ρ zv, fun ents clock w res hh hf => asNext_run ?_⟩
      have hck : (Instr.checkKey ents.isEmpty 10000 kt uk).run P w = .ok () w := by
        unfold Instr.checkKey
        simp [run_underlying hkt]
      have hg : (getObj p.addr.block).run P w = .ok (.map ents clock) w := by
        simp [getObj, Sem.run, hh]
      have hfn : Instr.findNow (.int kk) uk ents.toList 0 = some res := by
        have : ∀ (l : List MapEntry) (n : Nat), Instr.findNow (.int kk) uk l n = Instr.findNow (.int .i64) uk l n := by
          intro l
          induction l with
          | nil => intro n; rfl
          | cons x l ih =>
            intro n
            have hs : Instr.sameNow (.int kk) uk x.key = Instr.sameNow (.int .i64) uk x.key := by
              cases uk <;> cases x.key <;> rfl
            simp only [Instr.findNow, hs, ih]
        rw [this]; exact hf
      cases res with
      | none => cases ok <;> simp [Instr.lookup, run_underlying ht, hg, hck, Instr.findKey, run_underlying hkt, hfn, hzr]
      | some q => obtain ⟨i, v⟩ := q; cases ok <;> simp [Instr.lookup, run_underlying ht, hg, hck, Instr.findKey, run_underlying hkt, hfn]

theorem isKd_int {t : TypeId} {kk : IntKind} (h : isKd P t = some (.int kk)) : P.underlying t = some (.int kk) := by
  unfold isKd at h
  split at h <;> simp_all

theorem callB_ok {b : Builtin} {ts : List TypeId} {vs : List V} {us : List Value} {ty : TypeId} {consts : Array Bool} (hl : LRel ρ vs us) (h : callB P b ts vs K = some r) :
    ∃ rq, K rq = some r ∧ Does P ρ (builtin b ts.toArray ty consts us.toArray) rq := by
  unfold callB at h
  split at h
  · rename_i t ts x
    match us, hl with
    | [u], hl =>
      have hx : VRel ρ x u := hl.1
      rcases lenV_ok (ty := ty) (ts := ts) hx h with ⟨z, hz, hg⟩ | ⟨id, k, e, rfl, hK, ht⟩ | ⟨id, k, e, rfl, hK, ht⟩
      · exact ⟨_, hz, Does.ofGives hg⟩
      · simp only [VRel] at hx
        obtain ⟨p, hp, rfl⟩ := hx
        refine ⟨_, hK, p, hp, fun ents clock w hh => asNext_run ?_⟩
        have hg : (getObj p.addr.block).run P w = .ok (.map ents clock) w := by simp [getObj, Sem.run, hh]
        simp [Builtin.len_, run_underlying ht, hg, goInt]
      · simp only [VRel] at hx
        obtain ⟨p, hp, rfl⟩ := hx
        refine ⟨_, hK, p, hp, fun cap buf cl sn rc w hh => asNext_run ?_⟩
        have hg : (getObj p.addr.block).run P w = .ok (.chan cap buf cl sn rc false) w := by simp [getObj, Sem.run, hh]
        simp [Builtin.len_, run_underlying ht, hg, goInt]
    | [], hl => simp [LRel] at hl
    | _ :: _ :: _, hl => simp [LRel] at hl
  · rename_i v vs
    obtain ⟨z, hz, h⟩ := Option.bind_eq_some_iff.1 h
    match us, hl with
    | u :: us, hl =>
      simp only [LRel] at hl
      obtain ⟨y, hy, hr⟩ := minV_ok hl.1 hl.2 hz
      exact ⟨_, h, Does.ofGives (s := Builtin.min_ ts.toArray ty (u :: us).toArray) ⟨y, hy, fun w => by simpa [Builtin.min_] using hr w⟩⟩
    | [], hl => simp [LRel] at hl
  · rename_i v vs
    obtain ⟨z, hz, h⟩ := Option.bind_eq_some_iff.1 h
    match us, hl with
    | u :: us, hl =>
      simp only [LRel] at hl
      obtain ⟨y, hy, hr⟩ := maxV_ok hl.1 hl.2 hz
      exact ⟨_, h, Does.ofGives (s := Builtin.max_ ts.toArray ty (u :: us).toArray) ⟨y, hy, fun w => by simpa [Builtin.max_] using hr w⟩⟩
    | [], hl => simp [LRel] at hl
  · rename_i t t' x y
    match us, hl with
    | [u, u'], hl =>
      simp only [LRel] at hl
      split at h
      · rename_i e e' ht ht'
        obtain ⟨hc, h⟩ := ofCond h
        exact ⟨_, h, u, u', t, t', ty, e, hl.1, hl.2.1, rfl, ht, rfl, hc, .inl ⟨e', ht'⟩⟩
      · rename_i e ht ht'
        obtain ⟨hc, h⟩ := ofCond h
        simp only [Bool.and_eq_true] at hc
        exact ⟨_, h, u, u', t, t', ty, e, hl.1, hl.2.1, rfl, ht, beq_eq hc.2, hc.1, .inr ⟨ht', rfl⟩⟩
      · cases h
    | [], hl => simp [LRel] at hl
    | [_], hl => simp [LRel] at hl
    | _ :: _ :: _ :: _, hl => simp [LRel] at hl
  · rename_i t ts x y
    match us, hl with
    | [u, u'], hl =>
      simp only [LRel] at hl
      split at h
      · rename_i e ht
        obtain ⟨hc, h⟩ := ofCond h
        exact ⟨_, h, u, u', t, ts, ty, e, hl.1, hl.2.1, rfl, ht, rfl, blt_lt hc⟩
      · cases h
    | [], hl => simp [LRel] at hl
    | [_], hl => simp [LRel] at hl
    | _ :: _ :: _ :: _, hl => simp [LRel] at hl
  · cases h

/-- EVERY REQUEST IS WHAT THE MACHINE's OPERATION DOES. -/
theorem req_ok {a : Tms} {o : Oper} {ev' : Operand → Value} (hx : ∀ x ∈ o.op.operands.toList, VRel ρ (ev a x) (ev' x)) (h : req P a o K = some r) :
    ∃ rq, K rq = some r ∧ Does P ρ (execOp ev' o) rq := by
  unfold req at h
  unfold execOp
  split at h
  · rename_i x ho
    rw [ho] at hx ⊢
    exact ⟨_, h, _, hx x (by simp [Op.operands]), fun w => rfl⟩
  · rename_i x ho
    rw [ho] at hx ⊢
    exact ⟨_, h, _, hx x (by simp [Op.operands]), fun w => rfl⟩
  · rename_i c x y ho
    rw [ho] at hx ⊢
    split at h
    · rename_i b hb
      have hc := hx c (by simp [Op.operands])
      rw [hb] at hc
      cases b
      · exact ⟨_, h, ev' y, hx y (by simp [Op.operands]), fun w => by simp [vbool hc, asBool]⟩
      · exact ⟨_, h, ev' x, hx x (by simp [Op.operands]), fun w => by simp [vbool hc, asBool]⟩
    · cases h
  · rename_i x ho
    rw [ho] at hx ⊢
    have hr := hx x (by simp [Op.operands])
    split at h
    · rename_i i f hb
      rw [hb] at hr
      obtain ⟨p, hp, hu⟩ := vptr hr
      exact ⟨_, h, ev' x, hr, fun w => by simp [hu]⟩
    · cases h
  · rename_i t x i ho
    rw [ho] at hx ⊢
    split at h
    · rename_i id off of n hb hf
      obtain ⟨hc, h⟩ := ofCond h
      have hr := hx x (by simp [Op.operands])
      rw [hb] at hr
      exact ⟨_, h, Does.ofGives (fieldAddr_ok hr hf (blt_lt hc))⟩
    · cases h
  · rename_i t x i ho
    rw [ho] at hx ⊢
    split at h
    · rename_i cs fs hb ht
      split at h
      · rename_i f hf
        obtain ⟨hc, h⟩ := ofCond h
        have hr := hx x (by simp [Op.operands])
        rw [hb] at hr
        obtain ⟨z, hz, hg⟩ := field_ok hr ht hf hc h
        exact ⟨_, hz, Does.ofGives hg⟩
      · cases h
    · cases h
  · rename_i t x ho
    rw [ho] at hx ⊢
    split at h
    · rename_i id off hb
      obtain ⟨hc, h⟩ := ofCond h
      have hr := hx x (by simp [Op.operands])
      rw [hb] at hr
      exact ⟨_, h, load_ok hr (beq_eq hc)⟩
    · cases h
  · rename_i t x v ho
    rw [ho] at hx ⊢
    split at h
    · rename_i id off hb
      obtain ⟨hc, h⟩ := ofCond h
      simp only [Bool.and_eq_true] at hc
      have hr := hx x (by simp [Op.operands])
      rw [hb] at hr
      have hpos := blt_lt hc.2
      exact ⟨_, h, store_ok hr (hx v (by simp [Op.operands])) (beq_eq hc.1) (by omega)⟩
    · cases h
  · rename_i op t x y _ ho
    rw [ho] at hx ⊢
    obtain ⟨z, hz, hg⟩ := binV_ok (ox := x) (oy := y) (hx x (by simp [Op.operands])) (hx y (by simp [Op.operands])) h
    exact ⟨_, hz, Does.ofGives hg⟩
  · rename_i op t x ho
    rw [ho] at hx ⊢
    obtain ⟨z, hz, hg⟩ := unV_ok (hx x (by simp [Op.operands])) h
    exact ⟨_, hz, Does.ofGives hg⟩
  · rename_i s d x ho
    rw [ho] at hx ⊢
    have hr := hx x (by simp [Op.operands])
    rcases convV_ok hr h with ⟨z, hz, hg⟩ | ⟨id, off, len, g, e, he, hK, hs, hd, hu8⟩
    · exact ⟨_, hz, Does.ofGives hg⟩
    · rw [he] at hr
      obtain ⟨p, A, cap, hp, hu, hlc, _, hA⟩ := vsl hr
      refine ⟨_, hK, p, hp, fun ns w hn hc => asNext_run ?_⟩
      rw [hu]
      exact bytes_run hs hd hu8 hA hlc ns w hn hc
  · rename_i t x i ho
    rw [ho] at hx ⊢
    obtain ⟨z, hz, hg⟩ := idxA_ok (hx x (by simp [Op.operands])) (hx i (by simp [Op.operands])) h
    exact ⟨_, hz, Does.ofGives hg⟩
  · rename_i t x i ho
    rw [ho] at hx ⊢
    obtain ⟨z, hz, hg⟩ := idxV_ok (hx x (by simp [Op.operands])) (hx i (by simp [Op.operands])) h
    exact ⟨_, hz, Does.ofGives hg⟩
  · rename_i t x lo hi ho
    rw [ho] at hx ⊢
    obtain ⟨l1, l2⟩ := opt_of (ρ := ρ) (a := a) (ev' := ev') (o := lo) (fun y hy => hx y (by simp [Op.operands]; simp at hy; simp [hy]))
    obtain ⟨h1, h2⟩ := opt_of (ρ := ρ) (a := a) (ev' := ev') (o := hi) (fun y hy => hx y (by simp [Op.operands]; simp at hy; simp [hy]))
    obtain ⟨z, hz, hg⟩ := sliceV_ok (hx x (by simp [Op.operands])) l1 l2 h1 h2 h
    exact ⟨_, hz, Does.ofGives hg⟩
  · rename_i x i ho
    rw [ho] at hx ⊢
    split at h
    · rename_i vs hb
      obtain ⟨v, hv, h⟩ := Option.bind_eq_some_iff.1 h
      have hr := hx x (by simp [Op.operands])
      rw [hb] at hr
      obtain ⟨q, hu, hl⟩ := vtup hr
      obtain ⟨u, hq, hur⟩ := LRel.nth hl hv
      rw [Array.getElem?_toList] at hq
      exact ⟨_, h, Does.ofGives ⟨u, hur, fun w => by simp [hu, Instr.extract, hq]⟩⟩
    · cases h
  · rename_i t ps ho
    rw [ho] at hx ⊢
    have hp : PRel ρ (ps.toList.map fun (i, x) => (i, ev a x)) (ps.map fun (i, x) => (i, ev' x)).toList := by
      rw [Array.toList_map]
      exact ev_parts ps.toList (fun x hx' => hx x (by simpa [Op.operands] using hx'))
    split at h
    · rename_i fs ht
      obtain ⟨hc, h⟩ := ofCond h
      obtain ⟨z, hz, h⟩ := Option.bind_eq_some_iff.1 h
      obtain ⟨l, hl, h⟩ := Option.bind_eq_some_iff.1 h
      refine ⟨_, h, Does.ofGives (build_ok hp hz hl (.inl ⟨fs, ht, rfl, fun f hf => ?_⟩))⟩
      rw [List.all_eq_true] at hc
      have := blt_lt (hc (f.offset, sz P f.type) (by simp only [fieldsOf, ht]; exact List.mem_map.2 ⟨f, hf, rfl⟩))
      simp only at this
      omega
    · rename_i n e ht
      obtain ⟨hc, h⟩ := ofCond h
      obtain ⟨z, hz, h⟩ := Option.bind_eq_some_iff.1 h
      obtain ⟨l, hl, h⟩ := Option.bind_eq_some_iff.1 h
      have hpos := blt_lt hc
      exact ⟨_, h, Does.ofGives (build_ok hp hz hl (.inr ⟨n, e, ht, rfl, by omega⟩))⟩
    · cases h
  · rename_i t ho
    rw [ho] at hx ⊢
    obtain ⟨l, hl, h⟩ := Option.bind_eq_some_iff.1 h
    exact ⟨_, h, _, rfl, alloc_ok hl⟩
  · rename_i t x ho
    rw [ho] at hx ⊢
    obtain ⟨hc, h⟩ := ofCond h
    exact ⟨_, h, _, rfl, box_ok (hx x (by simp [Op.operands])) hc⟩
  · rename_i t n ps ho
    rw [ho] at hx ⊢
    have hp : PRel ρ (ps.toList.map fun (i, x) => (i, ev a x)) (ps.map fun (i, x) => (i, ev' x)).toList := by
      rw [Array.toList_map]
      exact ev_parts ps.toList (fun x hx' => hx x (by simpa [Op.operands] using hx'))
    split at h
    · rename_i e ht
      obtain ⟨hc, h⟩ := ofCond h
      simp only [Bool.and_eq_true] at hc
      obtain ⟨z, hz, h⟩ := Option.bind_eq_some_iff.1 h
      obtain ⟨hzl, h⟩ := ofCond h
      obtain ⟨l, hl, h⟩ := Option.bind_eq_some_iff.1 h
      exact ⟨_, h, _, rfl, buildSlice_ok hp ht (blt_lt hc.1) (ble_le hc.2) hz (beq_eq hzl) hl⟩
    · cases h
  · rename_i t l c ho
    rw [ho] at hx ⊢
    split at h
    · rename_i e k l' k' c' ht hl hcv
      obtain ⟨hc, h⟩ := ofCond h
      simp only [Bool.and_eq_true, decide_eq_true_eq] at hc
      obtain ⟨z, hz, h⟩ := Option.bind_eq_some_iff.1 h
      obtain ⟨hzl, h⟩ := ofCond h
      have h1 := hx l (by simp [Op.operands])
      have h2 := hx c (by simp [Op.operands])
      rw [hl] at h1
      rw [hcv] at h2
      refine ⟨_, h, _, rfl, ?_⟩
      rw [vint h1, vint h2]
      exact makeSlice_ok ht hc.1.1.1.1 hc.1.1.1.2 hc.1.1.2 (ble_le hc.1.2) (blt_lt hc.2) hz (beq_eq hzl)
    · cases h
  · rename_i f fst caps ho
    rw [ho] at hx ⊢
    obtain ⟨hc, h⟩ := ofCond h
    have h0 : fst = #[] := Array.eq_empty_of_size_eq_zero (beq_eq hc)
    subst h0
    refine ⟨_, h, .func (.func f) #[] (caps.map ev'), ?_, fun w => by simp [Instr.makeFunc]⟩
    simp only [VRel]
    refine ⟨_, rfl, ?_⟩
    rw [Array.toList_map]
    exact ev_list (fun x hx' => hx x (by simp [Op.operands]; simpa using hx'))
  · rename_i t ho
    rw [ho] at hx ⊢
    exact ⟨_, h, _, rfl, makeMap_ok⟩
  · rename_i t n ho
    rw [ho] at hx ⊢
    split at h
    · rename_i d e k n' ht hn
      obtain ⟨hc, h⟩ := ofCond h
      simp only [Bool.and_eq_true, decide_eq_true_eq] at hc
      have h1 := hx n (by simp [Op.operands])
      rw [hn] at h1
      refine ⟨_, h, _, rfl, ?_⟩
      rw [vint h1]
      exact makeChan_ok ht hc.1.1.1 hc.1.1.2 (ble_le hc.1.2) hc.2
    · cases h
  · rename_i t x k ok ho
    rw [ho] at hx ⊢
    split at h
    · rename_i kt e id ht hm
      split at h
      · rename_i kk hkk
        obtain ⟨hc, h⟩ := ofCond h
        have h1 := hx x (by simp [Op.operands])
        rw [hm] at h1
        exact ⟨_, h, lookup_ok h1 (hx k (by simp [Op.operands])) ht (isKd_int hkk) hc⟩
      · cases h
    · cases h
  · rename_i t m k v ho
    rw [ho] at hx ⊢
    split at h
    · rename_i kt e id ht hm
      split at h
      · rename_i kk hkk
        have h1 := hx m (by simp [Op.operands])
        rw [hm] at h1
        simp only [VRel] at h1
        obtain ⟨p, hp, hu⟩ := h1
        refine ⟨_, h, p, _, _, t, kt, e, kk, hp, hx k (by simp [Op.operands]), hx v (by simp [Op.operands]), ht, isKd_int hkk, fun w => ?_⟩
        simp [hu]
      · cases h
    · cases h
  · rename_i c ho
    rw [ho] at hx ⊢
    have ha : LRel ρ (c.args.toList.map (ev a)) (c.args.toList.map ev') := ev_list (fun x hx' => hx x (by simp [Op.operands, Call.operands]; exact .inr (by simpa using hx')))
    split at h
    · rename_i f hcal
      split at h
      · rename_i g caps hg
        have h1 := hx f (by simp [Op.operands, Call.operands, hcal])
        rw [hg] at h1
        simp only [VRel] at h1
        obtain ⟨q, hu, hl⟩ := h1
        refine ⟨_, h, c.args.toList.map ev' ++ q.toList, LRel.append ha hl, ?_⟩
        simp only [resolve, hcal, hu, Deferred.ofValue, pure_bind, invoke]
        congr 1
        apply Array.ext'
        simp
      · cases h
    · rename_i b hcal
      obtain ⟨rq, hK, hd⟩ := callB_ok (ty := o.type) (consts := c.args.map fun | .const _ => true | _ => false) ha h
      refine ⟨rq, hK, ?_⟩
      have e1 : c.argTypes.toList.toArray = c.argTypes := Array.toArray_toList
      have e2 : (c.args.toList.map ev').toArray = c.args.map ev' := by apply Array.ext'; simp
      rw [e1, e2] at hd
      simp only [resolve, hcal, pure_bind, invoke]
      exact hd
    · cases h
  · cases h

end
end Go.Proofs.Ytminfdcdmgpnjaa.K
