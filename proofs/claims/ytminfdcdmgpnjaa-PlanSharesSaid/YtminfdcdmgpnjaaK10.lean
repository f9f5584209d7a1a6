/- What is asked of the heap, done; in memory alike: copies, maps, calls; all requests together. -/
import Derived.Test.YtminfdcdmgpnjaaK9
set_option linter.unusedVariables false
set_option linter.unusedSimpArgs false
namespace Go.Proofs.Ytminfdcdmgpnjaa.K
open Go

/-- A call of a function of the program, or of one that has no body. -/
def FSem (P : Program) (f : FuncId) (args : Array Value) (w : World) (R : Value → World → Prop) : Prop :=
  (∃ fn, P.funcs[f]? = some fn ∧ (fn.name == "runtime.NumGoroutine") = false ∧ fn.body.isNone = false ∧ Calls P f args w fun e w' => ∃ u, e = .returned u ∧ R u w') ∨
  (∃ u w', (callFunc f args).run P w = .ok (.value u) w' ∧ R u w')

abbrev FnM := List V → Heap → (V → Heap → Ans) → Ans

/-- The function does in memory what M does over plain blocks. -/
def FSound (P : Program) (f : FuncId) (M : FnM) : Prop :=
  ∀ vs H K r, M vs H K = some r → ∃ v H', K v H' = some r ∧
    ∀ ρ w us, HRel ρ H.bl w → Fresh ρ H.next → LRel ρ vs us → FSem P f us.toArray w fun u w' => ∃ ρ', Goes ρ H w ρ' H' w' ∧ VRel ρ' v u

theorem FSound.none (P : Program) (f : FuncId) : FSound P f (fun _ _ _ => Option.none) := fun _ _ _ _ h => by cases h

section
variable {P : Program} {r : V × Heap} {K : V → Heap → Ans}

theorem keyEq_ok {k k' : V} {b : Bool} (h : keyEq k k' = some b) : ∃ j a a', k = .int j a ∧ k' = .int j a' ∧ b = (a == a') := by
  unfold keyEq at h
  split at h
  · rename_i j a j' a'
    by_cases e : j = j'
    · subst e; simp at h; exact ⟨j, a, a', rfl, rfl, h.symm⟩
    · simp [e] at h
  · cases h

theorem findM_ok {ρ : Rho} {k : V} {ku : Value} (hk : VRel ρ k ku) : ∀ {es : List (V × V)} {l : List MapEntry} {res : Option V} (n : Nat), ERel ρ es l → findM k es = some res →
    ∃ res' : Option (Nat × Value), Instr.findNow (.int .i64) ku l n = some res' ∧ (∀ v, res = some v → ∃ i u, res' = some (i, u) ∧ VRel ρ v u) ∧ (res = none → res' = none)
  | [], [], res, n, _, h => by
    simp [findM] at h; subst h
    exact ⟨none, rfl, (fun v hv => by cases hv), fun _ => rfl⟩
  | [], _ :: _, _, _, he, _ => by simp [ERel] at he
  | (_, _) :: _, [], _, _, he, _ => by simp [ERel] at he
  | (k', v) :: es, e :: l, res, n, he, h => by
    simp only [ERel] at he
    simp only [findM] at h
    split at h
    · rename_i hq
      obtain ⟨j, a, a', rfl, rfl, hb⟩ := keyEq_ok hq
      simp only [Option.some.injEq] at h; subst h
      have h1 := vint hk
      have h2 := vint he.1
      refine ⟨some (n, e.val), ?_, fun v' hv' => ?_, fun hn => by cases hn⟩
      · simp only [Instr.findNow, h1, h2, Instr.sameNow, if_true, ← hb]
      · cases hv'; exact ⟨n, e.val, rfl, he.2.1⟩
    · rename_i hq
      obtain ⟨j, a, a', rfl, rfl, hb⟩ := keyEq_ok hq
      have h1 := vint hk
      have h2 := vint he.1
      obtain ⟨res', hr, hs, hn⟩ := findM_ok hk (n + 1) he.2.2 h
      refine ⟨res', ?_, hs, hn⟩
      rw [h1] at hr
      simp only [Instr.findNow, h1, h2, Instr.sameNow, if_true, ← hb, hr]
    · cases h

theorem ERel.push {ρ : Rho} : ∀ {es : List (V × V)} {l : List MapEntry} {k v : V} {e : MapEntry}, ERel ρ es l → VRel ρ k e.key → VRel ρ v e.val → ERel ρ (es ++ [(k, v)]) (l ++ [e])
  | [], [], _, _, _, _, hk, hv => ⟨hk, hv, trivial⟩
  | [], _ :: _, _, _, _, he, _, _ => by simp [ERel] at he
  | (_, _) :: _, [], _, _, _, he, _, _ => by simp [ERel] at he
  | (_, _) :: _, _ :: _, _, _, _, he, hk, hv => by
    simp only [ERel] at he
    simp only [List.cons_append, ERel]
    exact ⟨he.1, he.2.1, ERel.push he.2.2 hk hv⟩

theorem setM_ok {ρ : Rho} {k v : V} {ku vu : Value} (hk : VRel ρ k ku) (hv : VRel ρ v vu) : ∀ {es es' : List (V × V)} {l : List MapEntry} (n : Nat), ERel ρ es l → setM k v es = some es' →
    (∃ i u e, Instr.findNow (.int .i64) ku l n = some (some (n + i, u)) ∧ l[i]? = some e ∧ e.key = ku ∧ (∃ j a, ku = .int j a) ∧ ERel ρ es' (l.modify i fun e => { e with key := ku, val := vu })) ∨
    (Instr.findNow (.int .i64) ku l n = some none ∧ ∀ born, ERel ρ es' (l ++ [{ key := ku, val := vu, born }]))
  | [], es', [], n, _, h => by
    simp [setM] at h; subst h
    exact .inr ⟨rfl, fun born => ⟨hk, hv, trivial⟩⟩
  | [], _, _ :: _, _, he, _ => by simp [ERel] at he
  | (_, _) :: _, _, [], _, he, _ => by simp [ERel] at he
  | (k', v') :: es, es', e :: l, n, he, h => by
    simp only [ERel] at he
    simp only [setM] at h
    split at h
    · rename_i hq
      obtain ⟨j, a, a', rfl, rfl, hb⟩ := keyEq_ok hq
      simp only [Option.some.injEq] at h; subst h
      have h1 := vint hk
      have h2 := vint he.1
      have haa : a = a' := by simpa using hb.symm
      subst haa
      refine .inl ⟨0, e.val, e, ?_, rfl, by rw [h1, h2], ⟨j, a, h1⟩, ?_⟩
      · simp only [Instr.findNow, h1, h2, Instr.sameNow, if_true, ← hb, Nat.add_zero]
      · simp only [List.modify_zero_cons, ERel]
        exact ⟨hk, hv, he.2.2⟩
    · rename_i hq
      obtain ⟨j, a, a', rfl, rfl, hb⟩ := keyEq_ok hq
      obtain ⟨es2, hs, rfl⟩ := Option.map_eq_some_iff.1 h
      have h1 := vint hk
      have h2 := vint he.1
      have step : Instr.findNow (.int .i64) ku (e :: l) n = Instr.findNow (.int .i64) ku l (n + 1) := by
        simp only [Instr.findNow, h1, h2, Instr.sameNow, if_true, ← hb]
      rcases setM_ok hk hv (n + 1) he.2.2 hs with ⟨i, u, x, hf, hi, hx, hj, hr⟩ | ⟨hf, hr⟩
      · refine .inl ⟨i + 1, u, x, by rw [step, hf]; congr 3; omega, by simpa using hi, hx, hj, ?_⟩
        simp only [List.modify_succ_cons, ERel]
        exact ⟨he.1, he.2.1, hr⟩
      · refine .inr ⟨by rw [step, hf], fun born => ?_⟩
        simp only [List.cons_append, ERel]
        exact ⟨he.1, he.2.1, hr born⟩
    · cases h


theorem put_ok {ρ : Rho} {H : Heap} {w : World} (h : HRel ρ H.bl w) (hf : Fresh ρ H.next) {id : Nat} {k v : V} {ku vu : Value} {es es' : List (V × V)} {p : Place} {t kt et : TypeId} {kk : IntKind}
    (hl : lk id H.bl = some (.map es)) (hs : setM k v es = some es') (hp : ρ id = some p) (hk : VRel ρ k ku) (hv : VRel ρ v vu) (ht : P.underlying t = some (.map kt et)) (hkt : P.underlying kt = some (.int kk)) :
    ∃ w', (Instr.mapUpdate t (.map (some p.addr.block)) ku vu).run P w = .ok () w' ∧ Goes ρ H w ρ { H with bl := upd id (.map es') H.bl } w' := by
  obtain ⟨p', ents, clock, hp', ha, hh, her⟩ := h.ok id _ hl
  rw [hp] at hp'; cases hp'
  have hg : (getObj p.addr.block).run P w = .ok (.map ents clock) w := by simp [getObj, Sem.run, hh]
  have hck : (Instr.checkKey false 10000 kt ku).run P w = .ok () w := by
    unfold Instr.checkKey
    simp [run_underlying hkt]
  have hset : ∀ o, (setObj p.addr.block o).run P w = .ok () { w with heap := w.heap.setIfInBounds p.addr.block o } := by
    intro o; simp [setObj, Sem.run, hh]
  have hlt : p.addr.block < w.heap.size := (h.ok id _ hl).lt rfl hp
  have wr : ∀ (ents' : Array MapEntry) (clock' : Nat), ERel ρ es' ents'.toList →
      Goes ρ H w ρ { H with bl := upd id (.map es') H.bl } { w with heap := w.heap.setIfInBounds p.addr.block (.map ents' clock') } := by
    intro ents' clock' he
    refine Goes.write h hf hl rfl rfl hp rfl rfl rfl (by simp) (fun k hk => ?_) ⟨p, ents', clock', hp, ha, ?_, he⟩
    · show (w.heap.setIfInBounds p.addr.block (.map ents' clock'))[k]? = _
      rw [Array.getElem?_setIfInBounds, if_neg (Ne.symm hk)]
    · show (w.heap.setIfInBounds p.addr.block (.map ents' clock'))[p.addr.block]? = _
      rw [Array.getElem?_setIfInBounds, if_pos rfl, if_pos hlt]
  have nowk : ∀ (res : Option (Nat × Value)), Instr.findNow (.int .i64) ku ents.toList 0 = some res → Instr.findNow (.int kk) ku ents.toList 0 = some res := by
    intro res hf
    rw [← hf]
    have : ∀ (l : List MapEntry) (n : Nat), Instr.findNow (.int kk) ku l n = Instr.findNow (.int .i64) ku l n := by
      intro l
      induction l with
      | nil => intro n; rfl
      | cons x l ih =>
        intro n
        have hs : Instr.sameNow (.int kk) ku x.key = Instr.sameNow (.int .i64) ku x.key := by
          cases ku <;> cases x.key <;> rfl
        simp only [Instr.findNow, hs, ih]
    exact this _ _
  rcases setM_ok hk hv 0 her hs with ⟨i, u, e, hfn, hi, hke, ⟨j, a, hku⟩, hr⟩ | ⟨hfn, hr⟩
  · have hks : (Instr.keyThatStays e.key ku).run P w = .ok ku w := by
      rw [hke, hku]
      simp [Instr.keyThatStays, Instr.sameBits]
    rw [Nat.zero_add] at hfn
    rw [Array.getElem?_toList] at hi
    refine ⟨_, ?_, wr (ents.modify i fun e => { e with key := ku, val := vu }) clock (by simpa using hr)⟩
    simp [Instr.mapUpdate, run_underlying ht, hg, hck, Instr.findKey, run_underlying hkt, nowk _ hfn, hi, hks, hset]
  · refine ⟨_, ?_, wr (ents.push { key := ku, val := vu, born := clock }) (clock + 1) (by simpa using hr clock)⟩
    simp [Instr.mapUpdate, run_underlying ht, hg, hck, Instr.findKey, run_underlying hkt, nowk _ hfn, hset]

/-- A copy. -/
theorem cpy_ok {ρ : Rho} {H H' : Heap} {w : World} (h : HRel ρ H.bl w) (hf : Fresh ρ H.next) {t ty e : TypeId} {ts : List TypeId} {id off len es : Nat} {g : Bool} {s : V} {ud us : Value} {xs : List V}
    (hd : VRel ρ (.sl id off len es g) ud) (hs : VRel ρ s us) (ht : P.underlying t = some (.slice e)) (hes : sz P e = es) (hpos : 0 < es)
    (hxs : srcCells H s es (min (lenOfV s) len) = some xs) (hst : stN H id off xs = some H') :
    ∃ w', (Builtin.copy_ (t :: ts).toArray ty #[ud, us]).run P w = .ok (.int .i64 ((min (lenOfV s) len : Nat) : Int)) w' ∧ Goes ρ H w ρ H' w' := by
  obtain ⟨vs, hvs, hvl, hrun⟩ := src_ok (P := P) h hs hxs hpos (Nat.min_le_left _ _)
  obtain ⟨p, A, cap, hp, rfl, hlc, _, hA⟩ := vsl hd
  obtain ⟨w', hw', hg⟩ := stN_ok (P := P) h hf hp hst hvs
  have hstore : (storeCells A vs).run P w = .ok () w' := by
    cases hv : vs with
    | nil => rw [hv] at hw'; exact hw'
    | cons v0 vr =>
      have hne : vs.length ≠ 0 := by rw [hv]; simp
      have : cap ≠ 0 := by
        intro h0
        have h1 : min (lenOfV s) len = 0 := by omega
        rw [h1, Nat.zero_mul] at hvl
        exact hne hvl
      rw [← hv, hA this]; exact hw'
  refine ⟨w', ?_, hg⟩
  have hsz := fun w => run_sz' (P := P) (e := e) (by omega) w
  have h1 := (hrun w rfl).1
  have h2 := (hrun w rfl).2
  rw [← hes] at h2
  have hmin : Nat.min (lenOfV s) len = min (lenOfV s) len := rfl
  simp only [Builtin.copy_, Sem.run_bind, run_underlying ht, Result.andThen_ok, h1, hsz, hmin, h2, hstore, goInt, Sem.run_pure]
  simp [run_underlying ht, h1, hsz, hmin, h2, hstore]

end
end Go.Proofs.Ytminfdcdmgpnjaa.K
