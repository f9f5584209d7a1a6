/- What is asked is done in memory: all requests, functions called as well. -/
import Derived.Test.YtminfdcdmgpnjaaK10
set_option linter.unusedVariables false
set_option linter.unusedSimpArgs false
namespace Go.Proofs.Ytminfdcdmgpnjaa.K
open Go

/-- The machine's operation s comes from w to something of which R holds. -/
def Done (P : Program) (s : Sem Next) (w : World) (R : Value → World → Prop) : Prop :=
  ∀ (o : Oper) (act : Act) (next : Act → World → Prop) (Q : Exit → Act → World → Prop), (∀ u w', R u w' → next (act.put o.dst u) w') → o.upon P act next Q (s.run P w)

section
variable {P : Program}

theorem Done.val {s : Sem Next} {w w' : World} {u : Value} {R : Value → World → Prop} (h : s.run P w = .ok (.value u) w') (hr : R u w') : Done P s w R :=
  fun o act next Q hn => by rw [h]; exact hn u w' hr
theorem Done.skip {s : Sem Next} {w w' : World} {R : Value → World → Prop} (h : s.run P w = .ok .skip w') (hr : R undef w') : Done P s w R :=
  fun o act next Q hn => by rw [h]; exact hn _ w' hr
theorem Done.mono {s : Sem Next} {w : World} {R R' : Value → World → Prop} (h : Done P s w R) (hr : ∀ u w', R u w' → R' u w') : Done P s w R' :=
  fun o act next Q hn => h o act next Q fun u w' hu => hn u w' (hr u w' hu)

theorem Done.call {f : FuncId} {args : Array Value} {w : World} {R : Value → World → Prop} (h : FSem P f args w R) : Done P (callFunc f args) w R := by
  intro o act next Q hn
  rcases h with ⟨fn, hf, hnm, hb, hc⟩ | ⟨u, w', hr, hR⟩
  · have e : (callFunc f args).run P w = .ok (.enter f args) w := by
      have h1 : ¬ fn.name = "runtime.NumGoroutine" := by simpa using hnm
      have h2 : ¬ fn.body = none := by intro e; rw [e] at hb; cases hb
      simp [callFunc, Sem.run, program, hf, h1, h2]
    rw [e]
    simp only [Oper.upon]
    refine Calls.mono hc fun e w'' he => ?_
    obtain ⟨u, rfl, hu⟩ := he
    exact hn u w'' hu
  · rw [hr]; exact hn u w' hR

variable {r : V × Heap} {K : V → Heap → Ans}


/-- Requests that only read. -/
def Rq.reads : Rq → Bool
  | .ld .. | .bytes .. | .look .. | .lenM _ | .lenC _ => true
  | _ => false

theorem nth_get {l : List V} {vs : List Value} {ρ : Rho} (h : LRel ρ l vs) {j : Nat} {u : Value} (hu : vs[j]? = some u) : ∃ c, nth l j = some c ∧ VRel ρ c u := by
  have hl := LRel.len h
  have hj : j < l.length := by
    have := (List.getElem?_eq_some_iff.1 hu).1
    omega
  refine ⟨l[j], by rw [nth_eq]; simp [hj], ?_⟩
  obtain ⟨v, hv, hr⟩ := LRel.nth h (show nth l j = some l[j] by rw [nth_eq]; simp [hj])
  rw [hu] at hv; cases hv; exact hr

theorem u8_mod (n : Int) : (UInt8.ofNat n.toNat).toNat = n.toNat % 256 := by
  simp

theorem rd_ok {orc : Orc} {sl : Option Nat} {H : Heap} {rq : Rq} (hr : rq.reads = true) (h : exec orc sl H K rq = some r) :
    ∃ v, K v H = some r ∧ ∀ ρ w s, HRel ρ H.bl w → Does P ρ s rq → ∃ u, s.run P w = .ok (.value u) w ∧ VRel ρ v u := by
  cases rq with
  | ld id off ks ag =>
    simp only [exec] at h
    obtain ⟨l, hk, hlen, hl⟩ := ldFlat_some ks off _ r h
    cases ag with
    | true =>
      refine ⟨_, hk, fun ρ w s hR hd => ?_⟩
      obtain ⟨p, hp, hrun⟩ := hd
      obtain ⟨vs, hvs, hcs⟩ := cells_rel hR hp l off (fun i c hc => (hl i c hc).1)
      have := LRel.len hvs
      refine ⟨_, hrun vs w (by omega) hcs (by simp), ?_⟩
      simp only [VRel]
      exact ⟨_, rfl, by simpa using hvs⟩
    | false =>
      match l, hk with
      | [v], hk =>
        refine ⟨v, hk, fun ρ w s hR hd => ?_⟩
        obtain ⟨p, hp, hrun⟩ := hd
        obtain ⟨vs, hvs, hcs⟩ := cells_rel hR hp [v] off (fun i c hc => (hl i c hc).1)
        have hn := LRel.len hvs
        match vs, hn, hvs, hcs with
        | [u], _, hvs, hcs =>
          refine ⟨u, by simpa using hrun [u] w (by simpa using hlen) hcs (by simp), hvs.1⟩
  | bytes id off len =>
    simp only [exec] at h
    obtain ⟨s0, hs, hk⟩ := Option.bind_eq_some_iff.1 h
    obtain ⟨ns, hn, rfl, hc⟩ := ldBytes_some hs
    refine ⟨_, hk, fun ρ w s hR hd => ?_⟩
    obtain ⟨p, hp, hrun⟩ := hd
    refine ⟨_, hrun ns w hn (fun j n hj => ?_), ?_⟩
    · obtain ⟨p', v, hp', hcell, hv⟩ := ldc_rel hR (hc j n hj)
      rw [hp] at hp'; cases hp'
      rw [hcell, vint hv]
    · simp only [VRel]
      refine ⟨_, rfl, ?_⟩
      simp [Function.comp_def]
  | look id k zero ok =>
    simp only [exec] at h
    split at h
    · rename_i es hl
      obtain ⟨res, hf, hk⟩ := Option.bind_eq_some_iff.1 h
      cases ok with
      | true =>
        refine ⟨_, hk, fun ρ w s hR hd => ?_⟩
        obtain ⟨p, ku, zu, hp, hku, hzu, hrun⟩ := hd
        obtain ⟨p', ents, clock, hp', ha, hh, her⟩ := hR.ok id _ hl
        rw [hp] at hp'; cases hp'
        obtain ⟨res', hr', hs', hn'⟩ := findM_ok hku 0 her hf
        refine ⟨_, hrun ents clock w res' hh hr', ?_⟩
        simp only [VRel]
        refine ⟨_, rfl, ?_⟩
        cases res with
        | none => rw [hn' rfl]; exact ⟨hzu, rfl, trivial⟩
        | some v =>
          obtain ⟨i, u, rfl, hv⟩ := hs' v rfl
          exact ⟨hv, rfl, trivial⟩
      | false =>
        refine ⟨_, hk, fun ρ w s hR hd => ?_⟩
        obtain ⟨p, ku, zu, hp, hku, hzu, hrun⟩ := hd
        obtain ⟨p', ents, clock, hp', ha, hh, her⟩ := hR.ok id _ hl
        rw [hp] at hp'; cases hp'
        obtain ⟨res', hr', hs', hn'⟩ := findM_ok hku 0 her hf
        refine ⟨_, hrun ents clock w res' hh hr', ?_⟩
        cases res with
        | none => rw [hn' rfl]; exact hzu
        | some v =>
          obtain ⟨i, u, rfl, hv⟩ := hs' v rfl
          exact hv
    · cases h
  | lenM id =>
    simp only [exec] at h
    split at h
    · rename_i es hl
      refine ⟨_, h, fun ρ w s hR hd => ?_⟩
      obtain ⟨p, hp, hrun⟩ := hd
      obtain ⟨p', ents, clock, hp', ha, hh, her⟩ := hR.ok id _ hl
      rw [hp] at hp'; cases hp'
      refine ⟨_, hrun ents clock w hh, ?_⟩
      have : ∀ (es : List (V × V)) (l : List MapEntry), ERel ρ es l → es.length = l.length := by
        intro es
        induction es with
        | nil => intro l hl; cases l <;> simp [ERel] at hl ⊢
        | cons e es ih =>
          obtain ⟨k, v⟩ := e
          intro l hl
          cases l with
          | nil => simp [ERel] at hl
          | cons x l => simp only [ERel] at hl; simp [ih l hl.2.2]
      have hz := this es ents.toList her
      simp only [VRel]
      simp at hz
      rw [hz]
    · cases h
  | lenC id =>
    simp only [exec] at h
    split at h
    · rename_i n hl
      refine ⟨_, h, fun ρ w s hR hd => ?_⟩
      obtain ⟨p, hp, hrun⟩ := hd
      obtain ⟨p', cap, buf, cl, sn, rc, hp', ha, hh, hb⟩ := hR.ok id _ hl
      rw [hp] at hp'; cases hp'
      refine ⟨_, hrun cap buf cl sn rc w hh, ?_⟩
      simp only [VRel]
      rw [hb]
    · cases h
  | _ => cases hr

theorem asL_eq : ∀ {ks : List Kd} {vs : List V} {K : List V → Ans}, asL ks vs K = some r → K vs = some r
  | [], vs, K, h => by
    cases vs with
    | nil => exact h
    | cons v vs => cases h
  | k :: ks, vs, K, h => by
    cases vs with
    | nil => cases h
    | cons v vs =>
      simp only [asL] at h
      exact asL_eq (K := fun l => K (v :: l)) (asKd_eq (K := fun v' => asL ks vs fun l => K (v' :: l)) h)
theorem splitN_eq : ∀ {n : Nat} {vs : List V} {K : List V → Ans}, splitN n vs K = some r → K vs = some r
  | 0, vs, K, h => by
    cases vs with
    | nil => exact h
    | cons v vs => cases h
  | n + 1, vs, K, h => by
    cases vs with
    | nil => cases h
    | cons v vs =>
      simp only [splitN] at h
      exact splitN_eq (K := fun l => K (v :: l)) h
theorem asRt_eq {rt : Rt} {v : V} {K : V → Ans} (h : asRt rt v K = some r) : K v = some r := by
  cases rt with
  | one k => exact asKd_eq h
  | tup ks =>
    simp only [asRt] at h
    split at h
    · exact asL_eq (K := fun l => K (.tup l)) (splitN_eq (K := fun l => asL ks l fun l' => K (.tup l')) h)
    · cases h

/-- EVERY REQUEST IS DONE IN MEMORY AS OVER THE BLOCKS. -/
theorem exec_ok {orc : Orc} {H : Heap} {rq : Rq} (ho : ∀ f, FSound P f (orc f)) (h : exec orc none H K rq = some r) :
    ∃ v H', K v H' = some r ∧ ∀ ρ w s, HRel ρ H.bl w → Fresh ρ H.next → Does P ρ s rq →
      Done P s w fun u w' => ∃ ρ', Goes ρ H w ρ' H' w' ∧ VRel ρ' v u := by
  have rd : rq.reads = true → ∃ v H', K v H' = some r ∧ ∀ ρ w s, HRel ρ H.bl w → Fresh ρ H.next → Does P ρ s rq →
      Done P s w fun u w' => ∃ ρ', Goes ρ H w ρ' H' w' ∧ VRel ρ' v u := by
    intro hrd
    obtain ⟨v, hk, hv⟩ := rd_ok (P := P) hrd h
    refine ⟨v, H, hk, fun ρ w s hR hf hd => ?_⟩
    obtain ⟨u, hu, hr⟩ := hv ρ w s hR hd
    exact Done.val hu ⟨ρ, Goes.refl hR hf, hr⟩
  cases rq with
  | val v =>
    refine ⟨v, H, h, fun ρ w s hR hf hd => ?_⟩
    obtain ⟨u, hu, hs⟩ := hd
    exact Done.val (hs w) ⟨ρ, Goes.refl hR hf, hu⟩
  | ld id off ks ag => exact rd rfl
  | bytes id off len => exact rd rfl
  | look id k zero ok => exact rd rfl
  | lenM id => exact rd rfl
  | lenC id => exact rd rfl
  | new b mk =>
    refine ⟨mk H.next, H.new b, h, fun ρ w s hR hf hd => ?_⟩
    obtain ⟨s', rfl, hm⟩ := hd
    obtain ⟨obj, u, size, hrun, hok⟩ := hm w
    obtain ⟨hb, hv⟩ := hok H.next (hf _ (Nat.le_refl _))
    refine Done.val (asNext_run hrun) ⟨_, Goes.newBlk hR hf rfl (fun k hk => Go.RowKit.Below.heap_alloc w obj k hk) hb rfl rfl rfl ?_, hv⟩
    show w.heap.size ≤ (w.heap.push obj).size
    simp
  | st id off cs =>
    simp only [exec] at h
    obtain ⟨H', hst, hk⟩ := Option.bind_eq_some_iff.1 h
    have hnext : H'.next = H.next := by
      unfold stN at hst
      split at hst
      · cases hc : (cs.all V.one && Nat.ble (off + cs.length) _) with
        | false => rw [hc] at hst; cases hst
        | true => rw [hc] at hst; simp only [cond_true, Option.some.injEq] at hst; subst hst; rfl
      · cases hst
    have hone : cs.all V.one = true := by
      unfold stN at hst
      split at hst
      · cases hc : (cs.all V.one && Nat.ble (off + cs.length) _) with
        | false => rw [hc] at hst; cases hst
        | true => simp only [Bool.and_eq_true] at hc; exact hc.1
      · cases hst
    refine ⟨_, H', hk, fun ρ w s hR hf hd => ?_⟩
    obtain ⟨p, hp, hcs⟩ := hd
    obtain ⟨vs, hvs, hrun⟩ := hcs hone
    obtain ⟨w', hw', hg⟩ := stN_ok (P := P) hR hf hp hst hvs
    refine Done.skip (w' := w') ?_ ⟨ρ, hg, trivial⟩
    rw [hrun, hw']; rfl
  | app s x es =>
    obtain ⟨xs, hxs, hc⟩ := app_shape h
    rcases hc with ⟨rfl, rfl, hk⟩ | ⟨rfl, hne, hlim, hk⟩ | ⟨id, len, l, rfl, hlim, hl, hk⟩
    · refine ⟨_, H, hk, fun ρ w s hR hf hd => ?_⟩
      obtain ⟨ux, uy, t, t', ty, e, hux, huy, rfl, ht, rfl, he, ht'⟩ := hd
      obtain ⟨u, w', hrun, hv, hg⟩ := (app_ok (ty := ty) hR hf hux huy ht he ht' hxs).1 rfl rfl
      exact Done.val (asNext_run hrun) ⟨ρ, hg, hv⟩
    · refine ⟨_, _, hk, fun ρ w s hR hf hd => ?_⟩
      obtain ⟨ux, uy, t, t', ty, e, hux, huy, rfl, ht, rfl, he, ht'⟩ := hd
      obtain ⟨u, w', ρ', hrun, hv, hg⟩ := (app_ok (ty := ty) hR hf hux huy ht he ht' hxs).2.1 rfl hne hlim
      exact Done.val (asNext_run hrun) ⟨ρ', hg, hv⟩
    · refine ⟨_, _, hk, fun ρ w s hR hf hd => ?_⟩
      obtain ⟨ux, uy, t, t', ty, e, hux, huy, rfl, ht, rfl, he, ht'⟩ := hd
      obtain ⟨u, w', ρ', hrun, hv, hg⟩ := (app_ok (ty := ty) hR hf hux huy ht he ht' hxs).2.2 id len l rfl hlim hl
      exact Done.val (asNext_run hrun) ⟨ρ', hg, hv⟩
  | cpy d s es =>
    simp only [exec] at h
    split at h
    · rename_i id off len es' g
      cases hb : Nat.beq es es' with
      | false => rw [hb] at h; cases h
      | true =>
        rw [hb] at h
        simp only [cond_true] at h
        have he := beq_eq hb
        subst he
        obtain ⟨xs, hxs, h⟩ := Option.bind_eq_some_iff.1 h
        obtain ⟨H', hst, hk⟩ := Option.bind_eq_some_iff.1 h
        have hnext : H'.next = H.next := by
          unfold stN at hst
          split at hst
          · cases hc : (xs.all V.one && Nat.ble (off + xs.length) _) with
            | false => rw [hc] at hst; cases hst
            | true => rw [hc] at hst; simp only [cond_true, Option.some.injEq] at hst; subst hst; rfl
          · cases hst
        refine ⟨_, H', hk, fun ρ w s' hR hf hd => ?_⟩
        obtain ⟨ux, uy, t, ts, ty, e, hux, huy, rfl, ht, hes, hpos⟩ := hd
        obtain ⟨w', hw', hg⟩ := cpy_ok (P := P) (ts := ts) (ty := ty) hR hf hux huy ht hes hpos hxs hst
        exact Done.val (asNext_run hw') ⟨ρ, hg, rfl⟩
    · cases h
  | put id k v =>
    simp only [exec] at h
    split at h
    · rename_i es hl
      obtain ⟨hc, h⟩ := ofCond h
      obtain ⟨es', hs, hk⟩ := Option.bind_eq_some_iff.1 h
      refine ⟨_, _, hk, fun ρ w s hR hf hd => ?_⟩
      obtain ⟨p, ku, vu, t, kt, et, kk, hp, hku, hvu, ht, hkt, hrun⟩ := hd
      obtain ⟨w', hw', hg⟩ := put_ok (P := P) hR hf hl hs hp hku hvu ht hkt
      refine Done.skip (w' := w') ?_ ⟨ρ, hg, trivial⟩
      rw [hrun, hw']; rfl
    · cases h
  | call f vs rt =>
    simp only [exec] at h
    obtain ⟨v, H', hk, hs⟩ := ho f vs H _ r h
    have hk := asRt_eq hk
    refine ⟨v, H', hk, fun ρ w s hR hf hd => ?_⟩
    obtain ⟨us, hus, rfl⟩ := hd
    exact Done.call (hs ρ w us hR hf hus)

end
end Go.Proofs.Ytminfdcdmgpnjaa.K
