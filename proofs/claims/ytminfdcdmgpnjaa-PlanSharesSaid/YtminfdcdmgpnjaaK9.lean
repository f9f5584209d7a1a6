/- What is asked of the heap, done; in memory alike: every request. -/
import Derived.Test.YtminfdcdmgpnjaaK8
set_option linter.unusedVariables false
set_option linter.unusedSimpArgs false
namespace Go.Proofs.Ytminfdcdmgpnjaa.K
open Go

section
variable {P : Program} {r : V × Heap} {K : V → Heap → Ans}

/-- What an append gives, if it gives something: out of the heap alone. -/
theorem app_shape {orc : Orc} {sl : Option Nat} {H : Heap} {s x : V} {es : Nat} (h : exec orc sl H K (.app s x es) = some r) :
    ∃ xs, srcCells H x es (lenOfV x) = some xs ∧
      ((s = .nils ∧ xs = [] ∧ K .nils H = some r) ∨
       (s = .nils ∧ xs ≠ [] ∧ lenOfV x ≤ lim ∧ K (.sl H.next 0 (lenOfV x) es true) (H.new (.row xs)) = some r) ∨
       (∃ id len l, s = .sl id 0 len es true ∧ len + lenOfV x ≤ lim ∧ takeRow H id len es = some l ∧
         K (.sl H.next 0 (len + lenOfV x) es true) ⟨H.next + 1, (H.next, .row (l ++ xs)) :: del id H.bl⟩ = some r)) := by
  unfold exec at h
  obtain ⟨xs, hxs, h⟩ := Option.bind_eq_some_iff.1 h
  refine ⟨xs, hxs, ?_⟩
  cases s with
  | nils =>
    cases xs with
    | nil => exact .inl ⟨rfl, rfl, h⟩
    | cons c xs =>
      obtain ⟨hc, h⟩ := ofCond h
      exact .inr (.inl ⟨rfl, by simp, ble_le hc, h⟩)
  | sl id off len es' g =>
    cases off with
    | succ o => cases h
    | zero =>
      cases g with
      | false => cases h
      | true =>
        obtain ⟨hc, h2⟩ := ofCond h
        simp only [Bool.and_eq_true] at hc
        have he := beq_eq hc.1
        subst he
        obtain ⟨l, hl, h3⟩ := Option.bind_eq_some_iff.1 h2
        exact .inr (.inr ⟨id, len, l, rfl, ble_le hc.2, hl, h3⟩)
  | _ => cases h

theorem takeRow_some {H : Heap} {id len es : Nat} {l : List V} (h : takeRow H id len es = some l) : ∃ cs, lk id H.bl = some (.row cs) ∧ l = cs.take (len * es) ∧ len * es ≤ cs.length := by
  unfold takeRow at h
  split at h
  · rename_i cs hl
    cases hb : Nat.ble (len * es) cs.length with
    | false => rw [hb] at h; cases h
    | true =>
      rw [hb] at h
      simp only [cond_true, Option.some.injEq] at h
      exact ⟨cs, hl, h.symm, ble_le hb⟩
  · cases h

theorem heap_same {ρ : Rho} {bl : BL} {w w' : World} (h : HRel ρ bl w) (hh : w'.heap = w.heap) : HRel ρ bl w' :=
  ⟨fun id b hb => (h.ok id b hb).heap fun _ p _ => by rw [hh], h.inj⟩

/-- A row of the call's own made by an append: room or not. -/
theorem app_ok {ρ : Rho} {H : Heap} {w : World} (h : HRel ρ H.bl w) (hf : Fresh ρ H.next) {t t' ty e : TypeId} {s x : V} {us ux : Value} {xs : List V}
    (hs : VRel ρ s us) (hx : VRel ρ x ux) (ht : P.underlying t = some (.slice e)) (he : appT P e = true)
    (ht' : (∃ e', P.underlying t' = some (.slice e')) ∨ (P.underlying t' = some .string ∧ sz P e = 1)) (hxs : srcCells H x (sz P e) (lenOfV x) = some xs) :
    (s = .nils → xs = [] → ∃ u w', (Builtin.append_ #[t, t'] ty #[us, ux]).run P w = .ok u w' ∧ VRel ρ .nils u ∧ Goes ρ H w ρ H w') ∧
    (s = .nils → xs ≠ [] → lenOfV x ≤ lim → ∃ u w' ρ', (Builtin.append_ #[t, t'] ty #[us, ux]).run P w = .ok u w' ∧ VRel ρ' (.sl H.next 0 (lenOfV x) (sz P e) true) u ∧ Goes ρ H w ρ' (H.new (.row xs)) w') ∧
    (∀ id len l, s = .sl id 0 len (sz P e) true → len + lenOfV x ≤ lim → takeRow H id len (sz P e) = some l →
      ∃ u w' ρ', (Builtin.append_ #[t, t'] ty #[us, ux]).run P w = .ok u w' ∧ VRel ρ' (.sl H.next 0 (len + lenOfV x) (sz P e) true) u ∧
        Goes ρ H w ρ' ⟨H.next + 1, (H.next, .row (l ++ xs)) :: del id H.bl⟩ w') := by
  obtain ⟨hpos, ⟨i, hi, hbi⟩, z, hzr, hzv, hzs⟩ := appT_ok he
  have htt : (∃ e', P.underlying t' = some (.slice e')) ∨ P.underlying t' = some .string := ht'.imp id (·.1)
  obtain ⟨vs, hvs, hvl, hsrc⟩ := src_ok (P := P) h hx hxs hpos (Nat.le_refl _)
  have zc : ∀ n, (Builtin.zeroCells z.cells n).size = n * sz P e := by intro n; simp [Builtin.zeroCells, hzs]
  -- a new array
  have fresh : ∀ (base : Option Addr) (n c : Nat) (l : List V) (us : List Value) (bl0 : BL), (∀ id b, lk id bl0 = some b → lk id H.bl = some b) → LRel ρ l us → us.length = n * sz P e →
      (∀ w', w'.heap = w.heap → (Builtin.firstCells (sz P e) n (.slice base n c)).run P w' = .ok us.toArray w') → ¬ n + lenOfV x ≤ c → n + lenOfV x ≤ lim →
      ∃ u w' ρ', (Builtin.append_ #[t, t'] ty #[.slice base n c, ux]).run P w = .ok u w' ∧ VRel ρ' (.sl H.next 0 (n + lenOfV x) (sz P e) true) u ∧ Goes ρ H w ρ' ⟨H.next + 1, (H.next, .row (l ++ xs)) :: bl0⟩ w' := by
    intro base n c l us bl0 hbl hl hul ho hroom hlim
    obtain ⟨z', cap, hcap, hz', hrun⟩ := append_new (ty := ty) ht htt he (fun w' hw' => (hsrc w' hw').1) (fun w' hw' => (hsrc w' hw').2) ho hroom hlim
    refine ⟨_, _, ρ.set H.next (newP w (us.toArray ++ vs.toArray ++ Builtin.zeroCells z'.cells (cap - (n + lenOfV x))).size), hrun, ?_, ?_⟩
    · simp only [VRel]
      refine ⟨_, _, cap, set_eq _ _ _, rfl, hcap, fun _ => ?_, fun _ => by simp [Addr.add]⟩
      show 0 + cap * sz P e ≤ (us.toArray ++ vs.toArray ++ Builtin.zeroCells z'.cells (cap - (n + lenOfV x))).size
      have zc' : (Builtin.zeroCells z'.cells (cap - (n + lenOfV x))).size = (cap - (n + lenOfV x)) * sz P e := by simp [Builtin.zeroCells, hz']
      simp only [Array.size_append, List.size_toArray, zc', hul, hvl, ← Nat.add_mul]
      rw [show n + lenOfV x + (cap - (n + lenOfV x)) = cap by omega]; omega
    · refine Goes.ofLess (bl := H.bl) hbl ?_
      have h0 : HRel ρ bl0 w := h.less hbl
      refine Goes.newBlk (H := ⟨H.next, bl0⟩) (b := .row (l ++ xs)) h0 hf (p := newP w _) rfl ?_ ?_ rfl rfl rfl ?_
      · intro k hk
        exact Go.RowKit.Below.heap_alloc w.drew _ k hk
      · refine ⟨newP w _, _, e, set_eq _ _ _, rfl, alloc_block w.drew _, rfl, ?_⟩
        have hset := fun q => Rho.sub_set (hf H.next (Nat.le_refl _)) q
        have hall := fun q => LRel.append (LRel.mono (hset q) _ _ hl) (LRel.mono (hset q) _ _ hvs)
        refine ⟨?_, fun i c hc => ?_⟩
        · have := LRel.len (hall (newP w 0))
          simp at this ⊢
          omega
        · obtain ⟨v, hv, hr⟩ := LRel.nth (hall _) hc
          refine ⟨v, ?_, hr⟩
          have hlt : i < (us ++ vs).length := (List.getElem?_eq_some_iff.1 hv).1
          rw [Array.getElem?_append_left (by simpa using hlt)]
          simpa using hv
      · show w.heap.size ≤ (w.drew.alloc _).heap.size
        rw [World.size_alloc]; exact Nat.le_succ _
  refine ⟨?_, ?_, ?_⟩
  · rintro rfl rfl
    rw [vnils hs]
    have h0 : lenOfV x = 0 := by
      have := LRel.len hvs
      simp at this
      rw [← this] at hvl
      rcases Nat.eq_zero_or_pos (lenOfV x) with h0 | h0
      · exact h0
      · have := Nat.mul_pos h0 hpos; omega
    have hr := append_room (ty := ty) (base := none) (n := 0) (c := 0) ht htt he (hsrc w rfl).1 (hsrc w rfl).2 (by omega)
    simp only [h0, Nat.add_zero] at hr
    exact ⟨_, w, hr, by simp only [VRel], Goes.refl h hf⟩
  · rintro rfl hne hlim
    rw [vnils hs]
    have h0 : 0 < lenOfV x := by
      rcases Nat.eq_zero_or_pos (lenOfV x) with h0 | h0
      · rw [h0, Nat.zero_mul] at hvl
        have := LRel.len hvs
        rw [hvl] at this
        exact absurd (List.eq_nil_of_length_eq_zero this) hne
      · exact h0
    obtain ⟨u, w', ρ', h1, h2, h3⟩ := fresh none 0 0 [] [] H.bl (fun _ _ x => x) trivial (by simp) (fun w' hw' => by simp [Builtin.firstCells]) (by omega) (by omega)
    rw [Nat.zero_add] at h2
    exact ⟨u, w', ρ', h1, h2, h3⟩
  · rintro id len l rfl hlim htk
    obtain ⟨cs, hcs, rfl, hle⟩ := takeRow_some htk
    obtain ⟨p, A, cap, hp, rfl, hlc, hfit, hA⟩ := vsl hs
    obtain ⟨p', arr, t0, hp', ha, hh, hz, hcl, hr⟩ := h.ok id _ hcs
    rw [hp] at hp'; cases hp'
    have hfit := hfit rfl
    simp only [Nat.zero_add] at hfit
    have hA' : cap ≠ 0 → A = ⟨p.addr.block, 0, none⟩ := fun hc => by rw [hA hc, ha]; simp [Addr.add]
    -- the cells that were there
    have hold : LRel ρ (cs.take (len * sz P e)) (arr.toList.take (len * sz P e)) := by
      refine LRel.of (by simp; omega) fun i c v hc hv => ?_
      rw [nth_eq, List.getElem?_take] at hc
      rw [List.getElem?_take] at hv
      split at hc
      · rename_i hi
        rw [if_pos hi, Array.getElem?_toList] at hv
        obtain ⟨v', hv', hrr⟩ := hr i c (by rw [nth_eq]; exact hc)
        rw [hv] at hv'; cases hv'
        exact hrr
      · cases hc
    by_cases hroom : len + lenOfV x ≤ cap
    · have hone : ∀ v ∈ vs, v.oneCell' = true := all_one hvs (src_one hxs)
      have hfits : len * sz P e + vs.length ≤ arr.size := by
        have h5 : (len + lenOfV x) * sz P e ≤ cap * sz P e := Nat.mul_le_mul_right _ hroom
        rw [Nat.add_mul] at h5
        omega
      have hst : ∃ w', (storeCells (A.add (len * sz P e)) vs).run P w = .ok () w' ∧ w'.os = w.os ∧ w'.tape = w.tape ∧ w'.output = w.output ∧ w'.heap.size = w.heap.size ∧
          (∀ k, k ≠ p.addr.block → w'.heap[k]? = w.heap[k]?) ∧
          w'.heap[p.addr.block]? = some (.cells (arr.toList.take (len * sz P e) ++ vs ++ arr.toList.drop (len * sz P e + vs.length)).toArray t0 (0, 0)) := by
        cases hvn : vs with
        | nil =>
          refine ⟨w, rfl, rfl, rfl, rfl, rfl, fun _ _ => rfl, ?_⟩
          rw [hh]; simp
        | cons v0 vr =>
          have hc0 : cap ≠ 0 := by
            intro h0
            have h6 : lenOfV x = 0 := by omega
            rw [h6, Nat.zero_mul, hvn] at hvl
            simp at hvl
          rw [← hvn]
          refine ⟨w.setRow p.addr.block (arr.toList.take (len * sz P e) ++ vs ++ arr.toList.drop (len * sz P e + vs.length)).toArray, by rw [hA' hc0, add0]; exact run_storeCells_at P p.addr.block (len * sz P e) t0 vs 0 arr w hh (by omega) hone, rfl, rfl, rfl, by simp, fun k hk => setRow_other _ _ _ _ hk, ?_⟩
          exact setRow_heap _ _ _ _ _ _ hh
      obtain ⟨w', hrun, hos, htp, hou, hsz, hk, hblk⟩ := hst
      have hr2 := append_room (ty := ty) (base := some A) (n := len) (c := cap) ht htt he (hsrc w rfl).1 (hsrc w rfl).2 hroom
      simp only [hrun, Result.andThen_ok] at hr2
      refine ⟨_, w', ρ.set H.next p, hr2, ?_, Goes.grow h hf hcs rfl rfl hp hos htp hou hsz hk ?_⟩
      · simp only [VRel]
        exact ⟨p, A, cap, set_eq _ _ _, rfl, hroom, fun _ => by omega, hA⟩
      · refine ⟨p, _, t0, set_eq _ _ _, ha, hblk, by simp; omega, ?_⟩
        have hall := LRel.append (LRel.mono (Rho.sub_set (hf _ (Nat.le_refl _)) p) _ _ hold) (LRel.mono (Rho.sub_set (hf _ (Nat.le_refl _)) p) _ _ hvs)
        refine ⟨?_, fun i c hc => ?_⟩
        · have := LRel.len hall
          simp at this ⊢
          omega
        · obtain ⟨v, hv, hrr⟩ := LRel.nth hall hc
          refine ⟨v, ?_, hrr⟩
          have hlt : i < (arr.toList.take (len * sz P e) ++ vs).length := (List.getElem?_eq_some_iff.1 hv).1
          rw [List.getElem?_toArray, List.getElem?_append_left hlt]
          exact hv
    · refine fresh (some A) len cap _ _ (del id H.bl) (fun i b hb => ?_) hold (by simp; omega) (fun w' hw' => ?_) hroom hlim
      · rw [lk_del] at hb
        split at hb
        · cases hb
        · exact hb
      · simp only [Builtin.firstCells]
        refine run_loadCells_rel (ρ := ρ) (by simp; omega) fun j v hj => ?_
        have hjl : j < len * sz P e := by
          have := (List.getElem?_eq_some_iff.1 hj).1
          simp at this; omega
        have hc0 : cap ≠ 0 := by
          intro h0
          have : len = 0 := by omega
          rw [this, Nat.zero_mul] at hjl; omega
        rw [hA' hc0, add0, cell_of (by rw [hw']; exact hh), ← Array.getElem?_toList]
        rw [List.getElem?_take, if_pos hjl] at hj
        exact hj

end
end Go.Proofs.Ytminfdcdmgpnjaa.K
