/- What the program's Plan answers. -/
import Derived.Test.YtminfdcdmgpnjaaS17
set_option linter.unusedVariables false
set_option linter.unusedSimpArgs false
namespace Go.Proofs.Ytminfdcdmgpnjaa.K
open Go

def trigsW (m : Mat) (who : Int) (ws : List Win) : List Trig := (ws.filter fun w => !(w.kind == 3)).map (trigM m who)
def rankM (m : Mat) (who : Int) : Int := idxI (fun y => y == who) m.mas
def tailM (m : Mat) (who : Int) : List Trig :=
  cond (decide (rankM m who ≥ 0)) [⟨4, m.length, 0, 1, 0, 0⟩, ⟨4, beatM m (rankM m who), 0, 1, 1, 0⟩] [] ++ [⟨5, watchM m, 0, 1, 0, 0⟩]
def rowM (m : Mat) (who : Int) : List Trig := trigsW m who m.wins ++ tailM m who
def planM (m : Mat) (who : Int) : Option (List Trig) := cond ((chkM m).2 != 0) none (some (sortT (rowM m who)))
def Splan : List V → Heap → Option (Option (List Trig))
  | [.agg a, .int .i64 who], H => (matOf H a).bind fun m => cond (small m && ranged m) (some (planM m who)) none
  | _, _ => none

/-! ### What a matrix is that the check lets pass -/
theorem go_all {m : Mat} : ∀ (l : List Win) (k : Nat), (goW m l k).2 = 0 → ∀ w ∈ l, badMsg m w = false
  | [], _, _, w, h => by cases h
  | x :: l, k, h, w, hw => by
    simp only [goW] at h
    cases e : codeW m k x != 0 with
    | true => rw [e] at h; simp only [cond_true] at h; simp [h] at e
    | false =>
      rw [e] at h
      rcases List.mem_cons.1 hw with rfl | hw
      · cases hb : badMsg m w with
        | false => rfl
        | true =>
          have : codeW m k w = 145 := by unfold codeW; unfold badMsg at hb; rw [hb]; rfl
          rw [this] at e; cases e
      · exact go_all l _ h w hw
theorem chk_ok {m : Mat} (h : (chkM m).2 = 0) : isM m = true ∧ ∀ w ∈ m.wins, msgIn m w = true ∨ w.kind = 3 := by
  unfold chkM at h
  cases hM : isM m with
  | false => rw [hM] at h; cases h
  | true =>
    rw [hM] at h
    refine ⟨rfl, fun w hw => ?_⟩
    cases e : decide (m.length < stepM m) with
    | true => rw [e] at h; cases h
    | false =>
      rw [e] at h
      simp only [Bool.not_true, cond_false, orElse] at h
      have h1 : (winsM m).2 = 0 := by
        cases e1 : ((whoM m).2 != 0) with
        | true => rw [e1] at h; simp only [cond_true] at h; simp [h] at e1
        | false =>
          rw [e1] at h
          simp only [cond_false] at h
          cases e2 : ((twiceM m).2 != 0) with
          | true => rw [e2] at h; simp only [cond_true] at h; simp [h] at e2
          | false =>
            rw [e2] at h
            simp only [cond_false] at h
            cases e3 : ((winsM m).2 != 0) with
            | true => rw [e3] at h; simp only [cond_true] at h; simp [h] at e3
            | false => simpa using e3
      have hb := go_all m.wins 0 h1 w hw
      have ho := win_ok hM hw
      simp only [winOk, within, Bool.and_eq_true, decide_eq_true_eq] at ho
      have hk : w.kind = 1 ∨ w.kind = 2 ∨ w.kind = 3 := by omega
      rcases hk with hk | hk | hk
      · left
        have h0 : (w.kind == 1) = true := by simp [hk]
        unfold badMsg at hb
        rw [h0, Bool.true_and, Bool.or_eq_false_iff] at hb
        have h2 := hb.1
        simp only [decide_eq_false_iff_not] at h2
        simp only [msgIn, Bool.or_eq_true, Bool.and_eq_true, decide_eq_true_eq]
        right; omega
      · left; simp [msgIn, hk]
      · right; exact hk
theorem wins_le {m : Mat} (h : isM m = true) : m.wins.length ≤ 16 := by
  simp only [isM, Bool.and_eq_true, decide_eq_true_eq] at h; omega

/-! ### The plan under way -/
structure Pl (H0 : Heap) (x2 x7 : Nat) (cs : List V) (H : Heap) (l : List Trig) : Prop where
  inn : In H0 H
  k2 : lk x2 H.bl = some (.row cs)
  v : ∃ v, lk x7 H.bl = some (.row [v]) ∧ Own H0 H v l ∧ v.one = true
  h7 : H0.next ≤ x7
  len : cs.length = 11

theorem own_one {H0 H : Heap} {v : V} {l : List Trig} (h : Own H0 H v l) : v.one = true := by
  rcases h with ⟨rfl, _⟩ | ⟨id, _, rfl, _⟩ <;> rfl
theorem own_cells {H0 H : Heap} {v : V} {l : List Trig} (h : Own H0 H v l) : v.cells = [v] := by
  rcases h with ⟨rfl, _⟩ | ⟨id, _, rfl, _⟩ <;> rfl
theorem own_same {H0 H : Heap} {v : V} {l : List Trig} (h : Own H0 H v l) : V.same v v = true := by
  rcases h with ⟨rfl, _⟩ | ⟨id, _, rfl, _⟩
  · rfl
  · simp [V.same]

theorem Pl.les {H0 H H' : Heap} {x2 x7 : Nat} {cs : List V} {l : List Trig} (h : Pl H0 x2 x7 cs H l) (hn : H.next ≤ H'.next) (hw : Wf H') (hl : Les H.bl H'.bl) : Pl H0 x2 x7 cs H' l := by
  obtain ⟨v, h1, h2, h3⟩ := h.v
  exact ⟨⟨Nat.le_trans h.inn.next hn, hw, h.inn.les.trans hl⟩, hl _ _ h.k2, ⟨v, hl _ _ h1, h2.les hl, h3⟩, h.h7, h.len⟩

/-- One more. -/
theorem Pl.push {H0 H : Heap} (hw0 : Wf H0) {x2 x7 : Nat} {cs : List V} {l : List Trig} (h : Pl H0 x2 x7 cs H l) {v x : V} (hv : lk x7 H.bl = some (.row [v])) {t : Trig} (hx : rdL 6 trigOf H x = some [t]) (hb : inB H x = true) (hlen : l.length + 1 ≤ lim) :
    ∃ v' H2 H3, (∀ K : V → Heap → Ans, appV H v x 6 K = K v' H2) ∧ v'.cells = [v'] ∧ stN H2 x7 0 [v'] = some H3 ∧ Pl H0 x2 x7 cs H3 (l ++ [t]) ∧ H.next ≤ H3.next := by
  obtain ⟨u, h1, ho, h3⟩ := h.v
  rw [h1] at hv
  cases hv
  obtain ⟨v', H2, a1, a2, a3, a4, a5⟩ := app_own hw0 h.inn (v := v) (x := x) (l := l) (xs := [t]) ho hx hb (by simpa using hlen)
  have keepB : ∀ (i : Nat) (r : List V), lk i H.bl = some (.row r) → r.length % 6 ≠ 0 → lk i H2.bl = some (.row r) := by
    intro i r hi hr
    refine a5 _ _ hi fun n es g e => ?_
    rcases ho with ⟨rfl, _⟩ | ⟨id, _, rfl, hk⟩
    · cases e
    · cases e
      rw [hk] at hi
      cases hi
      rw [cellsT_len] at hr
      omega
  have k2 := keepB _ _ h.k2 (by rw [h.len]; decide)
  have k7 := keepB _ _ h1 (by simp)
  refine ⟨v', H2, ?_⟩
  have := stN_ind (off := 0) (K := fun H => some (V.nils, H)) (Q := fun a => ∃ H3, a = some (V.nils, H3) ∧ lk x7 H3.bl = some (.row [v']) ∧ (∀ j, j ≠ x7 → lk j H3.bl = lk j H2.bl) ∧ Wf H3 ∧ H3.next = H2.next) (cs := [v']) a3.wf k7 (by simp [own_one a2]) (by
    intro H3 b1 b2 b3 b4
    exact ⟨H3, rfl, by rw [b1]; rfl, b2, b3, b4⟩)
  obtain ⟨H3, e, b1, b2, b3, b4⟩ := this
  rw [Option.bind_eq_some_iff] at e
  obtain ⟨H4, e1, e2⟩ := e
  cases e2
  refine ⟨H3, a1, own_cells a2, e1, ⟨⟨by rw [b4]; exact a3.next, b3, fun j b hj => ?_⟩, ?_, ⟨v', b1, ?_, own_one a2⟩, h.h7, h.len⟩, by rw [b4]; exact a4⟩
  · have := hw0 _ _ hj
    have := h.h7
    rw [b2 j (by omega)]; exact a3.les _ _ hj
  · have : x2 ≠ x7 := by
      rintro rfl
      rw [h.k2] at h1
      have h5 := h.len
      cases h1
      simp at h5
    rw [b2 _ this]; exact k2
  · rcases a2 with ⟨c1, c2⟩ | ⟨id, c1, c2, c3⟩
    · exact .inl ⟨c1, c2⟩
    · refine .inr ⟨id, c1, c2, ?_⟩
      have : id ≠ x7 := by
        rintro rfl
        rw [k7] at c3
        have h5 := congrArg (fun b => match b with | some (Blk.row r) => r.length | _ => 0) c3
        simp only [cellsT_len] at h5
        simp at h5
        omega
      rw [b2 _ this]; exact c3

section
variable {o : Orc}

/-- The closure that appends. -/
theorem each34 {H0 H : Heap} (hw0 : Wf H0) {x2 x7 : Nat} {cs : List V} {l : List Trig} (h : Pl H0 x2 x7 cs H l) (hlen : l.length + 1 ≤ lim) (a b c : Int) :
    ∃ H3, Pl H0 x2 x7 cs H3 (l ++ [⟨a, b, 0, 1, c, 0⟩]) ∧ ∀ K : V → Heap → Ans, M34 o NN [.int .i64 a, .int .i64 b, .int .i64 c, .ptr x7 0] H K = K (.tup []) H3 := by
  have hP : Pl H0 x2 x7 cs (H.new (.row (cellsT [⟨a, b, 0, 1, c, 0⟩]))) l := h.les (by simp [Heap.new]) (h.inn.wf.new _) (h.inn.wf.les _)
  have hk : lk H.next (H.new (.row (cellsT [⟨a, b, 0, 1, c, 0⟩]))).bl = some (.row (cellsT [⟨a, b, 0, 1, c, 0⟩])) := by simp [Heap.new, lk_cons]
  obtain ⟨v, h1, ho, h3⟩ := h.v
  obtain ⟨v', H2, H3, a1, a2, a3, a4, a5⟩ := hP.push hw0 (v := v) (x := .sl H.next 0 1 6 true) (t := ⟨a, b, 0, 1, c, 0⟩) (h.inn.wf.les _ _ _ h1) (rd_new (l := [⟨a, b, 0, 1, c, 0⟩]) hk) (by simp [inB, rowOf, hk]) hlen
  refine ⟨H3, a4, fun K => ?_⟩
  have l7 : ldV H x7 0 = some v := by simp [ldV, Heap.ldc, h1, nth, h3]
  have hA : ∀ K : V → Heap → Ans, appV (H.new (.row [.int .i64 a, .int .i64 b, .int .i64 0, .int .i64 1, .int .i64 c, .int .i64 0])) v (.sl H.next 0 1 6 true) 6 K = K v' H2 := a1
  simp only [M34, M34_0, asP, l7, Option.bind_some, newB, hA, a2, List.length_singleton]
  simp only [show (Nat.beq 1 1 && Nat.blt 0 1) = true from rfl, cond_true, a3, Option.bind_some]

theorem newSt_ind {H : Heap} {zs cs : List V} {K : Nat → Heap → Ans} {Q : Ans → Prop} (hw : Wf H) (h1 : (cs.all V.one && Nat.ble (0 + cs.length) zs.length) = true)
    (h : ∀ i H2, H.next ≤ i → Les H.bl H2.bl → Wf H2 → H.next ≤ H2.next → lk i H2.bl = some (.row (setAt zs 0 cs)) → Q (K i H2)) : Q (newB H (.row zs) fun i H1 => (stN H1 i 0 cs).bind fun H2 => K i H2) := by
  unfold newB
  have hk : lk H.next (H.new (.row zs)).bl = some (.row zs) := by simp [Heap.new, lk_cons]
  refine stN_ind (hw.new _) hk h1 fun H2 k2 j2 w2 n2 => ?_
  exact h _ _ (Nat.le_refl _) (les_st (hw.les _) (lk_none_le hw (Nat.le_refl _)) j2) w2 (by rw [n2]; simp [Heap.new]) k2

theorem loop12 (h33 : o 33 = pureO S33) {H0 : Heap} (hw0 : Wf H0) {x2 x7 : Nat} {who : Int} {m : Mat} {s1 s2 s3 : V} (hat0 : MatAt H0 m s1 s2 s3) (hsm : small m = true) (hM : isM m = true) (hms : ∀ w ∈ m.wins, msgIn m w = true ∨ w.kind = 3)
    {X0 : Int → Nat → Nat → Heap → Ans} {κ : Kv} :
    ∀ (nf k : Nat) (H : Heap) (l : List Trig), m.wins.length - k < nf → Pl H0 x2 x7 (m.c s1 s2 s3) H l → l.length ≤ k →
    ∃ H', Pl H0 x2 x7 (m.c s1 s2 s3) H' (l ++ trigsW m who (m.wins.drop k)) ∧ M12_8 o NN X0 κ nf who x2 x7 s3 (m.wins.length : Nat) (k : Nat) H = X0 who x2 x7 H' := by
  have hwl := wins_le hM
  intro nf
  induction nf with
  | zero => intro k H l hk; omega
  | succ nf ih =>
    intro k H l hk hP hl
    rw [M12_8_s]
    simp only [M12_6]
    have hat := hat0.les hP.inn.les
    by_cases hlt : k < m.wins.length
    · obtain ⟨id, off, h1, h2⟩ := win_at hat.wins (nth_lt hlt)
      have hmem : m.wins[k] ∈ m.wins := List.getElem_mem hlt
      simp only [show decide ((k : Int) < (m.wins.length : Int)) = true by simpa using hlt, cond_true, h1, ldWin h2]
      generalize hwe : m.wins[k] = w at hmem
      simp only [show (Nat.beq (w.c).length 6 && Nat.blt 0 6) = true from rfl, cond_true]
      rw [drop_cons hlt, hwe]
      refine newSt_ind (Q := fun a => ∃ H', Pl H0 x2 x7 (m.c s1 s2 s3) H' (l ++ trigsW m who (w :: m.wins.drop (k + 1))) ∧ a = X0 who x2 x7 H') hP.inn.wf rfl fun i17 H19 hi hle hw19 hn19 hk17 => ?_
      have hk17' : lk i17 H19.bl = some (.row w.c) := hk17
      have hP19 := hP.les hn19 hw19 hle
      have l0 : ldI H19 .i64 i17 0 = some w.kind := by simp [ldI, Heap.ldc, hk17', Win.c, nth]
      simp only [l0, Option.bind_some]
      cases e3 : w.kind == 3 with
      | true =>
        simp only [cond_true]
        rw [wrap_nat (by unfold NN; omega)]
        obtain ⟨H', g1, g2⟩ := ih (k + 1) H19 l (by omega) hP19 (by omega)
        refine ⟨H', ?_, g2⟩
        have : trigsW m who (w :: m.wins.drop (k + 1)) = trigsW m who (m.wins.drop (k + 1)) := by simp [trigsW, e3]
        rw [this]; exact g1
      | false =>
        simp only [cond_false]
        have hmi : msgIn m w = true := by
          rcases hms w hmem with h | h
          · exact h
          · simp [h] at e3
        have hPS : Pl H0 x2 x7 (m.c s1 s2 s3) (H19.skip 8) l := hP19.les (by simp [Heap.skip]) (hw19.skip 8) (Les.refl H19.bl)
        have hatS := hat0.les hPS.inn.les
        obtain ⟨v, hv, ho, hv1⟩ := hPS.v
        have l7 : ldV (H19.skip 8) x7 0 = some v := by simp [ldV, Heap.ldc, hv, nth, hv1]
        have lw : ∀ K : List V → Ans, ldFlat (H19.skip 8) i17 [.int .i64, .int .i64, .int .i64, .int .i64, .int .i64, .int .i64] 0 K = K w.c := fun K => ldSix (show lk i17 (H19.skip 8).bl = some (.row _) from hk17') K
        have s33 : S33 [.agg (m.c s1 s2 s3), .int .i64 who, .agg w.c] (H19.skip 8) = some (.agg (trigM m who w).c) := by
          simp only [S33, hatS.of, Option.bind_some, show winOf w.c = some w from rfl, hsm, hmi, Bool.and_self, cond_true]
        simp only [l7, Option.bind_some, ldMat hatS hPS.k2, lw, h33, pureO, s33, asA, own_same ho, cond_true]
        have hfill : fillV (fun i => some (i * 6, 6)) [(.int .i64 0), (.int .i64 0), (.int .i64 0), (.int .i64 0), (.int .i64 0), (.int .i64 0)] [(0, (.agg (trigM m who w).c))] = some (trigM m who w).c := rfl
        simp only [hfill, Option.bind_some]
        -- the row of one
        have hx7 : x7 < H19.next := by
          obtain ⟨_, h, _⟩ := hP19.v
          exact hP19.inn.wf _ _ h
        have hPA : Pl H0 x2 x7 (m.c s1 s2 s3) ((H19.skip 8).newAt (H19.next + 5) (.row (trigM m who w).c)) l := by
          refine hPS.les (Nat.le_refl _) ?_ ?_
          · exact (((In.refl hw19).skip 8).newAt hw19 _ (by omega) (by simp only [Heap.skip]; omega)).wf
          · exact (((In.refl hw19).skip 8).newAt hw19 _ (by omega) (by simp only [Heap.skip]; omega)).les
        have hkA : lk (H19.next + 5) ((H19.skip 8).newAt (H19.next + 5) (.row (trigM m who w).c)).bl = some (.row (cellsT [trigM m who w])) := by
          simp [Heap.newAt, lk_cons, cellsT]
        have hvA : lk x7 ((H19.skip 8).newAt (H19.next + 5) (.row (trigM m who w).c)).bl = some (.row [v]) := by
          simp only [Heap.newAt, lk_cons]
          rw [if_neg (by omega)]; exact hv
        obtain ⟨v', H30, H31, a1, a2, a3, a4, a5⟩ := hPA.push hw0 (v := v) (x := .sl (H19.next + 5) 0 1 6 true) (t := trigM m who w) hvA (rd_new (l := [trigM m who w]) hkA) (by simp [inB, rowOf, hkA]) (by simp [lim]; omega)
        simp only [a1, a2, List.length_singleton, show (Nat.beq 1 1 && Nat.blt 0 1) = true from rfl, cond_true, a3, Option.bind_some]
        rw [wrap_nat (by unfold NN; omega)]
        obtain ⟨H', g1, g2⟩ := ih (k + 1) H31 (l ++ [trigM m who w]) (by omega) a4 (by simp; omega)
        refine ⟨H', ?_, g2⟩
        have : trigsW m who (w :: m.wins.drop (k + 1)) = trigM m who w :: trigsW m who (m.wins.drop (k + 1)) := by simp [trigsW, e3]
        rw [this]
        simpa using g1
    · simp only [show decide ((k : Int) < (m.wins.length : Int)) = false by simpa using hlt, cond_false]
      rw [List.drop_eq_nil_of_le (by omega)]
      exact ⟨H, by simpa [trigsW] using hP, rfl⟩

end
end Go.Proofs.Ytminfdcdmgpnjaa.K
