/- Matrices as plain data. -/
import Derived.Test.YtminfdcdmgpnjaaK22
set_option linter.unusedVariables false
set_option linter.unusedSimpArgs false
namespace Go.Proofs.Ytminfdcdmgpnjaa.K
open Go

/-! ### Steps of a proof -/
theorem new_facts {H : Heap} (hw : Wf H) (b : Blk) : Les H.bl (H.new b).bl ∧ Wf (H.new b) ∧ lk H.next (H.new b).bl = some b ∧ lk H.next H.bl = none := by
  refine ⟨hw.les b, hw.new b, by simp [Heap.new, lk_cons], ?_⟩
  cases h : lk H.next H.bl with
  | none => rfl
  | some x => have := hw _ _ h; omega

theorem newB_ind {H : Heap} {b : Blk} {K : Nat → Heap → Ans} {Q : Ans → Prop} (hw : Wf H)
    (h : ∀ i H2, Les H.bl H2.bl → Wf H2 → lk i H2.bl = some b → lk i H.bl = none → Q (K i H2)) : Q (newB H b K) := by
  obtain ⟨h1, h2, h3, h4⟩ := new_facts hw b
  exact h _ _ h1 h2 h3 h4

theorem stN_ind {H : Heap} {i off : Nat} {l cs : List V} {K : Heap → Ans} {Q : Ans → Prop} (hw : Wf H) (hk : lk i H.bl = some (.row l)) (h1 : (cs.all V.one && Nat.ble (off + cs.length) l.length) = true)
    (h : ∀ H2, lk i H2.bl = some (.row (setAt l off cs)) → (∀ j, j ≠ i → lk j H2.bl = lk j H.bl) → Wf H2 → H2.next = H.next → Q (K H2)) : Q ((stN H i off cs).bind K) := by
  unfold stN
  rw [hk]
  simp only [h1, cond_true, Option.bind_some]
  refine h _ ?_ (fun j hj => ?_) (fun id x hx => ?_) rfl
  · simp [lk_upd, hk]
  · simp [lk_upd, hj]
  · simp only [lk_upd] at hx
    split at hx
    · rename_i e; subst e; exact hw _ _ hk
    · exact hw _ _ hx

theorem les_st {a b c : BL} {i : Nat} (h : Les a b) (hn : lk i a = none) (hj : ∀ j, j ≠ i → lk j c = lk j b) : Les a c := by
  intro id x hx
  have : id ≠ i := by rintro rfl; rw [hn] at hx; cases hx
  rw [hj id this]; exact h id x hx

theorem Ends.mono {H H' : Heap} {v : V} {a : Ans} (hl : Les H.bl H'.bl) (h : Ends H' v a) : Ends H v a := by
  obtain ⟨H1, h1, e⟩ := h
  exact ⟨H1, hl.trans h1, e⟩
theorem Ends.ret {H : Heap} {v : V} : Ends H v (pureK v H) := ⟨H, Les.refl _, rfl⟩
theorem Ends.ret' {H : Heap} {v v' : V} (e : v' = v) : Ends H v (pureK v' H) := by subst e; exact Ends.ret

theorem none_les {H H' : Heap} {i : Nat} {b : Blk} (hn : lk i H.bl = none) : True := trivial

/-! ### Data -/
structure Win where
  kind : Int
  st : Int
  en : Int
  cy : Int
  re : Int
  msg : Int
  deriving DecidableEq
structure Msg where
  id : Int
  ow : Int
  ev : Bool
  deriving DecidableEq
structure Mat where
  level : Int
  nodes : Int
  cycles : Int
  length : Int
  enable : Int
  unit : Int
  init : Int
  ref : Int
  mas : List Int
  msgs : List Msg
  wins : List Win

def Win.c (w : Win) : List V := [.int .i64 w.kind, .int .i64 w.st, .int .i64 w.en, .int .i64 w.cy, .int .i64 w.re, .int .i64 w.msg]
def Msg.c (x : Msg) : List V := [.int .u32 x.id, .int .i64 x.ow, .bool x.ev]
def Mat.c (m : Mat) (a b c : V) : List V := [.int .i64 m.level, .int .i64 m.nodes, .int .i64 m.cycles, .int .i64 m.length, .int .i64 m.enable, .int .i64 m.unit, .int .i64 m.init, .int .u32 m.ref, a, b, c]

def intOf : List V → Option Int
  | [.int .i64 n] => some n
  | _ => none
def msgOf : List V → Option Msg
  | [.int .u32 a, .int .i64 b, .bool c] => some ⟨a, b, c⟩
  | _ => none
def winOf : List V → Option Win
  | [.int .i64 a, .int .i64 b, .int .i64 c, .int .i64 d, .int .i64 e, .int .i64 f] => some ⟨a, b, c, d, e, f⟩
  | _ => none
def matOf (H : Heap) : List V → Option Mat
  | [.int .i64 a, .int .i64 b, .int .i64 c, .int .i64 d, .int .i64 e, .int .i64 f, .int .i64 g, .int .u32 h, x, y, z] =>
    (rdL 1 intOf H x).bind fun xs => (rdL 3 msgOf H y).bind fun ys => (rdL 6 winOf H z).bind fun zs => some ⟨a, b, c, d, e, f, g, h, xs, ys, zs⟩
  | _ => none

theorem intOf_eq {c : List V} {n : Int} (h : intOf c = some n) : c = [.int .i64 n] := by
  unfold intOf at h
  split at h
  · cases h; rfl
  · cases h
theorem msgOf_eq {c : List V} {n : Msg} (h : msgOf c = some n) : c = n.c := by
  unfold msgOf at h
  split at h
  · cases h; rfl
  · cases h
theorem winOf_eq {c : List V} {n : Win} (h : winOf c = some n) : c = n.c := by
  unfold winOf at h
  split at h
  · cases h; rfl
  · cases h

structure MatAt (H : Heap) (m : Mat) (a b c : V) : Prop where
  mas : rdL 1 intOf H a = some m.mas
  msgs : rdL 3 msgOf H b = some m.msgs
  wins : rdL 6 winOf H c = some m.wins

theorem matOf_inv {H : Heap} {l : List V} {m : Mat} (h : matOf H l = some m) : ∃ a b c, l = m.c a b c ∧ MatAt H m a b c := by
  unfold matOf at h
  split at h
  · simp only [Option.bind_eq_some_iff] at h
    obtain ⟨xs, hx, ys, hy, zs, hz, e⟩ := h
    cases e
    exact ⟨_, _, _, rfl, hx, hy, hz⟩
  · cases h

theorem MatAt.of {H : Heap} {m : Mat} {a b c : V} (h : MatAt H m a b c) : matOf H (m.c a b c) = some m := by
  simp only [Mat.c, matOf, h.mas, h.msgs, h.wins, Option.bind_some]

theorem MatAt.les {H H' : Heap} {m : Mat} {a b c : V} (hl : Les H.bl H'.bl) (h : MatAt H m a b c) : MatAt H' m a b c :=
  ⟨rdL_les hl h.mas, rdL_les hl h.msgs, rdL_les hl h.wins⟩

theorem rdL_one {α : Type} {es : Nat} {dec : List V → Option α} {H : Heap} {v : V} {xs : List α} (h : rdL es dec H v = some xs) : v.one = true := by
  unfold rdL at h
  split at h
  · rfl
  · rfl
  · cases h

theorem MatAt.ones {H : Heap} {m : Mat} {a b c : V} (h : MatAt H m a b c) : (m.c a b c).all V.one = true := by
  simp only [Mat.c, List.all_cons, List.all_nil, rdL_one h.mas, rdL_one h.msgs, rdL_one h.wins, Bool.and_true]
  rfl
theorem Msg.ones (x : Msg) : x.c.all V.one = true := rfl
theorem Win.ones (x : Win) : x.c.all V.one = true := rfl

/-- A matrix loaded whole. -/
theorem ldMat {H : Heap} {m : Mat} {a b c : V} {i : Nat} (h : MatAt H m a b c) (hk : lk i H.bl = some (.row (m.c a b c))) (K : List V → Ans) :
    ldFlat H i [.int .i64, .int .i64, .int .i64, .int .i64, .int .i64, .int .i64, .int .i64, .int .u32, .oth, .oth, .oth] 0 K = K (m.c a b c) := by
  simp [ldFlat, ldI, ldV, Heap.ldc, hk, Mat.c, nth, rdL_one h.mas, rdL_one h.msgs, rdL_one h.wins]

theorem lk_skip (H : Heap) (n : Nat) : (H.skip n).bl = H.bl := rfl

theorem win_at {H : Heap} {v : V} {ws : List Win} (h : rdL 6 winOf H v = some ws) {i : Nat} {w : Win} (hx : nth ws i = some w) :
    ∃ id off, (∀ K : Nat → Nat → Ans, idxS 6 v (i : Int) K = K id off) ∧ ∀ j, j < 6 → H.ldc id (off + j) = nth w.c j := by
  obtain ⟨id, off, c, h1, h2, h3⟩ := rdL_at h (by omega) hx
  rw [winOf_eq h2] at h3
  exact ⟨id, off, h1, h3⟩
theorem msg_at {H : Heap} {v : V} {ws : List Msg} (h : rdL 3 msgOf H v = some ws) {i : Nat} {w : Msg} (hx : nth ws i = some w) :
    ∃ id off, (∀ K : Nat → Nat → Ans, idxS 3 v (i : Int) K = K id off) ∧ ∀ j, j < 3 → H.ldc id (off + j) = nth w.c j := by
  obtain ⟨id, off, c, h1, h2, h3⟩ := rdL_at h (by omega) hx
  rw [msgOf_eq h2] at h3
  exact ⟨id, off, h1, h3⟩
theorem int_at {H : Heap} {v : V} {ws : List Int} (h : rdL 1 intOf H v = some ws) {i : Nat} {n : Int} (hx : nth ws i = some n) :
    ∃ id off, (∀ K : Nat → Nat → Ans, idxS 1 v (i : Int) K = K id off) ∧ ldI H .i64 id off = some n := by
  obtain ⟨id, off, c, h1, h2, h3⟩ := rdL_at h (by omega) hx
  rw [intOf_eq h2] at h3
  refine ⟨id, off, h1, ?_⟩
  have := h3 0 (by omega)
  simp only [Nat.add_zero] at this
  simp [ldI, this, nth]

theorem ldWin {H : Heap} {w : Win} {id off : Nat} (h : ∀ j, j < 6 → H.ldc id (off + j) = nth w.c j) (K : List V → Ans) :
    ldFlat H id [.int .i64, .int .i64, .int .i64, .int .i64, .int .i64, .int .i64] off K = K w.c := by
  have h0 := h 0 (by omega); have h1 := h 1 (by omega); have h2 := h 2 (by omega); have h3 := h 3 (by omega); have h4 := h 4 (by omega); have h5 := h 5 (by omega)
  simp only [Nat.add_zero] at h0
  simp [ldFlat, ldI, h0, h1, h2, h3, h4, h5, Win.c, nth, Nat.add_assoc]
theorem ldMsg {H : Heap} {w : Msg} {id off : Nat} (h : ∀ j, j < 3 → H.ldc id (off + j) = nth w.c j) (K : List V → Ans) :
    ldFlat H id [.int .u32, .int .i64, .bool] off K = K w.c := by
  have h0 := h 0 (by omega); have h1 := h 1 (by omega); have h2 := h 2 (by omega)
  simp only [Nat.add_zero] at h0
  simp [ldFlat, ldI, ldB, h0, h1, h2, Msg.c, nth, Nat.add_assoc]

end Go.Proofs.Ytminfdcdmgpnjaa.K
