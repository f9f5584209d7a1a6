/- A function's text, run over the blocks; in memory alike. -/
import Derived.Test.YtminfdcdmgpnjaaK14
import Derived.Scope
set_option linter.unusedVariables false
set_option linter.unusedSimpArgs false
namespace Go.Proofs.Ytminfdcdmgpnjaa.K
open Go

/-- Notes at a function's text: the order for a region whose order is open; which temporaries live on, behind a part, behind a block, at a loop's head. -/
inductive An where
  | n
  | d (π : List Nat)
  | s (x : An) (lv : Option (List Bool)) (y : An)
  | c (x y : An)
  | b (lv : Option (List Bool)) (x : An)
  | l (lv : Option (List Bool)) (x : An)
  deriving Inhabited

def dead : List Bool → Tms → Tms
  | _, [] => []
  | [], _ :: a => .undef :: dead [] a
  | b :: lv, v :: a => cond b v .undef :: dead lv a
def cutT (lv : Option (List Bool)) (a : Tms) : Tms :=
  match lv with
  | none => a
  | some lv => dead lv a

structure Env where
  ex : Nat → Tms → Heap → Ans
  ret : Tms → Heap → Ans

def Env.block (E : Env) (id : Nat) (K : Tms → Heap → Ans) : Env := { E with ex := fun i => cond (Nat.beq i id) K (E.ex i) }

def rounds (B : Tms → Heap → (Tms → Heap → Ans) → Ans) (lv : Option (List Bool)) : Nat → Tms → Heap → Ans
  | 0, _, _ => none
  | n + 1, a, H => B a H fun a' H' => rounds B lv n (cutT lv a') H'

def run (P : Program) (orc : Orc) (fuel : Nat) : Code → An → Env → Tms → Heap → (Tms → Heap → Ans) → Ans
  | .skip, _, _, a, H, K => K a H
  | .label _, _, _, a, H, K => K a H
  | .region _ ops draw, an, _, a, H, K => cond draw
      (match an with
        | .d π => runD P orc ops.toList π a H K
        | _ => none)
      (runOps P orc ops.toList ops.toList a H K)
  | .seq x y, an, E, a, H, K => match an with
      | .s ax lv ay => run P orc fuel x ax E a H fun a' H' => run P orc fuel y ay E (cutT lv a') H' K
      | _ => run P orc fuel x .n E a H fun a' H' => run P orc fuel y .n E a' H' K
  | .cond c x y, an, E, a, H, K => match ev a c with
      | .bool b => match an with
        | .c ax ay => cond b (run P orc fuel x ax E a H K) (run P orc fuel y ay E a H K)
        | _ => cond b (run P orc fuel x .n E a H K) (run P orc fuel y .n E a H K)
      | _ => none
  | .block id x, an, E, a, H, K => match an with
      | .b lv ax => run P orc fuel x ax (E.block id fun a' H' => K (cutT lv a') H') a H fun a' H' => K (cutT lv a') H'
      | _ => run P orc fuel x .n (E.block id K) a H K
  | .loop x, an, E, a, H, K => match an with
      | .l lv ax => rounds (fun a' H' k => run P orc fuel x ax E a' H' k) lv fuel (cutT lv a) H
      | _ => rounds (fun a' H' k => run P orc fuel x .n E a' H' k) none fuel a H
  | .exit id, _, E, a, H, _ => E.ex id a H
  | .scope x, an, E, a, H, K => run P orc fuel x an E a H K
  | .ret, _, E, a, H, _ => E.ret a H
  | _, _, _, _, _, _ => none

/-- What a function gives back. -/
def resL (P : Program) (a : Tms) (H : Heap) : List ResultVar → (List V → Ans) → Ans
  | [], K => K []
  | .tmp t :: l, K => resL P a H l fun vs => K (tget a t :: vs)
  | .cell d t :: l, K => match tget a d with
    | .ptr id off => cond (Nat.beq (flat P 20 t).length (sz P t)) (exec (fun _ _ _ _ => none) none H (fun v _ => resL P a H l fun vs => K (v :: vs)) (.ld id off (flat P 20 t) (aggT P t))) none
    | _ => none
def resV (vs : List V) : V :=
  match vs with
  | [v] => v
  | vs => .tup vs

def runFn (P : Program) (orc : Orc) (fuel : Nat) (fn : Func) (an : An) : FnM := fun vs H κ =>
  match fn.body with
  | some c => run P orc fuel c an ⟨fun _ _ _ => none, fun a H => resL P a H fn.results.toList fun vs => κ (resV vs) H⟩ (vs ++ List.replicate (fn.ntmps - vs.length) .undef) H
      fun a H => resL P a H fn.results.toList fun vs => κ (resV vs) H
  | none => none

/-! ### In memory -/
theorem tget_dead (lv : List Bool) : ∀ (a : Tms) (t : Nat), tget (dead lv a) t = tget a t ∨ tget (dead lv a) t = .undef := by
  induction lv with
  | nil =>
    intro a
    induction a with
    | nil => intro t; exact .inl rfl
    | cons v a ih => intro t; cases t with
      | zero => exact .inr rfl
      | succ t => exact ih t
  | cons b lv ih =>
    intro a t
    cases a with
    | nil => exact .inl rfl
    | cons v a => cases t with
      | zero => cases b <;> simp [dead, tget]
      | succ t => exact ih a t
theorem dead_len (lv : List Bool) : ∀ (a : Tms), (dead lv a).length = a.length := by
  induction lv with
  | nil =>
    intro a
    induction a with
    | nil => rfl
    | cons v a ih => simp [dead, ih]
  | cons b lv ih =>
    intro a
    cases a with
    | nil => rfl
    | cons v a => simp [dead, ih]

theorem ARel.cut {ρ : Rho} {a : Tms} {tm : Array Value} (h : ARel ρ a tm) (lv : Option (List Bool)) : ARel ρ (cutT lv a) tm := by
  cases lv with
  | none => exact h
  | some lv =>
    refine ⟨by simp only [cutT, dead_len]; exact h.1, fun t ht => ?_⟩
    simp only [cutT, dead_len] at ht ⊢
    rcases tget_dead lv a t with e | e
    · rw [e]; exact h.2 t ht
    · rw [e]; trivial

section
variable {P : Program} {orc : Orc}

/-- How the run stands to the machine, since the function began. -/
def Ok (ρ0 : Rho) (H0 : Heap) (w0 : World) (a : Tms) (H : Heap) (act : Act) (w : World) : Prop :=
  ∃ ρ, Goes ρ0 H0 w0 ρ H w ∧ ARel ρ a act.tmps ∧ act.defers = []


variable {ρ0 : Rho} {H0 : Heap} {w0 : World}

theorem drew_goes {ρ : Rho} {H : Heap} {w : World} (h : Goes ρ0 H0 w0 ρ H w) (n : Nat) : Goes ρ0 H0 w0 ρ H { w with drawn := n } where
  rel := heap_same h.rel rfl
  ext := h.ext
  fresh := h.fresh
  next := h.next
  os := h.os
  tape := h.tape
  output := h.output
  size := h.size
  block := h.block
  own := h.own
  real := h.real
  dom := h.dom

theorem Ok.cut {a : Tms} {H : Heap} {act : Act} {w : World} (h : Ok ρ0 H0 w0 a H act w) (lv : Option (List Bool)) : Ok ρ0 H0 w0 (cutT lv a) H act w :=
  let ⟨ρ, hg, hA, hd⟩ := h
  ⟨ρ, hg, hA.cut lv, hd⟩

/-- Where a part of the text ends. -/
inductive Out where
  | norm
  | exit (id : Nat)
  | ret

def Out.ex : Out → Exit
  | .norm => .normal
  | .exit id => .exit id
  | .ret => .ret

def cont (E : Env) (K : Tms → Heap → Ans) : Out → Tms → Heap → Ans
  | .norm => K
  | .exit id => E.ex id
  | .ret => E.ret

/-- The part goes from the one state to the other. -/
def Runs (P : Program) (c : Code) (a : Tms) (H : Heap) (e : Out) (a' : Tms) (H' : Heap) : Prop :=
  ∀ (ρ0 : Rho) (H0 : Heap) (w0 : World) (act : Act) (w : World) (Q : Exit → Act → World → Prop), Ok ρ0 H0 w0 a H act w →
    (∀ act' w', Ok ρ0 H0 w0 a' H' act' w' → Q e.ex act' w') → c.wp P Q act w

theorem run_ok (hm : P.follows .mixedOrders = true) (ho : ∀ f, FSound P f (orc f)) (fuel : Nat) (r : V × Heap) : ∀ (c : Code) (an : An) (E : Env) (a : Tms) (H : Heap) (K : Tms → Heap → Ans),
    run P orc fuel c an E a H K = some r → ∃ e a' H', cont E K e a' H' = some r ∧ Runs P c a H e a' H' := by
  intro c
  induction c with
  | skip =>
    intro an E a H K h
    simp only [run] at h
    exact ⟨.norm, a, H, h, fun _ _ _ act w Q hok hq => wp_skip (hq _ _ hok)⟩
  | label l =>
    intro an E a H K h
    simp only [run] at h
    exact ⟨.norm, a, H, h, fun _ _ _ act w Q hok hq => wp_label (hq _ _ hok)⟩
  | region id ops draw =>
    intro an E a H K h
    simp only [run] at h
    cases draw with
    | false =>
      simp only [cond_false] at h
      obtain ⟨a', H', hk, hs⟩ := runOps_ok ho ops.toList ops.toList a H K h
      refine ⟨.norm, a', H', hk, fun _ _ _ act w Q ⟨ρ, hg, hA, hd⟩ hq => wp_region_list ?_⟩
      have := hs ρ act w hg.rel hg.fresh hA Q fun ρ' act' w' hg' hA' hd' => hq _ _ ⟨ρ', hg.trans hg', hA', hd'.trans hd⟩
      simpa using this
    | true =>
      simp only [cond_true] at h
      split at h
      · rename_i π
        obtain ⟨a', H', hk, hs⟩ := runD_ok ho ops.toList π a H K h
        refine ⟨.norm, a', H', hk, fun _ _ _ act w Q ⟨ρ, hg, hA, hd⟩ hq => wp_region_any hm ?_⟩
        have hg1 := drew_goes hg (w.drawn + 1)
        have := hs ρ act { w with drawn := w.drawn + 1 } hg1.rel hg1.fresh hA Q fun ρ' act' w' hg' hA' hd' => hq _ _ ⟨ρ', hg1.trans hg', hA', hd'.trans hd⟩
        simpa using this
      · cases h
  | seq x y ihx ihy =>
    intro an E a H K h
    have main : ∀ ax lv ay, run P orc fuel x ax E a H (fun a' H' => run P orc fuel y ay E (cutT lv a') H' K) = some r → ∃ e a' H', cont E K e a' H' = some r ∧ Runs P (Code.seq x y) a H e a' H' := by
      intro ax lv ay h
      obtain ⟨e, a1, H1, h1, hr1⟩ := ihx ax E a H _ h
      cases e with
      | norm =>
        obtain ⟨e2, a2, H2, h2, hr2⟩ := ihy ay E _ H1 K h1
        exact ⟨e2, a2, H2, h2, fun ρ0 H0 w0 act w Q hok hq => wp_seq (hr1 ρ0 H0 w0 act w _ hok fun act1 w1 hok1 => hr2 ρ0 H0 w0 act1 w1 Q (hok1.cut lv) hq)⟩
      | exit id => exact ⟨.exit id, a1, H1, h1, fun ρ0 H0 w0 act w Q hok hq => wp_seq (hr1 ρ0 H0 w0 act w _ hok fun act1 w1 hok1 => hq _ _ hok1)⟩
      | ret => exact ⟨.ret, a1, H1, h1, fun ρ0 H0 w0 act w Q hok hq => wp_seq (hr1 ρ0 H0 w0 act w _ hok fun act1 w1 hok1 => hq _ _ hok1)⟩
    simp only [run] at h
    split at h
    · exact main _ _ _ h
    · exact main .n none .n h
  | cond c x y ihx ihy =>
    intro an E a H K h
    simp only [run] at h
    split at h
    · rename_i b hb
      have hc : ∀ {ρ0 H0 w0 act w}, Ok ρ0 H0 w0 a H act w → act.eval c = .bool b := by
        rintro ρ0 H0 w0 act w ⟨ρ, hg, hA, hd⟩
        have := hA.ev c
        rw [hb] at this
        exact vbool this
      split at h
      · cases b
        · obtain ⟨e, a1, H1, h1, hr⟩ := ihy _ _ _ _ _ h
          exact ⟨e, a1, H1, h1, fun ρ0 H0 w0 act w Q hok hq => wp_cond_false (hc hok) (hr ρ0 H0 w0 act w Q hok hq)⟩
        · obtain ⟨e, a1, H1, h1, hr⟩ := ihx _ _ _ _ _ h
          exact ⟨e, a1, H1, h1, fun ρ0 H0 w0 act w Q hok hq => wp_cond_true (hc hok) (hr ρ0 H0 w0 act w Q hok hq)⟩
      · cases b
        · obtain ⟨e, a1, H1, h1, hr⟩ := ihy _ _ _ _ _ h
          exact ⟨e, a1, H1, h1, fun ρ0 H0 w0 act w Q hok hq => wp_cond_false (hc hok) (hr ρ0 H0 w0 act w Q hok hq)⟩
        · obtain ⟨e, a1, H1, h1, hr⟩ := ihx _ _ _ _ _ h
          exact ⟨e, a1, H1, h1, fun ρ0 H0 w0 act w Q hok hq => wp_cond_true (hc hok) (hr ρ0 H0 w0 act w Q hok hq)⟩
    · cases h
  | block id x ihx =>
    intro an E a H K h
    have main : ∀ ax lv, run P orc fuel x ax (E.block id fun a' H' => K (cutT lv a') H') a H (fun a' H' => K (cutT lv a') H') = some r →
        ∃ e a' H', cont E K e a' H' = some r ∧ Runs P (Code.block id x) a H e a' H' := by
      intro ax lv h
      obtain ⟨e, a1, H1, h1, hr1⟩ := ihx ax _ a H _ h
      cases e with
      | norm => exact ⟨.norm, _, H1, h1, fun ρ0 H0 w0 act w Q hok hq => wp_block (hr1 ρ0 H0 w0 act w _ hok fun act1 w1 hok1 => hq _ _ (hok1.cut lv))⟩
      | exit i =>
        simp only [cont, Env.block] at h1
        by_cases e : i = id
        · subst e
          simp only [Nat.beq_refl, cond_true] at h1
          refine ⟨.norm, _, H1, h1, fun ρ0 H0 w0 act w Q hok hq => wp_block (hr1 ρ0 H0 w0 act w _ hok fun act1 w1 hok1 => ?_)⟩
          simp only [Out.ex, Exit.inBlock, if_true]
          exact hq _ _ (hok1.cut lv)
        · rw [beq_ne e] at h1
          refine ⟨.exit i, _, H1, h1, fun ρ0 H0 w0 act w Q hok hq => wp_block (hr1 ρ0 H0 w0 act w _ hok fun act1 w1 hok1 => ?_)⟩
          simp only [Out.ex, Exit.inBlock]
          rw [if_neg e]
          exact hq _ _ hok1
      | ret => exact ⟨.ret, _, H1, h1, fun ρ0 H0 w0 act w Q hok hq => wp_block (hr1 ρ0 H0 w0 act w _ hok fun act1 w1 hok1 => hq _ _ hok1)⟩
    simp only [run] at h
    split at h
    · exact main _ _ h
    · exact main .n none h
  | loop x ihx =>
    intro an E a H K h
    have main : ∀ ax lv, ∀ n a H, rounds (fun a' H' k => run P orc fuel x ax E a' H' k) lv n a H = some r →
        ∃ e a' H', cont E (fun _ _ => none) e a' H' = some r ∧ ∀ (ρ0 : Rho) (H0 : Heap) (w0 : World) (act : Act) (w : World) (Q : Exit → Act → World → Prop), Ok ρ0 H0 w0 a H act w →
          (∀ act' w', Ok ρ0 H0 w0 a' H' act' w' → Q e.ex act' w') → Code.rounds P x Q n act w := by
      intro ax lv n
      induction n with
      | zero => intro a H h; simp [rounds] at h
      | succ n ih =>
        intro a H h
        simp only [rounds] at h
        obtain ⟨e, a1, H1, h1, hr1⟩ := ihx ax E _ H _ h
        cases e with
        | norm =>
          obtain ⟨e2, a2, H2, h2, hr2⟩ := ih _ H1 h1
          refine ⟨e2, a2, H2, h2, fun ρ0 H0 w0 act w Q hok hq => ?_⟩
          rw [rounds_succ]
          exact hr1 ρ0 H0 w0 act w _ hok fun act1 w1 hok1 => hr2 ρ0 H0 w0 act1 w1 Q (hok1.cut lv) hq
        | exit id =>
          refine ⟨.exit id, a1, H1, h1, fun ρ0 H0 w0 act w Q hok hq => ?_⟩
          rw [rounds_succ]
          exact hr1 ρ0 H0 w0 act w _ hok fun act1 w1 hok1 => hq _ _ hok1
        | ret =>
          refine ⟨.ret, a1, H1, h1, fun ρ0 H0 w0 act w Q hok hq => ?_⟩
          rw [rounds_succ]
          exact hr1 ρ0 H0 w0 act w _ hok fun act1 w1 hok1 => hq _ _ hok1
    have fin : ∀ ax lv, rounds (fun a' H' k => run P orc fuel x ax E a' H' k) lv fuel (cutT lv a) H = some r → ∃ e a' H', cont E K e a' H' = some r ∧ Runs P (Code.loop x) a H e a' H' := by
      intro ax lv h
      obtain ⟨e, a1, H1, h1, hr1⟩ := main ax lv fuel _ H h
      refine ⟨e, a1, H1, ?_, fun ρ0 H0 w0 act w Q hok hq => wp_loop_rounds fuel (hr1 ρ0 H0 w0 act w Q (hok.cut lv) hq)⟩
      cases e with
      | norm => cases h1
      | exit id => exact h1
      | ret => exact h1
    simp only [run] at h
    split at h
    · exact fin _ _ h
    · exact fin .n none h
  | exit id =>
    intro an E a H K h
    simp only [run] at h
    exact ⟨.exit id, a, H, h, fun _ _ _ act w Q hok hq => wp_exit (hq _ _ hok)⟩
  | scope x ihx =>
    intro an E a H K h
    simp only [run] at h
    obtain ⟨e, a1, H1, h1, hr1⟩ := ihx _ _ _ _ _ h
    refine ⟨e, a1, H1, h1, fun ρ0 H0 w0 act w Q hok hq => wp_scope_straight (hr1 ρ0 H0 w0 act w _ hok fun act1 w1 hok1 => ?_)⟩
    have := hq _ _ hok1
    cases e <;> exact this
  | ret =>
    intro an E a H K h
    simp only [run] at h
    exact ⟨.ret, a, H, h, fun _ _ _ act w Q hok hq => wp_ret (hq _ _ hok)⟩
  | _ =>
    intro an E a H K h
    simp [run] at h

/-! ### A function -/
theorem tget_nth : ∀ (a : Tms) (t : Nat), tget a t = (a[t]?).getD .undef
  | [], t => by simp [tget]
  | v :: a, 0 => by simp [tget]
  | v :: a, t + 1 => by simp [tget, tget_nth a t]

def resF (tm : Array Value) : ResultVar → Sem Value
  | .tmp t => pure (tm.getD t undef)
  | .cell d t => do loadVar t (← asAddr (tm.getD d undef))

theorem resL_ok {r : V × Heap} {a : Tms} {H : Heap} : ∀ (l : List ResultVar) (F : List V → Ans), resL P a H l F = some r →
    ∃ vs, F vs = some r ∧ ∀ ρ (act : Act) w, HRel ρ H.bl w → ARel ρ a act.tmps → ∃ us : List Value, LRel ρ vs us ∧
      (l.mapM (resF act.tmps)).run P w = .ok us w
  | [], F, h => ⟨[], h, fun ρ act w hR hA => ⟨[], trivial, by simp⟩⟩
  | .tmp t :: l, F, h => by
    simp only [resL] at h
    obtain ⟨vs, hF, hs⟩ := resL_ok l _ h
    refine ⟨_, hF, fun ρ act w hR hA => ?_⟩
    obtain ⟨us, hus, hrun⟩ := hs ρ act w hR hA
    exact ⟨_ :: us, ⟨hA.get t, hus⟩, by simp only [List.mapM_cons, resF, Sem.run_bind, Sem.run_pure, Result.andThen_ok, hrun]⟩
  | .cell d t :: l, F, h => by
    simp only [resL] at h
    split at h
    · rename_i id off hd
      obtain ⟨hc, h⟩ := ofCond h
      obtain ⟨v, hk, hv⟩ := rd_ok (P := P) rfl h
      obtain ⟨vs, hF, hs⟩ := resL_ok l _ hk
      refine ⟨_, hF, fun ρ act w hR hA => ?_⟩
      obtain ⟨us, hus, hrun⟩ := hs ρ act w hR hA
      have hp := hA.get d
      rw [hd] at hp
      obtain ⟨u, hu, hvu⟩ := hv ρ w _ hR (load_ok (P := P) hp (beq_eq hc))
      obtain ⟨p, hpp, e⟩ := vptr hp
      refine ⟨u :: us, ⟨hvu, hus⟩, ?_⟩
      have hl : (loadVar t (p.addr.add off)).run P w = .ok u w := by
        rw [e] at hu
        simp only [asNext, Instr.loadAt, Instr.sureAddr] at hu
        revert hu
        generalize hres : (loadVar t (p.addr.add off)).run P w = res
        cases res <;> simp [hres]
      have hasa : (asAddr (act.tmps.getD d undef)).run P w = .ok (p.addr.add off) w := by rw [e]; rfl
      simp only [List.mapM_cons, resF, Sem.run_bind, hasa, Sem.run_pure, Result.andThen_ok, hl, hrun]
    · cases h

def oneU : List Value → Value
  | [u] => u
  | us => .tuple us.toArray

theorem results_run {fn : Func} {tm : Array Value} {w : World} {us : List Value}
    (h : (fn.results.toList.mapM (resF tm)).run P w = .ok us w) :
    (results fn tm).run P w = .ok (oneU us) w := by
  have e : ∀ (f : ResultVar → Sem Value), (fn.results.mapM f).run P w = ((fn.results.toList.mapM f).run P w).andThen fun l w' => .ok l.toArray w' := by
    intro f
    rw [← Array.toArray_toList (xs := fn.results), List.mapM_toArray]
    simp
  have hu : results fn tm = (do let vs ← fn.results.mapM (resF tm); pure (if h : vs.size = 1 then vs[0] else .tuple vs)) := rfl
  rw [hu]
  simp only [Sem.run_bind, e, h, Result.andThen_ok, Sem.run_pure]
  match us with
  | [] => rfl
  | [u] => rfl
  | u :: u' :: l => simp [oneU]

theorem resV_ok {ρ : Rho} {vs : List V} {us : List Value} (h : LRel ρ vs us) : VRel ρ (resV vs) (oneU us) := by
  match vs, us, h with
  | [], [], _ => simp only [resV, oneU, VRel]; exact ⟨#[], rfl, trivial⟩
  | [v], [u], h => exact h.1
  | v :: v' :: vs, u :: u' :: us, h => simp only [resV, oneU, VRel]; exact ⟨_, rfl, by simpa using h⟩

/-- A function with a text: what it does in memory. -/
def FCalls (P : Program) (f : FuncId) (M : FnM) : Prop :=
  ∀ vs H K r, M vs H K = some r → ∃ v H', K v H' = some r ∧
    ∀ ρ w us, HRel ρ H.bl w → Fresh ρ H.next → LRel ρ vs us → Calls P f us.toArray w fun e w' => ∃ u, e = .returned u ∧ ∃ ρ', Goes ρ H w ρ' H' w' ∧ VRel ρ' v u

/-- A FUNCTION DOES IN MEMORY WHAT ITS RUN DOES OVER THE BLOCKS. -/
theorem runFn_calls (hm : P.follows .mixedOrders = true) (ho : ∀ f, FSound P f (orc f)) {fuel : Nat} {f : FuncId} {fn : Func} {an : An}
    (hf : P.funcs[f]? = some fn) : FCalls P f (runFn P orc fuel fn an) := by
  intro vs H κ r h
  unfold runFn at h
  split at h
  · rename_i c hc
    obtain ⟨e, a', H', h1, hr⟩ := run_ok hm ho fuel r c an _ _ _ _ h
    have h2 : resL P a' H' fn.results.toList (fun vs => κ (resV vs) H') = some r ∧ (e = .norm ∨ e = .ret) := by
      cases e with
      | norm => exact ⟨h1, .inl rfl⟩
      | exit id => cases h1
      | ret => exact ⟨h1, .inr rfl⟩
    obtain ⟨h3, he⟩ := h2
    obtain ⟨rs, hk, hrs⟩ := resL_ok _ _ h3
    refine ⟨_, H', hk, ?_⟩
    · intro ρ w us hR hf' hl
      refine calls_of_wp hf hc (hr ρ H w _ w _ ⟨ρ, Goes.refl hR hf', ?_, rfl⟩ ?_)
      · have hlen := LRel.len hl
        refine ⟨by simp [hlen], fun t ht => ?_⟩
        rw [tget_nth]
        by_cases h1 : t < vs.length
        · obtain ⟨u, hu, hvu⟩ := LRel.nth hl (show nth vs t = some vs[t] by rw [nth_eq]; simp [h1])
          have h2 : t < us.length := by omega
          have e2 : us[t] = u := by simpa [h2] using hu
          have : (us.toArray ++ Array.replicate (fn.ntmps - us.toArray.size) undef).getD t undef = u := by
            simp [Array.getD_eq_getD_getElem?, Array.getElem?_append, h2, e2]
          rw [this]
          rw [List.getElem?_append_left h1]; simpa [h1] using hvu
        · have : (vs ++ List.replicate (fn.ntmps - vs.length) V.undef)[t]? = none ∨ (vs ++ List.replicate (fn.ntmps - vs.length) V.undef)[t]? = some .undef := by
            rw [List.getElem?_append_right (by omega), List.getElem?_replicate]
            split
            · exact .inr rfl
            · exact .inl rfl
          rcases this with e | e <;> rw [e] <;> trivial
      · rintro act' w' ⟨ρ', hg, hA, hd⟩
        obtain ⟨us', hus, hrun⟩ := hrs ρ' act' w' hg.rel hA
        have hq : act'.defers = [] ∧ ∃ v, (results fn act'.tmps).run P w' = .ok v w' ∧ ∃ u, Ending.returned v = .returned u ∧ ∃ ρ', Goes ρ H w ρ' H' w' ∧ VRel ρ' (resV rs) u :=
          ⟨hd, _, results_run hrun, _, rfl, ρ', hg, resV_ok hus⟩
        rcases he with rfl | rfl <;> exact hq
  · cases h

theorem runFn_ok (hm : P.follows .mixedOrders = true) (ho : ∀ f, FSound P f (orc f)) {fuel : Nat} {f : FuncId} {fn : Func} {an : An}
    (hf : P.funcs[f]? = some fn) (hnm : (fn.name == "runtime.NumGoroutine") = false) : FSound P f (runFn P orc fuel fn an) := by
  intro vs H κ r h
  have hb : fn.body.isNone = false := by
    unfold runFn at h
    split at h
    · rename_i c hc; rw [hc]; rfl
    · cases h
  obtain ⟨v, H', hk, hs⟩ := runFn_calls (fuel := fuel) (an := an) hm ho hf vs H κ r h
  exact ⟨v, H', hk, fun ρ w us hR hf' hl => .inl ⟨fn, hf, hnm, hb, hs ρ w us hR hf' hl⟩⟩

end
end Go.Proofs.Ytminfdcdmgpnjaa.K
