/- The run of a region whose order is open, as a row of what happened. -/
import Derived.Test.YtminfdcdmgpnjaaK13
set_option linter.unusedVariables false
set_option linter.unusedSimpArgs false
namespace Go.Proofs.Ytminfdcdmgpnjaa.K
open Go

inductive EvK where
  | skip
  | val (v : V)
  | new (b : Blk) (mk : Nat → V)
  | read (rq : Rq) (v : V)
  | hv (rq : Rq) (v : V) (H : Heap)

structure Ev where
  i : Nat
  k : EvK

def Ev.isHv (e : Ev) : Bool := match e.k with | .hv .. => true | _ => false

def evC (C : Nat → V) : Operand → V
  | .tmp t => C t
  | x => ev [] x
theorem evC_eq (a : Tms) (x : Operand) : evC (tget a) x = ev a x := by cases x <;> rfl

section
variable (P : Program) (ops : List Oper) (bf : List Nat) (base : Nat)

def Wan (C : Nat → V) (o : Oper) : Prop := o.guard = none ∨ ∃ j want t, o.guard = some (j, want) ∧ (nth ops j).bind (·.dst) = some t ∧ C t = .bool want
def Unw (C : Nat → V) (o : Oper) : Prop := ∃ j want t, o.guard = some (j, want) ∧ (nth ops j).bind (·.dst) = some t ∧ (C t = .bool (!want) ∨ C t = .tup [])
def Asks (C : Nat → V) (o : Oper) (rq : Rq) : Prop := ∀ (ρ : Rho) (ev' : Operand → Value), (∀ x ∈ o.op.operands.toList, VRel ρ (evC C x) (ev' x)) → Does P ρ (execOp ev' o) rq

/-- What is known of an operation, at the temporaries C. -/
def Fact (C : Nat → V) (o : Oper) : EvK → Prop
  | .skip => Unw ops C o
  | .val v => Wan ops C o ∧ Asks P C o (.val v)
  | .new b mk => Wan ops C o ∧ Asks P C o (.new b mk)
  | .read rq _ => Wan ops C o ∧ Asks P C o rq
  | .hv rq _ _ => Wan ops C o ∧ Asks P C o rq

def gives (i : Nat) : EvK → V
  | .skip => .tup []
  | .val v => v
  | .new _ mk => mk (base + i)
  | .read _ v => v
  | .hv _ v _ => v

def bit (i : Nat) : Nat := (nth bf i).getD 0

def Rd (rq : Rq) (v : V) (G : Heap) : Prop := ∀ ρ w s, HRel ρ G.bl w → Does P ρ s rq → ∃ u, s.run P w = .ok (.value u) w ∧ VRel ρ v u
def Ex (C : Heap) (rq : Rq) (v : V) (H' : Heap) : Prop := ∀ ρ w s, HRel ρ C.bl w → Fresh ρ C.next → Does P ρ s rq → Done P s w fun u w' => ∃ ρ', Goes ρ C w ρ' H' w' ∧ VRel ρ' v u

/-- The row e, r.. goes on behind the row D, over the heap G with the blocks N made since. -/
def Suf (sf : DSt) : List Ev → List Ev → Heap → BL → Prop
  | D, [], G, N => sf.G = G ∧ sf.N = N
  | D, e :: r, G, N => (∀ j, (bit bf e.i).testBit j = true → ∃ x ∈ D, x.i = j) ∧ match e.k with
    | .skip => Suf sf (D ++ [e]) r G N
    | .val _ => Suf sf (D ++ [e]) r G N
    | .new b _ => Suf sf (D ++ [e]) r G ((base + e.i, b) :: N)
    | .read rq v => Rd P rq v G ∧ (∀ x ∈ D, x.isHv = true → (bit bf e.i).testBit x.i = true) ∧ Suf sf (D ++ [e]) r G N
    | .hv rq v H' => (∀ x ∈ D, x.isHv = true → (bit bf e.i).testBit x.i = true) ∧ (∀ p ∈ N, ∃ j, p.1 = base + j ∧ (bit bf e.i).testBit j = true) ∧
        Ex P ⟨G.next, N ++ G.bl⟩ rq v H' ∧ (∀ x ∈ D, ∀ rq' v', x.k = .read rq' v' → (bit bf e.i).testBit x.i = false → Rd P rq' v' H') ∧ Suf sf (D ++ [e]) r H' []

structure St (D : List Ev) (s : DSt) : Prop where
  done : ∀ j, s.done.testBit j = true → ∃ x ∈ D, x.i = j
  hm : ∀ x ∈ D, x.isHv = true → s.hm.testBit x.i = true
  nm : ∀ p ∈ s.N, ∃ j, p.1 = base + j ∧ s.nm.testBit j = true
  L : ∀ x ∈ D, ∀ rq v, x.k = .read rq v → (x.i, rq, v) ∈ s.L
  Lr : ∀ x ∈ s.L, x.2.1.reads = true

def Keeps (s sf : DSt) : Prop := ∀ t, (∀ j, writer ops t = some j → s.done.testBit j = true) → tget sf.a t = tget s.a t

variable {P ops bf base}

theorem mask_sub {a b : Nat} (h : Nat.beq (a &&& b) a = true) {j : Nat} (hj : a.testBit j = true) : b.testBit j = true := by
  have := beq_eq h
  rw [← this, Nat.testBit_and, Bool.and_eq_true] at hj
  exact hj.2

theorem or_bit {a i j : Nat} : (a ||| 2 ^ i).testBit j = true ↔ a.testBit j = true ∨ i = j := by
  rw [Nat.testBit_or, Bool.or_eq_true, Nat.testBit_two_pow]
  simp

variable {orc : Orc} {r : V × Heap}

theorem again_ok {H : Heap} {b : Nat} {K : Ans} : ∀ (L : List (Nat × Rq × V)), again H b L K = some r → (∀ x ∈ L, x.2.1.reads = true) →
    K = some r ∧ ∀ x ∈ L, b.testBit x.1 = false → Rd P x.2.1 x.2.2 H
  | [], h, _ => ⟨h, fun x hx => by simp at hx⟩
  | (j, rq, v) :: L, h, hr => by
    have hrL : ∀ x ∈ L, x.2.1.reads = true := fun x hx => hr x (by simp [hx])
    simp only [again] at h
    cases hb : b.testBit j with
    | true =>
      rw [hb] at h
      obtain ⟨hk, hl⟩ := again_ok L h hrL
      refine ⟨hk, fun x hx hxb => ?_⟩
      rcases List.mem_cons.1 hx with rfl | hx
      · rw [hb] at hxb; cases hxb
      · exact hl x hx hxb
    | false =>
      rw [hb] at h
      simp only [cond_false] at h
      obtain ⟨v', hk', hv'⟩ := rd_ok (P := P) (hr (j, rq, v) (by simp)) h
      obtain ⟨hs, hk2⟩ := ofCond hk'
      have := V.same_eq hs
      subst this
      obtain ⟨hk, hl⟩ := again_ok L hk2 hrL
      refine ⟨hk, fun x hx hxb => ?_⟩
      rcases List.mem_cons.1 hx with rfl | hx
      · exact hv'
      · exact hl x hx hxb

/-- What a step leaves behind. -/
structure Stepped (P : Program) (ops : List Oper) (bf : List Nat) (base : Nat) (i : Nat) (o : Oper) (s s' : DSt) (k : EvK) : Prop where
  fact : Fact P ops (tget s.a) o k
  same : ∀ t, o.dst ≠ some t → tget s'.a t = tget s.a t
  dst : ∀ d, o.dst = some d → tget s'.a d = gives base i k ∨ tget s'.a d = .undef
  done : s'.done = s.done ||| 2 ^ i
  len : s'.a.length = s.a.length


/-- How heap and new blocks go on, by the kind. -/
def Next (P : Program) (bf : List Nat) (base : Nat) (D : List Ev) (i : Nat) (G : Heap) (N : BL) (G' : Heap) (N' : BL) : EvK → Prop
  | .skip => G' = G ∧ N' = N
  | .val _ => G' = G ∧ N' = N
  | .new b _ => G' = G ∧ N' = (base + i, b) :: N
  | .read rq v => G' = G ∧ N' = N ∧ Rd P rq v G ∧ (∀ x ∈ D, x.isHv = true → (bit bf i).testBit x.i = true)
  | .hv rq v H' => G' = H' ∧ N' = [] ∧ (∀ x ∈ D, x.isHv = true → (bit bf i).testBit x.i = true) ∧ (∀ p ∈ N, ∃ j, p.1 = base + j ∧ (bit bf i).testBit j = true) ∧
        Ex P ⟨G.next, N ++ G.bl⟩ rq v H' ∧ (∀ x ∈ D, ∀ rq' v', x.k = .read rq' v' → (bit bf i).testBit x.i = false → Rd P rq' v' H')

theorem putD_same (a : Tms) (d : Option Tmp) (v : V) (t : Tmp) (h : d ≠ some t) : tget (putD a d v) t = tget a t := by
  cases d with
  | none => rfl
  | some d =>
    simp only [putD, tget_set]
    rw [if_neg]
    rintro ⟨rfl, _⟩
    exact h rfl
theorem putD_len (a : Tms) (d : Option Tmp) (v : V) : (putD a d v).length = a.length := by
  cases d with
  | none => rfl
  | some d => exact tset_len a d v
theorem putD_dst (a : Tms) (d : Tmp) (v : V) : tget (putD a (some d) v) d = v ∨ tget (putD a (some d) v) d = .undef := by
  simp only [putD, tget_set]
  by_cases h : d < a.length
  · simp [h]
  · simp only [h, and_false, if_false]; exact .inr (tget_over a d (Nat.le_of_not_lt h))

theorem exec_heavy {rq : Rq} {H : Heap} {K : V → Heap → Ans} (ho : ∀ f, FSound P f (orc f)) (h : exec orc none H K rq = some r) : ∃ v H', K v H' = some r ∧ Ex P H rq v H' := by
  obtain ⟨v, H', hk, hs⟩ := exec_ok ho h
  exact ⟨v, H', hk, hs⟩

theorem askD_ok (ho : ∀ f, FSound P f (orc f)) {D : List Ev} {i : Nat} {o : Oper} {s : DSt} {a1 : Tms} {K : DSt → Ans} {rq : Rq} (hs : St base D s) (ha : ∀ t, tget a1 t = tget s.a t) (hal : a1.length = s.a.length)
    (hw : Wan ops (tget s.a) o) (hq : Asks P (tget s.a) o rq) (h : askD orc base i (bit bf i) o { s with a := a1 } K rq = some r) :
    ∃ s' k, K s' = some r ∧ Stepped P ops bf base i o s s' k ∧ St base (D ++ [⟨i, k⟩]) s' ∧ Next P bf base D i s.G s.N s'.G s'.N k := by
  have mk : ∀ (s' : DSt) (k : EvK) (v : V), s'.a = putD a1 o.dst v → gives base i k = v → s'.done = s.done ||| 2 ^ i → Fact P ops (tget s.a) o k → Stepped P ops bf base i o s s' k := by
    intro s' k v e1 e2 e3 e4
    refine ⟨e4, fun t ht => ?_, fun d hd => ?_, e3, by rw [e1, putD_len, hal]⟩
    · rw [e1, putD_same _ _ _ _ ht, ha]
    · rw [e1, e2, hd]; exact putD_dst a1 d v
  have dn : ∀ (k : EvK) j, (s.done ||| 2 ^ i).testBit j = true → ∃ x ∈ D ++ [(⟨i, k⟩ : Ev)], x.i = j := by
    intro k j hj
    rcases or_bit.1 hj with hj | rfl
    · obtain ⟨x, hx, e⟩ := hs.done j hj
      exact ⟨x, by simp [hx], e⟩
    · exact ⟨⟨i, k⟩, by simp, rfl⟩
  have other : rq.reads = true ∨ (rq.reads = false) := by cases rq.reads <;> simp
  have rdcase : rq.reads = true → cond rq.reads
      (cond (Nat.beq (s.hm &&& bit bf i) s.hm) (exec orc none s.G (fun v _ => K { s with a := putD a1 o.dst v, L := (i, rq, v) :: s.L, done := s.done ||| 2 ^ i }) rq) none)
      (cond (heavy o && Nat.beq (s.hm &&& bit bf i) s.hm && Nat.beq (s.nm &&& bit bf i) s.nm)
        (exec orc none ⟨s.G.next, s.N ++ s.G.bl⟩ (fun v H' => again H' (bit bf i) s.L (K { s with a := putD a1 o.dst v, G := H', N := [], done := s.done ||| 2 ^ i, hm := s.hm ||| 2 ^ i, nm := 0 })) rq) none) = some r →
      ∃ s' k, K s' = some r ∧ Stepped P ops bf base i o s s' k ∧ St base (D ++ [⟨i, k⟩]) s' ∧ Next P bf base D i s.G s.N s'.G s'.N k := by
    intro hr h
    rw [hr] at h
    simp only [cond_true] at h
    obtain ⟨hm, h⟩ := ofCond h
    obtain ⟨v, hk, hv⟩ := rd_ok (P := P) hr h
    refine ⟨_, .read rq v, hk, mk _ _ v rfl rfl rfl ⟨hw, hq⟩, ⟨dn _, ?_, hs.nm, ?_, ?_⟩, rfl, rfl, hv, fun x hx hxv => mask_sub hm (hs.hm x hx hxv)⟩
    · intro x hx hxv
      rcases List.mem_append.1 hx with hx | hx
      · exact hs.hm x hx hxv
      · simp at hx; subst hx; cases hxv
    · intro x hx rq' v' hxk
      rcases List.mem_append.1 hx with hx | hx
      · exact List.mem_cons_of_mem _ (hs.L x hx rq' v' hxk)
      · simp at hx; subst hx; simp only at hxk; cases hxk; simp
    · intro x hx
      rcases List.mem_cons.1 hx with rfl | hx
      · exact hr
      · exact hs.Lr x hx
  have hvcase : rq.reads = false → cond rq.reads
      (cond (Nat.beq (s.hm &&& bit bf i) s.hm) (exec orc none s.G (fun v _ => K { s with a := putD a1 o.dst v, L := (i, rq, v) :: s.L, done := s.done ||| 2 ^ i }) rq) none)
      (cond (heavy o && Nat.beq (s.hm &&& bit bf i) s.hm && Nat.beq (s.nm &&& bit bf i) s.nm)
        (exec orc none ⟨s.G.next, s.N ++ s.G.bl⟩ (fun v H' => again H' (bit bf i) s.L (K { s with a := putD a1 o.dst v, G := H', N := [], done := s.done ||| 2 ^ i, hm := s.hm ||| 2 ^ i, nm := 0 })) rq) none) = some r →
      ∃ s' k, K s' = some r ∧ Stepped P ops bf base i o s s' k ∧ St base (D ++ [⟨i, k⟩]) s' ∧ Next P bf base D i s.G s.N s'.G s'.N k := by
    intro hr h
    rw [hr] at h
    simp only [cond_false] at h
    obtain ⟨hm, h⟩ := ofCond h
    simp only [Bool.and_eq_true] at hm
    obtain ⟨v, H', hk, hx⟩ := exec_heavy ho h
    obtain ⟨hk, hag⟩ := again_ok (P := P) s.L hk hs.Lr
    refine ⟨_, .hv rq v H', hk, mk _ _ v rfl rfl rfl ⟨hw, hq⟩, ⟨dn _, ?_, fun p hp => by simp at hp, ?_, hs.Lr⟩, rfl, rfl, fun x hx hxv => mask_sub hm.1.2 (hs.hm x hx hxv), ?_, hx, ?_⟩
    · intro x hx hxv
      rcases List.mem_append.1 hx with hx | hx
      · exact or_bit.2 (.inl (hs.hm x hx hxv))
      · simp at hx; subst hx; exact or_bit.2 (.inr rfl)
    · intro x hx rq' v' hxk
      rcases List.mem_append.1 hx with hx | hx
      · exact hs.L x hx rq' v' hxk
      · simp at hx; subst hx; simp only at hxk; cases hxk
    · intro p hp
      obtain ⟨j, e, hj⟩ := hs.nm p hp
      exact ⟨j, e, mask_sub hm.2 hj⟩
    · intro x hx rq' v' hxk hb
      exact hag _ (hs.L x hx rq' v' hxk) hb
  cases rq with
  | val v =>
    refine ⟨_, .val v, h, mk _ _ v rfl rfl rfl ⟨hw, hq⟩, ⟨dn _, ?_, hs.nm, ?_, hs.Lr⟩, rfl, rfl⟩
    · intro x hx hxv
      rcases List.mem_append.1 hx with hx | hx
      · exact hs.hm x hx hxv
      · simp at hx; subst hx; cases hxv
    · intro x hx rq' v' hxk
      rcases List.mem_append.1 hx with hx | hx
      · exact hs.L x hx rq' v' hxk
      · simp at hx; subst hx; simp only at hxk; cases hxk
  | new bk mk' =>
    refine ⟨_, .new bk mk', h, mk _ _ (mk' (base + i)) rfl rfl rfl ⟨hw, hq⟩, ⟨dn _, ?_, ?_, ?_, hs.Lr⟩, rfl, rfl⟩
    · intro x hx hxv
      rcases List.mem_append.1 hx with hx | hx
      · exact hs.hm x hx hxv
      · simp at hx; subst hx; cases hxv
    · intro p hp
      rcases List.mem_cons.1 hp with rfl | hp
      · exact ⟨i, rfl, or_bit.2 (.inr rfl)⟩
      · obtain ⟨j, e, hj⟩ := hs.nm p hp
        exact ⟨j, e, or_bit.2 (.inl hj)⟩
    · intro x hx rq' v' hxk
      rcases List.mem_append.1 hx with hx | hx
      · exact hs.L x hx rq' v' hxk
      · simp at hx; subst hx; simp only at hxk; cases hxk
  | ld _ _ _ _ => exact rdcase rfl h
  | bytes _ _ _ => exact rdcase rfl h
  | look _ _ _ _ => exact rdcase rfl h
  | lenM _ => exact rdcase rfl h
  | lenC _ => exact rdcase rfl h
  | st _ _ _ => exact hvcase rfl h
  | app _ _ _ => exact hvcase rfl h
  | cpy _ _ _ => exact hvcase rfl h
  | put _ _ _ => exact hvcase rfl h
  | call _ _ _ => exact hvcase rfl h


theorem tset_lit {a : Tms} {t : Tmp} {b : Bool} (h : tget a t = .bool b) (i : Tmp) : tget (tset a t (.bool b)) i = tget a i := by
  rw [tget_set]
  by_cases e : i = t ∧ t < a.length
  · rw [if_pos e, e.1, h]
  · rw [if_neg e]

theorem asks_of {s : Tms} {a1 : Tms} (ha : ∀ t, tget a1 t = tget s t) {o : Oper} {rq : Rq} (h : req P a1 o some = some rq) : Asks P (tget s) o rq := by
  intro ρ ev' hx
  refine req_does h fun x hxm => ?_
  have := hx x hxm
  rwa [show evC (tget s) x = ev a1 x by rw [← evC_eq]; cases x <;> simp [evC, ha]] at this

theorem stepD_ok (ho : ∀ f, FSound P f (orc f)) {D : List Ev} {i : Nat} {o : Oper} {s : DSt} {K : DSt → Ans} (hs : St base D s) (h : stepD P orc ops base i (bit bf i) o s K = some r) :
    (∀ j, (bit bf i).testBit j = true → s.done.testBit j = true) ∧ s.done.testBit i = false ∧
    ∃ s' k, K s' = some r ∧ Stepped P ops bf base i o s s' k ∧ St base (D ++ [⟨i, k⟩]) s' ∧ Next P bf base D i s.G s.N s'.G s'.N k := by
  unfold stepD at h
  obtain ⟨hc, h⟩ := ofCond h
  simp only [Bool.and_eq_true, Bool.not_eq_true'] at hc
  refine ⟨fun j hj => ?_, hc.2, ?_⟩
  · have := beq_eq hc.1
    rw [← this, Nat.testBit_and, Bool.and_eq_true] at hj
    exact hj.1
  have skip : ∀ (a1 : Tms), (∀ t, tget a1 t = tget s.a t) → a1.length = s.a.length → Unw ops (tget s.a) o → K { s with a := putD a1 o.dst (.tup []), done := s.done ||| 2 ^ i } = some r →
      ∃ s' k, K s' = some r ∧ Stepped P ops bf base i o s s' k ∧ St base (D ++ [⟨i, k⟩]) s' ∧ Next P bf base D i s.G s.N s'.G s'.N k := by
    intro a1 ha hal hu hk
    refine ⟨_, .skip, hk, ⟨hu, fun t ht => ?_, fun d hd => ?_, rfl, by rw [← hal]; exact putD_len _ _ _⟩, ⟨?_, ?_, hs.nm, ?_, hs.Lr⟩, rfl, rfl⟩
    · show tget (putD a1 o.dst (.tup [])) t = _
      rw [putD_same _ _ _ _ ht, ha]
    · show tget (putD a1 o.dst (.tup [])) d = _ ∨ _
      rw [hd]; exact putD_dst a1 d (.tup [])
    · intro j hj
      rcases or_bit.1 hj with hj | rfl
      · obtain ⟨x, hx, e⟩ := hs.done j hj
        exact ⟨x, by simp [hx], e⟩
      · exact ⟨⟨i, .skip⟩, by simp, rfl⟩
    · intro x hx hxv
      rcases List.mem_append.1 hx with hx | hx
      · exact hs.hm x hx hxv
      · simp at hx; subst hx; cases hxv
    · intro x hx rq' v' hxk
      rcases List.mem_append.1 hx with hx | hx
      · exact hs.L x hx rq' v' hxk
      · simp at hx; subst hx; simp only at hxk; cases hxk
  split at h
  · rename_i hg
    obtain ⟨rq, hq, hk⟩ := req_rq h
    exact askD_ok ho hs (a1 := s.a) (fun _ => rfl) rfl (.inl hg) (asks_of (fun _ => rfl) hq) hk
  · rename_i j want hg
    split at h
    · cases h
    · rename_i t ht
      split at h
      · rename_i v hv
        have ask : v = want → req P (tset s.a t (.bool v)) o (askD orc base i (bit bf i) o { s with a := tset s.a t (.bool v) } K) = some r →
            ∃ s' k, K s' = some r ∧ Stepped P ops bf base i o s s' k ∧ St base (D ++ [⟨i, k⟩]) s' ∧ Next P bf base D i s.G s.N s'.G s'.N k := by
          intro e h
          obtain ⟨rq, hq, hk⟩ := req_rq h
          exact askD_ok ho hs (tset_lit hv) (tset_len _ _ _) (.inr ⟨j, want, t, hg, ht, by rw [hv, e]⟩) (asks_of (tset_lit hv) hq) hk
        cases v <;> cases want <;> simp only [cond_true, cond_false] at h
        · exact ask rfl h
        · exact skip _ (tset_lit hv) (tset_len _ _ _) ⟨j, _, t, hg, ht, .inl hv⟩ h
        · exact skip _ (tset_lit hv) (tset_len _ _ _) ⟨j, _, t, hg, ht, .inl hv⟩ h
        · exact ask rfl h
      · rename_i hv
        exact skip s.a (fun _ => rfl) rfl ⟨j, want, t, hg, ht, .inr hv⟩ h
      · cases h

/-- What an operation looks at decides what is known of it. -/
theorem Fact.looks {C C' : Nat → V} {o : Oper} (h : ∀ t ∈ looks ops o, C' t = C t) {k : EvK} (hf : Fact P ops C o k) : Fact P ops C' o k := by
  have hasks : ∀ rq, Asks P C o rq → Asks P C' o rq := by
    intro rq ha ρ ev' hx
    refine ha ρ ev' fun x hxm => ?_
    have h1 := hx x hxm
    cases x with
    | tmp t =>
      have : t ∈ K.looks ops o := by
        simp only [K.looks, List.mem_append, List.mem_filterMap]
        exact .inl ⟨.tmp t, hxm, rfl⟩
      simp only [evC] at h1 ⊢
      rwa [h t this] at h1
    | const v => exact h1
    | func f => exact h1
    | global g => exact h1
  have hg : ∀ {j want t}, o.guard = some (j, want) → (nth ops j).bind (·.dst) = some t → C' t = C t := by
    intro j want t hg ht
    refine h t ?_
    simp only [K.looks, List.mem_append, hg, ht]
    exact .inr (by simp)
  have hw : Wan ops C o → Wan ops C' o := by
    rintro (h1 | ⟨j, want, t, h1, h2, h3⟩)
    · exact .inl h1
    · exact .inr ⟨j, want, t, h1, h2, by rw [hg h1 h2, h3]⟩
  cases k with
  | skip =>
    obtain ⟨j, want, t, h1, h2, h3⟩ := hf
    exact ⟨j, want, t, h1, h2, by rw [hg h1 h2]; exact h3⟩
  | val v => exact ⟨hw hf.1, hasks _ hf.2⟩
  | new b mk => exact ⟨hw hf.1, hasks _ hf.2⟩
  | read rq v => exact ⟨hw hf.1, hasks _ hf.2⟩
  | hv rq v H => exact ⟨hw hf.1, hasks _ hf.2⟩

/-- What an operation sees: of a temporary that is written behind it, what it held. -/
def Cof (ops : List Oper) (bf : List Nat) (a0 af : Tms) (i : Nat) (t : Nat) : V :=
  match writer ops t with
  | some j => if (bit bf j).testBit i = true then tget a0 t else tget af t
  | none => tget af t

structure Ini (ops : List Oper) (bf : List Nat) (a0 : Tms) (s : DSt) : Prop where
  old : ∀ t j, writer ops t = some j → s.done.testBit j = false → tget s.a t = tget a0 t
  clo : ∀ j, s.done.testBit j = true → ∀ k, (bit bf j).testBit k = true → s.done.testBit k = true

/-- The row of what happened. -/
theorem goD_ok (ho : ∀ f, FSound P f (orc f)) (hssa : ∀ i o d, nth ops i = some o → o.dst = some d → writer ops d = some i)
    (hlook : ∀ i o t j, nth ops i = some o → t ∈ looks ops o → writer ops t = some j → (bit bf i).testBit j = true ∨ (bit bf j).testBit i = true) (a0 : Tms) :
    ∀ (π : List Nat) (D : List Ev) (s : DSt) (K : DSt → Ans), St base D s → Ini ops bf a0 s → goD P orc ops bf base π s K = some r →
    ∃ sf T, K sf = some r ∧ T.map Ev.i = π ∧ (∀ i ∈ π, s.done.testBit i = false) ∧ π.Nodup ∧ Keeps ops s sf ∧ sf.a.length = s.a.length ∧
      (∀ e ∈ T, ∃ o, nth ops e.i = some o ∧ Fact P ops (Cof ops bf a0 sf.a e.i) o e.k ∧ ∀ d, o.dst = some d → tget sf.a d = gives base e.i e.k ∨ tget sf.a d = .undef) ∧
      Suf P bf base sf D T s.G s.N
  | [], D, s, K, hs, _, h => ⟨s, [], h, rfl, fun i hi => by simp at hi, List.nodup_nil, fun t _ => rfl, rfl, fun e he => by simp at he, rfl, rfl⟩
  | i :: π, D, s, K, hs, hini, h => by
    simp only [goD] at h
    split at h
    · rename_i o b ho' hb
      have hbit : b = bit bf i := by simp [bit, hb]
      subst hbit
      obtain ⟨hpre, hni, s', k, hk, hst, hs', hnx⟩ := stepD_ok ho hs h
      have hdone : ∀ j, s.done.testBit j = true → s'.done.testBit j = true := fun j hj => by rw [hst.done]; exact or_bit.2 (.inl hj)
      have hini' : Ini ops bf a0 s' := by
        refine ⟨fun t j ht hj => ?_, fun j hj k hk => ?_⟩
        · have hj' : s.done.testBit j = false := by
            cases hd : s.done.testBit j with
            | false => rfl
            | true => rw [hdone j hd] at hj; cases hj
          rw [← hini.old t j ht hj']
          refine hst.same t fun e => ?_
          rw [hssa i o t ho' e] at ht; cases ht
          rw [hst.done] at hj
          have h2 : (s.done ||| 2 ^ i).testBit i = true := or_bit.2 (.inr rfl)
          rw [h2] at hj; cases hj
        · rw [hst.done] at hj
          rcases or_bit.1 hj with hj | rfl
          · exact hdone k (hini.clo j hj k hk)
          · exact hdone k (hpre k hk)
      obtain ⟨sf, T, hK, hT, hnd, hnodup, hkeep, hlen, hfact, hsuf⟩ := goD_ok ho hssa hlook a0 π _ s' K hs' hini' hk
      have hkeep' : Keeps ops s sf := by
        intro t ht
        rw [hkeep t fun j hj => hdone j (ht j hj)]
        refine hst.same t fun e => ?_
        have := hssa i o t ho' e
        have := ht i this
        rw [hni] at this; cases this
      have hfact' : Fact P ops (Cof ops bf a0 sf.a i) o k := by
        refine Fact.looks (fun t ht => ?_) hst.fact
        unfold Cof
        split
        · rename_i j hj
          split
          · rename_i hb'
            refine (hini.old t j hj ?_).symm
            cases hd : s.done.testBit j with
            | false => rfl
            | true =>
              have := hini.clo j hd i hb'
              rw [hni] at this; cases this
          · rename_i hb'
            refine hkeep' t fun j' hj' => ?_
            rw [hj] at hj'; cases hj'
            rcases hlook i o t j ho' ht hj with h1 | h1
            · exact hpre j h1
            · exact absurd h1 hb'
        · rename_i hn
          exact hkeep' t fun j hj => by rw [hn] at hj; cases hj
      have hni' : i ∉ π := by
        intro hi
        have := hnd i hi
        rw [hst.done] at this
        have h2 : (s.done ||| 2 ^ i).testBit i = true := or_bit.2 (.inr rfl)
        rw [h2] at this; cases this
      refine ⟨sf, ⟨i, k⟩ :: T, hK, by simp [hT], ?_, List.nodup_cons.2 ⟨hni', hnodup⟩, hkeep', hlen.trans hst.len, ?_, ?_⟩
      · intro j hj
        rcases List.mem_cons.1 hj with rfl | hj
        · exact hni
        · have := hnd j hj
          cases hd : s.done.testBit j with
          | false => rfl
          | true => rw [hdone j hd] at this; cases this
      · intro e he
        rcases List.mem_cons.1 he with rfl | he
        · refine ⟨o, ho', hfact', fun d hd => ?_⟩
          have : tget sf.a d = tget s'.a d := hkeep d fun j hj => by
            rw [hssa i o d ho' hd] at hj; cases hj
            rw [hst.done]; exact or_bit.2 (.inr rfl)
          rw [this]
          exact hst.dst d hd
        · exact hfact e he
      · refine ⟨fun j hj => hs.done j (hpre j hj), ?_⟩
        cases k with
        | skip => obtain ⟨e1, e2⟩ := hnx; rw [e1, e2] at hsuf; exact hsuf
        | val v => obtain ⟨e1, e2⟩ := hnx; rw [e1, e2] at hsuf; exact hsuf
        | new b mk => obtain ⟨e1, e2⟩ := hnx; rw [e1, e2] at hsuf; exact hsuf
        | read rq v => obtain ⟨e1, e2, h3, h4⟩ := hnx; rw [e1, e2] at hsuf; exact ⟨h3, h4, hsuf⟩
        | hv rq v H => obtain ⟨e1, e2, h3, h4, h5, h6⟩ := hnx; rw [e1, e2] at hsuf; exact ⟨h3, h4, h5, h6, hsuf⟩
    · cases h

end
end Go.Proofs.Ytminfdcdmgpnjaa.K
