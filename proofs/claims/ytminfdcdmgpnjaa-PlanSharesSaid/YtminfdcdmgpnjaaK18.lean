/- Places in a function's text; how the run of a part is put together out of its parts' runs. -/
import Derived.Test.YtminfdcdmgpnjaaK17
set_option linter.unusedVariables false
set_option linter.unusedSimpArgs false
namespace Go.Proofs.Ytminfdcdmgpnjaa.K
open Go

/-- A place in a text: 0, 1 the two of a seq, 2, 3 the two ways, 4 what is inside. -/
def stepC : Code → Nat → Code
  | .seq x y, n => cond (Nat.beq n 0) x y
  | .cond _ x y, n => cond (Nat.beq n 2) x y
  | .block _ x, _ => x
  | .loop x, _ => x
  | .scope x, _ => x
  | c, _ => c
def goC : Code → List Nat → Code
  | c, [] => c
  | c, n :: l => goC (stepC c n) l
def aL : An → An
  | .l _ x => x
  | a => a
def bodyOf (fn : Func) : Code :=
  match fn.body with
  | some c => c
  | none => .skip

def cAt (fn : Func) (l : List Nat) : Code := goC (bodyOf fn) l

abbrev Kt := Tms → Heap → Ans
abbrev Kv := V → Heap → Ans

/-- Temporaries: so many, those of the list known. -/
def tmk : Nat → Nat → List (Nat × V) → Tms
  | _, 0, _ => []
  | i, n + 1, l => match l with
    | [] => .undef :: tmk (i + 1) n []
    | p :: r => cond (Nat.beq i p.1) (p.2 :: tmk (i + 1) n r) (.undef :: tmk (i + 1) n (p :: r))
/-- The places of a list. -/
def lvGo : Nat → Nat → List Nat → List Bool
  | _, 0, _ => []
  | i, n + 1, l => match l with
    | [] => []
    | p :: r => cond (Nat.beq i p) (true :: lvGo (i + 1) n r) (false :: lvGo (i + 1) n (p :: r))
def lvOf (l : List Nat) : List Bool := lvGo 0 10000 l

def env0 (P : Program) (fn : Func) (κ : V → Heap → Ans) : Env := ⟨fun _ _ _ => none, fun a H => resL P a H fn.results.toList fun vs => κ (resV vs) H⟩

/-- What goes on, with what lives alone. -/
def kj (l : List Nat) (J : Kt) : Kt := fun a H => J (cutT (some (lvOf l)) a) H
def thenR (P : Program) (o : Orc) (N : Nat) (y : Code) (ay : An) (E : Env) (K : Kt) : Kt := fun a H => run P o N y ay E a H K

section
variable {P : Program} {o : Orc} {N n : Nat} {c x y : Code} {a ax ay : An} {l : List Nat} {E : Env} {t t' : Tms} {H : Heap} {K : Kt} {id : Nat} {op : Operand} {b : Bool}

theorem run_seq (hc : c = .seq x y) (ha : a = .s ax (some (lvOf l)) ay) :
    run P o N c a E t H K = run P o N x ax E t H (kj l (thenR P o N y ay E K)) := by
  subst hc ha; rfl
theorem run_cond (hc : c = .cond op x y) (ha : a = .c ax ay) (hb : ev t op = .bool b) :
    run P o N c a E t H K = cond b (run P o N x ax E t H K) (run P o N y ay E t H K) := by
  subst hc ha; simp only [run, hb]
theorem run_block (hc : c = .block id x) (ha : a = .b none ax) :
    run P o N c a E t H K = run P o N x ax (E.block id K) t H K := by
  subst hc ha; rfl
theorem run_loop (hc : c = .loop x) (ha : a = .l (some (lvOf l)) ax) (ht : cutT (some (lvOf l)) t = t) :
    run P o N c a E t H K = rounds (fun a H k => run P o N x ax E a H k) (some (lvOf l)) N t H := by
  subst hc ha; simp only [run, ht]
theorem run_round : rounds (fun a H k => run P o N x ax E a H k) (some (lvOf l)) (n + 1) t H =
    run P o N x ax E t H (kj l (rounds (fun a H k => run P o N x ax E a H k) (some (lvOf l)) n)) := rfl
theorem run_narrow (hc : c = .loop (stepC c 4)) (ha : a = .l (some (lvOf l)) (aL a)) (ht : cutT (some (lvOf l)) t = t') (ht' : cutT (some (lvOf l)) t' = t') :
    run P o N c a E t H K = run P o N c a E t' H K := by
  rw [hc, ha]; simp only [run, ht, ht']
theorem run_scope (hc : c = .scope x) : run P o N c a E t H K = run P o N x a E t H K := by
  subst hc; rfl
theorem runFn_at {fn : Func} {vs : List V} {κ : Kv} (hb : fn.body = some (cAt fn [])) (ht : vs ++ List.replicate (fn.ntmps - vs.length) .undef = t) :
    runFn P o N fn a vs H κ = run P o N (cAt fn []) a (env0 P fn κ) t H (env0 P fn κ).ret := by
  simp only [runFn, hb, ht, env0]
end

section
variable {A B C D F G I J K L M N O Q R S T U W X Y : Type}
theorem fx1 {f g : A → Y} (h : ∀ x0, f x0 = g x0) : f = g := funext fun x0 => h x0
theorem fx2 {f g : A → B → Y} (h : ∀ x0 x1, f x0 x1 = g x0 x1) : f = g := funext fun x0 => funext fun x1 => h x0 x1
theorem fx3 {f g : A → B → C → Y} (h : ∀ x0 x1 x2, f x0 x1 x2 = g x0 x1 x2) : f = g := funext fun x0 => funext fun x1 => funext fun x2 => h x0 x1 x2
theorem fx4 {f g : A → B → C → D → Y} (h : ∀ x0 x1 x2 x3, f x0 x1 x2 x3 = g x0 x1 x2 x3) : f = g := funext fun x0 => funext fun x1 => funext fun x2 => funext fun x3 => h x0 x1 x2 x3
theorem fx5 {f g : A → B → C → D → F → Y} (h : ∀ x0 x1 x2 x3 x4, f x0 x1 x2 x3 x4 = g x0 x1 x2 x3 x4) : f = g := funext fun x0 => funext fun x1 => funext fun x2 => funext fun x3 => funext fun x4 => h x0 x1 x2 x3 x4
theorem fx6 {f g : A → B → C → D → F → G → Y} (h : ∀ x0 x1 x2 x3 x4 x5, f x0 x1 x2 x3 x4 x5 = g x0 x1 x2 x3 x4 x5) : f = g := funext fun x0 => funext fun x1 => funext fun x2 => funext fun x3 => funext fun x4 => funext fun x5 => h x0 x1 x2 x3 x4 x5
theorem fx7 {f g : A → B → C → D → F → G → I → Y} (h : ∀ x0 x1 x2 x3 x4 x5 x6, f x0 x1 x2 x3 x4 x5 x6 = g x0 x1 x2 x3 x4 x5 x6) : f = g := funext fun x0 => funext fun x1 => funext fun x2 => funext fun x3 => funext fun x4 => funext fun x5 => funext fun x6 => h x0 x1 x2 x3 x4 x5 x6
theorem fx8 {f g : A → B → C → D → F → G → I → J → Y} (h : ∀ x0 x1 x2 x3 x4 x5 x6 x7, f x0 x1 x2 x3 x4 x5 x6 x7 = g x0 x1 x2 x3 x4 x5 x6 x7) : f = g := funext fun x0 => funext fun x1 => funext fun x2 => funext fun x3 => funext fun x4 => funext fun x5 => funext fun x6 => funext fun x7 => h x0 x1 x2 x3 x4 x5 x6 x7
theorem fx9 {f g : A → B → C → D → F → G → I → J → K → Y} (h : ∀ x0 x1 x2 x3 x4 x5 x6 x7 x8, f x0 x1 x2 x3 x4 x5 x6 x7 x8 = g x0 x1 x2 x3 x4 x5 x6 x7 x8) : f = g := funext fun x0 => funext fun x1 => funext fun x2 => funext fun x3 => funext fun x4 => funext fun x5 => funext fun x6 => funext fun x7 => funext fun x8 => h x0 x1 x2 x3 x4 x5 x6 x7 x8
theorem fx10 {f g : A → B → C → D → F → G → I → J → K → L → Y} (h : ∀ x0 x1 x2 x3 x4 x5 x6 x7 x8 x9, f x0 x1 x2 x3 x4 x5 x6 x7 x8 x9 = g x0 x1 x2 x3 x4 x5 x6 x7 x8 x9) : f = g := funext fun x0 => funext fun x1 => funext fun x2 => funext fun x3 => funext fun x4 => funext fun x5 => funext fun x6 => funext fun x7 => funext fun x8 => funext fun x9 => h x0 x1 x2 x3 x4 x5 x6 x7 x8 x9
theorem fx11 {f g : A → B → C → D → F → G → I → J → K → L → M → Y} (h : ∀ x0 x1 x2 x3 x4 x5 x6 x7 x8 x9 x10, f x0 x1 x2 x3 x4 x5 x6 x7 x8 x9 x10 = g x0 x1 x2 x3 x4 x5 x6 x7 x8 x9 x10) : f = g := funext fun x0 => funext fun x1 => funext fun x2 => funext fun x3 => funext fun x4 => funext fun x5 => funext fun x6 => funext fun x7 => funext fun x8 => funext fun x9 => funext fun x10 => h x0 x1 x2 x3 x4 x5 x6 x7 x8 x9 x10
theorem fx12 {f g : A → B → C → D → F → G → I → J → K → L → M → N → Y} (h : ∀ x0 x1 x2 x3 x4 x5 x6 x7 x8 x9 x10 x11, f x0 x1 x2 x3 x4 x5 x6 x7 x8 x9 x10 x11 = g x0 x1 x2 x3 x4 x5 x6 x7 x8 x9 x10 x11) : f = g := funext fun x0 => funext fun x1 => funext fun x2 => funext fun x3 => funext fun x4 => funext fun x5 => funext fun x6 => funext fun x7 => funext fun x8 => funext fun x9 => funext fun x10 => funext fun x11 => h x0 x1 x2 x3 x4 x5 x6 x7 x8 x9 x10 x11
theorem fx13 {f g : A → B → C → D → F → G → I → J → K → L → M → N → O → Y} (h : ∀ x0 x1 x2 x3 x4 x5 x6 x7 x8 x9 x10 x11 x12, f x0 x1 x2 x3 x4 x5 x6 x7 x8 x9 x10 x11 x12 = g x0 x1 x2 x3 x4 x5 x6 x7 x8 x9 x10 x11 x12) : f = g := funext fun x0 => funext fun x1 => funext fun x2 => funext fun x3 => funext fun x4 => funext fun x5 => funext fun x6 => funext fun x7 => funext fun x8 => funext fun x9 => funext fun x10 => funext fun x11 => funext fun x12 => h x0 x1 x2 x3 x4 x5 x6 x7 x8 x9 x10 x11 x12
theorem fx14 {f g : A → B → C → D → F → G → I → J → K → L → M → N → O → Q → Y} (h : ∀ x0 x1 x2 x3 x4 x5 x6 x7 x8 x9 x10 x11 x12 x13, f x0 x1 x2 x3 x4 x5 x6 x7 x8 x9 x10 x11 x12 x13 = g x0 x1 x2 x3 x4 x5 x6 x7 x8 x9 x10 x11 x12 x13) : f = g := funext fun x0 => funext fun x1 => funext fun x2 => funext fun x3 => funext fun x4 => funext fun x5 => funext fun x6 => funext fun x7 => funext fun x8 => funext fun x9 => funext fun x10 => funext fun x11 => funext fun x12 => funext fun x13 => h x0 x1 x2 x3 x4 x5 x6 x7 x8 x9 x10 x11 x12 x13
theorem fx15 {f g : A → B → C → D → F → G → I → J → K → L → M → N → O → Q → R → Y} (h : ∀ x0 x1 x2 x3 x4 x5 x6 x7 x8 x9 x10 x11 x12 x13 x14, f x0 x1 x2 x3 x4 x5 x6 x7 x8 x9 x10 x11 x12 x13 x14 = g x0 x1 x2 x3 x4 x5 x6 x7 x8 x9 x10 x11 x12 x13 x14) : f = g := funext fun x0 => funext fun x1 => funext fun x2 => funext fun x3 => funext fun x4 => funext fun x5 => funext fun x6 => funext fun x7 => funext fun x8 => funext fun x9 => funext fun x10 => funext fun x11 => funext fun x12 => funext fun x13 => funext fun x14 => h x0 x1 x2 x3 x4 x5 x6 x7 x8 x9 x10 x11 x12 x13 x14
theorem fx16 {f g : A → B → C → D → F → G → I → J → K → L → M → N → O → Q → R → S → Y} (h : ∀ x0 x1 x2 x3 x4 x5 x6 x7 x8 x9 x10 x11 x12 x13 x14 x15, f x0 x1 x2 x3 x4 x5 x6 x7 x8 x9 x10 x11 x12 x13 x14 x15 = g x0 x1 x2 x3 x4 x5 x6 x7 x8 x9 x10 x11 x12 x13 x14 x15) : f = g := funext fun x0 => funext fun x1 => funext fun x2 => funext fun x3 => funext fun x4 => funext fun x5 => funext fun x6 => funext fun x7 => funext fun x8 => funext fun x9 => funext fun x10 => funext fun x11 => funext fun x12 => funext fun x13 => funext fun x14 => funext fun x15 => h x0 x1 x2 x3 x4 x5 x6 x7 x8 x9 x10 x11 x12 x13 x14 x15
theorem fx17 {f g : A → B → C → D → F → G → I → J → K → L → M → N → O → Q → R → S → T → Y} (h : ∀ x0 x1 x2 x3 x4 x5 x6 x7 x8 x9 x10 x11 x12 x13 x14 x15 x16, f x0 x1 x2 x3 x4 x5 x6 x7 x8 x9 x10 x11 x12 x13 x14 x15 x16 = g x0 x1 x2 x3 x4 x5 x6 x7 x8 x9 x10 x11 x12 x13 x14 x15 x16) : f = g := funext fun x0 => funext fun x1 => funext fun x2 => funext fun x3 => funext fun x4 => funext fun x5 => funext fun x6 => funext fun x7 => funext fun x8 => funext fun x9 => funext fun x10 => funext fun x11 => funext fun x12 => funext fun x13 => funext fun x14 => funext fun x15 => funext fun x16 => h x0 x1 x2 x3 x4 x5 x6 x7 x8 x9 x10 x11 x12 x13 x14 x15 x16
theorem fx18 {f g : A → B → C → D → F → G → I → J → K → L → M → N → O → Q → R → S → T → U → Y} (h : ∀ x0 x1 x2 x3 x4 x5 x6 x7 x8 x9 x10 x11 x12 x13 x14 x15 x16 x17, f x0 x1 x2 x3 x4 x5 x6 x7 x8 x9 x10 x11 x12 x13 x14 x15 x16 x17 = g x0 x1 x2 x3 x4 x5 x6 x7 x8 x9 x10 x11 x12 x13 x14 x15 x16 x17) : f = g := funext fun x0 => funext fun x1 => funext fun x2 => funext fun x3 => funext fun x4 => funext fun x5 => funext fun x6 => funext fun x7 => funext fun x8 => funext fun x9 => funext fun x10 => funext fun x11 => funext fun x12 => funext fun x13 => funext fun x14 => funext fun x15 => funext fun x16 => funext fun x17 => h x0 x1 x2 x3 x4 x5 x6 x7 x8 x9 x10 x11 x12 x13 x14 x15 x16 x17
end

theorem FSound.sub {P : Program} {f : FuncId} {M M' : FnM} (h : FSound P f M) (hs : ∀ vs H κ r, M' vs H κ = some r → M vs H κ = some r) : FSound P f M' :=
  fun vs H κ r hr => h vs H κ r (hs vs H κ r hr)

theorem FCalls.sub {P : Program} {f : FuncId} {M M' : FnM} (h : FCalls P f M) (hs : ∀ vs H κ r, M' vs H κ = some r → M vs H κ = some r) : FCalls P f M' :=
  fun vs H κ r hr => h vs H κ r (hs vs H κ r hr)

end Go.Proofs.Ytminfdcdmgpnjaa.K
