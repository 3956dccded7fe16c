/- The framework, part Zd: systems grow by what is known of their functions; loops, found by their places in the code. -/
import Derived.Test.YtgcdiccbehiijaaFwZc
set_option linter.all false
set_option linter.unusedSimpArgs false
set_option linter.unusedVariables false
namespace Go.Fw

/-- a system in which a function's answers are told -/
def FSys.tell (S : FSys) (g : FuncId) (F : List AV → List AObj → Ab Res) : FSys :=
  { S with prim := fun f args st => bif Nat.beq f g then (match F args st with
    | some r => some (some r)
    | none => S.prim f args st) else S.prim f args st }

theorem SysOk.tell {P : Program} {S : FSys} (hS : SysOk P S) (g : FuncId) (F : List AV → List AObj → Ab Res) (h : ∀ args st r, F args st = some (true, r) → ∃ k, ev S k g args st = some r) : SysOk P (S.tell g F) where
  mixed := hS.mixed
  harm := hS.harm
  tab := hS.tab
  body := hS.body
  prim := fun f args st r st' hp => by
    simp only [FSys.tell] at hp
    cases hb : Nat.beq f g with
    | false => rw [hb] at hp; exact hS.prim f args st r st' hp
    | true =>
      rw [hb] at hp
      simp only [cond_true] at hp
      split at hp
      · rename_i x hF
        cases hp
        obtain ⟨k, hk⟩ := h args st _ hF
        obtain rfl := Nat.eq_of_beq_eq_true hb
        exact ev_ok hS k f args st r st' hk
      · exact hS.prim f args st r st' hp

/-! ### Loops by their places -/
abbrev Kon := Out → Option Res

/-- the part of a code at a place, and what comes behind it; 'ms': the rounds that are left of the loops around it -/
def kont (C : Ctx) : Nat → Code → List Nat → List Nat → Kon → Nat × Code × Kon
  | blk, .seq a b, 0 :: p, ms, K => kont C blk a p ms fun
    | .norm σ' => evC C blk b σ' K
    | o => K o
  | blk, .seq a b, 1 :: p, ms, K => kont C blk b p ms K
  | blk, .cond _ a b, 0 :: p, ms, K => kont C blk a p ms K
  | blk, .cond _ a b, 1 :: p, ms, K => kont C blk b p ms K
  | blk, .block id b, 0 :: p, ms, K => kont C id b p ms fun
    | .exit j σ' => bif Nat.beq j id then K (.norm σ') else K (.exit j σ')
    | o => K o
  | blk, .loop b, 0 :: p, m :: ms, K =>
    let weak := fun σ : St => (σ.weaks (look1 C.ann.loops blk)).canon C.m
    kont C blk b p ms fun
      | .norm σ' => loopGo weak (fun σ K => evC C blk b σ K) K m (weak σ')
      | o => K o
  | blk, c, _, _, K => (blk, c, K)

def ctxOf (S : FSys) (f : FuncId) (m k : Nat) : Ctx := { T := S.T, ann := S.ann f, m := m, fuel := k, call := callOf S (ev S k), sig := fun g => ((S.ann g).res, (S.ann g).objs, (S.ann g).mvs) }

def finK (S : FSys) (f : FuncId) (m : Nat) (fn : Func) : Kon := fun
  | .norm σ => finish S.T (S.ann f) m fn.results.toList σ
  | .ret σ => finish S.T (S.ann f) m fn.results.toList σ
  | _ => none

/-- a loop of a function at a place, with n rounds left -/
def loopAt (S : FSys) (f : FuncId) (fn : Func) (m k : Nat) (p ms : List Nat) (n : Nat) (σ : St) : Option Res :=
  match fn.body with
  | none => none
  | some c =>
    match kont (ctxOf S f m k) 0 c p ms (finK S f m fn) with
    | (blk, .loop b, K) => loopGo (fun σ : St => (σ.weaks (look1 (S.ann f).loops blk)).canon m) (fun σ K => evC (ctxOf S f m k) blk b σ K) K n σ
    | _ => none

/-- one round, with 'R' for what comes behind it -/
def roundAt (S : FSys) (f : FuncId) (fn : Func) (m k : Nat) (p ms : List Nat) (R : St → Option Res) (σ : St) : Option Res :=
  match fn.body with
  | none => none
  | some c =>
    match kont (ctxOf S f m k) 0 c p ms (finK S f m fn) with
    | (blk, .loop b, K) => evC (ctxOf S f m k) blk b σ fun
      | .norm σ' => R ((σ'.weaks (look1 (S.ann f).loops blk)).canon m)
      | o => K o
    | _ => none

theorem loopAt_succ (S : FSys) (f : FuncId) (fn : Func) (m k : Nat) (p ms : List Nat) (n : Nat) (σ : St) :
    loopAt S f fn m k p ms (n + 1) σ = roundAt S f fn m k p ms (loopAt S f fn m k p ms n) σ := by
  unfold loopAt roundAt
  cases fn.body with
  | none => rfl
  | some c =>
    simp only
    generalize kont (ctxOf S f m k) 0 c p ms (finK S f m fn) = x
    obtain ⟨blk, c', K⟩ := x
    cases c' <;> first | rfl | (simp only [loopGo])

/-- temporaries: those that are known -/
def tm (n : Nat) (l : List (Nat × AV)) : List AV := (List.range n).map fun i => match l.find? fun p => Nat.beq p.1 i with | some p => p.2 | none => .undef

end Go.Fw
