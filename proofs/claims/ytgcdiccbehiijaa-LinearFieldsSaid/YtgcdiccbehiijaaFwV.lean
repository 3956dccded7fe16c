/- The framework, part V: whole regions, drawn ones too. -/
import Derived.Test.YtgcdiccbehiijaaFwU
set_option linter.all false
set_option linter.unusedSimpArgs false
set_option linter.unusedVariables false
namespace Go.Fw

section
variable {P : Program} {C : Ctx} {B : Base} {σ : St} {a : Act} {w : World} {Q : Exit → Act → World → Prop}

/-- the states between a region's operations -/
theorem evOps_states {ops : List Oper} {rid : Nat} {K : St → Option Res} {res : Res} : ∀ (rest : List Oper) (i : Nat) (σ : St), evOps C ops rid rest i σ K = some res →
    ∃ S : Nat → St, S i = σ ∧ (∀ j o, rest[j]? = some o → step1 C ops rid (i + j) o (S (i + j)) = some (S (i + j + 1)) ∧ freeBad C rid (i + j) (S (i + j)) o = false) ∧ K (S (i + rest.length)) = some res
  | [], i, σ, h => ⟨fun _ => σ, rfl, by simp, h⟩
  | o :: rest, i, σ, h => by
    obtain ⟨hfb, σ1, h1, h2⟩ := evOps_cons h
    obtain ⟨S, e, hS, hK⟩ := evOps_states rest (i + 1) σ1 h2
    refine ⟨fun n => if n = i then σ else S n, by simp, fun j o' hj => ?_, ?_⟩
    · have hne : ¬ (i + j + 1 = i) := by omega
      simp only [if_neg hne]
      cases j with
      | zero =>
        simp only [List.getElem?_cons_zero, Option.some.injEq] at hj
        subst hj
        simp only [Nat.add_zero, if_true]
        rw [h1, e]
        exact ⟨rfl, hfb⟩
      | succ j =>
        rw [List.getElem?_cons_succ] at hj
        have := hS j o' hj
        rw [if_neg (by omega)]
        have e1 : i + (j + 1) = i + 1 + j := by omega
        rw [e1]; exact this
    · have hne : ¬ (i + (o :: rest).length = i) := by simp
      simp only [if_neg hne]
      have e1 : i + (o :: rest).length = i + 1 + rest.length := by simp; omega
      rw [e1]; exact hK

theorem wpOps_states (hT : TabOk P C.T) (hC : CallOk P C) {ops : Array Oper} {rid : Nat} {S : Nat → St} (hS : ∀ j o, ops[j]? = some o → step1 C ops.toList rid j o (S j) = some (S (j + 1)))
    (hQ : ∀ a w, At C.T B (S ops.size) a w → Q .normal a w) : ∀ (l : Nat) (i : Nat), i + l = ops.size → ∀ (a : Act) (w : World), At C.T B (S i) a w → wpOps P ops Q (List.range' i l) a w
  | 0, i, hl, a, w, hA => by simp only [List.range', wpOps]; rw [Nat.add_zero] at hl; exact hQ a w (hl ▸ hA)
  | l + 1, i, hl, a, w, hA => by
    simp only [List.range']
    rw [wpOps_cons]
    have hi : i < ops.size := by omega
    have ho : ops[i]? = some ops[i] := Array.getElem?_eq_getElem hi
    exact step1_ok hT hC ho (hS i _ ho) hA (fun a' w' h' => wpOps_states hT hC hS hQ l (i + 1) (by omega) a' w' h')

/-- a region whose operations are done in their order -/
theorem region_ok (hT : TabOk P C.T) (hC : CallOk P C) {ops : Array Oper} {id rid : Nat} {K : St → Option Res} {res : Res} (h : evOps C ops.toList rid ops.toList 0 σ K = some res) (hA : At C.T B σ a w)
    (hQ : ∀ σ' a w, K σ' = some res → At C.T B σ' a w → Q .normal a w) : (Code.region id ops false).wp P Q a w := by
  obtain ⟨S, e, hS, hK⟩ := evOps_states _ _ _ h
  refine wp_region ?_
  rw [List.range_eq_range']
  refine wpOps_states (rid := rid) (S := S) hT hC (fun j o hj => ?_) (fun a w h' => hQ (S ops.size) a w (by simpa using hK) h') ops.size 0 (by simp) a w (e ▸ hA)
  simpa using (hS j o (by simpa using hj)).1

/-! ### Drawn regions -/
/-- which operations must stand ahead of each -/
def prds : List Oper → List (List Nat) → List (List Nat)
  | [], acc => acc
  | o :: os, acc => prds os (acc ++ [o.after.toList.flatMap fun e => bif Region.binds .any e then e.on :: acc.getD e.on [] else []])

def isQuiet (sig : FuncId → RS × List OS × List Nat) (pre : Nat → Bool) (i : Nat) (o : Oper) : Bool := quietOp sig o && pre i

def pairOk (sig : FuncId → RS × List OS × List Nat) (pre : Nat → Bool) (ops : Array Oper) (ps : List (List Nat)) (i j : Nat) (x y : Oper) : Bool :=
  let b := (ps.getD j []).elem i
  bif isQuiet sig pre i x && isQuiet sig pre j y then
    (match x.dst, y.dst with | some d, some e => !Nat.beq d e | _, _ => true) && (b || x.apart ops y)
  else b

def drawOk (sig : FuncId → RS × List OS × List Nat) (pre : Nat → Bool) (ops : Array Oper) : Bool :=
  let ps := prds ops.toList []
  (List.range ops.size).all fun j => match ops[j]? with
    | none => true
    | some y => y.after.toList.all (fun e => !Region.binds .any e || Nat.blt e.on j) &&
      (List.range j).all fun i => match ops[i]? with
        | none => true
        | some x => pairOk sig pre ops ps i j x y

def Closed (ops : List Oper) (L : Nat → Prop) : Prop := ∀ i o, ops[i]? = some o → L i → ∀ e ∈ o.after, Region.binds .any e = true → L e.on

theorem prds_ok {all : List Oper} {L : Nat → Prop} (hL : Closed all L) : ∀ (os pre : List Oper) (acc : List (List Nat)), pre ++ os = all → acc.length = pre.length →
    (∀ i o, pre[i]? = some o → (∀ e ∈ o.after, Region.binds .any e = true → L e.on) → ∀ p ∈ acc.getD i [], L p) →
    ∀ i o, all[i]? = some o → (∀ e ∈ o.after, Region.binds .any e = true → L e.on) → ∀ p ∈ (prds os acc).getD i [], L p
  | [], pre, acc, he, hl, hI, i, o, hi, hr, p, hp => by
    rw [List.append_nil] at he
    subst he
    exact hI i o hi hr p hp
  | o1 :: os, pre, acc, he, hl, hI, i, o, hi, hr, p, hp => by
    simp only [prds] at hp
    refine prds_ok hL os (pre ++ [o1]) _ (by simpa using he) (by simp [hl]) (fun i' o' hi' hr' p' hp' => ?_) i o hi hr p hp
    rcases Nat.lt_trichotomy i' pre.length with hlt | heq | hgt
    · rw [List.getElem?_append_left hlt] at hi'
      rw [List.getD_eq_getElem?_getD, List.getElem?_append_left (by omega), ← List.getD_eq_getElem?_getD] at hp'
      exact hI i' o' hi' hr' p' hp'
    · subst heq
      rw [List.getElem?_append_right (Nat.le_refl _)] at hi'
      simp only [Nat.sub_self, List.getElem?_cons_zero, Option.some.injEq] at hi'
      subst hi'
      rw [List.getD_eq_getElem?_getD, List.getElem?_append_right (by omega), hl] at hp'
      simp only [Nat.sub_self, List.getElem?_cons_zero, Option.getD_some, List.mem_flatMap] at hp'
      obtain ⟨e, hem, hpe⟩ := hp'
      cases hb : Region.binds .any e with
      | false => rw [hb] at hpe; cases hpe
      | true =>
        rw [hb] at hpe
        simp only [cond_true, List.mem_cons] at hpe
        have hLe := hr' e (by simpa using hem) hb
        rcases hpe with rfl | hpe
        · exact hLe
        · rcases Nat.lt_or_ge e.on pre.length with h1 | h1
          · have h2 : pre[e.on]? = some pre[e.on] := List.getElem?_eq_getElem h1
            refine hI e.on _ h2 (fun e' he' hb' => ?_) p' hpe
            refine hL e.on pre[e.on] ?_ hLe e' he' hb'
            rw [← he, List.getElem?_append_left h1, h2]
          · rw [List.getD_eq_getElem?_getD, List.getElem?_eq_none (by omega)] at hpe
            simp at hpe
    · rw [List.getElem?_eq_none (by simp; omega)] at hi'; cases hi'

/-- the operations that are done already -/
def Lst (listed : Array Bool) (i : Nat) : Prop := listed.getD i false = true

theorem Lst_set {listed : Array Bool} {i j : Nat} (hi : i < listed.size) : Lst (listed.setIfInBounds i true) j ↔ j = i ∨ Lst listed j := by
  unfold Lst
  by_cases h : i = j
  · subst h; simp [hi]
  · rw [getD_set_ne false h]
    constructor
    · exact fun h => .inr h
    · rintro (rfl | h')
      · exact absurd rfl h
      · exact h'

theorem not_Lst {listed : Array Bool} {i : Nat} (h : listed.getD i true = false) : i < listed.size ∧ ¬ Lst listed i := by
  have hlt : i < listed.size := by
    rcases Nat.lt_or_ge i listed.size with h' | h'
    · exact h'
    · simp [Array.getElem?_eq_none h'] at h
  refine ⟨hlt, fun hL => ?_⟩
  simp [Lst, hlt] at h hL
  rw [h] at hL; cases hL

end
end Go.Fw
