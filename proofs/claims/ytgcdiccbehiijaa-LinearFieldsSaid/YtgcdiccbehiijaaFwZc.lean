/- The framework, part Zc: what is checked by computation of a program and its annotations. -/
import Derived.Test.YtgcdiccbehiijaaFwZb
set_option linter.all false
set_option linter.unusedSimpArgs false
set_option linter.unusedVariables false
namespace Go.Fw

def CT.isZ : CT → Value → Bool
  | .int k, .int j n => decide (j = k) && decide (n = 0)
  | .bool, .bool b => !b
  | .str, .string s => Nat.beq s.data.toList.length 0
  | .sl _, .slice none n c => Nat.beq n 0 && Nat.beq c 0
  | .ptr, .pointer none => true
  | .func, .nilFunc => true
  | .iface, .nilIface => true
  | .map, .map none => true
  | _, _ => false

def allZ : List CT → List Value → Bool
  | [], [] => true
  | c :: cs, v :: vs => c.isZ v && allZ cs vs
  | _, _ => false

theorem CT.isZ_ok {c : CT} {v : Value} (h : c.isZ v = true) : v = c.zeroV := by
  unfold CT.isZ at h
  split at h <;> simp_all [CT.zeroV]

theorem allZ_ok : ∀ {cs : List CT} {vs : List Value}, allZ cs vs = true → vs = cs.map CT.zeroV
  | [], [], _ => rfl
  | [], _ :: _, h => by simp [allZ] at h
  | _ :: _, [], h => by simp [allZ] at h
  | c :: cs, v :: vs, h => by
    simp only [allZ, Bool.and_eq_true] at h
    rw [CT.isZ_ok h.1, allZ_ok h.2]; rfl

def tokB (P : Program) (t : Nat) (ti : TI) : Bool :=
  match P.info? t, P.underlying t with
  | some i, some d => dOk ti.d d && (Nat.beq i.size ti.cells.length && (Nat.beq i.bytes ti.bytes && (match i.zero with
      | some z => allZ ti.cells z.cells.toList && (!ti.isAgg || (match z with | .agg _ => true | _ => false))
      | none => false) && (!ti.eqable || (!P.stoodInHeld t && (!P.eqGuardType P.depth t && (P.fieldsOf t).toList.all fun f => !(f.name == "_"))))))
  | _, _ => false

def tabB (P : Program) : Nat → List (Option TI) → Bool
  | _, [] => true
  | t, none :: l => tabB P (t + 1) l
  | t, some ti :: l => tokB P t ti && tabB P (t + 1) l

theorem tokB_ok {P : Program} {t : Nat} {ti : TI} (h : tokB P t ti = true) : ∃ i d z, TOk P t ti i d z := by
  unfold tokB at h
  split at h
  · rename_i i d hi hd
    simp only [Bool.and_eq_true] at h
    obtain ⟨h1, h2, ⟨h3, h4⟩, h5⟩ := h
    split at h4
    · rename_i z hz
      simp only [Bool.and_eq_true, Bool.or_eq_true, Bool.not_eq_true'] at h4 h5
      refine ⟨i, d, z, hi, hd, h1, Nat.eq_of_beq_eq_true h2, Nat.eq_of_beq_eq_true h3, hz, allZ_ok h4.1, fun ha => ?_, fun he => ?_⟩
      · rcases h4.2 with h | h
        · rw [ha] at h; cases h
        · split at h
          · exact ⟨_, rfl⟩
          · cases h
      · rcases h5 with h | ⟨g1, g2, g3⟩
        · rw [he] at h; cases h
        · exact ⟨g1, g2, fun f hf => by simpa using List.all_eq_true.1 g3 f hf⟩
    · cases h4
  · cases h

theorem tabB_ok {P : Program} : ∀ {l : List (Option TI)} {b : Nat}, tabB P b l = true → ∀ t ti, l[t]? = some (some ti) → ∃ i d z, TOk P (b + t) ti i d z
  | [], b, h, t, ti, ht => by simp at ht
  | x :: l, b, h, t, ti, ht => by
    cases t with
    | zero =>
      simp only [List.getElem?_cons_zero, Option.some.injEq] at ht
      subst ht
      simp only [tabB, Bool.and_eq_true] at h
      exact tokB_ok h.1
    | succ t =>
      rw [List.getElem?_cons_succ] at ht
      have h' : tabB P (b + 1) l = true := by
        cases x with
        | none => exact h
        | some x => simp only [tabB, Bool.and_eq_true] at h; exact h.2
      have := tabB_ok h' t ti ht
      rwa [Nat.add_assoc, Nat.add_comm 1 t] at this

theorem tab_ok {P : Program} {l : List (Option TI)} (h : tabB P 0 l = true) : TabOk P (fun t => l.getD t none) := fun t ti ht => by
  have : l[t]? = some (some ti) := by
    simp only [List.getD_eq_getElem?_getD] at ht
    cases hh : l[t]? with
    | none => rw [hh] at ht; cases ht
    | some x => rw [hh] at ht; simp only [Option.getD_some] at ht; rw [ht]
  simpa using tabB_ok h t ti this

/-- some of a program's functions -/
def bodyOf (P : Program) (fs : List Nat) (f : FuncId) : Option Func := bif fs.elem f then P.funcs[f]? else none

def bodyB (P : Program) (ann : FuncId → FAnn) (f : Nat) : Bool :=
  match P.funcs[f]? with
  | some fn => !(fn.name == "runtime.NumGoroutine") && (match fn.body with
    | some c => codeOk (fun g => ((ann g).res, (ann g).objs, (ann g).mvs)) (ann f) c
    | none => true)
  | none => true

theorem body_ok {P : Program} {ann : FuncId → FAnn} {fs : List Nat} (h : fs.all (bodyB P ann) = true) (f : FuncId) (fn : Func) (hf : bodyOf P fs f = some fn) :
    P.funcs[f]? = some fn ∧ (fn.name == "runtime.NumGoroutine") = false ∧ ∀ c, fn.body = some c → codeOk (fun g => ((ann g).res, (ann g).objs, (ann g).mvs)) (ann f) c = true := by
  unfold bodyOf at hf
  cases he : fs.elem f with
  | false => rw [he] at hf; cases hf
  | true =>
    rw [he] at hf
    simp only [cond_true] at hf
    have := List.all_eq_true.1 h f (by simpa using he)
    unfold bodyB at this
    rw [hf] at this
    simp only [Bool.and_eq_true, Bool.not_eq_true'] at this
    refine ⟨hf, this.1, fun c hc => ?_⟩
    have h2 := this.2
    rw [hc] at h2; exact h2

end Go.Fw
