/- The framework, part Xa: bodies that defer calls which do nothing at the function's end. -/
import Derived.Test.YtgcdiccbehiijaaFwX
import Derived.Recover
import Derived.Defers
set_option linter.all false
set_option linter.unusedSimpArgs false
set_option linter.unusedVariables false
namespace Go.Fw

/-- a function that, deferred with so many values, does nothing at the end of a function that returns -/
def Harm (P : Program) (g : FuncId) (n : Nat) : Prop := ∀ (vals : Array Value) (w : World), vals.size = n →
  (callFunc g vals).run P w = .ok (.enter g vals) w ∧ CallsD P g vals .returning w fun e u' w' => e = .returned (.tuple #[]) ∧ u' = .returning ∧ w' = w

/-- the deferred calls that are told by the evaluator -/
def DefR (D : Option (FuncId × Nat)) (ds : List Deferred) : Prop :=
  match D with
  | none => ds = []
  | some (g, n) => ∃ cap : Array Value, cap.size = n ∧ ds = [{ target := .fn (.func g) cap, args := #[] }]

def AtD (T : Tab) (B : Base) (D : Option (FuncId × Nat)) (σ : St) (a : Act) (w : World) : Prop := ∃ ds, DefR D ds ∧ At T { B with D := ds } σ a w

def QKD (T : Tab) (B : Base) (K : Out → Option (FuncId × Nat) → Option Res) (res : Res) : Exit → Act → World → Prop
  | .normal, a, w => ∃ σ D, K (.norm σ) D = some res ∧ AtD T B D σ a w
  | .exit id, a, w => ∃ σ D, K (.exit id σ) D = some res ∧ AtD T B D σ a w
  | .ret, a, w => ∃ σ D, K (.ret σ) D = some res ∧ AtD T B D σ a w
  | _, _, _ => False

section
variable {P : Program} {C : Ctx} {B : Base} {res : Res}

theorem wpOps_until (hT : TabOk P C.T) (hC : CallOk P C) {ops : Array Oper} {rid : Nat} {S : Nat → St} {Q : Exit → Act → World → Prop} {rest : List Nat} {n : Nat} (hS : ∀ j o, j < n → ops[j]? = some o → step1 C ops.toList rid j o (S j) = some (S (j + 1)))
    (hn : n ≤ ops.size) (hQ : ∀ a w, At C.T B (S n) a w → wpOps P ops Q rest a w) : ∀ (l : Nat) (i : Nat), i + l = n → ∀ (a : Act) (w : World), At C.T B (S i) a w → wpOps P ops Q (List.range' i l ++ rest) a w
  | 0, i, hl, a, w, hA => by simp only [List.range', List.nil_append]; rw [Nat.add_zero] at hl; exact hQ a w (hl ▸ hA)
  | l + 1, i, hl, a, w, hA => by
    simp only [List.range', List.cons_append]
    rw [wpOps_cons]
    have hi : i < ops.size := by omega
    have ho : ops[i]? = some ops[i] := Array.getElem?_eq_getElem hi
    exact step1_ok hT hC ho (hS i _ (by omega) ho) hA (fun a' w' h' => wpOps_until hT hC hS hn hQ l (i + 1) (by omega) a' w' h')

theorem evC_D (hm : P.follows .mixedOrders = true) (hT : TabOk P C.T) (hC : CallOk P C) (hCm : C.m = B.m) {c : Code} {σ : St} {D : Option (FuncId × Nat)} {K : Out → Option (FuncId × Nat) → Option Res} {a : Act} {w : World}
    (hk : codeOk C.sig C.ann c = true) (h : evC C 0 c σ (fun o => K o D) = some res) (hA : AtD C.T B D σ a w) : c.wp P (QKD C.T B K res) a w := by
  obtain ⟨ds, hd, hA⟩ := hA
  refine wp_mono (evC_ok (B := { B with D := ds }) hm hT hC hCm c 0 σ _ a w hk h hA) fun e a' w' hq => ?_
  cases e with
  | normal => obtain ⟨σ', hK, hA'⟩ := hq; exact ⟨σ', D, hK, ds, hd, hA'⟩
  | exit id => obtain ⟨σ', hK, hA'⟩ := hq; exact ⟨σ', D, hK, ds, hd, hA'⟩
  | ret => obtain ⟨σ', hK, hA'⟩ := hq; exact ⟨σ', D, hK, ds, hd, hA'⟩
  | goto l => exact hq
  | panic ch => exact hq
  | outgrown => exact hq

theorem deferOf_some {ops : List Oper} {init : List Oper} {f : Operand} (h : deferOf ops = some (init, f)) :
    ∃ o args ats, ops = init ++ [o] ∧ o.dst = none ∧ o.guard = none ∧ o.op = .defer { callee := .value f, args := args, argTypes := ats } ∧ args.toList = [] := by
  unfold deferOf at h
  split at h
  · cases h
  · rename_i o rest hr
    split at h
    · rename_i f' args ats h1 h2 h3
      cases ha : args.toList.isEmpty with
      | false => rw [ha] at h; cases h
      | true =>
        rw [ha] at h
        cases h
        refine ⟨o, args, ats, ?_, h1, h2, h3, by simpa using ha⟩
        have := congrArg List.reverse hr
        simpa using this
    · cases h

theorem evB_ok (hm : P.follows .mixedOrders = true) (hT : TabOk P C.T) (hC : CallOk P C) (hCm : C.m = B.m) : ∀ (c : Code) (σ : St) (D : Option (FuncId × Nat)) (K : Out → Option (FuncId × Nat) → Option Res) (a : Act) (w : World),
    codeOk C.sig C.ann c = true → evB C c σ D K = some res → AtD C.T B D σ a w → c.wp P (QKD C.T B K res) a w
  | .seq x y, σ, D, K, a, w, hk, h, hA => by
    simp only [codeOk, Bool.and_eq_true] at hk
    simp only [evB] at h
    refine wp_seq (wp_mono (evB_ok hm hT hC hCm x σ D _ a w hk.1 h hA) fun e a' w' hq => ?_)
    cases e with
    | normal =>
      obtain ⟨σ', D', hK, hA'⟩ := hq
      exact evB_ok hm hT hC hCm y σ' D' K a' w' hk.2 hK hA'
    | exit id => exact hq
    | ret => exact hq
    | goto l => exact hq
    | panic ch => exact hq
    | outgrown => exact hq
  | .region id ops dr, σ, D, K, a, w, hk, h, hA => by
    simp only [evB] at h
    cases hd : C.ann.dfr.elem id with
    | false =>
      rw [hd] at h
      exact evC_D hm hT hC hCm hk h hA
    | true =>
      rw [hd] at h
      simp only [cond_true] at h
      split at h
      · rename_i _ _ _ init f hdo
        rw [forceSt_eq] at h
        obtain ⟨o, args, ats, hops, h1, h2, h3, h4⟩ := deferOf_some hdo
        obtain ⟨ds, hds, hA⟩ := hA
        have hds' : ds = [] := hds
        subst hds'
        obtain ⟨S, e, hS, hK⟩ := evOps_states _ _ _ h
        have hsz : ops.size = init.length + 1 := by
          have := congrArg List.length hops
          simpa using this
        have hget : ∀ j, j < init.length → ops[j]? = init[j]? := fun j hj => by
          have : ops.toList[j]? = init[j]? := by rw [hops, List.getElem?_append_left hj]
          simpa using this
        have hlast : ops[init.length]? = some o := by
          have : ops.toList[init.length]? = some o := by rw [hops, List.getElem?_append_right (Nat.le_refl _)]; simp
          simpa using this
        refine wp_region ?_
        have hr : List.range ops.size = List.range' 0 init.length ++ [init.length] := by
          rw [List.range_eq_range', hsz, List.range'_concat]; simp
        rw [hr]
        refine wpOps_until (rid := id) (S := S) (n := init.length) (B := { B with D := [] }) hT hC (fun j o' hj ho' => ?_) (by omega) (fun a' w' hA' => ?_) init.length 0 (by omega) a w (e ▸ hA)
        · have := (hS j o' (by rw [← hget j hj]; exact ho')).1
          simpa using this
        · simp only [Nat.zero_add] at hK
          rw [wpOps_cons]
          unfold wpOp
          simp only [hlast]
          have hg : Region.wanted o (yielded ops a'.tmps) = true := by unfold Region.wanted; rw [h2]
          rw [hg]
          simp only [if_true]
          refine .inl ?_
          obtain ⟨hd', E, Z, hs, hX, hKp, hm'⟩ := hA'
          split at hK
          · rename_i n cap hev
            have hvf := eval_ok hs.tm f
            rw [hev] at hvf
            generalize hfv : a'.eval f = vf at hvf
            cases hvf with
            | fn _ _ _ va vb hla hlb hra hrb =>
            have hva : va = [] := by
              have := hla
              exact List.length_eq_zero_iff.1 (by simpa using this.symm)
            subst hva
            unfold Oper.wp
            have hrun : (execOp a'.eval o).run P w' = .ok (.defer { target := .fn (.func n) vb.toArray, args := #[] }) w' := by
              obtain ⟨dst, op, type, pos, after, guard⟩ := o
              simp only at h3
              subst h3
              have he : args = #[] := by apply Array.ext'; simpa using h4
              subst he
              simp only [execOp, resolve, hfv, Deferred.ofValue]
              simp
            rw [hrun]
            simp only [Oper.upon, h1, Act.put]
            refine ⟨_, _, hK, [{ target := .fn (.func n) vb.toArray, args := #[] }], ⟨vb.toArray, by simpa using hlb.symm, rfl⟩, ?_⟩
            have hd'' : a'.defers = [] := hd'
            exact ⟨by simp [hd''], E, Z, hs, hX, hKp, hm'⟩
          · cases hK
      · cases h
  | .skip, σ, D, K, a, w, hk, h, hA => evC_D hm hT hC hCm hk (by simpa only [evB] using h) hA
  | .ret, σ, D, K, a, w, hk, h, hA => evC_D hm hT hC hCm hk (by simpa only [evB] using h) hA
  | .exit id, σ, D, K, a, w, hk, h, hA => evC_D hm hT hC hCm hk (by simpa only [evB] using h) hA
  | .label l, σ, D, K, a, w, hk, h, hA => evC_D hm hT hC hCm hk (by simpa only [evB] using h) hA
  | .cond c x y, σ, D, K, a, w, hk, h, hA => evC_D hm hT hC hCm hk (by simpa only [evB] using h) hA
  | .block id c, σ, D, K, a, w, hk, h, hA => evC_D hm hT hC hCm hk (by simpa only [evB] using h) hA
  | .loop c, σ, D, K, a, w, hk, h, hA => evC_D hm hT hC hCm hk (by simpa only [evB] using h) hA
  | .rangeFunc _ _ _ _, σ, D, K, a, w, hk, h, hA => evC_D hm hT hC hCm hk (by simpa only [evB] using h) hA
  | .scope _, σ, D, K, a, w, hk, h, hA => evC_D hm hT hC hCm hk (by simpa only [evB] using h) hA
  | .goto _, σ, D, K, a, w, hk, h, hA => evC_D hm hT hC hCm hk (by simpa only [evB] using h) hA
  | .refuse _, σ, D, K, a, w, hk, h, hA => evC_D hm hT hC hCm hk (by simpa only [evB] using h) hA

/-- the end of a function that deferred such a call -/
theorem leaves_ok {fn : Func} {D : Option (FuncId × Nat)} {a : Act} {w : World} {v : Value} {R : Ending → World → Prop} (hh : ∀ g n, D = some (g, n) → Harm P g n) (hD : DefR D a.defers) (hrun : (results fn a.tmps).run P w = .ok v w) (hR : R (.returned v) w) :
    Leaves P fn a.tmps R a.defers .returning w := by
  cases D with
  | none =>
    have : a.defers = [] := hD
    rw [this]
    exact ⟨v, hrun, hR⟩
  | some d =>
    obtain ⟨g, n⟩ := d
    obtain ⟨cap, hc, he⟩ := hD
    rw [he]
    obtain ⟨h1, h2⟩ := hh g n rfl cap w hc
    refine leaves_cons (f := g) (args := cap) (by simp) (by simpa [invoke] using h1) (h2.mono ?_)
    rintro e u' w' ⟨rfl, rfl, rfl⟩
    exact ⟨v, hrun, hR⟩
end
end Go.Fw
