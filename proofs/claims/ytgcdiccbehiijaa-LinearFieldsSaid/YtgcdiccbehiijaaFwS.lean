/- The framework, part S: one operation, calls among them. -/
import Derived.Test.YtgcdiccbehiijaaFwR
import Derived.Orders
set_option linter.all false
set_option linter.unusedSimpArgs false
set_option linter.unusedVariables false
namespace Go.Fw

/-! ### The evaluator's steps, without continuations -/
theorem acall_eq (C : Ctx) (σ : St) (f : FuncId) (args : List AV) (K : St → AV → Option Res) :
    acall C σ f args K = match acall1 C σ f args with | some (c, σ', r) => under c (K σ' r) | none => none := by
  unfold acall acall1
  simp only
  cases (reach σ.st 8 (dedup (AV.idsL args) [])).all fun i => Nat.blt i σ.st.length with
  | false => rfl
  | true =>
    simp only [Bool.not_true, cond_false]
    cases C.call f _ _ with
    | none => rfl
    | some x => rfl

theorem anext_eq (σ : St) (x : AV) (K : St → AV → Option Res) : anext σ x K = match anext1 σ x with | some (σ', r) => K σ' r | none => none := by
  unfold anext anext1
  split
  · rename_i id
    try simp only
    cases he : σ.st.getD id .dead with
    | iter s pos => cases hd : decide (pos < s.size) <;> simp [he, hd]
    | _ => simp [he]
  · rfl

def step1 (C : Ctx) (ops : List Oper) (rid i : Nat) (o : Oper) (σ : St) : Option St :=
  match guardOf ops σ o with
  | none => none
  | some true => match exec1 C (σ.weaks (look2 C.ann.pre rid i)) o with
    | some (true, σ', v) => some (σ'.put o.dst v)
    | _ => none
  | some false => some (σ.put o.dst (.k undef))

theorem splitAt_some {sp : Bool} {σ : St} {dst : Option Nat} {v : AV} {K : St → Option Res} {res : Res} (h : splitAt sp σ dst v K = some res) : K (σ.put dst v) = some res := by
  unfold splitAt at h
  split at h
  · rename_i b
    cases b <;> exact h
  · exact h

theorem evOps_cons {C : Ctx} {ops : List Oper} {rid : Nat} {o : Oper} {rest : List Oper} {i : Nat} {σ : St} {K : St → Option Res} {res : Res}
    (h : evOps C ops rid (o :: rest) i σ K = some res) : freeBad C rid i σ o = false ∧ ∃ σ1, step1 C ops rid i o σ = some σ1 ∧ evOps C ops rid rest (i + 1) σ1 K = some res := by
  unfold evOps at h
  cases hfb : freeBad C rid i σ o with
  | true => rw [hfb] at h; cases h
  | false =>
  rw [hfb] at h
  simp only [cond_false] at h
  refine ⟨rfl, ?_⟩
  unfold step1
  cases hg : guardOf ops σ o with
  | none => rw [hg] at h; cases h
  | some g =>
    rw [hg] at h
    cases g with
    | false => exact ⟨_, rfl, h⟩
    | true =>
      simp only [cond_true] at h
      simp only
      unfold exec1
      generalize σ.weaks (look2 C.ann.pre rid i) = σw at h
      split at h
      · rename_i f args ats heq
        try simp only [heq]
        split at h
        · rename_i n first captured hf
          try simp only [hf]
          rw [acall_eq] at h
          split at h
          · rename_i c σ' r hc
            cases c with
            | false => simp [under] at h
            | true =>
              rw [hc]
              simp only [under, cond_true] at h
              exact ⟨_, rfl, splitAt_some h⟩
          · cases h
        · cases h
      · rename_i it heq
        try simp only [heq]
        rw [anext_eq] at h
        split at h
        · rename_i σ' r hc
          rw [hc]
          exact ⟨_, rfl, h⟩
        · cases h
      · rename_i hn1 hn2
        split at h
        · cases h
        · rename_i c σ' v ha
          cases c with
          | false => simp [under] at h
          | true =>
            simp only [under, cond_true] at h
            exact ⟨σ'.put o.dst v, by rw [ha], splitAt_some h⟩

/-! ### What a function's call comes to -/
def Post (T : Tab) (E : Env) (Z : Nat → Prop) (w : World) (st : List AObj) (mvs : List Nat) (r : AV) (st' : List AObj) (v : Value) (w' : World) : Prop :=
  ∃ E' Z', SR T E' Z' w' st' ∧ VR T E' Z' w' r v ∧ Ext (Owned E st) Z w (Owned E' st') Z' w' ∧ st.length ≤ st'.length ∧ ∀ i, i < st.length → i ∉ mvs → E'.ρ i = E.ρ i ∧ E'.sz i = E.sz i

def CF (P : Program) (T : Tab) (f : FuncId) (args : List AV) (st : List AObj) (mvs : List Nat) (r : AV) (st' : List AObj) : Prop :=
  ∀ (E : Env) (Z : Nat → Prop) (w : World) (vals : List Value), SR T E Z w st → VRs T E Z w args vals →
    ((callFunc f vals.toArray).run P w = .ok (.enter f vals.toArray) w ∧ Calls P f vals.toArray w fun e w' => ∃ v, e = .returned v ∧ Post T E Z w st mvs r st' v w') ∨
    (∃ v w', (callFunc f vals.toArray).run P w = .ok (.value v) w' ∧ Post T E Z w st mvs r st' v w') ∨
    (∃ row as, (callFunc f vals.toArray).run P w = .ok (.row row as) w ∧ Rows P row as w fun v w' => Post T E Z w st mvs r st' v w')

def CallOk (P : Program) (C : Ctx) : Prop :=
  ∀ g args st r st', C.call g args st = some (true, r, st') →
    CF P C.T g args st (C.sig g).2.2 r st' ∧ (C.sig g).1.ok r = true ∧ OS.okL (C.sig g).2.1 st' = true ∧ st.length ≤ st'.length

mutual
theorem RS.expand_ok : ∀ {r : RS} {v : AV}, r.ok v = true → r.expand v = v
  | .cell ct, v, h => by simp only [RS.expand]; exact Fw.expand_ok (by simpa [RS.ok] using h)
  | .a rs, v, h => by
    cases v <;> simp [RS.ok] at h
    simp only [RS.expand, AV.cells]; exact congrArg _ (RS.expandL_ok (pre := []) h)
  | .t rs, v, h => by
    cases v <;> simp [RS.ok] at h
    simp only [RS.expand, AV.parts]; exact congrArg _ (RS.expandL_ok (pre := []) h)
  | .sr i, v, h => by
    cases v <;> simp [RS.ok] at h
    simp [RS.expand, h]
  | .p i o, v, h => by
    cases v <;> simp [RS.ok] at h
    simp [RS.expand, h]
  | .ss i, v, h => by
    cases v <;> simp [RS.ok] at h
    simp [RS.expand, AV.lo, AV.len, h]
  | .any, v, h => rfl
theorem RS.expandL_ok : ∀ {rs : List RS} {pre vs : List AV}, RS.okL rs vs = true → RS.expandL rs pre.length (pre ++ vs) = vs
  | [], pre, [], _ => rfl
  | [], _, _ :: _, h => by simp [RS.okL] at h
  | _ :: _, _, [], h => by simp [RS.okL] at h
  | r :: rs, pre, v :: vs, h => by
    simp only [RS.okL, Bool.and_eq_true] at h
    simp only [RS.expandL]
    have e : (pre ++ v :: vs).getD pre.length .undef = v := by simp
    rw [e, RS.expand_ok h.1]
    have := RS.expandL_ok (pre := pre ++ [v]) h.2
    simp only [List.length_append, List.length_singleton, List.append_assoc, List.singleton_append] at this
    rw [this]
end

theorem OS.expand_ok {o : OS} {x : AObj} (h : o.ok x = true) : o.expand x = x := by
  cases o with
  | box t rs =>
    cases x <;> simp [OS.ok] at h
    simp only [OS.expand, AObj.cellsO]; rw [h.1]; exact congrArg _ (RS.expandL_ok (pre := []) h.2)
  | arr t kd =>
    cases x <;> simp [OS.ok] at h
    simp [OS.expand, AObj.rowsO, h.1, h.2]
  | dead =>
    cases x <;> simp [OS.ok] at h
    rfl
  | rest => rfl

theorem OS.expandL_ok : ∀ {rs : List OS} {pre vs : List AObj}, OS.okL rs vs = true → OS.expandL rs pre.length (pre ++ vs) = vs
  | [], pre, [], _ => rfl
  | [], _, _ :: _, h => by simp [OS.okL] at h
  | r :: rs, pre, vs, h => by
    by_cases hr : r = .rest ∧ rs = []
    · obtain ⟨rfl, rfl⟩ := hr
      simp [OS.expandL]
    · have e1 : ∀ v vs, OS.okL (r :: rs) (v :: vs) = (r.ok v && OS.okL rs vs) := fun v vs => by
        cases r <;> first | rfl | (cases rs <;> first | rfl | exact absurd ⟨rfl, rfl⟩ hr)
      have e2 : ∀ j vs, OS.expandL (r :: rs) j vs = r.expand (vs.getD j .dead) :: OS.expandL rs (j + 1) vs := fun j vs => by
        cases r <;> first | rfl | (cases rs <;> first | rfl | exact absurd ⟨rfl, rfl⟩ hr)
      have e3 : OS.okL (r :: rs) [] = false := by
        cases r <;> first | rfl | (cases rs <;> first | rfl | exact absurd ⟨rfl, rfl⟩ hr)
      cases vs with
      | nil => rw [e3] at h; cases h
      | cons v vs =>
        rw [e1, Bool.and_eq_true] at h
        rw [e2]
        have e : (pre ++ v :: vs).getD pre.length .dead = v := by simp
        rw [e, OS.expand_ok h.1]
        have := OS.expandL_ok (pre := pre ++ [v]) h.2
        simp only [List.length_append, List.length_singleton, List.append_assoc, List.singleton_append] at this
        rw [this]

section
variable {P : Program} {T : Tab} {E E' : Env} {Z Z' : Nat → Prop} {w w' : World} {σ σ' : St} {vals : List Value}

/-- what is known behind an operation -/
def After (T : Tab) (E : Env) (Z : Nat → Prop) (w : World) (vals : List Value) (σ σ' : St) (av : AV) (v : Value) (w' : World) : Prop :=
  ∃ E' Z', StR T E' Z' w' σ' vals ∧ VR T E' Z' w' av v ∧ Ext (Owned E σ.st) Z w (Owned E' σ'.st) Z' w' ∧ Mv σ E σ' E' ∧ σ.st.length ≤ σ'.st.length

theorem acall1_ok {C : Ctx} (hC : CallOk P C) (hT : C.T = T) (h : StR T E Z w σ vals) {f : FuncId} {args : List AV} {avals : List Value} (ha : VRs T E Z w args avals) {r : AV}
    (hs : acall1 C σ f args = some (true, σ', r)) :
    ((callFunc f avals.toArray).run P w = .ok (.enter f avals.toArray) w ∧ Calls P f avals.toArray w fun e w' => ∃ v, e = .returned v ∧ After T E Z w vals σ σ' r v w') ∨
    (∃ v w', (callFunc f avals.toArray).run P w = .ok (.value v) w' ∧ After T E Z w vals σ σ' r v w') ∨
    (∃ row as, (callFunc f avals.toArray).run P w = .ok (.row row as) w ∧ Rows P row as w fun v w' => After T E Z w vals σ σ' r v w') := by
  unfold acall1 at hs
  simp only at hs
  generalize hks : reach σ.st 8 (dedup (AV.idsL args) []) = ks at hs
  have hnd : ks.Nodup := by rw [← hks]; exact reach_nodup _ _ _ (dedup_nodup _ _ List.nodup_nil)
  cases hall : ks.all fun i => Nat.blt i σ.st.length with
  | false => rw [hall] at hs; cases hs
  | true =>
    rw [hall] at hs
    simp only [Bool.not_true, cond_false] at hs
    have hin : ∀ k ∈ ks, k < σ.st.length := fun k hk => by
      have := List.all_eq_true.1 hall k hk
      simpa [Nat.blt_eq] using this
    split at hs
    · cases hs
    · rename_i c0 r0 st0 hcall
      have hc0 : c0 = true := by cases hs; rfl
      subst hc0
      obtain ⟨hcf, hr0, ho0, hl0⟩ := hC _ _ _ _ _ hcall
      have er : (C.sig f).1.expand r0 = r0 := RS.expand_ok hr0
      have es : OS.expandL (C.sig f).2.1 0 st0 = st0 := OS.expandL_ok (pre := []) ho0
      rw [er, es] at hs
      cases hs
      rw [hT] at hcf
      have hkeep := h.sr.keep ks hnd
      have hargs : VRs T (E.sel ks) Z w (AV.onRefsL (rename1 ks) args) avals := ha.map _ (fun _ hz => hz) (fun _ _ _ => rfl) (sel_leaf ks (fun _ hz => hz))
      have hlen : ks.length ≤ st0.length := by simpa using hl0
      have key : ∀ v w', Post T (E.sel ks) Z w (ks.map fun i => (σ.st.getD i .dead).onRefs (rename1 ks)) (C.sig f).2.2 r0 st0 v w' →
          After T E Z w vals σ { tmps := AV.onRefsL (scrubL1 (pickIds ks (C.sig f).2.2)) σ.tmps, st := setMany (σ.st.map (AObj.onRefs (scrubL1 (pickIds ks (C.sig f).2.2)))) ks (st0.map (AObj.onRefs (back1 ks σ.st.length))) ++ (st0.drop ks.length).map (AObj.onRefs (back1 ks σ.st.length)), moved := pickIds ks (C.sig f).2.2 ++ σ.moved } (r0.onRefs (back1 ks σ.st.length)) v w' := by
        intro v w' ⟨E1, Z1, p1, p2, p3, p4, p5⟩
        obtain ⟨q1, q2, q3, q4, q5⟩ := call_back h hnd hin p1 p2 p3 hlen (fun i hi hm => p5 i (by simpa using hi) hm) _ rfl
        exact ⟨_, _, q1, q2, q3, q4, q5⟩
      rcases hcf (E.sel ks) Z w avals hkeep.1 hargs with ⟨h1, h2⟩ | ⟨v, w', h1, h2⟩ | ⟨row, as, h1, h2⟩
      · exact .inl ⟨h1, h2.mono fun e w' ⟨v, he, hp⟩ => ⟨v, he, key v w' hp⟩⟩
      · exact .inr (.inl ⟨v, w', h1, key v w' h2⟩)
      · exact .inr (.inr ⟨row, as, h1, h2.mono fun v w' hp => key v w' hp⟩)

end
end Go.Fw
