/- The framework, part T: one operation of a region. -/
import Derived.Test.YtgcdiccbehiijaaFwS
set_option linter.all false
set_option linter.unusedSimpArgs false
set_option linter.unusedVariables false
namespace Go.Fw

/-! ### No object is ever forgotten -/
section
variable {T : Tab} {σ σ' : St} {c : Bool} {av : AV}

theorem astore_len {t : Nat} {v x : AV} (h : astore T σ t v x = some σ') : σ.st.length ≤ σ'.st.length := by
  unfold astore at h
  repeat' split at h
  all_goals first | (cases h; done) | skip
  all_goals
    (try simp only [cond_eq_ite] at h)
    split at h <;> first | (cases h; done) | (cases h; simp)

theorem abuildSlice_len {t len : Nat} {ps : List (Nat × AV)} (h : abuildSlice T σ t len ps = some (σ', av)) : σ.st.length ≤ σ'.st.length := by
  unfold abuildSlice at h
  repeat' split at h
  all_goals first | (cases h; done) | skip
  all_goals
    simp only [cond_eq_ite] at h
    repeat' split at h
    all_goals first | (cases h; done) | (cases h; simp [St.new])

theorem amakeSlice_len {t : Nat} {l cp : AV} (h : amakeSlice T σ t l cp = some (c, σ', av)) : σ.st.length ≤ σ'.st.length := by
  unfold amakeSlice at h
  repeat' split at h
  all_goals first | (cases h; done) | skip
  all_goals
    simp only [cond_eq_ite] at h
    split at h <;> first | (cases h; done) | (cases h; simp [St.new])

theorem aappend_len {t : Nat} {s x : AV} (h : aappend T σ t s x = some (c, σ', av)) : σ.st.length ≤ σ'.st.length := by
  unfold aappend at h
  repeat' split at h
  all_goals first | (cases h; done) | skip
  all_goals
    simp only [cond_eq_ite] at h
    repeat' split at h
  all_goals first | (cases h; done) | (cases h; simp [St.new, St.scrub])

theorem aappendX_len {t : Nat} {s x : AV} (h : aappendX T σ t s x = some (c, σ', av)) : σ.st.length ≤ σ'.st.length := by
  unfold aappendX at h
  repeat' split at h
  all_goals first | (cases h; done) | skip
  all_goals
    simp only [cond_eq_ite] at h
    repeat' split at h
  all_goals first | (cases h; done) | (cases h; simp [St.new, St.scrub])

theorem abuildX_len {t len : Nat} {parts : List (Nat × AV)} (h : abuildX T σ t len parts = some (σ', av)) : σ.st.length ≤ σ'.st.length := by
  unfold abuildX at h
  repeat' split at h
  all_goals first | (cases h; done) | skip
  all_goals
    simp only [cond_eq_ite] at h
    repeat' split at h
  all_goals first | (cases h; done) | (cases h; simp [St.new])

theorem aappendZ_len {t u : Nat} {s x : AV} (h : aappendZ T σ t u s x = some (c, σ', av)) : σ.st.length ≤ σ'.st.length := by
  unfold aappendZ at h
  repeat' split at h
  all_goals first | (cases h; done) | skip
  all_goals
    simp only [cond_eq_ite] at h
    repeat' split at h
  all_goals first | (cases h; done) | (cases h; simp [St.new])

theorem writeRows_len {e : Nat} {d : AV} {ys : List (List AV)} (h : writeRows T σ e d ys = some (c, σ')) : σ.st.length ≤ σ'.st.length := by
  unfold writeRows at h
  split at h
  · cases h
  · simp only [cond_eq_ite] at h
    repeat' split at h
    all_goals first | (cases h; done) | (cases h; simp)

theorem Ab.map_some {α β : Type} {f : α → β} {x : Ab α} {c : Bool} {y : β} (h : Ab.map f x = some (c, y)) : ∃ z, x = some (c, z) ∧ f z = y := by
  unfold Ab.map at h
  split at h
  · cases h; exact ⟨_, rfl, rfl⟩
  · cases h

theorem abuiltin_len {b : Builtin} {ts : List Nat} {as : List AV} (h : abuiltin T σ b ts as = some (c, σ', av)) : σ.st.length ≤ σ'.st.length := by
  unfold abuiltin at h
  split at h
  · split at h
    · cases h; exact Nat.le_refl _
    · cases h
  · simp only [cond_eq_ite] at h
    split at h
    · split at h
      · rename_i r hr
        exact aappend_len (hr.trans h)
      · exact aappendX_len h
    · exact aappendZ_len h
  · split at h
    · cases h; exact Nat.le_refl _
    · cases h
  · unfold acopy at h
    repeat' split at h
    all_goals first | (cases h; done) | skip
    all_goals
      simp only [cond_eq_ite] at h
      split at h
      · obtain ⟨z, hz, e⟩ := Ab.map_some h
        cases e; exact writeRows_len hz
      · cases h
  · unfold aclear at h
    repeat' split at h
    all_goals first | (cases h; done) | skip
    all_goals
      obtain ⟨z, hz, e⟩ := Ab.map_some h
      cases e; exact writeRows_len hz
  · split at h
    · cases h; exact Nat.le_refl _
    · cases h
  · split at h
    · cases h; exact Nat.le_refl _
    · cases h
  · cases h

theorem Ab.ok_some {α : Type} {x : Option α} {c : Bool} {y : α} (h : Ab.ok x = some (c, y)) : x = some y := by
  cases x with
  | none => cases h
  | some z => simp only [Ab.ok] at h; cases h; rfl

theorem aop_len {o : Op} (h : aop T σ o = some (c, σ', av)) : σ.st.length ≤ σ'.st.length := by
  unfold aop at h
  simp only at h
  split at h
  all_goals first
    | exact abuiltin_len h
    | exact amakeSlice_len h
    | (have h' := Ab.ok_some h
       split at h'
       · rename_i r hr; exact abuildSlice_len (hr.trans h')
       · exact abuildX_len h')
    | skip
  all_goals try simp only [cond_eq_ite] at h
  all_goals repeat' split at h
  all_goals first
    | (cases h; done)
    | (cases h; exact Nat.le_refl _)
    | (cases h; rename_i h1; exact astore_len h1)
    | (cases h; simp [St.new]; done)
    | skip
end

section
variable {P : Program} {T : Tab} {E E' : Env} {Z Z' : Nat → Prop} {w w' : World} {σ σ' : St} {vals : List Value}

theorem VRs.put {l : List AV} {vs : List Value} (h : VRs T E Z w l vs) (t : Nat) {av : AV} {v : Value} (hv : VR T E Z w av v) : VRs T E Z w (l.set t av) (vs.set t v) := by
  refine ⟨by simp [h.1], fun j x y hx hy => ?_⟩
  rw [List.getElem?_set] at hx hy
  split at hx
  · rename_i ht
    rw [if_pos ht] at hy
    split at hx
    · cases hx
      split at hy
      · cases hy; exact hv
      · cases hy
    · cases hx
  · rename_i ht
    rw [if_neg ht] at hy
    exact h.2 j x y hx hy

theorem put_tmps (a : Act) (dst : Option Tmp) (v : Value) : (a.put dst v).tmps.toList = match dst with | some d => a.tmps.toList.set d v | none => a.tmps.toList := by
  cases dst <;> simp [Act.put]

theorem StR.put {a : Act} (h : StR T E Z w σ a.tmps.toList) (dst : Option Nat) {av : AV} {v : Value} (hv : VR T E Z w av v) : StR T E Z w (σ.put dst av) (a.put dst v).tmps.toList := by
  rw [put_tmps]
  cases dst with
  | none => exact h
  | some d => exact ⟨h.sr, h.tm.put d hv⟩

/-- what is to be compared with: the state at the function's start -/
structure Base where
  E0 : Env
  O0 : Nat → Prop
  Z0 : Nat → Prop
  w0 : World
  m : Nat
  /-- the deferred calls -/
  D : List Deferred := []

/-- a state of the evaluator, and an activation in a world -/
def At (T : Tab) (B : Base) (σ : St) (a : Act) (w : World) : Prop :=
  a.defers = B.D ∧ ∃ E Z, StR T E Z w σ a.tmps.toList ∧ Ext B.O0 B.Z0 B.w0 (Owned E σ.st) Z w ∧ Kp B.E0 B.m σ.moved E ∧ B.m ≤ σ.st.length

theorem guard_ok {ops : Array Oper} {a : Act} (h : VRs T E Z w σ.tmps a.tmps.toList) {o : Oper} {g : Bool} (hg : guardOf ops.toList σ o = some g) :
    Region.wanted o (yielded ops a.tmps) = g := by
  unfold guardOf at hg
  unfold Region.wanted
  split at hg
  · rename_i hn; rw [hn]; cases hg; rfl
  · rename_i j want hn
    rw [hn]
    simp only
    unfold yielded
    split at hg
    · rename_i og ho
      have ho' : ops[j]? = some og := by simpa using ho
      rw [ho']
      split at hg
      · rename_i d hd
        simp only [Option.bind_some, hd]
        have hx : ∀ av, σ.tmps.getD d .undef = av → av ≠ .undef → ∃ v, a.tmps[d]? = some v ∧ VR T E Z w av v := fun av e hne => by
          rcases Nat.lt_or_ge d σ.tmps.length with hl | hl
          · have h1 : σ.tmps[d]? = some av := by rw [List.getElem?_eq_getElem hl]; rw [List.getD_eq_getElem?_getD, List.getElem?_eq_getElem hl] at e; simpa using e
            have hl2 : d < a.tmps.toList.length := h.1 ▸ hl
            have h2 := List.getElem?_eq_getElem hl2
            exact ⟨_, by simpa using h2, h.2 d av _ h1 h2⟩
          · rw [List.getD_eq_getElem?_getD, List.getElem?_eq_none hl] at e; exact absurd e.symm hne
        split at hg
        · rename_i b hb
          obtain ⟨v, hv, hr⟩ := hx _ hb (by simp)
          cases hr
          rw [hv]; cases hg; cases b <;> cases want <;> rfl
        · rename_i vs hb
          obtain ⟨v, hv, hr⟩ := hx _ hb (by simp)
          rw [hv]
          cases hr with
          | k _ hs => simp [scalar] at hs
          | ku => cases hg; cases want <;> rfl
        · cases hg
      · cases hg
    · cases hg

theorem anext1_ok (h : StR T E Z w σ vals) {x r : AV} {vx : Value} (hx : VR T E Z w x vx) (hs : anext1 σ x = some (σ', r)) (t : TypeId) :
    ∃ v w', (Instr.next vx true t).run P w = .ok v w' ∧ After T E Z w vals σ σ' r v w' := by
  unfold anext1 at hs
  split at hs
  · rename_i id
    split at hs
    · rename_i s pos hst
      have hst := getD_some hst (by simp)
      have hid : id < σ.st.length := (List.getElem?_eq_some_iff.1 hst).1
      cases hx with
      | ptr _ _ B he =>
      have hor := h.sr.obj id _ hst
      cases hor with
      | iter _ _ B' he' hb =>
      rw [he] at he'; cases he'
      have hB : B < w.heap.size := (Array.getElem?_eq_some_iff.1 hb).1
      cases hd : decide (pos < s.size) with
      | false =>
        rw [hd] at hs; cases hs
        have hp : ¬ pos < s.size := by simpa using hd
        refine ⟨.tuple #[.bool false], w, by simp [Instr.next, getObj, Sem.run, hb, hp], E, Z, h, ?_, Ext.refl _ _ _, Mv.refl _ _ rfl, Nat.le_refl _⟩
        exact .tup [_] [_] rfl (fun j av v hj hv => by
          cases j <;> simp at hj hv
          subst hj; subst hv; exact .k _ rfl)
      | true =>
        rw [hd] at hs; cases hs
        have hp : pos < s.size := by simpa using hd
        have hw : OnlyAt B w { w with heap := w.heap.setIfInBounds B (.stringIter s (pos + (Utf8.decode s pos).2)) } :=
          ⟨fun b hb' => by simp [Array.getElem?_setIfInBounds_ne (Ne.symm hb')], by simp, rfl, rfl, rfl⟩
        obtain ⟨h1, h2⟩ := h.write (o' := .iter s (pos + (Utf8.decode s pos).2)) hid ((owns_some hst).2 ⟨_, he, rfl⟩) hw
          (.iter s _ B he (by simp [hB])) (fun C ⟨A, hA, hC⟩ => by rw [he] at hA; cases hA; exact hC.symm)
        refine ⟨.tuple #[.bool true, goInt pos, .int .i32 (Utf8.decode s pos).1], _, ?_, E, Z, h1, ?_, h2, Mv.refl _ _ rfl, by simp⟩
        · simp [Instr.next, getObj, setObj, Sem.run, hb, hp]
        · exact .tup [_, _, _] [_, _, _] rfl (fun j av v hj hv => by
            match j, hj, hv with
            | 0, hj, hv => simp at hj hv; subst hj; subst hv; exact .k _ rfl
            | 1, hj, hv => simp at hj hv; subst hj; subst hv; exact .k _ rfl
            | 2, hj, hv => simp at hj hv; subst hj; subst hv; exact .k _ rfl
            | j + 3, hj, hv => simp at hj)
    · cases hs
  · cases hs

theorem VRs.evals {a : Act} (h : VRs T E Z w σ.tmps a.tmps.toList) (args : Array Operand) : VRs T E Z w (args.toList.map σ.eval) (args.toList.map a.eval) := by
  refine ⟨by simp, fun j av v hj hv => ?_⟩
  rw [List.getElem?_map] at hj hv
  cases hx : args.toList[j]? with
  | none => rw [hx] at hj; cases hj
  | some x => rw [hx] at hj hv; cases hj; cases hv; exact eval_ok h x

/-- **One operation of a region.** -/
theorem step1_ok {C : Ctx} (hT : TabOk P C.T) (hC : CallOk P C) {B : Base} {ops : Array Oper} {rid i : Nat} {o : Oper} (hi : ops[i]? = some o) {σ1 : St} (hs : step1 C ops.toList rid i o σ = some σ1)
    {a : Act} (hA : At C.T B σ a w) {Q : Exit → Act → World → Prop} {K : Act → World → Prop} (hK : ∀ a' w', At C.T B σ1 a' w' → K a' w') : wpOp P ops Q i K a w := by
  obtain ⟨hd, E, Z, h, hX, hKp, hm⟩ := hA
  unfold step1 at hs
  unfold wpOp
  simp only [hi]
  split at hs
  · cases hs
  · rename_i hg
    rw [guard_ok h.tm hg]
    simp only [if_true]
    split at hs
    · rename_i σ' v hex
      cases hs
      refine .inl ?_
      obtain ⟨E1, Z1, h1, hX1, hS1, hmv1, hl1⟩ := weaks_ok (look2 C.ann.pre rid i) h
      have hK1 := WkRes.kp hKp hm hS1 hmv1
      have hm1 := Nat.le_trans hm hl1
      have hX01 := hX.trans hX1
      generalize σ.weaks (look2 C.ann.pre rid i) = σw at *
      -- what is known behind it
      have fin : ∀ u w', After C.T E1 Z1 w a.tmps.toList σw σ' v u w' → K (a.put o.dst u) w' := fun u w' ⟨E2, Z2, g1, g2, g3, g4, g5⟩ => by
        refine hK _ _ ⟨by cases o.dst <;> exact hd, E2, Z2, g1.put o.dst g2, ?_, ?_, ?_⟩
        · have e : (σ'.put o.dst v).st = σ'.st := by cases o.dst <;> rfl
          rw [e]; exact hX01.trans g3
        · have e : (σ'.put o.dst v).moved = σ'.moved := by cases o.dst <;> rfl
          rw [e]; exact hK1.mv g4 hm1
        · have e : (σ'.put o.dst v).st = σ'.st := by cases o.dst <;> rfl
          rw [e]; exact Nat.le_trans hm1 g5
      unfold exec1 at hex
      unfold Oper.wp
      split at hex
      · rename_i f args ats hop
        split at hex
        · rename_i n first captured hf
          have hp := hex
          have hvf := eval_ok h1.tm f
          rw [hf] at hvf
          have hargs := h1.tm.evals args
          generalize hfv : a.eval f = vf at hvf
          cases hvf with
          | fn _ _ _ va vb hla hlb hra hrb =>
            have hall : VRs C.T E1 Z1 w (first ++ args.toList.map σw.eval ++ captured) (va ++ args.toList.map a.eval ++ vb) := VRs.append (VRs.append ⟨hla, hra⟩ hargs) ⟨hlb, hrb⟩
            have hrun : (execOp a.eval o).run P w = (callFunc n (va ++ args.toList.map a.eval ++ vb).toArray).run P w := by
              have e : va.toArray ++ args.map a.eval ++ vb.toArray = (va ++ args.toList.map a.eval ++ vb).toArray := by apply Array.ext'; simp
              rw [← e]
              obtain ⟨dst, op, type, pos, after, guard⟩ := o
              simp only at hop
              subst hop
              simp only [execOp, resolve, hfv, Deferred.ofValue]
              rfl
            rw [hrun]
            rcases acall1_ok hC rfl h1 hall hp with ⟨k1, k2⟩ | ⟨u, w', k1, k2⟩ | ⟨row, as, k1, k2⟩
            · rw [k1]
              simp only [Oper.upon]
              refine k2.mono fun e w' ⟨u, he, hu⟩ => ?_
              subst he
              exact fin u w' hu
            · rw [k1]; exact fin u w' k2
            · rw [k1]; exact k2.mono fun u w' hu => fin u w' hu
        · cases hex
      · rename_i it hop
        obtain ⟨p, hp, he⟩ := Option.map_eq_some_iff.1 hex
        obtain ⟨σ2, r2⟩ := p
        cases he
        obtain ⟨u, w', k1, k2⟩ := anext1_ok (P := P) h1 (eval_ok h1.tm it) hp o.type
        have hrun : (execOp a.eval o).run P w = .ok (.value u) w' := by
          obtain ⟨dst, op, type, pos, after, guard⟩ := o
          simp only at hop
          subst hop
          simp only [execOp]
          simp [k1]
        rw [hrun]; exact fin u w' k2
      · obtain ⟨E2, Z2, w2, u, n, k1, k2, k3, k4, k5, k6⟩ := aop_ok hT h1 o hex
        have hA2 : After C.T E1 Z1 w a.tmps.toList σw σ' v u w2 := ⟨E2, Z2, k3, k4, k5, k6, aop_len hex⟩
        rw [k1]
        rcases k2 with rfl | ⟨rfl, rfl⟩
        · exact fin u w2 hA2
        · exact fin _ w2 hA2
    · cases hs
  · rename_i hg
    cases hs
    rw [guard_ok h.tm hg]
    simp only [Bool.false_eq_true, if_false]
    have e1 : (σ.put o.dst (.k undef)).st = σ.st := by cases o.dst <;> rfl
    have e2 : (σ.put o.dst (.k undef)).moved = σ.moved := by cases o.dst <;> rfl
    refine hK _ _ ⟨by cases o.dst <;> exact hd, E, Z, h.put o.dst .ku, ?_, ?_, ?_⟩
    · rw [e1]; exact hX
    · rw [e2]; exact hKp
    · rw [e1]; exact hm

end
end Go.Fw
