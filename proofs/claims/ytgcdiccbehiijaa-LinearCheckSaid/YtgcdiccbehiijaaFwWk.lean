/- The framework, part Wk: rounds of ranges over functions. -/
import Derived.Test.YtgcdiccbehiijaaFwWh
import Derived.RangeFuncLeaves
import Derived.RangeFuncRecord
set_option linter.all false
set_option linter.unusedSimpArgs false
set_option linter.unusedVariables false
namespace Go.Fw
def QK (T : Tab) (B : Base) (K : Out → Option Res) (res : Res) : Exit → Act → World → Prop
  | .normal, a, w => ∃ σ, K (.norm σ) = some res ∧ At T B σ a w
  | .exit id, a, w => ∃ σ, K (.exit id σ) = some res ∧ At T B σ a w
  | .ret, a, w => ∃ σ, K (.ret σ) = some res ∧ At T B σ a w
  | _, _, _ => False
def Base.Good (B : Base) : Prop := ∀ l, B.ro = some l → l < B.w0.heap.size ∧ ¬ B.O0 l ∧ ∃ r, B.w0.heap[l]? = some (.loop r)
def RoundOk (P : Program) (C : Ctx) : Prop := ∀ (f m : Nat) (c : Code) (σ : St) (K : Out → Option Res) (res : Res), C.round f m c σ K = some res →
  ∀ (B : Base) (a : Act) (w : World), B.m = m → B.Good → At C.T B σ a w → c.wpIn (FR B.ro) 0 P (QK C.T B K res) a w
def EntOk (P : Program) (C : Ctx) : Prop := ∀ f, C.ent f = true → ∀ args w, (callFunc f args).run P w = .ok (.enter f args) w
section
variable {P : Program} {T : Tab} {E E' : Env} {Z Z' : Nat → Prop} {w w' : World} {σ σ' : St} {vals : List Value}
theorem OnlyAt.putObj {l : Nat} (w : World) (o : Obj) (h : l < w.heap.size) : OnlyAt l w (w.putObj l o) :=
  ⟨fun b hb => World.putObj_heap_other hb, by simp, rfl, rfl, rfl⟩
theorem StR.shed (h : StR T E Z w σ vals) {id l : Nat} (hid : id < σ.st.length) (hB : owns E σ.st id l) (hw : OnlyAt l w w') :
    StR T E Z w' { σ with st := σ.st.set id .dead } vals ∧ Ext (Owned E σ.st) Z w (Owned E (σ.st.set id .dead)) Z w' := by
  have hun : ∀ b, b < w.heap.size → ¬ Owned E σ.st b → w'.heap[b]? = w.heap[b]? := fun b _ hno => hw.other b (fun e => hno (e ▸ ⟨id, hB⟩))
  obtain ⟨h1, h2⟩ := h.sr.update (w' := w') (o' := .dead) hid (fun j C hj hC => hw.other C (fun e => hj (h.sr.inj j id l (e ▸ hC) hB))) hun (by rw [hw.size]; exact Nat.le_refl _) .dead (fun C hC => hC.elim)
  exact ⟨⟨h1, h.tm.mono (fun i v hv => ⟨hv, rfl⟩) (fun _ hz => hz) (h.sr.zcell hun)⟩,
    ⟨hw.os, hw.tape, hw.output, by rw [hw.size]; exact Nat.le_refl _, hun, fun _ hz => hz, fun _ hz => .inl hz, fun b hb => .inl (h2 b hb)⟩⟩
theorem StR.adopt (h : StR T E Z w σ vals) {id l : Nat} {o' : AObj} (hid : σ.st[id]? = some .dead) (hl : l < w.heap.size) (hno : ¬ Owned E σ.st l) (hz : ¬ Z l) (hw : OnlyAt l w w')
    (ho : OR T E Z w' id o') (hown : ∀ C, ownsO E id o' C → C = l) : StR T E Z w' { σ with st := σ.st.set id o' } vals := by
  have hidl : id < σ.st.length := (List.getElem?_eq_some_iff.1 hid).1
  have hzc : ∀ b o, Z b → w'.cell? ⟨b, o, none⟩ = w.cell? ⟨b, o, none⟩ := fun b o hb => cell?_of_heap (hw.other b fun e => hz (e ▸ hb)) o
  have hall : ∀ j B, owns E (σ.st.set id o') j B → (j = id ∧ B = l) ∨ (j ≠ id ∧ owns E σ.st j B) := fun j B hB => by
    obtain ⟨o, hj, hB⟩ := owns_get hB
    by_cases hji : j = id
    · subst hji
      rw [List.getElem?_set_self hidl] at hj
      obtain rfl : o' = o := by simpa using hj
      exact .inl ⟨rfl, hown B hB⟩
    · rw [List.getElem?_set_ne (Ne.symm hji)] at hj
      exact .inr ⟨hji, (owns_some hj).2 hB⟩
  refine ⟨⟨fun j o hj => ?_, fun j hj => h.sr.out j (by simpa using hj), fun i j B hi hj => ?_, fun B ⟨j, hj⟩ => ?_, fun B hB => by rw [hw.size]; exact h.sr.zlt B hB⟩,
    h.tm.mono (fun i v hv => ⟨hv, rfl⟩) (fun _ hz => hz) hzc⟩
  · by_cases hji : j = id
    · subst hji
      rw [List.getElem?_set_self hidl] at hj
      obtain rfl : o' = o := by simpa using hj
      exact ho
    · rw [List.getElem?_set_ne (Ne.symm hji)] at hj
      have hor := h.sr.obj j o hj
      exact hor.mono (fun i v hv => ⟨hv, rfl⟩) (fun _ hz => hz) hzc hor.has (fun B hB => hw.other B fun e => hno ⟨j, (owns_some hj).2 (e ▸ hB)⟩)
  · rcases hall i B hi with ⟨rfl, rfl⟩ | ⟨hi1, hi2⟩ <;> rcases hall j B hj with ⟨rfl, hj'⟩ | ⟨hj1, hj2⟩
    · rfl
    · exact absurd ⟨j, hj2⟩ hno
    · subst hj'; exact absurd ⟨i, hi2⟩ hno
    · exact h.sr.inj i j B hi2 hj2
  · rcases hall j B hj with ⟨rfl, rfl⟩ | ⟨_, hj⟩
    · exact hz
    · exact h.sr.zown B ⟨j, hj⟩
theorem StR.aside (h : StR T E Z w σ vals) {l : Nat} (hno : ¬ Owned E σ.st l) (hz : ¬ Z l) (hw : OnlyAt l w w') : StR T E Z w' σ vals := by
  have hzc : ∀ b o, Z b → w'.cell? ⟨b, o, none⟩ = w.cell? ⟨b, o, none⟩ := fun b o hb => cell?_of_heap (hw.other b fun e => hz (e ▸ hb)) o
  refine ⟨⟨fun j o hj => ?_, h.sr.out, h.sr.inj, h.sr.zown, fun B hB => by rw [hw.size]; exact h.sr.zlt B hB⟩, h.tm.mono (fun i v hv => ⟨hv, rfl⟩) (fun _ hz => hz) hzc⟩
  have hor := h.sr.obj j o hj
  exact hor.mono (fun i v hv => ⟨hv, rfl⟩) (fun _ hz => hz) hzc hor.has (fun B hB => hw.other B fun e => hno ⟨j, (owns_some hj).2 (e ▸ hB)⟩)
theorem setTmps_ok {xs0 : List AV} {us0 : List Value} : ∀ (ps : List Nat) {l : List AV} {vs : List Value} {xs : List AV} {us : List Value}, VRs T E Z w l vs → VRs T E Z w xs us →
    VRs T E Z w (setTmps l ps xs) ((ps.zip us).foldl (fun t p => t.set p.1 p.2) vs)
  | [], l, vs, xs, us, h, hx => by simpa [setTmps] using h
  | p :: ps, l, vs, [], us, h, hx => by
    have : us = [] := List.length_eq_zero_iff.1 hx.1.symm
    subst this
    simpa [setTmps] using h
  | p :: ps, l, vs, x :: xs, us, h, hx => by
    match us, hx with
    | [], hx => exact absurd hx.1 (by simp)
    | u :: us, hx =>
      simp only [setTmps, List.zip_cons_cons, List.foldl_cons]
      exact setTmps_ok (xs0 := xs0) (us0 := us0) ps (h.put p (hx.2 0 x u rfl rfl)) ⟨by simpa using hx.1, fun j av v hj hv => hx.2 (j + 1) av v hj hv⟩
theorem zip_fold (ps : List Nat) (us vs : List Value) : (ps.toArray.zip us.toArray).foldl (fun tmps (t, a) => tmps.setIfInBounds t a) vs.toArray = ((ps.zip us).foldl (fun t p => t.set p.1 p.2) vs).toArray := by
  rw [← Array.foldl_toList]
  simp only [Array.toList_zip]
  generalize ps.zip us = l
  induction l generalizing vs with
  | nil => rfl
  | cons p l ih =>
    simp only [List.foldl_cons]
    rw [List.setIfInBounds_toArray]
    exact ih _
theorem setMany_set : ∀ (ks : List Nat) (ys l : List AObj) (id : Nat) (x : AObj), id ∉ ks → setMany (l.set id x) ks ys = (setMany l ks ys).set id x
  | [], ys, l, id, x, _ => by cases ys <;> rfl
  | k :: ks, [], l, id, x, _ => rfl
  | k :: ks, y :: ys, l, id, x, h => by
    simp only [setMany]
    have hne : id ≠ k := fun e => h (by rw [e]; exact List.mem_cons_self)
    rw [List.set_comm _ _ hne, setMany_set ks ys _ id x (fun hm => h (List.mem_cons_of_mem _ hm))]
theorem backR_st (σ : St) (ks : List Nat) (id : Nat) (fin : Bool) (pend : Code) (σ' : St) {fin0 : Bool} {pend0 : Code} {fn : FuncId} {tm : List AV} {ps : List Nat} {a b : Code} (hst : σ.st[id]? = some (.loop fin0 pend0 fn tm ps a b)) (hk : id ∉ ks)
    (σf : St) (hσf : σf = ({ tmps := [], st := σ'.st, moved := σ'.moved } : St).canon ks.length) (s : AV → AV) (hs : s = scrubL1 (pickIds ks σf.moved)) :
    (backR σ ks id fin pend σ').st = ((setMany ((σ.st.set id .dead).map (AObj.onRefs s)) ks (σf.st.map (AObj.onRefs (back1 ks σ.st.length))) ++ (σf.st.drop ks.length).map (AObj.onRefs (back1 ks σ.st.length)))).set id (.loop fin pend fn (AV.onRefsL s tm) ps a b) := by
  subst hσf
  have hid : id < σ.st.length := (List.getElem?_eq_some_iff.1 hst).1
  unfold backR
  simp only [← hs]
  generalize hY : (({ tmps := [], st := σ'.st, moved := σ'.moved } : St).canon ks.length).st.map (AObj.onRefs (back1 ks σ.st.length)) = Y
  generalize ((({ tmps := [], st := σ'.st, moved := σ'.moved } : St).canon ks.length).st.drop ks.length).map (AObj.onRefs (back1 ks σ.st.length)) = X
  have hget : ∀ (ks : List Nat) (ys l : List AObj), id ∉ ks → (setMany l ks ys)[id]? = l[id]? := fun ks => by
    induction ks with
    | nil => intro ys l _; cases ys <;> rfl
    | cons k ks ih =>
      intro ys l hn
      cases ys with
      | nil => rfl
      | cons y ys =>
        simp only [setMany]
        rw [ih ys _ (fun hm => hn (List.mem_cons_of_mem _ hm)), List.getElem?_set_ne (fun e => hn (by rw [e]; exact List.mem_cons_self))]
  have hlen : id < (setMany (σ.st.map (AObj.onRefs s)) ks Y).length := by rw [setMany_length, List.length_map]; exact hid
  have h1 : (setMany (σ.st.map (AObj.onRefs s)) ks Y ++ X).getD id .dead = .loop fin0 pend0 fn (AV.onRefsL s tm) ps a b := by
    rw [List.getD_eq_getElem?_getD, List.getElem?_append_left hlen, hget ks _ _ hk, List.getElem?_map, hst]
    rfl
  rw [h1]
  simp only
  rw [List.map_set, setMany_set _ _ _ _ _ hk, List.set_append_left _ _ hlen, List.set_append_left _ _ (by rw [List.length_set]; exact hlen), List.set_set]
theorem VRs.left {l m : List AV} {vs us : List Value} (h : VRs T E Z w (l ++ m) (vs ++ us)) (hl : l.length = vs.length) : VRs T E Z w l vs :=
  ⟨hl, fun j av v hj hv => h.2 j av v (by rw [List.getElem?_append_left (List.getElem?_eq_some_iff.1 hj).1]; exact hj) (by rw [List.getElem?_append_left (List.getElem?_eq_some_iff.1 hv).1]; exact hv)⟩
theorem VRs.right {l m : List AV} {vs us : List Value} (h : VRs T E Z w (l ++ m) (vs ++ us)) (hl : l.length = vs.length) : VRs T E Z w m us :=
  ⟨by have := h.1; simp only [List.length_append] at this; omega, fun j av v hj hv => h.2 (l.length + j) av v (by rw [List.getElem?_append_right (by omega)]; simpa using hj) (by rw [hl, List.getElem?_append_right (by omega)]; simpa using hv)⟩
end
section
variable {P : Program} {C : Ctx} {B : Base} {σ : St}
theorem yield_ok (hR : RoundOk P C) {ops : Array Oper} {rid i : Nat} {o : Oper} (hi : ops[i]? = some o) {id : Nat} {args : List AV}
    (hy : yieldOf ops.toList (σ.weaks C.T (look2 C.ann.pre rid i)) o = some (id, args)) {K' : St → AV → Option Res} {res : Res}
    (h : ayield C (σ.weaks C.T (look2 C.ann.pre rid i)) id args K' = some res) {a : Act} {w : World} (hA : At C.T B σ a w) {Q : Exit → Act → World → Prop} {Kp : Act → World → Prop}
    (hK : ∀ σ' v u w', K' σ' v = some res → At C.T B (σ'.put o.dst v) (a.put o.dst u) w' → Kp (a.put o.dst u) w') : wpOpIn (FR B.ro) 0 P ops Q i Kp a w := by
  obtain ⟨hd, E, Z, h0, hX, hKp, hm⟩ := hA
  obtain ⟨E1, Z1, h1, hX1, hS1, hmv1, hl1⟩ := weaks_ok (look2 C.ann.pre rid i) h0
  have hK1 := WkRes.kp hKp hm hS1 hmv1
  have hm1 := Nat.le_trans hm hl1
  have hX01 := hX.trans hX1
  generalize σ.weaks C.T (look2 C.ann.pre rid i) = σw at *
  unfold yieldOf at hy
  split at hy
  case h_2 => cases hy
  rename_i f as ats hop
  split at hy
  case h_2 => cases hy
  rename_i id0 hf
  split at hy
  case h_2 => cases hy
  rename_i hg
  cases hy
  unfold wpOpIn
  simp only [hi]
  rw [guard_ok h1.tm hg]
  simp only [if_true]
  refine ⟨fun _ _ => trivial, ?_⟩
  rw [Oper.semAt_eq _ _ _ (fun c hc => by rw [hop] at hc; cases hc)]
  have hvf := eval_ok h1.tm f
  rw [hf] at hvf
  generalize hfv : a.eval f = vf at hvf
  cases hvf with
  | yl _ l hρ =>
  have hargs := h1.tm.evals as
  unfold ayield at h
  split at h
  case h_2 => cases h
  rename_i pend fn tm ps asg body hst
  have hst := getD_some hst (by simp)
  have hidl : id < σw.st.length := (List.getElem?_eq_some_iff.1 hst).1
  cases hlen : Nat.beq (as.toList.map σw.eval).length ps.length with
  | false => rw [hlen] at h; cases h
  | true =>
  rw [hlen] at h
  have hlen := Nat.eq_of_beq_eq_true hlen
  simp only [cond_true] at h
  generalize hks : reach σw.st 8 (dedup (AV.idsL (setTmps tm ps (as.toList.map σw.eval))) []) = ks at h
  have hnd : ks.Nodup := by rw [← hks]; exact reach_nodup _ _ _ (dedup_nodup _ _ List.nodup_nil)
  cases hcond : ((ks.all fun i => Nat.blt i σw.st.length) && !ks.elem id) with
  | false => rw [hcond] at h; cases h
  | true =>
  rw [hcond] at h
  simp only [cond_true] at h
  rw [Bool.and_eq_true] at hcond
  have hin : ∀ k ∈ ks, k < σw.st.length := fun k hk => by
    have := List.all_eq_true.1 hcond.1 k hk
    simpa [Nat.blt_eq] using this
  have hnid : id ∉ ks := by have := hcond.2; simpa using this
  have hor := h1.sr.obj id _ hst
  cases hor with
  | loop _ _ _ _ _ _ _ l' D fn' vs he hb hr =>
  rw [hρ] at he
  cases he
  have hll : l < w.heap.size := (Array.getElem?_eq_some_iff.1 hb).1
  have hrun : (execOp a.eval o).run P w = .ok (.round l fn' ((ps.zip (as.toList.map a.eval)).foldl (fun t p => t.set p.1 p.2) vs).toArray asg body) w := by
    have e1 : (execOp a.eval o).run P w = (Instr.yield l (as.map a.eval)).run P w := by
      obtain ⟨dst, op, type, pos, after, guard⟩ := o
      simp only at hop
      subst hop
      simp only [execOp, resolve, hfv, Deferred.ofValue]
      simp [invoke]
    rw [e1, run_yield hb (by simp only [Array.size_map, List.size_toArray]; simpa using hlen)]
    congr 1
    have e2 : as.map a.eval = (as.toList.map a.eval).toArray := by apply Array.ext'; simp
    rw [e2, zip_fold]
  rw [hrun]
  refine ⟨depth_FR _ _, roundIn_of_wpIn (F := FR B.ro) trivial ?_⟩
  generalize hw2 : w.putObj l (.loop { state := .busy, pending := bif false then some pend else none, fn := fn', tmps := vs.toArray, params := ps.toArray, assign := asg, body := body, defers := D }) = w₂
  have hon : OnlyAt l w w₂ := by rw [← hw2]; exact OnlyAt.putObj w _ hll
  have hb2 : w₂.heap[l]? = some (.loop { state := .busy, pending := bif false then some pend else none, fn := fn', tmps := vs.toArray, params := ps.toArray, assign := asg, body := body, defers := D }) := by
    rw [← hw2]; exact World.putObj_heap_same hll
  have hB : owns E1 σw.st id l := (owns_some hst).2 hρ
  have h1x : StR C.T E1 Z1 w { σw with tmps := σw.tmps ++ tm } (a.tmps.toList ++ vs) := ⟨h1.sr, h1.tm.append hr⟩
  obtain ⟨g1, g2⟩ := h1x.shed (id := id) hidl hB hon
  have hun : ∀ b, b < w.heap.size → ¬ Owned E1 σw.st b → w₂.heap[b]? = w.heap[b]? := fun b _ hno => hon.other b (fun e => hno (e ▸ ⟨id, hB⟩))
  have hno1 : ¬ Owned E1 (σw.st.set id .dead) l := fun ⟨j, hj⟩ => by
    obtain ⟨x, hx, hxo⟩ := owns_get hj
    by_cases hji : j = id
    · subst hji
      rw [List.getElem?_set_self hidl] at hx
      cases hx
      exact hxo
    · rw [List.getElem?_set_ne (Ne.symm hji)] at hx
      exact hji (h1.sr.inj j id l ((owns_some hx).2 hxo) hB)
  have hnz1 : ¬ Z1 l := h1.sr.zown l ⟨id, hB⟩
  have estk : (ks.map fun i => (σw.st.getD i .dead).onRefs (rename1 ks)) = ks.map fun i => ((σw.st.set id .dead).getD i .dead).onRefs (rename1 ks) :=
    List.map_congr_left fun j hj => by
      have hne : id ≠ j := fun e => hnid (e ▸ hj)
      rw [List.getD_eq_getElem?_getD, List.getD_eq_getElem?_getD, List.getElem?_set_ne hne]
  rw [estk] at h
  have hkeep := g1.sr.keep ks hnd
  have hnok : ¬ Owned (E1.sel ks) (ks.map fun i => ((σw.st.set id .dead).getD i .dead).onRefs (rename1 ks)) l := fun hO => hno1 (hkeep.2 l hO)
  have htm2 : VRs C.T (E1.sel ks) Z1 w (AV.onRefsL (rename1 ks) (setTmps tm ps (as.toList.map σw.eval))) ((ps.zip (as.toList.map a.eval)).foldl (fun t p => t.set p.1 p.2) vs) := by
    have m1 := setTmps_ok (xs0 := []) (us0 := []) ps hr hargs
    exact m1.map _ (fun _ hz => hz) (fun _ _ _ => rfl) (sel_leaf ks (fun _ hz => hz))
  have hgood : ({ E0 := E1.sel ks, O0 := Owned (E1.sel ks) (ks.map fun i => ((σw.st.set id .dead).getD i .dead).onRefs (rename1 ks)), Z0 := Z1, w0 := w₂, m := ks.length, ro := some l } : Base).Good := fun l'' hl'' => by
    cases hl''
    exact ⟨by rw [hon.size]; exact hll, hnok, _, hb2⟩
  have hon0 : OnlyAt l w w := ⟨fun _ _ => rfl, rfl, rfl, rfl, rfl⟩
  have hkeep0 := (h1x.shed (id := id) hidl hB hon0).1.sr.keep ks hnd
  have hassign := hR _ _ _ _ _ _ h { E0 := E1.sel ks, O0 := Owned (E1.sel ks) (ks.map fun i => ((σw.st.set id .dead).getD i .dead).onRefs (rename1 ks)), Z0 := Z1, w0 := w, m := ks.length, ro := some l }
    { tmps := ((ps.zip (as.toList.map a.eval)).foldl (fun t p => t.set p.1 p.2) vs).toArray, defers := [] } w rfl (fun l'' hl'' => by cases hl''; exact ⟨hll, hnok, _, hb⟩)
    ⟨⟨[], .nil⟩, E1.sel ks, Z1, ⟨hkeep0.1, by simpa using htm2⟩, Ext.refl _ _ _, fun i _ _ => ⟨rfl, rfl⟩, by simp⟩
  have key : ∀ (fin : Bool) (pend' : Code) (σ' : St) (a1 : Act) (w3 : World), K' (backR σw ks id fin pend' σ') (.k (.bool !fin)) = some res →
      At C.T { E0 := E1.sel ks, O0 := Owned (E1.sel ks) (ks.map fun i => ((σw.st.set id .dead).getD i .dead).onRefs (rename1 ks)), Z0 := Z1, w0 := w₂, m := ks.length, ro := some l } σ' a1 w3 →
      ∃ v w4, (Instr.endRound l (bif fin then some pend' else none)).run P w3 = .ok v w4 ∧ ∃ b : Bool, v = .bool b ∧ Kp (a.put o.dst (.bool b)) w4 := fun fin pend' σ' a1 w3 hres ⟨hd3, E3, Z3, h3, hX3, hK3, hm3⟩ => by
    have hb3 : w3.heap[l]? = w₂.heap[l]? := hX3.same l (by rw [hon.size]; exact hll) hnok
    rw [hb2] at hb3
    have hl3 : l < w3.heap.size := (Array.getElem?_eq_some_iff.1 hb3).1
    refine ⟨_, _, run_endRound _ hb3, _, rfl, ?_⟩
    have hjn : (bif fin then some pend' else none : Option Code).isNone = !fin := by cases fin <;> rfl
    rw [hjn]
    refine hK _ _ _ _ hres ?_
    generalize hw4 : w3.putObj l _ = w4
    have hon4 : OnlyAt l w3 w4 := by rw [← hw4]; exact OnlyAt.putObj w3 _ hl3
    have hb4 : w4.heap[l]? = some (.loop { state := bif fin then .done else .ready, pending := bif fin then some pend' else none, fn := fn', tmps := vs.toArray, params := ps.toArray, assign := asg, body := body, defers := D }) := by
      rw [← hw4]
      refine (World.putObj_heap_same hl3).trans ?_
      cases fin <;> rfl
    clear hw4
    have h3' : StR C.T E3 Z3 w3 { tmps := [], st := σ'.st, moved := σ'.moved } [] := ⟨h3.sr, rfl, fun j av v hj => by simp at hj⟩
    obtain ⟨E4, c1, c2, c3, c4⟩ := h3'.canon ks.length hK3
    generalize hσf : ({ tmps := [], st := σ'.st, moved := σ'.moved } : St).canon ks.length = σf at *
    have hXc := hX3.trans c2
    obtain ⟨q1, _, q3, q4, q5⟩ := call_back g1 hnd (fun k hk => by simpa using hin k hk) c1.sr (.k (.bool true) rfl : VR C.T E4 Z3 w3 (.k (.bool true)) (.bool true)) hXc c4 (fun i hi hn => c3 i hi hn) _ rfl
    generalize hE5 : Env.behind E1 E4 ks (σw.st.set id .dead).length = E5 at *
    have hE5id : E5.ρ id = some (.func (.yield l) #[] #[]) := by
      rw [← hE5]
      simp only [Env.behind]
      rw [if_pos (by simpa using hidl), idxIn_non hnid]
      exact hρ
    have hst2 : (backR σw ks id fin pend' σ').st = ((setMany ((σw.st.set id .dead).map (AObj.onRefs (scrubL1 (pickIds ks σf.moved)))) ks (σf.st.map (AObj.onRefs (back1 ks (σw.st.set id .dead).length))) ++ (σf.st.drop ks.length).map (AObj.onRefs (back1 ks (σw.st.set id .dead).length)))).set id (.loop fin pend' fn (AV.onRefsL (scrubL1 (pickIds ks σf.moved)) tm) ps asg body) := by
      rw [List.length_set]
      exact backR_st σw ks id fin pend' σ' hst hnid σf hσf.symm _ rfl
    have htm : (backR σw ks id fin pend' σ').tmps = AV.onRefsL (scrubL1 (pickIds ks σf.moved)) σw.tmps := by
      unfold backR; simp only [hσf]
    have hmv : (backR σw ks id fin pend' σ').moved = pickIds ks σf.moved ++ σw.moved := by
      unfold backR; simp only [hσf]
    have hsplit : AV.onRefsL (scrubL1 (pickIds ks σf.moved)) (σw.tmps ++ tm) = AV.onRefsL (scrubL1 (pickIds ks σf.moved)) σw.tmps ++ AV.onRefsL (scrubL1 (pickIds ks σf.moved)) tm := by
      simp only [onRefsL_eq, List.map_append]
    have hq1tm := q1.tm
    simp only [hsplit] at hq1tm
    have hlt : (AV.onRefsL (scrubL1 (pickIds ks σf.moved)) σw.tmps).length = a.tmps.toList.length := by rw [length_onRefsL]; exact h1.tm.1
    have hdead : (setMany ((σw.st.set id .dead).map (AObj.onRefs (scrubL1 (pickIds ks σf.moved)))) ks (σf.st.map (AObj.onRefs (back1 ks (σw.st.set id .dead).length))) ++ (σf.st.drop ks.length).map (AObj.onRefs (back1 ks (σw.st.set id .dead).length)))[id]? = some .dead := by
      rw [List.getElem?_append_left (by rw [setMany_length, List.length_map, List.length_set]; exact hidl), setMany_get hnd (fun k hk => by rw [List.length_map, List.length_set]; exact hin k hk) (by rw [List.length_map]; exact c4), idxIn_non hnid, List.getElem?_map, List.getElem?_set_self hidl]
      rfl
    have hno5 : ¬ Owned E5 (setMany ((σw.st.set id .dead).map (AObj.onRefs (scrubL1 (pickIds ks σf.moved)))) ks (σf.st.map (AObj.onRefs (back1 ks (σw.st.set id .dead).length))) ++ (σf.st.drop ks.length).map (AObj.onRefs (back1 ks (σw.st.set id .dead).length))) l := fun hO => by
      rcases q3.oout l hO with h' | h'
      · exact hno1 h'
      · rw [hon.size] at h'; omega
    have hnz3 : ¬ Z3 l := fun hz => by
      rcases hXc.zout l hz with h' | h' | h'
      · exact hnz1 h'
      · exact hnok h'
      · simp only [hon.size] at h'; omega
    have hzc4 : ∀ b o, Z3 b → w4.cell? ⟨b, o, none⟩ = w3.cell? ⟨b, o, none⟩ := fun b o hb => cell?_of_heap (hon4.other b fun e => hnz3 (e ▸ hb)) o
    have hado := q1.adopt (id := id) (l := l) (o' := .loop fin pend' fn (AV.onRefsL (scrubL1 (pickIds ks σf.moved)) tm) ps asg body) hdead hl3 hno5 hnz3 hon4
      (.loop fin pend' fn _ ps asg body l D fn' vs hE5id hb4 ((hq1tm.right hlt).mono (fun i v hv => ⟨hv, rfl⟩) (fun _ hz => hz) (fun b o hz => hzc4 b o hz)))
      (fun C hC => by
        have hC' : E5.ρ id = some (.func (.yield C) #[] #[]) := hC
        rw [hE5id] at hC'
        cases hC'; rfl)
    have hg3 := g2.trans q3
    have hfinal : Ext (Owned E1 σw.st) Z1 w (Owned E5 (backR σw ks id fin pend' σ').st) Z3 w4 := by
      refine ⟨hon4.os.trans hg3.os, hon4.tape.trans hg3.tape, hon4.output.trans hg3.output, by rw [hon4.size]; exact hg3.size, fun b hb hno => ?_, hg3.zin, hg3.zout, fun b hb => ?_⟩
      · have hne : b ≠ l := fun e => hno (e ▸ ⟨id, hB⟩)
        rw [hon4.other b hne]
        exact hg3.same b hb hno
      · rw [hst2] at hb
        obtain ⟨j, hj⟩ := hb
        obtain ⟨x, hx, hxo⟩ := owns_get hj
        by_cases hji : j = id
        · subst hji
          rw [List.getElem?_set_self (List.getElem?_eq_some_iff.1 hdead).1] at hx
          cases hx
          have hC' : E5.ρ j = some (.func (.yield b) #[] #[]) := hxo
          rw [hE5id] at hC'
          cases hC'
          exact .inl ⟨j, hB⟩
        · rw [List.getElem?_set_ne (Ne.symm hji)] at hx
          exact hg3.oout b ⟨j, (owns_some hx).2 hxo⟩
    refine ⟨hd.same (by cases o.dst <;> rfl) (h1.sr.marks hfinal), E5, Z3, ?_, ?_, ?_, ?_⟩
    · refine StR.put ⟨?_, ?_⟩ o.dst (.k (.bool !fin) rfl)
      · rw [hst2]; exact hado.sr
      · rw [htm]
        exact (hq1tm.left hlt).mono (fun i v hv => ⟨hv, rfl⟩) (fun _ hz => hz) (fun b o hz => hzc4 b o hz)
    · have e : ((backR σw ks id fin pend' σ').put o.dst (.k (.bool !fin))).st = (backR σw ks id fin pend' σ').st := by cases o.dst <;> rfl
      rw [e]; exact hX01.trans hfinal
    · have e : ((backR σw ks id fin pend' σ').put o.dst (.k (.bool !fin))).moved = (backR σw ks id fin pend' σ').moved := by cases o.dst <;> rfl
      rw [e]
      refine hK1.mv (σ' := backR σw ks id fin pend' σ') ⟨fun j hj => by rw [hmv]; exact List.mem_append.2 (.inr hj), fun j hj hn => ?_⟩ hm1
      exact q4.same j (by simpa using hj) (by rw [hmv] at hn; exact hn)
    · have e : ((backR σw ks id fin pend' σ').put o.dst (.k (.bool !fin))).st = (backR σw ks id fin pend' σ').st := by cases o.dst <;> rfl
      rw [e, hst2, List.length_set]
      refine Nat.le_trans hm1 (Nat.le_trans (by simp) q5)
  refine wpIn_mono hassign fun e a1 w1 hq => ?_
  cases e with
  | exit j => obtain ⟨_, hk, _⟩ := hq; cases hk
  | ret => obtain ⟨_, hk, _⟩ := hq; cases hk
  | goto t => exact hq.elim
  | panic ch => exact hq.elim
  | outgrown => exact hq.elim
  | normal =>
  obtain ⟨σ1, hk1, hd1, E2, Z2, k1, k2, k3, k4⟩ := hq
  have hb1 : w1.heap[l]? = w.heap[l]? := k2.same l hll hnok
  have hl1 : l < w1.heap.size := Nat.lt_of_lt_of_le hll k2.size
  have hb1' := hb1
  rw [hb] at hb1'
  refine ⟨_, run_beginRound hb1' rfl, ?_⟩
  have hon1 : OnlyAt l w1 (w1.putObj l (.loop { state := .busy, pending := bif false then some pend else none, fn := fn', tmps := vs.toArray, params := ps.toArray, assign := asg, body := body, defers := D })) := OnlyAt.putObj w1 _ hl1
  have hno2 : ¬ Owned E2 σ1.st l := fun hO => by
    rcases k2.oout l hO with h' | h'
    · exact hnok h'
    · simp only at h'; omega
  have hnz2 : ¬ Z2 l := fun hz => by
    rcases k2.zout l hz with h' | h' | h'
    · exact hnz1 h'
    · exact hnok h'
    · simp only at h'; omega
  have hbody := hR _ _ _ _ _ _ hk1 { E0 := E1.sel ks, O0 := Owned (E1.sel ks) (ks.map fun i => ((σw.st.set id .dead).getD i .dead).onRefs (rename1 ks)), Z0 := Z1, w0 := w₂, m := ks.length, ro := some l }
    a1 (w1.putObj l (.loop { state := .busy, pending := bif false then some pend else none, fn := fn', tmps := vs.toArray, params := ps.toArray, assign := asg, body := body, defers := D })) rfl hgood
    ⟨by
      obtain ⟨rs, hrs⟩ := hd1
      refine ⟨rs, ?_⟩
      have : w₂.heap.size = w.heap.size := hon.size
      simp only [this]
      exact hrs.same fun r hr => by
        have hne : r ≠ l := fun e => by rw [e, hb1'] at hr; cases hr
        rw [hon1.other r hne]; exact hr, E2, Z2, k1.aside hno2 hnz2 hon1,
      ⟨by rw [hon1.os, hon.os]; exact k2.os, by rw [hon1.tape, hon.tape]; exact k2.tape, by rw [hon1.output, hon.output]; exact k2.output, by rw [hon1.size, hon.size]; exact k2.size, fun b hb' hno => by
        by_cases hbl : b = l
        · subst hbl
          rw [hb2]; exact World.putObj_heap_same hl1
        · rw [hon1.other b hbl, hon.other b hbl]
          exact k2.same b (by rw [hon.size] at hb'; exact hb') hno, k2.zin, fun b hz => by rw [hon.size]; exact k2.zout b hz, fun b ho => by rw [hon.size]; exact k2.oout b ho⟩, k3, k4⟩
  refine wpIn_mono hbody fun e a1 w3 hq => ?_
  cases e with
  | normal =>
    obtain ⟨σ', hk, hA'⟩ := hq
    simp only [forceSt_eq] at hk
    obtain ⟨v, w4, hr', b, rfl, hkp⟩ := key false .skip σ' a1 w3 hk hA'
    exact ⟨_, _, hr', hkp⟩
  | ret =>
    obtain ⟨σ', hk, hA'⟩ := hq
    simp only [forceSt_eq] at hk
    obtain ⟨v, w4, hr', b, rfl, hkp⟩ := key true .ret σ' a1 w3 hk hA'
    exact ⟨_, _, hr', hkp⟩
  | exit j =>
    obtain ⟨σ', hk, hA'⟩ := hq
    simp only [forceSt_eq] at hk
    obtain ⟨v, w4, hr', b, rfl, hkp⟩ := key true (.exit j) σ' a1 w3 hk hA'
    exact ⟨_, _, hr', hkp⟩
  | goto t => exact hq.elim
  | panic ch => exact hq.elim
  | outgrown => exact hq.elim
theorem look_ok (hT : TabOk P C.T) {ops : Array Oper} {rid i : Nat} {o : Oper} (hi : ops[i]? = some o) {es : List (List AV × List AV)} {k : List AV} {mk : Option (List AV) → AV}
    (hl : lookOf C ops.toList rid i (σ.weaks C.T (look2 C.ann.pre rid i)) o = some (es, k, mk)) {a : Act} {w : World} (hA : At C.T B σ a w) {Q : Exit → Act → World → Prop} {K : Act → World → Prop}
    (hK : ∀ a' w', At C.T B ((σ.weaks C.T (look2 C.ann.pre rid i)).put o.dst (mk (mfind k es))) a' w' → K a' w') : wpOpIn (FR B.ro) 0 P ops Q i K a w := by
  obtain ⟨hd, E, Z, h, hX, hKp, hm⟩ := hA
  unfold wpOpIn
  simp only [hi]
  obtain ⟨E1, Z1, h1, hX1, hS1, hmv1, hl1⟩ := weaks_ok (look2 C.ann.pre rid i) h
  have hK1 := WkRes.kp hKp hm hS1 hmv1
  have hm1 := Nat.le_trans hm hl1
  have hX01 := hX.trans hX1
  generalize σ.weaks C.T (look2 C.ann.pre rid i) = σw at *
  have fin : ∀ v u w', After C.T E1 Z1 w a.tmps.toList σw σw v u w' → At C.T B (σw.put o.dst v) (a.put o.dst u) w' := fun v u w' ⟨E2, Z2, g1, g2, g3, g4, g5⟩ => by
    refine ⟨hd.same (by cases o.dst <;> rfl) (h1.sr.marks g3), E2, Z2, g1.put o.dst g2, ?_, ?_, ?_⟩
    · have e : (σw.put o.dst v).st = σw.st := by cases o.dst <;> rfl
      rw [e]; exact hX01.trans g3
    · have e : (σw.put o.dst v).moved = σw.moved := by cases o.dst <;> rfl
      rw [e]; exact hK1.mv g4 hm1
    · have e : (σw.put o.dst v).st = σw.st := by cases o.dst <;> rfl
      rw [e]; exact Nat.le_trans hm1 g5
  unfold lookOf at hl
  split at hl
  · rename_i t m kx ok hop
    cases hsp : has2 C.ann.split rid i with
    | false => rw [hsp] at hl; cases hl
    | true =>
      rw [hsp] at hl
      simp only [Bool.not_true, cond_false] at hl
      split at hl
      · rename_i id kt et c b hg hmv ht
        split at hl
        · rename_i x t' es' te hst hte
          cases hc : (Nat.beq t t' && keyOk C.T kt (σw.eval kx)) with
          | false => rw [hc] at hl; cases hl
          | true =>
            rw [hc] at hl
            simp only [Bool.and_eq_true] at hc
            obtain ⟨hc1, hc2⟩ := hc
            have hc1 := Nat.eq_of_beq_eq_true hc1
            subst hc1
            simp only [cond_true, Option.some.injEq, Prod.mk.injEq] at hl
            obtain ⟨rfl, rfl, rfl⟩ := hl
            rw [guard_ok h1.tm hg]
            simp only [if_true]
            have hnd : ∀ c, o.op ≠ .defer c := fun c hc => by rw [hop] at hc; cases hc
            refine ⟨fun _ _ => trivial, ?_⟩
            rw [Oper.semAt_eq _ _ _ hnd]
            have hmm := eval_ok h1.tm m
            rw [hmv] at hmm
            obtain ⟨v, hrun, hsh, r1, r2⟩ := lookup_map hT ht hte hc2 (eval_ok h1.tm kx) (h1.sr.obj id _ (getD_some hst (by simp))) hmm ok
            have hrun' : (execOp a.eval o).run P w = .ok (.value (if ok then .tuple #[v, .bool (mhas (σw.eval kx).cells es')] else v)) w := by
              obtain ⟨dst, op, type, pos, after, guard⟩ := o
              simp only at hop
              subst hop
              simp only [execOp]
              simp [hrun]
            rw [hrun']
            refine hK _ _ (fin _ _ _ ⟨E1, Z1, h1, ?_, Ext.refl _ _ _, Mv.refl _ _ rfl, Nat.le_refl _⟩)
            obtain ⟨ie, de, ze, hte'⟩ := hT _ _ hte
            cases hf : mfind (σw.eval kx).cells es' with
            | none =>
              have hv : VR C.T E1 Z1 w (rowV te (te.cells.map CT.zero)) v := rowV_ok hte hsh (by rw [r2 hf]; exact zeros_ok _)
              cases ok with
              | true => simp only [mhas, hf, Option.isSome_none, if_true, cond_true]; exact tup2_ok hv false
              | false => exact hv
            | some row =>
              have hv : VR C.T E1 Z1 w (rowV te row) v := rowV_ok hte hsh (r1 row hf).1
              cases ok with
              | true => simp only [mhas, hf, Option.isSome_some, if_true, cond_true]; exact tup2_ok hv true
              | false => exact hv
        · cases hl
      · cases hl
  · cases hl
theorem evOpsY_ok (hT : TabOk P C.T) (hC : CallOk P C) (hR : RoundOk P C) {ops : Array Oper} {rid : Nat} {K : St → Option Res} {res : Res} {Q : Exit → Act → World → Prop}
    (hQ : ∀ σ' a w, K σ' = some res → At C.T B σ' a w → Q .normal a w) : ∀ (rest : List Oper) (i : Nat), ops.toList.drop i = rest → ∀ (σ : St) (a : Act) (w : World), evOpsY C ops.toList rid rest i σ K = some res → At C.T B σ a w →
      wpOpsIn (FR B.ro) 0 P ops Q (List.range' i rest.length) a w
  | [], i, hr, σ, a, w, h, hA => by
    simp only [List.length_nil, List.range', wpOpsIn]
    exact hQ σ a w h hA
  | o :: rest, i, hr, σ, a, w, h, hA => by
    have hio : ops[i]? = some o := by
      have h1 : (ops.toList.drop i)[0]? = some o := by rw [hr]; rfl
      rw [List.getElem?_drop] at h1
      simpa using h1
    have hr' : ops.toList.drop (i + 1) = rest := by rw [← List.drop_drop, hr]; rfl
    simp only [List.length_cons, List.range']
    rw [wpOpsIn_cons]
    simp only [evOpsY] at h
    split at h
    · rename_i id args hy
      exact yield_ok hR hio hy h hA fun σ' v u w' hk hA' => evOpsY_ok hT hC hR hQ rest (i + 1) hr' _ _ _ (splitAt_some hk) hA'
    · split at h
      · rename_i es k mk hl
        rw [mchain_eq] at h
        exact look_ok hT hio hl hA fun a' w' hA' => evOpsY_ok hT hC hR hQ rest (i + 1) hr' _ _ _ h hA'
      · obtain ⟨_, σ1, hs, hk⟩ := evOps_cons h
        exact step1_ok hT hC hio hs hA fun a' w' hA' => evOpsY_ok hT hC hR hQ rest (i + 1) hr' _ _ _ (by simpa only [evOps] using hk) hA'
theorem regionY_ok (hT : TabOk P C.T) (hC : CallOk P C) (hR : RoundOk P C) {ops : Array Oper} {id rid : Nat} {K : St → Option Res} {res : Res} {a : Act} {w : World} {Q : Exit → Act → World → Prop} (h : evOpsY C ops.toList rid ops.toList 0 σ K = some res) (hA : At C.T B σ a w)
    (hQ : ∀ σ' a w, K σ' = some res → At C.T B σ' a w → Q .normal a w) : (Code.region id ops false).wpIn (FR B.ro) 0 P Q a w := by
  refine wpIn_region ?_
  have := evOpsY_ok hT hC hR hQ ops.toList 0 rfl σ a w h hA
  rw [List.range_eq_range']
  simpa using this
end
end Go.Fw
