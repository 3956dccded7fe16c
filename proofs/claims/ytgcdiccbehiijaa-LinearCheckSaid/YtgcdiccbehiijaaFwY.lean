/- The framework, part Y: whole functions. -/
import Derived.Test.YtgcdiccbehiijaaFwX
set_option linter.all false
set_option linter.unusedSimpArgs false
set_option linter.unusedVariables false
namespace Go.Fw
section
variable {P : Program} {T : Tab} {E : Env} {Z : Nat → Prop} {w : World} {σ : St}
def resSem (tmps : Array Value) : ResultVar → Sem Value
  | .tmp t => pure (tmps.getD t undef)
  | .cell a t => do loadVar t (← asAddr (tmps.getD a undef))
theorem resultsAV_ok (hT : TabOk P T) {a : Act} (h : StR T E Z w σ a.tmps.toList) : ∀ {rs : List ResultVar} {avs : List AV}, resultsAV T σ rs = some avs →
    ∃ vs : List Value, (rs.mapM (resSem a.tmps)).run P w = .ok vs w ∧ VRs T E Z w avs vs
  | [], avs, hs => by
    simp only [resultsAV, Option.some.injEq] at hs
    subst hs
    exact ⟨[], rfl, rfl, fun j av v hj => by simp at hj⟩
  | r :: rs, avs, hs => by
    simp only [resultsAV] at hs
    split at hs
    · rename_i x xs hx hxs
      cases hs
      obtain ⟨v, hv, hr⟩ := resultAV_ok hT h hx
      obtain ⟨vs, hvs, hrs⟩ := resultsAV_ok hT h hxs
      have hv' : (resSem a.tmps r).run P w = .ok v w := by cases r <;> exact hv
      refine ⟨v :: vs, ?_, by simp [hrs.1], fun j av u hj hu => ?_⟩
      · rw [List.mapM_cons]
        simp [hv', hvs]
      · cases j with
        | zero => simp at hj hu; subst hj; subst hu; exact hr
        | succ j => simp at hj hu; exact hrs.2 j av u hj hu
    · cases hs
theorem results_eq (fn : Func) (tmps : Array Value) : results fn tmps = (do
    let vs ← fn.results.mapM (resSem tmps)
    pure (if h : vs.size = 1 then vs[0] else .tuple vs)) := by
  unfold results
  congr 1
theorem results_run {fn : Func} {a : Act} {vs : List Value} (h : (fn.results.toList.mapM (resSem a.tmps)).run P w = .ok vs w) :
    (results fn a.tmps).run P w = .ok (if h : vs.toArray.size = 1 then vs.toArray[0] else .tuple vs.toArray) w := by
  have e2 : (fn.results.mapM (resSem a.tmps)).run P w = .ok vs.toArray w := by
    rw [Array.mapM_eq_mapM_toList]; simp [h]
  rw [results_eq, Sem.run_bind, e2]
  rfl
mutual
theorem RS.co_ok : ∀ {r : RS} {av : AV} {v : Value}, VR T E Z w av v → VR T E Z w (r.co av) v
  | .cell ct, av, v, h => by simp only [RS.co]; exact h.co
  | .a rs, av, v, h => by
    cases av <;> first | (simp only [RS.co]; exact h) | skip
    rename_i cs
    cases h with
    | agg _ vs hl hr =>
      simp only [RS.co]
      have := RS.coL_ok (rs := rs) (l := cs) (vs := vs) ⟨hl, hr⟩
      exact .agg _ vs this.1 this.2
  | .t rs, av, v, h => by
    cases av <;> first | (simp only [RS.co]; exact h) | skip
    rename_i cs
    cases h with
    | tup _ vs hl hr =>
      simp only [RS.co]
      have := RS.coL_ok (rs := rs) (l := cs) (vs := vs) ⟨hl, hr⟩
      exact .tup _ vs this.1 this.2
  | .sr _, av, v, h => by simp only [RS.co]; exact h
  | .p _ _, av, v, h => by simp only [RS.co]; exact h
  | .ss _, av, v, h => by simp only [RS.co]; exact h
  | .any, av, v, h => by simp only [RS.co]; exact h
theorem RS.coL_ok : ∀ {rs : List RS} {l : List AV} {vs : List Value}, VRs T E Z w l vs → VRs T E Z w (RS.coL rs l) vs
  | [], l, _, h => by simp only [RS.coL]; exact h
  | _ :: _, [], _, h => by simp only [RS.coL]; exact h
  | r :: rs, x :: l, vs, h => by
    obtain ⟨hl, hr⟩ := h
    match vs, hl with
    | v :: vs, hl =>
      have ih := RS.coL_ok (rs := rs) (l := l) (vs := vs) ⟨by simpa using hl, fun j av u hj hu => hr (j + 1) av u hj hu⟩
      simp only [RS.coL]
      refine ⟨by simp [ih.1], fun j av u hj hu => ?_⟩
      cases j with
      | zero =>
        simp only [List.getElem?_cons_zero, Option.some.injEq] at hj hu
        subst hj; subst hu
        exact RS.co_ok (hr 0 x v rfl rfl)
      | succ j => exact ih.2 j av u hj hu
end
theorem OS.co_ok {os : OS} {id : Nat} {o : AObj} (h : OR T E Z w id o) : OR T E Z w id (os.co o) := by
  unfold OS.co
  split
  · cases h with
    | box t cs B vs ty he hb hr => exact .box _ _ B vs ty he hb (RS.coL_ok hr)
  · exact h
theorem OS.co_owns {os : OS} {id : Nat} {o : AObj} {B : Nat} : ownsO E id (os.co o) B ↔ ownsO E id o B := by
  unfold OS.co
  split <;> exact Iff.rfl
theorem OS.coL_get : ∀ (os : List OS) (st : List AObj) (i : Nat) (o : AObj), (OS.coL os st)[i]? = some o → ∃ o', st[i]? = some o' ∧ (o = o' ∨ ∃ s : OS, o = s.co o')
  | [], st, i, o, h => by simp only [OS.coL] at h; exact ⟨o, h, .inl rfl⟩
  | _ :: _, [], i, o, h => by simp [OS.coL] at h
  | s :: os, x :: st, i, o, h => by
    simp only [OS.coL] at h
    cases i with
    | zero => simp only [List.getElem?_cons_zero, Option.some.injEq] at h; exact ⟨x, rfl, .inr ⟨s, h.symm⟩⟩
    | succ i => exact OS.coL_get os st i o (by simpa using h)
theorem OS.coL_length : ∀ (os : List OS) (st : List AObj), (OS.coL os st).length = st.length
  | [], st => by simp only [OS.coL]
  | _ :: _, [] => rfl
  | s :: os, x :: st => by simp only [OS.coL, List.length_cons, OS.coL_length os st]
theorem SR.coL {st : List AObj} (h : SR T E Z w st) (os : List OS) : SR T E Z w (OS.coL os st) ∧ ∀ B, Owned E (OS.coL os st) B → Owned E st B := by
  have hown : ∀ i B, owns E (OS.coL os st) i B → owns E st i B := fun i B hi => by
    obtain ⟨o, ho, hb⟩ := owns_get hi
    obtain ⟨o', ho', he⟩ := OS.coL_get os st i o ho
    refine (owns_some ho').2 ?_
    rcases he with rfl | ⟨s, rfl⟩
    · exact hb
    · exact OS.co_owns.1 hb
  refine ⟨⟨fun id o ho => ?_, fun id hid => h.out id (by rw [OS.coL_length] at hid; exact hid), fun i j B hi hj => h.inj i j B (hown i B hi) (hown j B hj), fun B ⟨i, hi⟩ => h.zown B ⟨i, hown i B hi⟩, h.zlt⟩, fun B ⟨i, hi⟩ => ⟨i, hown i B hi⟩⟩
  obtain ⟨o', ho', he⟩ := OS.coL_get os st id o ho
  have := h.obj id o' ho'
  rcases he with rfl | ⟨s, rfl⟩
  · exact this
  · exact OS.co_ok this
theorem coArg_ok {t : Nat} {av : AV} {v : Value} (h : VR T E Z w av v) : VR T E Z w (coArg T t av) v := by
  unfold coArg
  split
  · rename_i ti _
    cases ti.isAgg with
    | true =>
      simp only [cond_true]
      split
      · cases h with
        | agg _ vs hl hr =>
          have := VRs.coL (cs := ti.cells) (l := _) (vs := vs) ⟨hl, hr⟩
          exact .agg _ vs this.1 this.2
      · exact h
    | false =>
      simp only [cond_false]
      split
      · exact h.co
      · exact h
  · exact h
theorem coArgs_ok : ∀ {ts : List Nat} {l : List AV} {vs : List Value}, VRs T E Z w l vs → VRs T E Z w (coArgs T ts l) vs
  | [], l, _, h => by simp only [coArgs]; exact h
  | _ :: _, [], _, h => by simp only [coArgs]; exact h
  | t :: ts, x :: l, vs, h => by
    obtain ⟨hl, hr⟩ := h
    match vs, hl with
    | v :: vs, hl =>
      have ih := coArgs_ok (ts := ts) (l := l) (vs := vs) ⟨by simpa using hl, fun j av u hj hu => hr (j + 1) av u hj hu⟩
      simp only [coArgs]
      refine ⟨by simp [ih.1], fun j av u hj hu => ?_⟩
      cases j with
      | zero =>
        simp only [List.getElem?_cons_zero, Option.some.injEq] at hj hu
        subst hj; subst hu
        exact coArg_ok (hr 0 x v rfl rfl)
      | succ j => exact ih.2 j av u hj hu
def oneAV (avs : List AV) : AV := match avs with | [v] => v | vs => .tup vs
theorem finish_inv {ann : FAnn} {m : Nat} {rs : List ResultVar} {r : AV} {st' : List AObj} (hf : finish T ann m rs σ = some (r, st')) :
    ∃ avs r0, resultsAV T σ rs = some avs ∧ ((St.weaks T { tmps := [oneAV avs], st := σ.st, moved := σ.moved } ann.post).canon m).tmps = [r0] ∧ r = ann.res.co r0 ∧
      OS.coL ann.objs ((St.weaks T { tmps := [oneAV avs], st := σ.st, moved := σ.moved } ann.post).canon m).st = st' ∧
      ann.res.ok r = true ∧ OS.okL ann.objs st' = true ∧ m ≤ st'.length ∧
      ∀ i ∈ ((St.weaks T { tmps := [oneAV avs], st := σ.st, moved := σ.moved } ann.post).canon m).moved, i < m → i ∈ ann.mvs := by
  have key : ∀ avs : List AV, ∀ σ2 : St, (match σ2.tmps with
      | [r] => bif ann.res.ok (ann.res.co r) && (OS.okL ann.objs (OS.coL ann.objs σ2.st) && (Nat.ble m σ2.st.length && σ2.moved.all fun i => Nat.ble m i || ann.mvs.elem i)) then some (ann.res.co r, OS.coL ann.objs σ2.st) else none
      | _ => none) = some (r, st') → ∃ r0, σ2.tmps = [r0] ∧ r = ann.res.co r0 ∧ OS.coL ann.objs σ2.st = st' ∧ ann.res.ok r = true ∧ OS.okL ann.objs st' = true ∧ m ≤ st'.length ∧ ∀ i ∈ σ2.moved, i < m → i ∈ ann.mvs := fun avs σ2 h => by
    split at h
    · rename_i r2 htm
      simp only [cond_eq_ite] at h
      split at h
      · rename_i hcond
        cases h
        simp only [Bool.and_eq_true, Nat.ble_eq] at hcond
        obtain ⟨c1, c2, c3, c4⟩ := hcond
        exact ⟨r2, htm, rfl, rfl, c1, c2, by rw [OS.coL_length]; exact c3, fun i hi hm => by have := List.all_eq_true.1 c4 i hi; simp only [Bool.or_eq_true, Nat.ble_eq] at this; rcases this with h | h; omega; simpa using h⟩
      · cases h
    · cases h
  unfold finish at hf
  cases hres : resultsAV T σ rs with
  | none => rw [hres] at hf; cases hf
  | some avs =>
    rw [hres] at hf
    have := (show ∃ r0, _ from by
      rcases avs with _ | ⟨x, _ | ⟨y, ys⟩⟩
      · exact key [] _ hf
      · exact key [] _ hf
      · exact key [] _ hf : ∃ r0, ((St.weaks T { tmps := [oneAV avs], st := σ.st, moved := σ.moved } ann.post).canon m).tmps = [r0] ∧ r = ann.res.co r0 ∧
      OS.coL ann.objs ((St.weaks T { tmps := [oneAV avs], st := σ.st, moved := σ.moved } ann.post).canon m).st = st' ∧
      ann.res.ok r = true ∧ OS.okL ann.objs st' = true ∧ m ≤ st'.length ∧
      ∀ i ∈ ((St.weaks T { tmps := [oneAV avs], st := σ.st, moved := σ.moved } ann.post).canon m).moved, i < m → i ∈ ann.mvs)
    obtain ⟨r0, h⟩ := this
    exact ⟨avs, r0, rfl, h⟩
theorem finish_ok (hT : TabOk P T) {B : Base} {ann : FAnn} {fn : Func} {r : AV} {st' : List AObj} {tmps : Array Value} (hf : finish T ann B.m fn.results.toList σ = some (r, st'))
    (hA : ∃ E Z, StR T E Z w σ tmps.toList ∧ Ext B.O0 B.Z0 B.w0 (Owned E σ.st) Z w ∧ Kp B.E0 B.m σ.moved E ∧ B.m ≤ σ.st.length) :
    (∃ v, (results fn tmps).run P w = .ok v w ∧ ∃ E' Z', SR T E' Z' w st' ∧ VR T E' Z' w r v ∧ Ext B.O0 B.Z0 B.w0 (Owned E' st') Z' w ∧ (∀ i, i < B.m → i ∉ ann.mvs → E'.ρ i = B.E0.ρ i ∧ E'.sz i = B.E0.sz i)) ∧
      ann.res.ok r = true ∧ OS.okL ann.objs st' = true ∧ B.m ≤ st'.length := by
  obtain ⟨E, Z, h, hX, hK, hl⟩ := hA
  obtain ⟨avs, r0, hres, htm, hr0, hst, c1, c2, c3, c4⟩ := finish_inv hf
  obtain ⟨vs, hvs, hvr⟩ := resultsAV_ok (P := P) hT (a := { tmps := tmps, defers := [] }) h hres
  have hrun := results_run (a := { tmps := tmps, defers := [] }) hvs
  have hr1 : VR T E Z w (oneAV avs) (if h : vs.toArray.size = 1 then vs.toArray[0] else .tuple vs.toArray) := by
    obtain ⟨hlen, hrr⟩ := hvr
    rcases avs with _ | ⟨x, _ | ⟨y, ys⟩⟩ <;> rcases vs with _ | ⟨v, _ | ⟨u, us⟩⟩ <;> first | (simp at hlen; done) | skip
    · exact .tup [] [] rfl hrr
    · simpa [oneAV] using hrr 0 x v rfl rfl
    · have hn : ¬ (v :: u :: us).toArray.size = 1 := by simp
      rw [dif_neg hn]
      exact .tup _ _ hlen hrr
  generalize oneAV avs = av at *
  generalize (if h : vs.toArray.size = 1 then vs.toArray[0] else .tuple vs.toArray) = v at hrun hr1
  have hA1 : StR T E Z w { tmps := [av], st := σ.st, moved := σ.moved } [v] := ⟨h.sr, rfl, fun j x u hj hu => by
    cases j <;> simp at hj hu
    subst hj; subst hu; exact hr1⟩
  obtain ⟨E1, Z1, k1, k2, k3, k4, k5⟩ := weaks_ok ann.post hA1
  have hK1 := WkRes.kp (σ := { tmps := [av], st := σ.st, moved := σ.moved }) hK hl k3 k4
  obtain ⟨E2, m1, m2, m3, m4⟩ := k1.canon B.m hK1
  generalize (St.weaks T { tmps := [av], st := σ.st, moved := σ.moved } ann.post).canon B.m = σ2 at *
  subst hst
  subst hr0
  obtain ⟨s1, s2⟩ := m1.sr.coL ann.objs
  have hX2 : Ext (Owned E2 σ2.st) Z1 w (Owned E2 (OS.coL ann.objs σ2.st)) Z1 w :=
    ⟨rfl, rfl, rfl, Nat.le_refl _, fun _ _ _ => rfl, fun _ h => h, fun _ h => .inl h, fun b h => .inl (s2 b h)⟩
  refine ⟨⟨v, hrun, E2, Z1, s1, ?_, ((hX.trans k2).trans m2).trans hX2, fun i hi hn => m3 i hi fun hmv => hn (c4 i hmv hi)⟩, c1, c2, c3⟩
  exact RS.co_ok (m1.tm.2 0 r0 v (by rw [htm]; rfl) rfl)
theorem loopGo_ends {weak : St → St} {body : St → (Out → Option Res) → Option Res} {K : Out → Option Res} {res : Res} (hb : ∀ σ K', body σ K' = some res → ∃ o, K' o = some res) :
    ∀ (n : Nat) (σ : St), loopGo weak body K n σ = some res → ∃ o, K o = some res
  | 0, σ, h => by cases h
  | n + 1, σ, h => by
    simp only [loopGo] at h
    obtain ⟨o, ho⟩ := hb _ _ h
    cases o with
    | norm σ' => exact loopGo_ends hb n _ ho
    | exit id σ' => exact ⟨_, ho⟩
    | ret σ' => exact ⟨_, ho⟩
theorem evDyn_ends {C : Ctx} {ops : Array Oper} {rid : Nat} {pairs : List (Nat × Nat)} {K : St → Option Res} {res : Res} : ∀ (segs : List Nat) (os : List Oper) (i : Nat) (σ : St),
    evDyn C ops rid pairs segs os i σ K = some res → ∃ σ', K σ' = some res
  | [], [], i, σ, h => ⟨σ, h⟩
  | [], _ :: _, i, σ, h => by simp [evDyn] at h
  | n :: segs, os, i, σ, h => by
    unfold evDyn at h
    cases hn : Nat.beq n 1 && !headV C.ann os with
    | true =>
      rw [hn] at h
      simp only [cond_true] at h
      obtain ⟨S, _, _, hK⟩ := evOps_states _ _ _ h
      exact evDyn_ends segs _ _ _ hK
    | false =>
      rw [hn] at h
      simp only [cond_false] at h
      rw [cond_eq_ite] at h
      split at h
      · obtain ⟨S, _, _, hK⟩ := evOps_states _ _ _ h
        exact evDyn_ends segs _ _ _ hK
      rw [cond_eq_ite] at h
      split at h
      · obtain ⟨S, _, _, hK⟩ := evOps_states _ _ _ (bothE_some h).1
        exact evDyn_ends segs _ _ _ hK
      obtain ⟨S, F, _, _, hK⟩ := evSeg_states _ _ _ _ _ h
      simp only [cond_eq_ite] at hK
      split at hK
      · rw [forceSt_eq] at hK
        exact evDyn_ends segs _ _ _ hK
      · cases hK
def REnds (C : Ctx) : Prop := ∀ f m c σ K res, C.round f m c σ K = some res → ∃ o, K o = some res
theorem ayield_ends {C : Ctx} (hR : REnds C) {σ : St} {id : Nat} {args : List AV} {K : St → AV → Option Res} {res : Res} (h : ayield C σ id args K = some res) : ∃ σ' v, K σ' v = some res := by
  unfold ayield at h
  split at h
  · simp only [cond_eq_ite] at h
    split at h
    · split at h
      · obtain ⟨o, ho⟩ := hR _ _ _ _ _ _ h
        split at ho
        · obtain ⟨o2, ho2⟩ := hR _ _ _ _ _ _ ho
          split at ho2 <;> (rw [forceSt_eq] at ho2; exact ⟨_, _, ho2⟩)
        · cases ho
      · cases h
    · cases h
  · cases h
theorem evOpsY_ends {C : Ctx} (hR : REnds C) {ops : List Oper} {rid : Nat} {K : St → Option Res} {res : Res} : ∀ (rest : List Oper) (i : Nat) (σ : St), evOpsY C ops rid rest i σ K = some res → ∃ σ', K σ' = some res
  | [], i, σ, h => ⟨σ, h⟩
  | o :: rest, i, σ, h => by
    simp only [evOpsY] at h
    split at h
    · obtain ⟨σ', v, hk⟩ := ayield_ends hR h
      exact evOpsY_ends hR rest _ _ (splitAt_some hk)
    · split at h
      · rw [mchain_eq] at h
        exact evOpsY_ends hR rest _ _ h
      · obtain ⟨_, σ1, _, hk⟩ := evOps_cons h
        exact evOpsY_ends hR rest _ _ (by simpa only [evOps] using hk)
theorem evC_ends {C : Ctx} (hR : REnds C) {res : Res} : ∀ (c : Code) (blk : Nat) (σ : St) (K : Out → Option Res), evC C blk c σ K = some res → ∃ o, K o = some res
  | .skip, blk, σ, K, h => ⟨_, h⟩
  | .ret, blk, σ, K, h => ⟨_, h⟩
  | .exit id, blk, σ, K, h => ⟨_, h⟩
  | .label l, blk, σ, K, h => ⟨_, h⟩
  | .seq x y, blk, σ, K, h => by
    simp only [evC] at h
    obtain ⟨o, ho⟩ := evC_ends hR x blk σ _ h
    cases o with
    | norm σ' => exact evC_ends hR y blk σ' K ho
    | exit id σ' => exact ⟨_, ho⟩
    | ret σ' => exact ⟨_, ho⟩
  | .cond c x y, blk, σ, K, h => by
    simp only [evC] at h
    split at h
    · rename_i t _
      cases t with
      | true => exact evC_ends hR x blk σ K h
      | false => exact evC_ends hR y blk σ K h
    · cases h
  | .block id c, blk, σ, K, h => by
    simp only [evC] at h
    obtain ⟨o, ho⟩ := evC_ends hR c id σ _ h
    cases o with
    | norm σ' => exact ⟨_, ho⟩
    | exit j σ' =>
      simp only at ho
      cases hj : Nat.beq j id with
      | true => rw [hj] at ho; exact ⟨_, ho⟩
      | false => rw [hj] at ho; exact ⟨_, ho⟩
    | ret σ' => exact ⟨_, ho⟩
  | .loop c, blk, σ, K, h => by
    simp only [evC] at h
    exact loopGo_ends (fun σ K' h => evC_ends hR c blk σ K' h) _ _ h
  | .region id ops d, blk, σ, K, h => by
    simp only [evC, forceSt_eq] at h
    split at h
    · obtain ⟨σ', hK⟩ := evDyn_ends _ _ _ _ h
      exact ⟨_, hK⟩
    · cases d with
      | true =>
        obtain ⟨S, _, _, hK⟩ := evOps_states _ _ _ h
        exact ⟨_, hK⟩
      | false =>
        obtain ⟨σ', hK⟩ := evOpsY_ends hR _ _ _ h
        exact ⟨_, hK⟩
  | .rangeFunc g ps a b, blk, σ, K, h => by
    simp only [evC, forceSt_eq] at h
    split at h
    · simp only [cond_eq_ite] at h
      split at h
      · cases h
      · rw [acall_eq] at h
        split at h
        · rename_i c σ' r _
          cases c with
          | false => simp [under] at h
          | true =>
            simp only [under, cond_true] at h
            split at h
            · cases h
            · split at h
              · split at h
                · split at h
                  · exact ⟨_, h⟩
                  · exact ⟨_, h⟩
                  · cases h
                · exact ⟨_, h⟩
              · cases h
        · cases h
    · cases h
  | .scope _, blk, σ, K, h => by simp [evC] at h
  | .goto _, blk, σ, K, h => by simp [evC] at h
  | .refuse _, blk, σ, K, h => by simp [evC] at h
theorem evB_ends {C : Ctx} (hR : REnds C) {res : Res} : ∀ (c : Code) (σ : St) (D : Option (FuncId × Nat)) (K : Out → Option (FuncId × Nat) → Option Res), evB C c σ D K = some res → ∃ o D', K o D' = some res
  | .seq x y, σ, D, K, h => by
    simp only [evB] at h
    obtain ⟨o, D', ho⟩ := evB_ends hR x σ D _ h
    cases o with
    | norm σ' => exact evB_ends hR y σ' D' K ho
    | exit id σ' => exact ⟨_, _, ho⟩
    | ret σ' => exact ⟨_, _, ho⟩
  | .region id ops dr, σ, D, K, h => by
    simp only [evB] at h
    cases hd : C.ann.dfr.elem id with
    | false =>
      rw [hd] at h
      obtain ⟨o, ho⟩ := evC_ends hR _ _ _ _ h
      exact ⟨o, D, ho⟩
    | true =>
      rw [hd] at h
      simp only [cond_true] at h
      split at h
      · rw [forceSt_eq] at h
        obtain ⟨S, _, _, hK⟩ := evOps_states _ _ _ h
        split at hK
        · exact ⟨_, _, hK⟩
        · cases hK
      · cases h
  | .skip, σ, D, K, h => let ⟨o, ho⟩ := evC_ends hR _ _ _ _ (by simpa only [evB] using h); ⟨o, D, ho⟩
  | .ret, σ, D, K, h => let ⟨o, ho⟩ := evC_ends hR _ _ _ _ (by simpa only [evB] using h); ⟨o, D, ho⟩
  | .exit id, σ, D, K, h => let ⟨o, ho⟩ := evC_ends hR _ _ _ _ (by simpa only [evB] using h); ⟨o, D, ho⟩
  | .label l, σ, D, K, h => let ⟨o, ho⟩ := evC_ends hR _ _ _ _ (by simpa only [evB] using h); ⟨o, D, ho⟩
  | .cond c x y, σ, D, K, h => let ⟨o, ho⟩ := evC_ends hR _ _ _ _ (by simpa only [evB] using h); ⟨o, D, ho⟩
  | .block id c, σ, D, K, h => let ⟨o, ho⟩ := evC_ends hR _ _ _ _ (by simpa only [evB] using h); ⟨o, D, ho⟩
  | .loop c, σ, D, K, h => let ⟨o, ho⟩ := evC_ends hR _ _ _ _ (by simpa only [evB] using h); ⟨o, D, ho⟩
  | .rangeFunc _ _ _ _, σ, D, K, h => let ⟨o, ho⟩ := evC_ends hR _ _ _ _ (by simpa only [evB] using h); ⟨o, D, ho⟩
  | .scope _, σ, D, K, h => let ⟨o, ho⟩ := evC_ends hR _ _ _ _ (by simpa only [evB] using h); ⟨o, D, ho⟩
  | .goto _, σ, D, K, h => let ⟨o, ho⟩ := evC_ends hR _ _ _ _ (by simpa only [evB] using h); ⟨o, D, ho⟩
  | .refuse _, σ, D, K, h => let ⟨o, ho⟩ := evC_ends hR _ _ _ _ (by simpa only [evB] using h); ⟨o, D, ho⟩
structure SysOk (P : Program) (S : FSys) : Prop where
  mixed : P.follows .mixedOrders = true
  tab : TabOk P S.T
  body : ∀ f fn, S.body f = some fn → P.funcs[f]? = some fn ∧ (fn.name == "runtime.NumGoroutine") = false ∧
    ∀ c, fn.body = some c → codeOk (fun g => ((S.ann g).res, (S.ann g).objs, (S.ann g).mvs)) (S.ann f) c = true
  prim : ∀ f args st r st', S.prim f args st = some (some (true, r, st')) → CF P S.T f args st (S.ann f).mvs r st' ∧ (S.ann f).res.ok r = true ∧ OS.okL (S.ann f).objs st' = true ∧ st.length ≤ st'.length
  harm : ∀ g n, S.harm g n = true → Harm P g n := by intro g n h; cases h
  cok : ∀ f c, S.cok f c = true → codeOk (fun g => ((S.ann g).res, (S.ann g).objs, (S.ann g).mvs)) (S.ann f) c = true := by intro f c h; cases h
theorem entOk {S : FSys} (hS : SysOk P S) {f : FuncId} (h : S.ent f = true) (args : Array Value) (w : World) : (callFunc f args).run P w = .ok (.enter f args) w := by
  unfold FSys.ent at h
  split at h
  · rename_i fn hb
    obtain ⟨hfn, hnm, _⟩ := hS.body f fn hb
    obtain ⟨c, hc⟩ := Option.isSome_iff_exists.1 h
    have hnm' : ¬ fn.name = "runtime.NumGoroutine" := by simpa using hnm
    simp [callFunc, hfn, hnm', hc]
  · cases h
theorem evR_ends {S : FSys} : ∀ (k : Nat) (f m : Nat) (c : Code) (σ : St) (K : Out → Option Res) (res : Res), evR S k f m c σ K = some res → ∃ o, K o = some res
  | 0, _, _, _, _, _, _, h => by simp [evR] at h
  | k + 1, f, m, c, σ, K, res, h => by
    simp only [evR, cond_eq_ite] at h
    split at h
    · exact evC_ends (fun f m c σ K res h => evR_ends k f m c σ K res h) _ _ _ _ h
    · cases h
mutual
theorem ev_ok {S : FSys} (hS : SysOk P S) : ∀ (k : Nat) (f : FuncId) (args : List AV) (st : List AObj) (r : AV) (st' : List AObj), ev S k f args st = some (r, st') →
    CF P S.T f args st (S.ann f).mvs r st' ∧ (S.ann f).res.ok r = true ∧ OS.okL (S.ann f).objs st' = true ∧ st.length ≤ st'.length
  | 0, f, args, st, r, st', h => by simp [ev] at h
  | k + 1, f, args, st, r, st', h => by
    simp only [ev] at h
    split at h
    · rename_i c x hp
      cases c with
      | false => simp [under] at h
      | true =>
        simp only [under, cond_true, Option.some.injEq] at h
        subst h
        exact hS.prim f args st r st' hp
    · cases h
    · rename_i hp
      split at h
      · cases h
      · rename_i fn hb
        split at h
        · cases h
        · rename_i c hc
          obtain ⟨hfn, hnm, hcode⟩ := hS.body f fn hb
          have hC : CallOk P { T := S.T, ann := S.ann f, m := st.length, fuel := k, call := callOf S (ev S k), sig := fun g => ((S.ann g).res, (S.ann g).objs, (S.ann g).mvs), fid := f, ent := S.ent, round := evR S k } :=
            fun g args st r st' h => by
              simp only [callOf] at h
              have hcf : ∀ {mvs r st'}, CF P S.T g (coArgs S.T (S.ann g).par args) st mvs r st' → CF P S.T g args st mvs r st' := fun hc E Z w vals hs hv => hc E Z w vals hs (coArgs_ok hv)
              split at h
              · rename_i x hx
                obtain ⟨q1, q2⟩ := hS.prim g _ st r st' (by rw [hx, h])
                exact ⟨hcf q1, q2⟩
              · split at h
                · rename_i x hx
                  cases h
                  obtain ⟨q1, q2⟩ := ev_ok hS k g _ st r st' hx
                  exact ⟨hcf q1, q2⟩
                · cases h
          have hR : RoundOk P { T := S.T, ann := S.ann f, m := st.length, fuel := k, call := callOf S (ev S k), sig := fun g => ((S.ann g).res, (S.ann g).objs, (S.ann g).mvs), fid := f, ent := S.ent, round := evR S k } :=
            fun f m c σ K res h B a w hm hg hA => evR_ok hS k f m c σ K res h B a w hm hg hA
          have hE : EntOk P { T := S.T, ann := S.ann f, m := st.length, fuel := k, call := callOf S (ev S k), sig := fun g => ((S.ann g).res, (S.ann g).objs, (S.ann g).mvs), fid := f, ent := S.ent, round := evR S k } :=
            fun f h args w => entOk hS h args w
          have hends : REnds { T := S.T, ann := S.ann f, m := st.length, fuel := k, call := callOf S (ev S k), sig := fun g => ((S.ann g).res, (S.ann g).objs, (S.ann g).mvs), fid := f, ent := S.ent, round := evR S k } :=
            fun f m c σ K res h => evR_ends k f m c σ K res h
          have hrep : ∀ (E : Env) (Z : Nat → Prop) (w : World) (vals : List Value), SR S.T E Z w st → VRs S.T E Z w args vals →
              StR S.T E Z w { tmps := args ++ List.replicate (fn.ntmps - args.length) (.k undef), st := st } (vals.toArray ++ Array.replicate (fn.ntmps - vals.toArray.size) undef).toList := fun E Z w vals hsr hv => by
            refine ⟨hsr, ?_⟩
            have hrep : VRs S.T E Z w (List.replicate (fn.ntmps - args.length) (AV.k undef)) (List.replicate (fn.ntmps - args.length) undef) := ⟨by simp, fun j av v hj hv => by
              rw [List.getElem?_replicate] at hj hv
              split at hj
              · rw [if_pos (by assumption)] at hv; cases hj; cases hv; exact .ku
              · cases hj⟩
            have := hv.append hrep
            simpa [hv.1] using this
          have hnm' : ¬ fn.name = "runtime.NumGoroutine" := by simpa using hnm
          have hlen : (S.ann f).res.ok r = true ∧ OS.okL (S.ann f).objs st' = true ∧ st.length ≤ st'.length := by
            cases hdf : (S.ann f).dfr.isEmpty with
            | true =>
              rw [hdf] at h
              simp only [cond_true] at h
              obtain ⟨o, ho⟩ := evC_ends hends _ _ _ _ h
              cases o with
              | norm σ => obtain ⟨_, _, _, _, _, _, c1, c2, c3, _⟩ := finish_inv ho; exact ⟨c1, c2, c3⟩
              | ret σ => obtain ⟨_, _, _, _, _, _, c1, c2, c3, _⟩ := finish_inv ho; exact ⟨c1, c2, c3⟩
              | exit id σ => cases ho
            | false =>
              rw [hdf] at h
              simp only [cond_false] at h
              obtain ⟨o, D, ho⟩ := evB_ends hends _ _ _ _ h
              cases hb : S.okD D <;> rw [hb] at ho
              · cases ho
              · cases o with
                | norm σ => obtain ⟨_, _, _, _, _, _, c1, c2, c3, _⟩ := finish_inv ho; exact ⟨c1, c2, c3⟩
                | ret σ => obtain ⟨_, _, _, _, _, _, c1, c2, c3, _⟩ := finish_inv ho; exact ⟨c1, c2, c3⟩
                | exit id σ => cases ho
          refine ⟨fun E Z w vals hsr hv => .inl ⟨by simp [callFunc, hfn, hnm', hc], (callsIn_FR (ro := none) (n := 0)).1 (callsIn_of_wp_marks hfn hc trivial ?_)⟩, hlen⟩
          have fin : ∀ (σ : St) (D : List Deferred) (a : Act) (w' : World), (∀ d ∈ D, ∃ g n cap, Harm P g n ∧ Array.size cap = n ∧ d = { target := .fn (.func g) cap, args := #[] }) → finish S.T (S.ann f) st.length fn.results.toList σ = some (r, st') →
              At S.T { E0 := E, O0 := Owned E st, Z0 := Z, w0 := w, m := st.length, D := D } σ a w' →
              LeavesInM (FR none) 0 P fn a.tmps (fun e w' => ∃ v, e = .returned v ∧ Post S.T E Z w st (S.ann f).mvs r st' v w') a.defers .returning w' := fun σ D a w' hD hf hA => by
            obtain ⟨⟨rs, hM⟩, hA⟩ := hA
            refine leaves_marked (T := S.T) (B := { E0 := E, O0 := Owned E st, Z0 := Z, w0 := w, m := st.length, D := D }) (σ := σ) (fun w'' hA'' => ?_) hM hD hA
            obtain ⟨⟨v, hrun, E', Z', p1, p2, p3, p4⟩, q1, q2, q3⟩ := finish_ok (P := P) (B := { E0 := E, O0 := Owned E st, Z0 := Z, w0 := w, m := st.length, D := D }) hS.tab hf hA''
            exact ⟨v, hrun, v, rfl, E', Z', p1, p2, p3, q3, p4⟩
          cases hdf : (S.ann f).dfr.isEmpty with
          | true =>
            rw [hdf] at h
            simp only [cond_true] at h
            refine wpIn_mono (evC_ok (B := { E0 := E, O0 := Owned E st, Z0 := Z, w0 := w, m := st.length }) hS.mixed hS.tab hC hR hE (good_none rfl) rfl c 0 _ _ _ w (hcode c hc) h ⟨⟨[], .nil⟩, E, Z, hrep E Z w vals hsr hv, Ext.refl _ _ _, fun i _ _ => ⟨rfl, rfl⟩, Nat.le_refl _⟩) fun e a w' hq => ?_
            cases e with
            | normal =>
              obtain ⟨σ, h1, h2⟩ := hq
              exact fin σ [] a w' (fun d hd => by cases hd) h1 h2
            | ret =>
              obtain ⟨σ, h1, h2⟩ := hq
              exact fin σ [] a w' (fun d hd => by cases hd) h1 h2
            | exit id =>
              obtain ⟨σ, h1, _⟩ := hq
              cases h1
            | goto l => exact hq.elim
            | panic ch => exact hq.elim
            | outgrown => exact hq.elim
          | false =>
            rw [hdf] at h
            simp only [cond_false] at h
            have hend : ∀ (o : Out) (σ : St) (D : Option (FuncId × Nat)) (a : Act) (w' : World), (o = .norm σ ∨ o = .ret σ) → (bif S.okD D then
                (match o with
                | .norm σ => finish S.T (S.ann f) st.length fn.results.toList σ
                | .ret σ => finish S.T (S.ann f) st.length fn.results.toList σ
                | _ => none)
              else none) = some (r, st') → AtD S.T { E0 := E, O0 := Owned E st, Z0 := Z, w0 := w, m := st.length } D σ a w' →
                LeavesInM (FR none) 0 P fn a.tmps (fun e w' => ∃ v, e = .returned v ∧ Post S.T E Z w st (S.ann f).mvs r st' v w') a.defers .returning w' := fun o σ D a w' ho hK ⟨ds, hds, hA⟩ => by
              have hharm : S.okD D = true ∧ finish S.T (S.ann f) st.length fn.results.toList σ = some (r, st') := by
                cases hb : S.okD D with
                | false => rw [hb] at hK; cases hK
                | true =>
                  rw [hb] at hK
                  rcases ho with rfl | rfl <;> exact ⟨rfl, hK⟩
              obtain ⟨k1, k2⟩ := hharm
              refine fin σ ds a w' (fun d hd => ?_) k2 hA
              cases D with
              | none =>
                have : ds = [] := hds
                subst this; cases hd
              | some p =>
                obtain ⟨g, n⟩ := p
                obtain ⟨cap, hc1, hc2⟩ := hds
                subst hc2
                simp only [List.mem_singleton] at hd
                exact ⟨g, n, cap, hS.harm g n k1, hc1, hd⟩
            refine wpIn_mono (evB_ok (B := { E0 := E, O0 := Owned E st, Z0 := Z, w0 := w, m := st.length }) hS.mixed hS.tab hC hR hE rfl rfl c _ none _ _ w (hcode c hc) h ⟨[], rfl, ⟨[], .nil⟩, E, Z, hrep E Z w vals hsr hv, Ext.refl _ _ _, fun i _ _ => ⟨rfl, rfl⟩, Nat.le_refl _⟩) fun e a w' hq => ?_
            cases e with
            | normal =>
              obtain ⟨σ, D, hK, hA⟩ := hq
              exact hend _ σ D a w' (.inl rfl) hK hA
            | ret =>
              obtain ⟨σ, D, hK, hA⟩ := hq
              exact hend _ σ D a w' (.inr rfl) hK hA
            | exit id =>
              obtain ⟨σ, D, hK, _⟩ := hq
              simp only at hK
              cases hb : S.okD D <;> rw [hb] at hK <;> cases hK
            | goto l => exact hq.elim
            | panic ch => exact hq.elim
            | outgrown => exact hq.elim
theorem evR_ok {S : FSys} (hS : SysOk P S) : ∀ (k : Nat) (f m : Nat) (c : Code) (σ : St) (K : Out → Option Res) (res : Res), evR S k f m c σ K = some res →
    ∀ (B : Base) (a : Act) (w : World), B.m = m → B.Good → At S.T B σ a w → c.wpIn (FR B.ro) 0 P (QK S.T B K res) a w
  | 0, f, m, c, σ, K, res, h => by simp [evR] at h
  | k + 1, f, m, c, σ, K, res, h => fun B a w hm hg hA => by
    simp only [evR, cond_eq_ite] at h
    split at h
    · rename_i hcok
      have hC : CallOk P { T := S.T, ann := S.ann f, m := m, fuel := k, call := callOf S (ev S k), sig := fun g => ((S.ann g).res, (S.ann g).objs, (S.ann g).mvs), fid := f, ent := S.ent, round := evR S k } :=
        fun g args st r st' h => by
          simp only [callOf] at h
          have hcf : ∀ {mvs r st'}, CF P S.T g (coArgs S.T (S.ann g).par args) st mvs r st' → CF P S.T g args st mvs r st' := fun hc E Z w vals hs hv => hc E Z w vals hs (coArgs_ok hv)
          split at h
          · rename_i x hx
            obtain ⟨q1, q2⟩ := hS.prim g _ st r st' (by rw [hx, h])
            exact ⟨hcf q1, q2⟩
          · split at h
            · rename_i x hx
              cases h
              obtain ⟨q1, q2⟩ := ev_ok hS k g _ st r st' hx
              exact ⟨hcf q1, q2⟩
            · cases h
      exact evC_ok (C := { T := S.T, ann := S.ann f, m := m, fuel := k, call := callOf S (ev S k), sig := fun g => ((S.ann g).res, (S.ann g).objs, (S.ann g).mvs), fid := f, ent := S.ent, round := evR S k }) hS.mixed hS.tab hC
        (fun f m c σ K res h B a w hm hg hA => evR_ok hS k f m c σ K res h B a w hm hg hA) (fun f h args w => entOk hS h args w) hg hm.symm c 0 σ K a w (hS.cok f c hcok) h hA
    · cases h
end
end
end Go.Fw
