/- The framework, part Y: whole functions. -/
import Derived.Test.YtgcdiccbehiijaaFwXa
set_option linter.all false
set_option linter.unusedSimpArgs false
set_option linter.unusedVariables false
namespace Go.Fw

section
variable {P : Program} {T : Tab} {E : Env} {Z : Nat → Prop} {w : World} {σ : St}

def resSem (tmps : Array Value) : ResultVar → Sem Value
  | .tmp t => pure (tmps.getD t undef)
  | .cell a t => do loadVar t (← asAddr (tmps.getD a undef))

theorem resultsAV_ok (hT : TabOk P T) {a : Act} (h : StR T E Z w σ a.tmps.toList) : ∀ {rs : List ResultVar} {avs : List AV}, resultsAV T σ rs = some avs →
    ∃ vs : List Value, (rs.mapM (resSem a.tmps)).run P w = .ok vs w ∧ VRs T E Z w avs vs
  | [], avs, hs => by
    simp only [resultsAV, Option.some.injEq] at hs
    subst hs
    exact ⟨[], rfl, rfl, fun j av v hj => by simp at hj⟩
  | r :: rs, avs, hs => by
    simp only [resultsAV] at hs
    split at hs
    · rename_i x xs hx hxs
      cases hs
      obtain ⟨v, hv, hr⟩ := resultAV_ok hT h hx
      obtain ⟨vs, hvs, hrs⟩ := resultsAV_ok hT h hxs
      have hv' : (resSem a.tmps r).run P w = .ok v w := by cases r <;> exact hv
      refine ⟨v :: vs, ?_, by simp [hrs.1], fun j av u hj hu => ?_⟩
      · rw [List.mapM_cons]
        simp [hv', hvs]
      · cases j with
        | zero => simp at hj hu; subst hj; subst hu; exact hr
        | succ j => simp at hj hu; exact hrs.2 j av u hj hu
    · cases hs

theorem results_eq (fn : Func) (tmps : Array Value) : results fn tmps = (do
    let vs ← fn.results.mapM (resSem tmps)
    pure (if h : vs.size = 1 then vs[0] else .tuple vs)) := by
  unfold results
  congr 1

theorem results_run {fn : Func} {a : Act} {vs : List Value} (h : (fn.results.toList.mapM (resSem a.tmps)).run P w = .ok vs w) :
    (results fn a.tmps).run P w = .ok (if h : vs.toArray.size = 1 then vs.toArray[0] else .tuple vs.toArray) w := by
  have e2 : (fn.results.mapM (resSem a.tmps)).run P w = .ok vs.toArray w := by
    rw [Array.mapM_eq_mapM_toList]; simp [h]
  rw [results_eq, Sem.run_bind, e2]
  rfl

def oneAV (avs : List AV) : AV := match avs with | [v] => v | vs => .tup vs

theorem finish_inv {ann : FAnn} {m : Nat} {rs : List ResultVar} {r : AV} {st' : List AObj} (hf : finish T ann m rs σ = some (r, st')) :
    ∃ avs, resultsAV T σ rs = some avs ∧ ((St.weaks { tmps := [oneAV avs], st := σ.st, moved := σ.moved } ann.post).canon m).tmps = [r] ∧
      ((St.weaks { tmps := [oneAV avs], st := σ.st, moved := σ.moved } ann.post).canon m).st = st' ∧
      ann.res.ok r = true ∧ OS.okL ann.objs st' = true ∧ m ≤ st'.length ∧
      ∀ i ∈ ((St.weaks { tmps := [oneAV avs], st := σ.st, moved := σ.moved } ann.post).canon m).moved, i < m → i ∈ ann.mvs := by
  have key : ∀ avs : List AV, ∀ σ2 : St, (match σ2.tmps with
      | [r] => bif ann.res.ok r && (OS.okL ann.objs σ2.st && (Nat.ble m σ2.st.length && σ2.moved.all fun i => Nat.ble m i || ann.mvs.elem i)) then some (r, σ2.st) else none
      | _ => none) = some (r, st') → σ2.tmps = [r] ∧ σ2.st = st' ∧ ann.res.ok r = true ∧ OS.okL ann.objs st' = true ∧ m ≤ st'.length ∧ ∀ i ∈ σ2.moved, i < m → i ∈ ann.mvs := fun avs σ2 h => by
    split at h
    · rename_i r2 htm
      simp only [cond_eq_ite] at h
      split at h
      · rename_i hcond
        cases h
        simp only [Bool.and_eq_true, Nat.ble_eq] at hcond
        obtain ⟨c1, c2, c3, c4⟩ := hcond
        exact ⟨htm, rfl, c1, c2, c3, fun i hi hm => by have := List.all_eq_true.1 c4 i hi; simp only [Bool.or_eq_true, Nat.ble_eq] at this; rcases this with h | h; omega; simpa using h⟩
      · cases h
    · cases h
  unfold finish at hf
  cases hres : resultsAV T σ rs with
  | none => rw [hres] at hf; cases hf
  | some avs =>
    rw [hres] at hf
    refine ⟨avs, rfl, ?_⟩
    rcases avs with _ | ⟨x, _ | ⟨y, ys⟩⟩
    · exact key [] _ hf
    · exact key [] _ hf
    · exact key [] _ hf

/-- what a function hands back, wherever its end stands for an activation -/
theorem finish_ok (hT : TabOk P T) {B : Base} {ann : FAnn} {fn : Func} {r : AV} {st' : List AObj} {a : Act} (hf : finish T ann B.m fn.results.toList σ = some (r, st')) (hA : At T B σ a w) :
    a.defers = B.D ∧ (∃ v, (results fn a.tmps).run P w = .ok v w ∧ ∃ E' Z', SR T E' Z' w st' ∧ VR T E' Z' w r v ∧ Ext B.O0 B.Z0 B.w0 (Owned E' st') Z' w ∧ (∀ i, i < B.m → i ∉ ann.mvs → E'.ρ i = B.E0.ρ i ∧ E'.sz i = B.E0.sz i)) ∧
      ann.res.ok r = true ∧ OS.okL ann.objs st' = true ∧ B.m ≤ st'.length := by
  obtain ⟨hd, E, Z, h, hX, hK, hl⟩ := hA
  obtain ⟨avs, hres, htm, hst, c1, c2, c3, c4⟩ := finish_inv hf
  obtain ⟨vs, hvs, hvr⟩ := resultsAV_ok hT h hres
  have hrun := results_run hvs
  -- the one result, or the tuple of all
  have hr1 : VR T E Z w (oneAV avs) (if h : vs.toArray.size = 1 then vs.toArray[0] else .tuple vs.toArray) := by
    obtain ⟨hlen, hrr⟩ := hvr
    rcases avs with _ | ⟨x, _ | ⟨y, ys⟩⟩ <;> rcases vs with _ | ⟨v, _ | ⟨u, us⟩⟩ <;> first | (simp at hlen; done) | skip
    · exact .tup [] [] rfl hrr
    · simpa [oneAV] using hrr 0 x v rfl rfl
    · have hn : ¬ (v :: u :: us).toArray.size = 1 := by simp
      rw [dif_neg hn]
      exact .tup _ _ hlen hrr
  generalize oneAV avs = av at *
  generalize (if h : vs.toArray.size = 1 then vs.toArray[0] else .tuple vs.toArray) = v at hrun hr1
  have hA1 : StR T E Z w { tmps := [av], st := σ.st, moved := σ.moved } [v] := ⟨h.sr, rfl, fun j x u hj hu => by
    cases j <;> simp at hj hu
    subst hj; subst hu; exact hr1⟩
  obtain ⟨E1, Z1, k1, k2, k3, k4, k5⟩ := weaks_ok ann.post hA1
  have hK1 := WkRes.kp (σ := { tmps := [av], st := σ.st, moved := σ.moved }) hK hl k3 k4
  obtain ⟨E2, m1, m2, m3, m4⟩ := k1.canon B.m hK1
  generalize (St.weaks { tmps := [av], st := σ.st, moved := σ.moved } ann.post).canon B.m = σ2 at *
  subst hst
  refine ⟨hd, ⟨v, hrun, E2, Z1, m1.sr, ?_, (hX.trans k2).trans m2, fun i hi hn => m3 i hi fun hmv => hn (c4 i hmv hi)⟩, c1, c2, c3⟩
  exact m1.tm.2 0 r v (by rw [htm]; rfl) rfl

theorem loopGo_ends {weak : St → St} {body : St → (Out → Option Res) → Option Res} {K : Out → Option Res} {res : Res} (hb : ∀ σ K', body σ K' = some res → ∃ o, K' o = some res) :
    ∀ (n : Nat) (σ : St), loopGo weak body K n σ = some res → ∃ o, K o = some res
  | 0, σ, h => by cases h
  | n + 1, σ, h => by
    simp only [loopGo] at h
    obtain ⟨o, ho⟩ := hb _ _ h
    cases o with
    | norm σ' => exact loopGo_ends hb n _ ho
    | exit id σ' => exact ⟨_, ho⟩
    | ret σ' => exact ⟨_, ho⟩

theorem evDyn_ends {C : Ctx} {ops : Array Oper} {rid : Nat} {pairs : List (Nat × Nat)} {K : St → Option Res} {res : Res} : ∀ (segs : List Nat) (os : List Oper) (i : Nat) (σ : St),
    evDyn C ops rid pairs segs os i σ K = some res → ∃ σ', K σ' = some res
  | [], [], i, σ, h => ⟨σ, h⟩
  | [], _ :: _, i, σ, h => by simp [evDyn] at h
  | n :: segs, os, i, σ, h => by
    unfold evDyn at h
    cases hn : Nat.beq n 1 with
    | true =>
      rw [hn] at h
      simp only [cond_true] at h
      obtain ⟨S, _, _, hK⟩ := evOps_states _ _ _ h
      exact evDyn_ends segs _ _ _ hK
    | false =>
      rw [hn] at h
      simp only [cond_false] at h
      obtain ⟨S, F, _, _, hK⟩ := evSeg_states _ _ _ _ _ h
      simp only [cond_eq_ite] at hK
      split at hK
      · rw [forceSt_eq] at hK
        exact evDyn_ends segs _ _ _ hK
      · cases hK

/-- an evaluation that comes to something comes to an end of the code -/
theorem evC_ends {C : Ctx} {res : Res} : ∀ (c : Code) (blk : Nat) (σ : St) (K : Out → Option Res), evC C blk c σ K = some res → ∃ o, K o = some res
  | .skip, blk, σ, K, h => ⟨_, h⟩
  | .ret, blk, σ, K, h => ⟨_, h⟩
  | .exit id, blk, σ, K, h => ⟨_, h⟩
  | .label l, blk, σ, K, h => ⟨_, h⟩
  | .seq x y, blk, σ, K, h => by
    simp only [evC] at h
    obtain ⟨o, ho⟩ := evC_ends x blk σ _ h
    cases o with
    | norm σ' => exact evC_ends y blk σ' K ho
    | exit id σ' => exact ⟨_, ho⟩
    | ret σ' => exact ⟨_, ho⟩
  | .cond c x y, blk, σ, K, h => by
    simp only [evC] at h
    split at h
    · rename_i t _
      cases t with
      | true => exact evC_ends x blk σ K h
      | false => exact evC_ends y blk σ K h
    · cases h
  | .block id c, blk, σ, K, h => by
    simp only [evC] at h
    obtain ⟨o, ho⟩ := evC_ends c id σ _ h
    cases o with
    | norm σ' => exact ⟨_, ho⟩
    | exit j σ' =>
      simp only at ho
      cases hj : Nat.beq j id with
      | true => rw [hj] at ho; exact ⟨_, ho⟩
      | false => rw [hj] at ho; exact ⟨_, ho⟩
    | ret σ' => exact ⟨_, ho⟩
  | .loop c, blk, σ, K, h => by
    simp only [evC] at h
    exact loopGo_ends (fun σ K' h => evC_ends c blk σ K' h) _ _ h
  | .region id ops d, blk, σ, K, h => by
    simp only [evC, forceSt_eq] at h
    split at h
    · obtain ⟨σ', hK⟩ := evDyn_ends _ _ _ _ h
      exact ⟨_, hK⟩
    · obtain ⟨S, _, _, hK⟩ := evOps_states _ _ _ h
      exact ⟨_, hK⟩
  | .rangeFunc _ _ _ _, blk, σ, K, h => by simp [evC] at h
  | .scope _, blk, σ, K, h => by simp [evC] at h
  | .goto _, blk, σ, K, h => by simp [evC] at h
  | .refuse _, blk, σ, K, h => by simp [evC] at h

theorem evB_ends {C : Ctx} {res : Res} : ∀ (c : Code) (σ : St) (D : Option (FuncId × Nat)) (K : Out → Option (FuncId × Nat) → Option Res), evB C c σ D K = some res → ∃ o D', K o D' = some res
  | .seq x y, σ, D, K, h => by
    simp only [evB] at h
    obtain ⟨o, D', ho⟩ := evB_ends x σ D _ h
    cases o with
    | norm σ' => exact evB_ends y σ' D' K ho
    | exit id σ' => exact ⟨_, _, ho⟩
    | ret σ' => exact ⟨_, _, ho⟩
  | .region id ops dr, σ, D, K, h => by
    simp only [evB] at h
    cases hd : C.ann.dfr.elem id with
    | false =>
      rw [hd] at h
      obtain ⟨o, ho⟩ := evC_ends _ _ _ _ h
      exact ⟨o, D, ho⟩
    | true =>
      rw [hd] at h
      simp only [cond_true] at h
      split at h
      · rw [forceSt_eq] at h
        obtain ⟨S, _, _, hK⟩ := evOps_states _ _ _ h
        split at hK
        · exact ⟨_, _, hK⟩
        · cases hK
      · cases h
  | .skip, σ, D, K, h => let ⟨o, ho⟩ := evC_ends _ _ _ _ (by simpa only [evB] using h); ⟨o, D, ho⟩
  | .ret, σ, D, K, h => let ⟨o, ho⟩ := evC_ends _ _ _ _ (by simpa only [evB] using h); ⟨o, D, ho⟩
  | .exit id, σ, D, K, h => let ⟨o, ho⟩ := evC_ends _ _ _ _ (by simpa only [evB] using h); ⟨o, D, ho⟩
  | .label l, σ, D, K, h => let ⟨o, ho⟩ := evC_ends _ _ _ _ (by simpa only [evB] using h); ⟨o, D, ho⟩
  | .cond c x y, σ, D, K, h => let ⟨o, ho⟩ := evC_ends _ _ _ _ (by simpa only [evB] using h); ⟨o, D, ho⟩
  | .block id c, σ, D, K, h => let ⟨o, ho⟩ := evC_ends _ _ _ _ (by simpa only [evB] using h); ⟨o, D, ho⟩
  | .loop c, σ, D, K, h => let ⟨o, ho⟩ := evC_ends _ _ _ _ (by simpa only [evB] using h); ⟨o, D, ho⟩
  | .rangeFunc _ _ _ _, σ, D, K, h => let ⟨o, ho⟩ := evC_ends _ _ _ _ (by simpa only [evB] using h); ⟨o, D, ho⟩
  | .scope _, σ, D, K, h => let ⟨o, ho⟩ := evC_ends _ _ _ _ (by simpa only [evB] using h); ⟨o, D, ho⟩
  | .goto _, σ, D, K, h => let ⟨o, ho⟩ := evC_ends _ _ _ _ (by simpa only [evB] using h); ⟨o, D, ho⟩
  | .refuse _, σ, D, K, h => let ⟨o, ho⟩ := evC_ends _ _ _ _ (by simpa only [evB] using h); ⟨o, D, ho⟩

/-- what is asked of a system of functions -/
structure SysOk (P : Program) (S : FSys) : Prop where
  mixed : P.follows .mixedOrders = true
  tab : TabOk P S.T
  body : ∀ f fn, S.body f = some fn → P.funcs[f]? = some fn ∧ (fn.name == "runtime.NumGoroutine") = false ∧
    ∀ c, fn.body = some c → codeOk (fun g => ((S.ann g).res, (S.ann g).objs, (S.ann g).mvs)) (S.ann f) c = true
  prim : ∀ f args st r st', S.prim f args st = some (some (true, r, st')) → CF P S.T f args st (S.ann f).mvs r st' ∧ (S.ann f).res.ok r = true ∧ OS.okL (S.ann f).objs st' = true ∧ st.length ≤ st'.length
  harm : ∀ g n, S.harm g n = true → Harm P g n := by intro g n h; cases h

/-- **The evaluator is right.** -/
theorem ev_ok {S : FSys} (hS : SysOk P S) : ∀ (k : Nat) (f : FuncId) (args : List AV) (st : List AObj) (r : AV) (st' : List AObj), ev S k f args st = some (r, st') →
    CF P S.T f args st (S.ann f).mvs r st' ∧ (S.ann f).res.ok r = true ∧ OS.okL (S.ann f).objs st' = true ∧ st.length ≤ st'.length
  | 0, f, args, st, r, st', h => by cases h
  | k + 1, f, args, st, r, st', h => by
    simp only [ev] at h
    split at h
    · rename_i c x hp
      cases c with
      | false => simp [under] at h
      | true =>
        simp only [under, cond_true, Option.some.injEq] at h
        subst h
        exact hS.prim f args st r st' hp
    · cases h
    · rename_i hp
      split at h
      · cases h
      · rename_i fn hb
        split at h
        · cases h
        · rename_i c hc
          obtain ⟨hfn, hnm, hcode⟩ := hS.body f fn hb
          have hC : CallOk P { T := S.T, ann := S.ann f, m := st.length, fuel := k, call := callOf S (ev S k), sig := fun g => ((S.ann g).res, (S.ann g).objs, (S.ann g).mvs) } :=
            fun g args st r st' h => by
              simp only [callOf] at h
              split at h
              · rename_i x hx
                exact hS.prim g args st r st' (by rw [hx, h])
              · split at h
                · rename_i x hx
                  cases h
                  exact ev_ok hS k g args st r st' hx
                · cases h
          have hrep : ∀ (E : Env) (Z : Nat → Prop) (w : World) (vals : List Value), SR S.T E Z w st → VRs S.T E Z w args vals →
              StR S.T E Z w { tmps := args ++ List.replicate (fn.ntmps - args.length) (.k undef), st := st } (vals.toArray ++ Array.replicate (fn.ntmps - vals.toArray.size) undef).toList := fun E Z w vals hsr hv => by
            refine ⟨hsr, ?_⟩
            have hrep : VRs S.T E Z w (List.replicate (fn.ntmps - args.length) (AV.k undef)) (List.replicate (fn.ntmps - args.length) undef) := ⟨by simp, fun j av v hj hv => by
              rw [List.getElem?_replicate] at hj hv
              split at hj
              · rw [if_pos (by assumption)] at hv; cases hj; cases hv; exact .ku
              · cases hj⟩
            have := hv.append hrep
            simpa [hv.1] using this
          have hnm' : ¬ fn.name = "runtime.NumGoroutine" := by simpa using hnm
          cases hdf : (S.ann f).dfr.isEmpty with
          | true =>
            rw [hdf] at h
            simp only [cond_true] at h
            have fin : ∀ (B : Base), B.m = st.length → ∀ a w, QK S.T B (fun
              | .norm σ => finish S.T (S.ann f) st.length fn.results.toList σ
              | .ret σ => finish S.T (S.ann f) st.length fn.results.toList σ
              | _ => none) (r, st') .normal a w ∨ QK S.T B (fun
              | .norm σ => finish S.T (S.ann f) st.length fn.results.toList σ
              | .ret σ => finish S.T (S.ann f) st.length fn.results.toList σ
              | _ => none) (r, st') .ret a w → ∃ σ, finish S.T (S.ann f) st.length fn.results.toList σ = some (r, st') ∧ At S.T B σ a w := fun B hm a w hq => by
                rcases hq with ⟨σ, h1, h2⟩ | ⟨σ, h1, h2⟩
                · exact ⟨σ, h1, h2⟩
                · exact ⟨σ, h1, h2⟩
            have walk : ∀ (E : Env) (Z : Nat → Prop) (w : World) (vals : List Value), SR S.T E Z w st → VRs S.T E Z w args vals →
                c.wp P (QK S.T { E0 := E, O0 := Owned E st, Z0 := Z, w0 := w, m := st.length } (fun
                  | .norm σ => finish S.T (S.ann f) st.length fn.results.toList σ
                  | .ret σ => finish S.T (S.ann f) st.length fn.results.toList σ
                  | _ => none) (r, st')) { tmps := vals.toArray ++ Array.replicate (fn.ntmps - vals.toArray.size) undef, defers := [] } w := fun E Z w vals hsr hv => by
              refine evC_ok (B := { E0 := E, O0 := Owned E st, Z0 := Z, w0 := w, m := st.length }) hS.mixed hS.tab hC rfl c 0 _ _ _ w (hcode c hc) h ⟨rfl, E, Z, ⟨hsr, ?_⟩, Ext.refl _ _ _, fun i _ _ => ⟨rfl, rfl⟩, Nat.le_refl _⟩
              have hrep : VRs S.T E Z w (List.replicate (fn.ntmps - args.length) (AV.k undef)) (List.replicate (fn.ntmps - args.length) undef) := ⟨by simp, fun j av v hj hv => by
                rw [List.getElem?_replicate] at hj hv
                split at hj
                · rw [if_pos (by assumption)] at hv; cases hj; cases hv; exact .ku
                · cases hj⟩
              have := hv.append hrep
              simpa [hv.1] using this
            refine ⟨fun E Z w vals hsr hv => .inl ⟨?_, ?_⟩, ?_⟩
            · have hnm' : ¬ fn.name = "runtime.NumGoroutine" := by simpa using hnm
              simp [callFunc, hfn, hnm', hc]
            · refine calls_of_wp hfn hc (wp_mono (walk E Z w vals hsr hv) fun e a w' hq => ?_)
              cases e with
              | normal =>
                obtain ⟨σ, h1, h2⟩ := fin _ rfl a w' (.inl hq)
                obtain ⟨hd, ⟨v, hrun, E', Z', p1, p2, p3, p4⟩, q1, q2, q3⟩ := finish_ok hS.tab h1 h2
                exact ⟨hd, v, hrun, v, rfl, E', Z', p1, p2, p3, q3, p4⟩
              | ret =>
                obtain ⟨σ, h1, h2⟩ := fin _ rfl a w' (.inr hq)
                obtain ⟨hd, ⟨v, hrun, E', Z', p1, p2, p3, p4⟩, q1, q2, q3⟩ := finish_ok hS.tab h1 h2
                exact ⟨hd, v, hrun, v, rfl, E', Z', p1, p2, p3, q3, p4⟩
              | exit id =>
                obtain ⟨σ, h1, _⟩ := hq
                cases h1
              | goto l => exact hq.elim
              | panic ch => exact hq.elim
              | outgrown => exact hq.elim
            · obtain ⟨o, ho⟩ := evC_ends _ _ _ _ h
              cases o with
              | norm σ => obtain ⟨_, _, _, _, c1, c2, c3, _⟩ := finish_inv ho; exact ⟨c1, c2, c3⟩
              | ret σ => obtain ⟨_, _, _, _, c1, c2, c3, _⟩ := finish_inv ho; exact ⟨c1, c2, c3⟩
              | exit id σ => cases ho

          | false =>
            rw [hdf] at h
            simp only [cond_false] at h
            have fin : ∀ (B : Base), B.m = st.length → ∀ (a : Act) (w : World) (σ : St) (D : Option (FuncId × Nat)) (o : Out), (o = .norm σ ∨ o = .ret σ) → (bif S.okD D then
                (match o with
                | .norm σ => finish S.T (S.ann f) st.length fn.results.toList σ
                | .ret σ => finish S.T (S.ann f) st.length fn.results.toList σ
                | _ => none)
              else none) = some (r, st') → AtD S.T B D σ a w → (∀ g n, D = some (g, n) → Harm P g n) ∧ DefR D a.defers ∧
                ∃ v, (results fn a.tmps).run P w = .ok v w ∧ ∃ E' Z', SR S.T E' Z' w st' ∧ VR S.T E' Z' w r v ∧ Ext B.O0 B.Z0 B.w0 (Owned E' st') Z' w ∧ (∀ i, i < B.m → i ∉ (S.ann f).mvs → E'.ρ i = B.E0.ρ i ∧ E'.sz i = B.E0.sz i) := fun B hm a w σ D o ho hK ⟨ds, hds, hA⟩ => by
              have hharm : S.okD D = true ∧ finish S.T (S.ann f) st.length fn.results.toList σ = some (r, st') := by
                cases hb : S.okD D with
                | false => rw [hb] at hK; cases hK
                | true =>
                  rw [hb] at hK
                  rcases ho with rfl | rfl <;> exact ⟨rfl, hK⟩
              obtain ⟨k1, k2⟩ := hharm
              obtain ⟨hd, hv, _⟩ := finish_ok (B := { B with D := ds }) hS.tab (by rw [show ({ B with D := ds } : Base).m = st.length from hm]; exact k2) hA
              refine ⟨fun g n hg => ?_, ?_, hv⟩
              · subst hg
                exact hS.harm g n k1
              · have hd' : a.defers = ds := hd
                rw [hd']; exact hds
            have hlen : st.length ≤ st'.length := by
              obtain ⟨o, D, ho⟩ := evB_ends _ _ _ _ h
              cases hb : S.okD D <;> rw [hb] at ho
              · cases ho
              · cases o with
                | norm σ => obtain ⟨_, _, _, _, c1, c2, c3, _⟩ := finish_inv ho; exact c3
                | ret σ => obtain ⟨_, _, _, _, c1, c2, c3, _⟩ := finish_inv ho; exact c3
                | exit id σ => cases ho
            refine ⟨fun E Z w vals hsr hv => .inl ⟨?_, ?_⟩, ?_⟩
            · simp [callFunc, hfn, hnm', hc]
            · refine calls_of_wp_defers hfn hc (wp_mono (evB_ok (B := { E0 := E, O0 := Owned E st, Z0 := Z, w0 := w, m := st.length }) hS.mixed hS.tab hC rfl c _ none _ _ w (hcode c hc) h ⟨[], rfl, rfl, E, Z, hrep E Z w vals hsr hv, Ext.refl _ _ _, fun i _ _ => ⟨rfl, rfl⟩, Nat.le_refl _⟩) fun e a w' hq => ?_)
              cases e with
              | normal =>
                obtain ⟨σ, D, hK, hA⟩ := hq
                obtain ⟨p1, p2, v, hrun, E', Z', q1, q2, q3, q4⟩ := fin _ rfl a w' σ D _ (.inl rfl) hK hA
                exact leaves_ok p1 p2 hrun ⟨v, rfl, E', Z', q1, q2, q3, hlen, q4⟩
              | ret =>
                obtain ⟨σ, D, hK, hA⟩ := hq
                obtain ⟨p1, p2, v, hrun, E', Z', q1, q2, q3, q4⟩ := fin _ rfl a w' σ D _ (.inr rfl) hK hA
                exact leaves_ok p1 p2 hrun ⟨v, rfl, E', Z', q1, q2, q3, hlen, q4⟩
              | exit id =>
                obtain ⟨σ, D, hK, _⟩ := hq
                simp only at hK
                cases hb : S.okD D <;> rw [hb] at hK <;> cases hK
              | goto l => exact hq.elim
              | panic ch => exact hq.elim
              | outgrown => exact hq.elim
            · obtain ⟨o, D, ho⟩ := evB_ends _ _ _ _ h
              cases hb : S.okD D <;> rw [hb] at ho
              · cases ho
              · cases o with
                | norm σ => obtain ⟨_, _, _, _, c1, c2, c3, _⟩ := finish_inv ho; exact ⟨c1, c2, c3⟩
                | ret σ => obtain ⟨_, _, _, _, c1, c2, c3, _⟩ := finish_inv ho; exact ⟨c1, c2, c3⟩
                | exit id σ => cases ho
end
end Go.Fw
