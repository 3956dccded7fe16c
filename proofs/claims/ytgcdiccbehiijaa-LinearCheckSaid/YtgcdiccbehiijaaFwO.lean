/- The framework, part O: all operations together. -/
import Derived.Test.YtgcdiccbehiijaaFwNa
set_option linter.all false
set_option linter.unusedSimpArgs false
set_option linter.unusedVariables false
namespace Go.Fw
section
variable {P : Program} {T : Tab} {E : Env} {Z : Nat → Prop} {w w' : World} {σ σ' : St} {vals : List Value}
def Done (P : Program) (T : Tab) (E : Env) (Z : Nat → Prop) (w : World) (vals : List Value) (σ : St) (s : Sem Next) (σ' : St) (av : AV) : Prop :=
  ∃ E' Z' w' v n, s.run P w = .ok n w' ∧ (n = .value v ∨ (n = .skip ∧ v = Go.undef)) ∧ StR T E' Z' w' σ' vals ∧ VR T E' Z' w' av v ∧ Ext (Owned E σ.st) Z w (Owned E' σ'.st) Z' w' ∧ Mv σ E σ' E'
theorem Done.of {s : Sem Value} {n : Sem Next} {av : AV} (h : OpRes P T E Z w vals σ s σ' av) (hn : n = (do Pure.pure (.value (← s)))) : Done P T E Z w vals σ n σ' av := by
  obtain ⟨E', Z', w', v, hr, h1, h2, h3⟩ := h
  subst hn
  exact ⟨E', Z', w', v, .value v, by simp [hr], .inl rfl, h1, h2, h3⟩
theorem Done.pure (h : StR T E Z w σ vals) {s : Sem Value} {n : Sem Next} {av : AV} (hs : ∃ v, s.run P w = .ok v w ∧ VR T E Z w av v) (hn : n = (do Pure.pure (.value (← s)))) : Done P T E Z w vals σ n σ av :=
  Done.of (OpRes.pure h hs) hn
theorem OV_map {a : Act} (h : VRs T E Z w σ.tmps a.tmps.toList) (o : Option Operand) : OV T E Z w (o.map σ.eval) (o.map a.eval) := by
  cases o with
  | none => exact .none
  | some x => exact .some _ _ (eval_ok h x)
theorem acap_ok (hT : TabOk P T) (hs : SR T E Z w σ.st) {t ty : Nat} {x av : AV} {vx : Value} (hx : VR T E Z w x vx) (h : acap T σ t x = some av) :
    ∃ v, (Builtin.cap_ #[t] ty #[vx]).run P w = .ok v w ∧ VR T E Z w av v := by
  unfold acap at h
  split at h
  · rename_i e cells bytes hti
    obtain ⟨i, d, z, hto⟩ := hT _ _ hti
    have := dOk_sl hto.desc
    subst this
    have key : ∀ (A : Option Addr) (n c : Nat), (Builtin.cap_ #[t] ty #[.slice A n c]).run P w = .ok (.int .i64 (c : Int)) w := fun A n c => by simp [Builtin.cap_, run_und hto.und, goInt]
    split at h
    · split at h
      · rename_i u rows hst
        cases h
        have hor := hs.obj _ _ (getD_some hst (by simp))
        cases hx with
        | sr _ A n c hE =>
          have : c = rows.length := by
            cases hor with
            | arr0 _ _ A he hn hk hsz => rw [hE] at he; cases he; rfl
            | arr _ _ _ B o c' vs' ty' hn he hc h0 hf hsz hb ho hok hr => rw [hE] at he; cases he; exact hf.1 (.inl rfl)
          subst this
          exact ⟨_, key _ _ _, .k _ rfl⟩
      · cases h
    · split at h
      · rename_i u rows hst
        cases h
        have hor := hs.obj _ _ (getD_some hst (by simp))
        cases hx with
        | ss _ _ _ A A' len c hE hb hA =>
          have : c = rows.length := by
            cases hor with
            | arr0 _ _ A he hn hk hsz => rw [hE] at he; cases he; rfl
            | arr _ _ _ B o c' vs' ty' hn he hc h0 hf hsz hb ho hok hr => rw [hE] at he; cases he; exact hf.1 (.inl rfl)
          subst this
          exact ⟨_, key _ _ _, .k _ rfl⟩
      · cases h
    · cases h
  · cases h
theorem alen_ok (hT : TabOk P T) (hs : SR T E Z w σ.st) {t ty : Nat} {x av : AV} {vx : Value} (hx : VR T E Z w x vx) (h : alen T σ t x = some av) :
    ∃ v, (Builtin.len_ #[t] ty #[vx]).run P w = .ok v w ∧ VR T E Z w av v := by
  unfold alen at h
  split at h
  · rename_i cells bytes hti
    obtain ⟨i, d, z, hto⟩ := hT _ _ hti
    have := dOk_str hto.desc
    subst this
    split at h
    · cases VR_str hx; cases h
      exact ⟨_, by simp [Builtin.len_, run_und hto.und]; rfl, .k _ rfl⟩
    · cases h
  · rename_i e cells bytes hti
    obtain ⟨i, d, z, hto⟩ := hT _ _ hti
    have := dOk_sl hto.desc
    subst this
    have key : ∀ (A : Option Addr) (n c : Nat), (Builtin.len_ #[t] ty #[.slice A n c]).run P w = .ok (.int .i64 (n : Int)) w := fun A n c => by simp [Builtin.len_, run_und hto.und, goInt]
    split at h
    · cases h
      cases hx with
      | slnil _ _ hk => exact ⟨_, key _ _ _, .k _ rfl⟩
      | sl _ _ _ A c cv hn hf hc hsp hz hok hcell hrep => exact ⟨_, key _ _ _, .k _ rfl⟩
    · split at h
      · rename_i u kd rows hst
        cases h
        have hor := hs.obj _ _ (getD_some hst (by simp))
        cases hx with
        | sr _ A n c hE =>
          have : n = rows.length := by
            cases hor with
            | arr0 _ _ A he hn hk hsz => rw [hE] at he; cases he; rfl
            | arr _ _ _ B o c' vs' ty' hn he hc h0 hf hsz hb ho hok hr => rw [hE] at he; cases he; rfl
          subst this
          exact ⟨_, key _ _ _, .k _ rfl⟩
      · rename_i u rows hst
        cases h
        have hor := hs.obj _ _ (getD_some hst (by simp))
        cases hx with
        | sr _ A n c hE =>
          have : n = rows.length := by
            cases hor with
            | arx _ _ B o c' vs' ty' he hc h0 hsz hb ho hlen hr => rw [hE] at he; cases he; rfl
          subst this
          exact ⟨_, key _ _ _, .k _ rfl⟩
      · cases h
    · cases h
      cases hx with
      | ss _ a n A A' len c hE hb hA => exact ⟨_, key _ _ _, .k _ rfl⟩
    · cases h
  · rename_i kt et cells bytes hti
    have hund := und_map hT hti
    split at h
    · cases h
      cases hx with
      | k _ _ => exact ⟨_, by simp [Builtin.len_, run_und hund]; rfl, .k _ rfl⟩
    · split at h
      · rename_i x t' es hst
        cases h
        have hor := hs.obj _ _ (getD_some hst (by simp))
        cases hx with
        | mp _ r hr =>
        cases hor with
        | mpo _ _ kt' et' _ r' clock ns he hb ht hl hall =>
          rw [hr] at he
          simp only [Option.some.injEq, Value.map.injEq] at he
          subst he
          refine ⟨_, by simp [Builtin.len_, run_und hund, MapKept.run_getObj_map hb]; rfl, ?_⟩
          rw [hl]
          exact .k _ rfl
      · cases h
    · cases h
  · cases h
theorem args2 {a : Act} {xs : Array Operand} {p q : AV} (h : VRs T E Z w σ.tmps a.tmps.toList) (hx : xs.toList.map σ.eval = [p, q]) :
    ∃ v u, xs.map a.eval = #[v, u] ∧ VR T E Z w p v ∧ VR T E Z w q u := by
  obtain ⟨l⟩ := xs
  match l, hx with
  | [x, y], hx =>
    simp at hx
    obtain ⟨rfl, rfl⟩ := hx
    exact ⟨_, _, by simp, eval_ok h x, eval_ok h y⟩
theorem args1 {a : Act} {xs : Array Operand} {p : AV} (h : VRs T E Z w σ.tmps a.tmps.toList) (hx : xs.toList.map σ.eval = [p]) :
    ∃ v, xs.map a.eval = #[v] ∧ VR T E Z w p v := by
  obtain ⟨l⟩ := xs
  match l, hx with
  | [x], hx =>
    simp at hx
    subst hx
    exact ⟨_, by simp, eval_ok h x⟩
theorem toList_eq {l : List Nat} {xs : Array Nat} (h : xs.toList = l) : xs = l.toArray := by rw [← h]
theorem aminmax_ok {a : Act} {xs : Array Operand} {isMax : Bool} {av : AV} (h : VRs T E Z w σ.tmps a.tmps.toList) (hs : aminmax isMax (xs.toList.map σ.eval) = some av) (ts : Array TypeId) (ty : TypeId) :
    ∃ v, ((if isMax = true then Builtin.max_ ts ty (xs.map a.eval) else Builtin.min_ ts ty (xs.map a.eval))).run P w = .ok v w ∧ VR T E Z w av v := by
  unfold aminmax at hs
  split at hs
  · rename_i k p k' q heq
    obtain ⟨v, u, hvu, hv, hu⟩ := args2 h heq
    cases VR_int hv; cases VR_int hu
    cases hk : decide (k = k') with
    | false => rw [hk] at hs; cases hs
    | true =>
      rw [hk] at hs
      cases hs
      rw [hvu]
      refine ⟨_, ?_, .k _ rfl⟩
      cases isMax <;> simp [Builtin.max_, Builtin.min_, Builtin.max2, Builtin.min2]
  · cases hs
theorem astore_moved {t : Nat} {v x : AV} (h : astore T σ t v x = some σ') : σ'.moved = σ.moved := by
  unfold astore at h
  simp only [cond_eq_ite] at h
  repeat' split at h
  all_goals first
    | (cases h; done)
    | (cases h; rfl)
theorem aeq_undef (t : Nat) (y : AV) : aeq T σ t .undef y = none ∧ aeq T σ t y .undef = none := by
  unfold aeq
  cases hT : T t with
  | none => exact ⟨rfl, rfl⟩
  | some ti =>
    obtain ⟨d, cs, bb⟩ := ti
    constructor
    · cases d <;> simp [eqT, hT, isNilConst, isNil, Ab.ok]
      all_goals first | (cases TI.eqable _ <;> rfl) | (split <;> rfl) | skip
      all_goals (cases isNilConst _ y <;> rfl)
    · cases d <;> simp [eqT, hT, isNilConst, isNil, Ab.ok]
      all_goals first | (cases TI.eqable _ <;> rfl) | (split <;> rfl) | skip
      all_goals (cases isNilConst _ y <;> rfl)
set_option maxHeartbeats 2000000 in
theorem aop_ok (hT : TabOk P T) {a : Act} (h : StR T E Z w σ a.tmps.toList) (o : Oper) {av : AV} (hs : aop T σ o.op = some (true, σ', av)) :
    Done P T E Z w a.tmps.toList σ (execOp a.eval o) σ' av := by
  obtain ⟨dst, op, type, pos, after, guard⟩ := o
  have he : ∀ x, VR T E Z w (σ.eval x) (a.eval x) := fun x => eval_ok h.tm x
  have V : ∀ {r : Option AV} {s : Sem Value} {n : Sem Next}, (match r with | some x => (some (true, σ, x) : Ab (St × AV)) | none => none) = some (true, σ', av) → (∀ x, r = some x → ∃ v, s.run P w = .ok v w ∧ VR T E Z w x v) →
      n = (do Pure.pure (.value (← s))) → Done P T E Z w a.tmps.toList σ n σ' av := fun {r s n} hr hx hn => by
    cases r with
    | none => cases hr
    | some x => cases hr; exact Done.pure h (hx _ rfl) hn
  have W : ∀ {r : Ab AV} {s : Sem Value} {n : Sem Next}, (match r with | some (c, x) => (some (c, σ, x) : Ab (St × AV)) | none => none) = some (true, σ', av) → (∀ x, r = some (true, x) → ∃ v, s.run P w = .ok v w ∧ VR T E Z w x v) →
      n = (do Pure.pure (.value (← s))) → Done P T E Z w a.tmps.toList σ n σ' av := fun {r s n} hr hx hn => by
    cases r with
    | none => cases hr
    | some x => obtain ⟨c, x⟩ := x; cases hr; exact Done.pure h (hx _ rfl) hn
  cases op with
  | move x => cases hs; exact Done.pure h (s := Pure.pure (a.eval x)) ⟨_, rfl, he x⟩ rfl
  | assign x => cases hs; exact Done.pure h (s := Pure.pure (a.eval x)) ⟨_, rfl, he x⟩ rfl
  | pick c x y =>
    simp only [aop] at hs
    split at hs
    · rename_i cb hc
      cases hs
      have hcv := he c
      rw [hc] at hcv
      have hcv := VR_bool hcv
      refine Done.pure h (s := Pure.pure (if cb then a.eval x else a.eval y)) ⟨_, rfl, pickAV_ok (he x) (he y)⟩ ?_
      simp only [execOp, hcv, asBool]
      rfl
    · cases hs
  | alloc t =>
    simp only [aop] at hs
    split at hs
    · rename_i ti hti
      cases hs
      exact Done.of (aalloc_ok hT h hti) rfl
    · cases hs
  | box t x =>
    simp only [aop] at hs
    split at hs
    · rename_i ti hti
      cases hc : (Nat.beq (σ.eval x).cells.length ti.cells.length && (σ.eval x).cells.all isCell) with
      | false => rw [hc] at hs; cases hs
      | true =>
        rw [hc] at hs
        cases hs
        simp only [Bool.and_eq_true] at hc
        exact Done.of (abox_ok h (he x) hc.2) rfl
    · cases hs
  | build t parts => exact V hs (fun x hx => abuild_ok hT h.tm hx) rfl
  | buildSlice t len parts =>
    simp only [aop] at hs
    cases hq : abuildSlice T σ t len (parts.toList.map fun p => (p.1, σ.eval p.2)) with
    | none =>
      rw [hq] at hs
      cases hq' : abuildX T σ t len (parts.toList.map fun p => (p.1, σ.eval p.2)) with
      | none => rw [hq'] at hs; cases hs
      | some r =>
        obtain ⟨σ1, x⟩ := r
        rw [hq'] at hs
        simp only [Ab.ok, Option.some.injEq, Prod.mk.injEq, true_and] at hs
        obtain ⟨rfl, rfl⟩ := hs
        exact Done.of (abuildX_ok hT h h.tm hq') rfl
    | some r =>
      obtain ⟨σ1, x⟩ := r
      rw [hq] at hs
      simp only [Ab.ok, Option.some.injEq, Prod.mk.injEq, true_and] at hs
      obtain ⟨rfl, rfl⟩ := hs
      exact Done.of (abuildSlice_ok hT h h.tm hq) rfl
  | insert t m k v =>
    simp only [aop] at hs
    split at hs
    · rename_i σ1 hst
      cases hs
      obtain ⟨w', hr, h1, h2, h3⟩ := amapUpdate_ok (P := P) hT h (he m) (he k) (he v) hst
      exact ⟨E, Z, w', Go.undef, .skip, by simp [execOp, hr], .inr ⟨rfl, rfl⟩, h1, .undef _, h2, Mv.refl _ _ h3⟩
    · cases hs
  | load t x => exact V hs (fun y hy => aload_ok hT h.sr (he x) hy) rfl
  | store t x y =>
    simp only [aop] at hs
    split at hs
    · rename_i σ1 hst
      cases hs
      obtain ⟨w', hr, h1, h2⟩ := astore_ok (P := P) hT h (he y) (he x) hst
      exact ⟨E, Z, w', Go.undef, .skip, by simp [execOp, hr], .inr ⟨rfl, rfl⟩, h1, .undef _, h2, Mv.refl _ _ (astore_moved hst)⟩
    · cases hs
  | ready g => cases hs
  | waits g => cases hs
  | nilCheck x =>
    simp only [aop] at hs
    have hx := he x
    split at hs
    · rename_i heq; cases hs
      rw [heq] at hx
      refine Done.pure h (s := Pure.pure (a.eval x)) ⟨_, rfl, hx⟩ ?_
      simp only [execOp]
      generalize a.eval x = v at hx
      cases hx; rfl
    · rename_i heq; cases hs
      rw [heq] at hx
      refine Done.pure h (s := Pure.pure (a.eval x)) ⟨_, rfl, hx⟩ ?_
      simp only [execOp]
      generalize a.eval x = v at hx
      cases hx; rfl
    · rename_i heq; cases hs
      rw [heq] at hx
      refine Done.pure h (s := Pure.pure (a.eval x)) ⟨_, rfl, hx⟩ ?_
      simp only [execOp]
      generalize a.eval x = v at hx
      cases hx; rfl
    · rename_i heq; cases hs
      rw [heq] at hx
      refine Done.pure h (s := Pure.pure (a.eval x)) ⟨_, rfl, hx⟩ ?_
      simp only [execOp]
      generalize a.eval x = v at hx
      cases hx; rfl
    · rename_i heq; cases hs
      rw [heq] at hx
      refine Done.pure h (s := Pure.pure (a.eval x)) ⟨_, rfl, hx⟩ ?_
      simp only [execOp]
      generalize a.eval x = v at hx
      cases hx; rfl
    · rename_i heq; cases hs
      rw [heq] at hx
      refine Done.pure h (s := Pure.pure (a.eval x)) ⟨_, rfl, hx⟩ ?_
      simp only [execOp]
      generalize a.eval x = v at hx
      cases hx; rfl
    · cases hs
  | binOp op t x y ty =>
    have hx := he x
    have hy := he y
    have fin : (a.eval x = .nilIface → a.eval y = .nilIface → (∃ v, x = .const v) ∨ (∃ v, y = .const v)) → (match abinOp T σ op t (σ.eval x) (σ.eval y) with | some (c, x) => (some (c, σ, x) : Ab (St × AV)) | none => none) = some (true, σ', av) →
        Done P T E Z w a.tmps.toList σ (execOp a.eval ⟨dst, .binOp op t x y ty, type, pos, after, guard⟩) σ' av := fun hg hr =>
      W hr (fun r hr' => abinOp_ok hT h.sr hx hy hg hr') rfl
    simp only [aop] at hs
    split at hs
    · split at hs
      · exact fin (fun _ _ => .inl ⟨_, rfl⟩) hs
      · exact fin (fun _ _ => .inr ⟨_, rfl⟩) hs
      · cases hs
    · rename_i hne
      refine fin (fun h1 h2 => ?_) hs
      exfalso
      rw [h1] at hx; rw [h2] at hy
      generalize σ.eval x = p at hx hs hne
      generalize σ.eval y = q at hy hs hne
      cases hx with
      | undef _ =>
        cases hy with
        | undef _ => simp only [abinOp] at hs; cases op <;> simp [(aeq_undef (T := T) (σ := σ) t .undef).1, Ab.map] at hs
        | k _ _ => simp only [abinOp] at hs; cases op <;> simp [(aeq_undef (T := T) (σ := σ) t (.k .nilIface)).1, Ab.map] at hs
      | k _ _ =>
        cases hy with
        | undef _ => simp only [abinOp] at hs; cases op <;> simp [(aeq_undef (T := T) (σ := σ) t (.k .nilIface)).2, Ab.map] at hs
        | k _ _ => exact hne rfl rfl
  | unOp op t x =>
    simp only [aop] at hs
    have hx := he x
    split at hs
    · rename_i kk n heq
      rw [heq] at hx
      have hx := VR_int hx
      split at hs
      · rename_i r hr
        cases hsc : scalar r with
        | false => rw [hsc] at hs; cases hs
        | true =>
          rw [hsc] at hs; cases hs
          exact Done.pure h (s := Op.unary op (a.eval x)) ⟨r, by rw [hx]; exact pureS_run hr, .k _ hsc⟩ rfl
      · cases hs
    · rename_i b heq
      rw [heq] at hx
      have hx := VR_bool hx
      split at hs
      · cases hs
        exact Done.pure h (s := Op.unary .not (a.eval x)) ⟨.bool !b, by rw [hx]; rfl, .k _ rfl⟩ rfl
      · cases hs
    · cases hs
  | convert src d x =>
    simp only [aop] at hs
    cases hq : aconvert T src d (σ.eval x) with
    | none => rw [hq] at hs; cases hs
    | some r => rw [hq] at hs; cases hs; exact Done.of (aconvert_ok hT h (he x) hq) rfl
  | sliceToArrayPointer d x => cases hs
  | makeInterface t x =>
    simp only [aop] at hs
    split at hs
    · cases hs
    · rename_i ti hne hti
      cases hs
      obtain ⟨i, d, z, hto⟩ := hT _ _ hti
      refine Done.pure h (s := Instr.makeInterface t (a.eval x)) ⟨.iface t (a.eval x), ?_, .iface _ _ _ (he x)⟩ rfl
      have hd := hto.desc
      have hni : ∀ ms, d ≠ .interface ms := by
        rintro ms rfl
        obtain ⟨dd, cc, bb⟩ := ti
        cases dd <;> simp [dOk] at hd
        exact hne _ _ rfl
      cases d <;> first
        | exact absurd rfl (hni _)
        | (simp only [Instr.makeInterface, Sem.run_bind, run_und hto.und, Result.andThen_ok]; rfl)
    · cases hs
  | makeFunc fn first captured =>
    cases hs
    refine Done.pure h (s := Instr.makeFunc fn (first.map a.eval) (captured.map a.eval)) ⟨.func fn (first.map a.eval) (captured.map a.eval), rfl, ?_⟩ rfl
    have hl : ∀ xs : Array Operand, ∀ (j : Nat) (av : AV) (v : Value), (xs.toList.map σ.eval)[j]? = some av → (xs.toList.map a.eval)[j]? = some v → VR T E Z w av v := fun xs j av v hj hv => by
      rw [List.getElem?_map, Option.map_eq_some_iff] at hj hv
      obtain ⟨x, hx, rfl⟩ := hj
      obtain ⟨y, hy, rfl⟩ := hv
      rw [hx] at hy; cases hy
      exact he x
    have := VR.fn (T := T) (E := E) (Z := Z) (w := w) fn (first.toList.map σ.eval) (captured.toList.map σ.eval) (first.toList.map a.eval) (captured.toList.map a.eval) (by simp) (by simp) (hl first) (hl captured)
    have e1 : ∀ xs : Array Operand, (xs.toList.map a.eval).toArray = xs.map a.eval := fun xs => by rw [← Array.toList_map]
    rw [e1, e1] at this
    exact this
  | makeMap t r =>
    cases r with
    | none =>
      simp only [aop] at hs
      cases hq : amakeMap T σ t with
      | none => rw [hq] at hs; cases hs
      | some q =>
        obtain ⟨σ1, x⟩ := q
        rw [hq] at hs
        simp only [Ab.ok, Option.some.injEq, Prod.mk.injEq, true_and] at hs
        obtain ⟨rfl, rfl⟩ := hs
        exact Done.of (amakeMap_ok hT h hq (r := none) (fun v hv => by cases hv)) rfl
    | some r =>
      simp only [aop] at hs
      split at hs
      · rename_i kk n heq
        cases hq : amakeMap T σ t with
        | none => rw [hq] at hs; cases hs
        | some q =>
          obtain ⟨σ1, x⟩ := q
          rw [hq] at hs
          simp only [Ab.ok, Option.some.injEq, Prod.mk.injEq, true_and] at hs
          obtain ⟨rfl, rfl⟩ := hs
          have hv := he r
          rw [heq] at hv
          exact Done.of (amakeMap_ok hT h hq (r := some (a.eval r)) (fun v hv' => by cases hv'; exact ⟨_, _, VR_int hv⟩)) rfl
      · cases hs
  | makeChan t s => cases hs
  | makeSlice t l c => exact Done.of (amakeSlice_ok hT h (he l) (he c) hs) rfl
  | slice t x lo hi mx =>
    simp only [aop] at hs
    cases hmh : (mx.isSome && hi.isNone) with
    | true => rw [hmh] at hs; cases hs
    | false =>
      rw [hmh] at hs
      refine W hs (fun r hr => ?_) rfl
      refine aslice_ok hT h.sr (he x) (OV_map h.tm lo) (OV_map h.tm hi) (OV_map h.tm mx) (fun hm hh => ?_) hr
      cases mx <;> cases hi <;> simp at hmh hm hh
  | fieldAddr s x f => exact V hs (fun y hy => afieldAddr_ok hT (he x) hy) rfl
  | field s x f => exact V hs (fun y hy => afield_ok hT (he x) hy) rfl
  | indexAddr t x i => exact W hs (fun y hy => aindexAddr_ok hT h.sr (he x) (he i) hy) rfl
  | index t x i => exact W hs (fun y hy => aindex_ok hT (he x) (he i) hy) rfl
  | lookup t x i ok => exact V hs (fun y hy => alookup_ok hT h.sr (he x) (he i) hy) rfl
  | mapUpdate t m k v =>
    simp only [aop] at hs
    split at hs
    · rename_i σ1 hst
      cases hs
      obtain ⟨w', hr, h1, h2, h3⟩ := amapUpdate_ok (P := P) hT h (he m) (he k) (he v) hst
      exact ⟨E, Z, w', Go.undef, .skip, by simp [execOp, hr], .inr ⟨rfl, rfl⟩, h1, .undef _, h2, Mv.refl _ _ h3⟩
    · cases hs
  | mapEntry t m k => cases hs
  | entryStore t m s v => cases hs
  | range t x =>
    simp only [aop] at hs
    split at hs
    · rename_i cells bytes s hti heq
      cases hs
      obtain ⟨i, d, z, hto⟩ := hT _ _ hti
      have := dOk_str hto.desc
      subst this
      have hx := he x
      rw [heq] at hx
      have hx := VR_str hx
      have hg := Grew.alloc w (.stringIter s 0)
      have := h.new (w' := w.alloc (.stringIter s 0)) (.iter s 0) (.pointer (some ⟨w.heap.size, 0, none⟩)) 0 hg.old (by rw [hg.size]; omega) rfl rfl rfl
        (.iter s 0 w.heap.size (snoc_ρ _ _ _ _) hg.new)
        (fun B hB => by obtain ⟨A, hA, rfl⟩ := hB; rw [snoc_ρ] at hA; cases hA; exact Nat.le_refl _)
      refine ⟨_, Z, _, .pointer (some ⟨w.heap.size, 0, none⟩), _, ?_, .inl rfl, this.1, .ptr _ _ _ (snoc_ρ _ _ _ _), this.2, Mv.of rfl (SameE.snoc _ _ _ _)⟩
      simp only [execOp, Sem.run_bind, Instr.range, run_und hto.und, Result.andThen_ok, hx, Sem.run_pure]
      rfl
    · cases hs
  | next it b => cases hs
  | entry it => cases hs
  | typeAssert x t t' ok => cases hs
  | extract x i =>
    simp only [aop] at hs
    have hx := he x
    split at hs
    · rename_i vs heq
      rw [heq] at hx
      refine V hs (s := Instr.extract (a.eval x) i) (fun y hy => ?_) rfl
      generalize a.eval x = v at hx
      cases hx with
      | tup _ us hl hr =>
        have hlt := (List.getElem?_eq_some_iff.1 hy).1
        have hu : us[i]? = some (us[i]'(by omega)) := List.getElem?_eq_getElem _
        exact ⟨_, by simp [Instr.extract, hu], hr _ _ _ hy hu⟩
    · cases hs
  | call c =>
    obtain ⟨cal, args, ts⟩ := c
    cases cal with
    | value f => cases hs
    | invoke r m => cases hs
    | builtin b =>
      simp only [aop] at hs
      have hx : execOp a.eval ⟨dst, .call ⟨.builtin b, args, ts⟩, type, pos, after, guard⟩ = builtin b ts type (args.map fun | .const _ => true | _ => false) (args.map a.eval) := rfl
      unfold abuiltin at hs
      split at hs
      · rename_i t x hts hargs
        obtain ⟨v, hv, hr⟩ := args1 h.tm hargs
        have := toList_eq hts
        subst this
        rw [hx, hv]
        exact V hs (s := Builtin.len_ #[t] type #[v]) (fun y hy => alen_ok hT h.sr hr hy) rfl
      · rename_i t u s x hts hargs
        obtain ⟨v, v', hv, hr, hr'⟩ := args2 h.tm hargs
        have := toList_eq hts
        subst this
        rw [hx, hv]
        cases hsr : srcType T u with
        | false =>
          rw [hsr] at hs
          exact Done.of (aappendZ_ok hT h hr hr' hs) rfl
        | true =>
          rw [hsr] at hs
          simp only [cond_true] at hs
          cases hap : aappend T σ t s x with
          | some r =>
            rw [hap] at hs
            exact Done.of (aappend_ok hT h hr hr' hsr (hap.trans hs)) rfl
          | none =>
            rw [hap] at hs
            exact Done.of (aappendX_ok hT h hr hr' hsr hs) rfl
      · rename_i t x hts hargs
        obtain ⟨v, hv, hr⟩ := args1 h.tm hargs
        have := toList_eq hts
        subst this
        rw [hx, hv]
        split at hs
        · rename_i y hy
          cases hs
          exact Done.pure h (acap_ok hT h.sr hr hy) rfl
        · cases hs
      · rename_i t u s x hts hargs
        obtain ⟨v, v', hv, hr, hr'⟩ := args2 h.tm hargs
        have := toList_eq hts
        subst this
        rw [hx, hv]
        exact Done.of (acopy_ok hT h hr hr' hs) rfl
      · rename_i t x hts hargs
        obtain ⟨v, hv, hr⟩ := args1 h.tm hargs
        have := toList_eq hts
        subst this
        rw [hx, hv]
        exact Done.of (aclear_ok hT h hr hs) rfl
      · rw [hx]
        refine V hs (s := Builtin.max_ ts type (args.map a.eval)) (fun y hy => ?_) rfl
        simpa using aminmax_ok (P := P) h.tm hy ts type
      · rw [hx]
        refine V hs (s := Builtin.min_ ts type (args.map a.eval)) (fun y hy => ?_) rfl
        simpa using aminmax_ok (P := P) h.tm hy ts type
      · cases hs
  | go c => cases hs
  | defer c => cases hs
  | panic x => cases hs
  | send c x => cases hs
  | recv t c ok => cases hs
  | select cs b => cases hs
end
end Go.Fw
