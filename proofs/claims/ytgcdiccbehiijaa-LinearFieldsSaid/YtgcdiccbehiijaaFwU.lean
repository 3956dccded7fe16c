/- The framework, part U: regions. -/
import Derived.Test.YtgcdiccbehiijaaFwT
set_option linter.all false
set_option linter.unusedSimpArgs false
set_option linter.unusedVariables false
namespace Go.Fw

/-! ### Operations whose place among others doesn't matter -/
def quietOp (sig : FuncId → RS × List OS × List Nat) (o : Oper) : Bool :=
  match o.op with
  | .move _ | .assign _ | .pick _ _ _ | .load _ _ | .nilCheck _ | .binOp _ _ _ _ _ | .unOp _ _ _ | .convert _ _ _ | .makeInterface _ _ | .makeFunc _ _ _
  | .slice _ _ _ _ _ | .fieldAddr _ _ _ | .field _ _ _ | .indexAddr _ _ _ | .index _ _ _ | .extract _ _ | .build _ _ => true
  | .call { callee := .builtin .len, args := _, argTypes := _ } | .call { callee := .builtin .min, args := _, argTypes := _ } | .call { callee := .builtin .max, args := _, argTypes := _ } => true
  | .call { callee := .value (.func n), args := _, argTypes := _ } => (sig n).2.1.isEmpty
  | _ => false

theorem onRefs_self {h : AV → AV} (hh : ∀ r, h r = r) : AV.onRefs h = fun v => v := by
  have : h = fun v => v := funext hh
  subst this
  exact funext onRefs_id

theorem scrubL1_nil (r : AV) : scrubL1 [] r = r := by cases r <;> rfl

section
variable {C : Ctx} {σ σ' σ1 : St} {c : Bool} {v : AV}

theorem acall1_quiet {P : Program} (hC : CallOk P C) {n : FuncId} (hq : (C.sig n).2.1 = []) {args : List AV} (h : acall1 C σ n args = some (true, σ1, v)) :
    σ1 = σ ∧ ∀ σ' : St, σ'.st = σ.st → acall1 C σ' n args = some (true, σ', v) := by
  have hst : ∀ r0 st0, C.call n (AV.onRefsL (rename1 (reach σ.st 8 (dedup (AV.idsL args) []))) args) ((reach σ.st 8 (dedup (AV.idsL args) [])).map fun i => (σ.st.getD i .dead).onRefs (rename1 (reach σ.st 8 (dedup (AV.idsL args) [])))) = some (true, r0, st0) →
      st0 = [] ∧ reach σ.st 8 (dedup (AV.idsL args) []) = [] := fun r0 st0 hc => by
    obtain ⟨_, _, h2, h3⟩ := hC _ _ _ _ _ hc
    rw [hq] at h2
    cases st0 with
    | nil => exact ⟨rfl, List.length_eq_zero_iff.1 (by simpa using h3)⟩
    | cons x xs => simp [OS.okL] at h2
  unfold acall1 at h
  simp only at h
  cases hall : (reach σ.st 8 (dedup (AV.idsL args) [])).all fun i => Nat.blt i σ.st.length with
  | false => rw [hall] at h; cases h
  | true =>
    rw [hall] at h
    simp only [Bool.not_true, cond_false] at h
    split at h
    · cases h
    · rename_i c0 r0 st0 hc
      have hc0 : c0 = true := by cases h; rfl
      subst hc0
      obtain ⟨rfl, hk⟩ := hst _ _ hc
      have e1 : AV.onRefsL (scrubL1 []) σ.tmps = σ.tmps := by rw [onRefsL_eq, onRefs_self scrubL1_nil]; simp
      have key : ∀ σ' : St, σ'.st = σ.st → acall1 C σ' n args = some (true, σ', ((C.sig n).1.expand r0).onRefs (back1 [] σ.st.length)) := fun σ' hs => by
        unfold acall1
        simp only [hs, hk] at hc ⊢
        simp only [List.all_nil, Bool.not_true, cond_false, List.map_nil] at hc ⊢
        rw [hc]
        simp only [hq, OS.expandL, List.map_nil, setMany, List.drop_nil, List.append_nil, pickIds]
        have e3 : ∀ mvs, pickIds ([] : List Nat) mvs = [] := fun mvs => by induction mvs with | nil => rfl | cons x xs ih => simp [pickIds, ih]
        rw [e3]
        have e2 : σ'.st.map (AObj.onRefs (scrubL1 [])) = σ'.st := by
          have : AObj.onRefs (scrubL1 []) = fun o => o := funext fun o => by
            have : scrubL1 [] = fun v => v := funext scrubL1_nil
            rw [this]; exact AObj.onRefs_id o
          rw [this]; simp
        have e1 : AV.onRefsL (scrubL1 []) σ'.tmps = σ'.tmps := by rw [onRefsL_eq, onRefs_self scrubL1_nil]; simp
        cases σ'
        simp only [List.length_nil, List.nil_append] at *
        subst hs
        simp only [e1, e2, setMany]
      have h0 := key σ rfl
      have hh : acall1 C σ n args = some (true, σ1, v) := by
        unfold acall1
        simp only [hall, Bool.not_true, cond_false, hc]
        exact h
      rw [h0] at hh
      cases hh
      exact ⟨rfl, key⟩

theorem eval_congr {x : Operand} (hx : ∀ t, x = .tmp t → σ'.tmps.getD t .undef = σ.tmps.getD t .undef) : σ'.eval x = σ.eval x := by
  cases x <;> simp only [St.eval]
  exact hx _ rfl

theorem aload_st {T : Tab} (hs : σ'.st = σ.st) (t : Nat) (x : AV) : aload T σ' t x = aload T σ t x := by unfold aload; rw [hs]
theorem aslice_st {T : Tab} (hs : σ'.st = σ.st) (t : Nat) (x : AV) (a b d : Option AV) : aslice T σ' t x a b d = aslice T σ t x a b d := by unfold aslice; rw [hs]
theorem aindexAddr_st {T : Tab} (hs : σ'.st = σ.st) (t : Nat) (x i : AV) : aindexAddr T σ' t x i = aindexAddr T σ t x i := by unfold aindexAddr; rw [hs]
theorem alen_st {T : Tab} (hs : σ'.st = σ.st) (t : Nat) (x : AV) : alen T σ' t x = alen T σ t x := by unfold alen; rw [hs]
theorem abinOp_st {T : Tab} (hs : σ'.st = σ.st) (op : BinOp) (t : Nat) (x y : AV) : abinOp T σ' op t x y = abinOp T σ op t x y := by
  have h1 : ∀ d z, isNil d σ' z = isNil d σ z := fun d z => by unfold isNil; rw [hs]
  have h2 : ∀ x y, aeq T σ' t x y = aeq T σ t x y := fun x y => by unfold aeq; simp only [h1]
  unfold abinOp
  simp only [h2]

theorem Ab.w_inv {σ σ1 : St} {r : Ab AV} {c : Bool} {v : AV} (h : (match r with | some (c, x) => (some (c, σ, x) : Ab (St × AV)) | none => none) = some (c, σ1, v)) : σ1 = σ ∧ r = some (c, v) := by
  split at h
  · cases h; exact ⟨rfl, rfl⟩
  · cases h
theorem Ab.v_inv {σ σ1 : St} {r : Option AV} {c : Bool} {v : AV} (h : (match r with | some x => (some (true, σ, x) : Ab (St × AV)) | none => none) = some (c, σ1, v)) : σ1 = σ ∧ r = some v ∧ c = true := by
  split at h
  · cases h; exact ⟨rfl, rfl, rfl⟩
  · cases h

theorem abuiltin_quiet {T : Tab} {b : Builtin} (hb : b = .len ∨ b = .max ∨ b = .min) (hs : σ'.st = σ.st) {ts : List Nat} {as : List AV} (h : abuiltin T σ b ts as = some (c, σ1, v)) :
    σ1 = σ ∧ abuiltin T σ' b ts as = some (c, σ', v) := by
  rcases hb with rfl | rfl | rfl
  · rcases ts with _ | ⟨t, _ | ⟨u, ts⟩⟩ <;> rcases as with _ | ⟨x, _ | ⟨y, as⟩⟩ <;> simp only [abuiltin] at h ⊢ <;> first | (cases h; done) | skip
    rw [alen_st hs]
    obtain ⟨rfl, h1, rfl⟩ := Ab.v_inv h
    rw [h1]; exact ⟨rfl, rfl⟩
  · change (match aminmax true as with | some x => (some (true, σ, x) : Ab (St × AV)) | none => none) = _ at h
    change _ ∧ (match aminmax true as with | some x => (some (true, σ', x) : Ab (St × AV)) | none => none) = _
    obtain ⟨rfl, h1, rfl⟩ := Ab.v_inv h
    rw [h1]; exact ⟨rfl, rfl⟩
  · change (match aminmax false as with | some x => (some (true, σ, x) : Ab (St × AV)) | none => none) = _ at h
    change _ ∧ (match aminmax false as with | some x => (some (true, σ', x) : Ab (St × AV)) | none => none) = _
    obtain ⟨rfl, h1, rfl⟩ := Ab.v_inv h
    rw [h1]; exact ⟨rfl, rfl⟩

/-- a quiet operation yields the same wherever its operands and the objects are the same -/
theorem exec1_quiet {P : Program} (hC : CallOk P C) {o : Oper} (hq : quietOp C.sig o = true) (hs : σ'.st = σ.st) (he : ∀ x ∈ o.op.operands.toList, σ'.eval x = σ.eval x)
    (h : exec1 C σ o = some (true, σ1, v)) : σ1 = σ ∧ exec1 C σ' o = some (true, σ', v) := by
  obtain ⟨dst, op, type, pos, after, guard⟩ := o
  have args_eq : ∀ args : Array Operand, (∀ x ∈ args.toList, σ'.eval x = σ.eval x) → args.toList.map σ'.eval = args.toList.map σ.eval := fun args ha => List.map_congr_left ha
  cases op with
  | move x | assign x =>
    have e := he x (by simp [Op.operands])
    simp only [exec1, aop] at h ⊢
    rw [e]; cases h; exact ⟨rfl, rfl⟩
  | pick a b d =>
    have e1 := he a (by simp [Op.operands])
    have e2 := he b (by simp [Op.operands])
    have e3 := he d (by simp [Op.operands])
    simp only [exec1, aop] at h ⊢
    rw [e1, e2, e3]
    split at h
    · cases h; exact ⟨rfl, rfl⟩
    · cases h
  | load t a =>
    have e := he a (by simp [Op.operands])
    simp only [exec1, aop] at h ⊢
    rw [e, aload_st hs]
    obtain ⟨rfl, h1, _⟩ := Ab.v_inv h
    rw [h1]; exact ⟨rfl, rfl⟩
  | nilCheck x =>
    have e := he x (by simp [Op.operands])
    simp only [exec1, aop] at h ⊢
    rw [e]
    split at h <;> first | (cases h; exact ⟨rfl, rfl⟩) | cases h
  | binOp op t x y ty =>
    have e1 := he x (by simp [Op.operands])
    have e2 := he y (by simp [Op.operands])
    simp only [exec1, aop] at h ⊢
    rw [e1, e2]
    simp only [abinOp_st hs]
    split at h
    · split at h
      · obtain ⟨rfl, h1⟩ := Ab.w_inv h; rw [h1]; exact ⟨rfl, rfl⟩
      · obtain ⟨rfl, h1⟩ := Ab.w_inv h; rw [h1]; exact ⟨rfl, rfl⟩
      · cases h
    · obtain ⟨rfl, h1⟩ := Ab.w_inv h; rw [h1]; exact ⟨rfl, rfl⟩
  | unOp op t x =>
    have e := he x (by simp [Op.operands])
    simp only [exec1, aop] at h ⊢
    rw [e]
    split at h
    · split at h
      · simp only [cond_eq_ite] at h ⊢
        split at h
        · cases h; rename_i hsc; rw [if_pos hsc]; exact ⟨rfl, rfl⟩
        · cases h
      · cases h
    · split at h
      · cases h; exact ⟨rfl, rfl⟩
      · cases h
    · cases h
  | convert s d x =>
    have e := he x (by simp [Op.operands])
    simp only [exec1, aop] at h ⊢
    rw [e]
    obtain ⟨rfl, h1, _⟩ := Ab.v_inv h
    rw [h1]; exact ⟨rfl, rfl⟩
  | makeInterface t x =>
    have e := he x (by simp [Op.operands])
    simp only [exec1, aop] at h ⊢
    rw [e]
    split at h <;> first | (cases h; done) | (cases h; exact ⟨rfl, rfl⟩)
  | makeFunc fn first captured =>
    have e1 := args_eq first (fun x hx => he x (by simp [Op.operands]; exact .inl (by simpa using hx)))
    have e2 := args_eq captured (fun x hx => he x (by simp [Op.operands]; exact .inr (by simpa using hx)))
    simp only [exec1, aop] at h ⊢
    rw [e1, e2]
    cases h; exact ⟨rfl, rfl⟩
  | slice t x lo hi mx =>
    have e := he x (by simp [Op.operands])
    have e1 : lo.map σ'.eval = lo.map σ.eval := by cases lo with | none => rfl | some y => simp [he y (by simp [Op.operands])]
    have e2 : hi.map σ'.eval = hi.map σ.eval := by cases hi with | none => rfl | some y => simp [he y (by simp [Op.operands])]
    have e3 : mx.map σ'.eval = mx.map σ.eval := by cases mx with | none => rfl | some y => simp [he y (by simp [Op.operands])]
    simp only [exec1, aop] at h ⊢
    rw [e, e1, e2, e3, aslice_st hs]
    simp only [cond_eq_ite] at h ⊢
    split at h
    · cases h
    · rename_i hn
      rw [if_neg hn]
      obtain ⟨rfl, h1⟩ := Ab.w_inv h; rw [h1]; exact ⟨rfl, rfl⟩
  | fieldAddr s x f =>
    have e := he x (by simp [Op.operands])
    simp only [exec1, aop] at h ⊢
    rw [e]
    obtain ⟨rfl, h1, _⟩ := Ab.v_inv h
    rw [h1]; exact ⟨rfl, rfl⟩
  | field s x f =>
    have e := he x (by simp [Op.operands])
    simp only [exec1, aop] at h ⊢
    rw [e]
    obtain ⟨rfl, h1, _⟩ := Ab.v_inv h
    rw [h1]; exact ⟨rfl, rfl⟩
  | indexAddr t x i =>
    have e1 := he x (by simp [Op.operands])
    have e2 := he i (by simp [Op.operands])
    simp only [exec1, aop] at h ⊢
    rw [e1, e2, aindexAddr_st hs]
    obtain ⟨rfl, h1⟩ := Ab.w_inv h; rw [h1]; exact ⟨rfl, rfl⟩
  | index t x i =>
    have e1 := he x (by simp [Op.operands])
    have e2 := he i (by simp [Op.operands])
    simp only [exec1, aop] at h ⊢
    rw [e1, e2]
    obtain ⟨rfl, h1⟩ := Ab.w_inv h; rw [h1]; exact ⟨rfl, rfl⟩
  | extract x i =>
    have e := he x (by simp [Op.operands])
    simp only [exec1, aop] at h ⊢
    rw [e]
    split at h
    · obtain ⟨rfl, h1, _⟩ := Ab.v_inv h
      rw [h1]; exact ⟨rfl, rfl⟩
    · cases h
  | build t parts =>
    have e : parts.toList.map (fun p => (p.1, σ'.eval p.2)) = parts.toList.map (fun p => (p.1, σ.eval p.2)) :=
      List.map_congr_left fun p hp => by rw [he p.2 (by simp [Op.operands]; exact ⟨p.1, by simpa using hp⟩)]
    simp only [exec1, aop] at h ⊢
    rw [e]
    obtain ⟨rfl, h1, _⟩ := Ab.v_inv h
    rw [h1]; exact ⟨rfl, rfl⟩
  | call cl =>
    obtain ⟨callee, args, ats⟩ := cl
    cases callee with
    | value f =>
      cases f with
      | func n =>
        have hq' : (C.sig n).2.1 = [] := by simpa [quietOp] using hq
        have ea := args_eq args (fun x hx => he x (by simp [Op.operands, Call.operands]; first | exact .inr (by simpa using hx) | exact (by simpa using hx)))
        simp only [exec1, St.eval, List.nil_append, List.append_nil] at h ⊢
        obtain ⟨rfl, hk⟩ := acall1_quiet hC hq' h
        rw [ea, hk σ' hs]; exact ⟨rfl, rfl⟩
      | _ => simp [quietOp] at hq
    | builtin b =>
      have ea := args_eq args (fun x hx => he x (by simp [Op.operands, Call.operands]; first | exact .inr (by simpa using hx) | exact (by simpa using hx)))
      cases b with
      | len | max | min =>
        simp only [exec1, aop] at h ⊢
        rw [ea]
        exact abuiltin_quiet (by simp) hs h
      | _ => simp [quietOp] at hq
    | invoke r n => simp [quietOp] at hq
  | _ => simp [quietOp] at hq

end
end Go.Fw
