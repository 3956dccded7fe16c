/- The framework, part We: an operation done in two states that look alike to it. -/
import Derived.Test.YtgcdiccbehiijaaFwWd
set_option linter.all false
set_option linter.unusedSimpArgs false
set_option linter.unusedVariables false
namespace Go.Fw

/-- what an operation of a kind does -/
def EffOk (fk : Fk) (o : Oper) (σ : St) (e : Eff) (v : AV) : Prop :=
  match fk with
  | .new => ∃ o', e = .new o'
  | .store => ∃ id o', e = .write id o' ∧ headId (storeTops o.op σ) = some id
  | .app => AppQ e v
  | _ => e = .none

/-- what an operation of a kind sees of the objects -/
def ObjView (T : Tab) (fk : Fk) (o : Oper) (σ τ : St) : Prop :=
  match fk with
  | .load => ∀ t a, o.op = .load t a → aload T τ t (σ.eval a) = aload T σ t (σ.eval a)
  | .look | .app => SameAt (o.op.operands.toList.flatMap fun x => topIds (σ.eval x)) σ τ
  | .store => SameAt (storeTops o.op σ) σ τ
  | _ => True

theorem reach_nil (st : List AObj) : ∀ n, reach st n [] = []
  | 0 => rfl
  | n + 1 => by simp [reach, dedup]

theorem acall1_none {P : Program} {C : Ctx} {σ τ σ1 : St} {c : Bool} {v : AV} (hC : CallOk P C) {n : FuncId} (hq : (C.sig n).2.1 = []) {args : List AV} (hi : AV.idsL args = []) (hl : τ.st.length = σ.st.length)
    (h : acall1 C σ n args = some (c, σ1, v)) : σ1 = σ ∧ acall1 C τ n args = some (c, τ, v) := by
  have key : ∀ ρ : St, ρ.st.length = σ.st.length → acall1 C ρ n args = match C.call n (AV.onRefsL (rename1 []) args) [] with | none => none | some (c, r, _) => some (c, ρ, ((C.sig n).1.expand r).onRefs (back1 [] σ.st.length)) := fun ρ hρ => by
    unfold acall1
    simp only [hi, dedup, reach_nil, List.all_nil, Bool.not_true, cond_false, List.map_nil]
    cases C.call n (AV.onRefsL (rename1 []) args) [] with
    | none => rfl
    | some x =>
      obtain ⟨c0, r, st0⟩ := x
      have e3 : ∀ mvs, pickIds ([] : List Nat) mvs = [] := fun mvs => by induction mvs with | nil => rfl | cons x xs ih => simp [pickIds, ih]
      have e2 : ρ.st.map (AObj.onRefs (scrubL1 [])) = ρ.st := by
        have : AObj.onRefs (scrubL1 []) = fun o => o := funext fun o => by
          have : scrubL1 [] = fun v => v := funext scrubL1_nil
          rw [this]; exact AObj.onRefs_id o
        rw [this]; simp
      have e1 : AV.onRefsL (scrubL1 []) ρ.tmps = ρ.tmps := by rw [onRefsL_eq, onRefs_self scrubL1_nil]; simp
      simp only [hq, OS.expandL, List.map_nil, setMany, List.drop_nil, List.append_nil, e3, e1, e2, List.nil_append, hρ]
  rw [key σ rfl] at h
  rw [key τ hl]
  split at h
  · cases h
  · cases h; exact ⟨rfl, rfl⟩

section
variable {C : Ctx} {σ τ σ1 : St} {c : Bool} {v : AV}

theorem exec1_at {P : Program} (hC : CallOk P C) {o : Oper} (hl : τ.st.length = σ.st.length) (he : ∀ x ∈ o.op.operands.toList, τ.eval x = σ.eval x) (hb : fkBad (fkind C.sig o.op) σ o = false)
    (hv : ObjView C.T (fkind C.sig o.op) o σ τ) (h : exec1 C σ o = some (c, σ1, v)) :
    ∃ e, EffOk (fkind C.sig o.op) o σ e v ∧ σ1 = e.on σ ∧ exec1 C τ o = some (c, e.on τ, v) := by
  obtain ⟨dst, op, type, pos, after, guard⟩ := o
  have args_eq : ∀ args : Array Operand, (∀ x ∈ args.toList, τ.eval x = σ.eval x) → args.toList.map τ.eval = args.toList.map σ.eval := fun args ha => List.map_congr_left ha
  cases op with
  | move x | assign x =>
    have e := he x (by simp [Op.operands])
    simp only [exec1, aop] at h ⊢
    rw [e]; cases h; exact ⟨.none, rfl, rfl, rfl⟩
  | pick a b d =>
    have e1 := he a (by simp [Op.operands])
    have e2 := he b (by simp [Op.operands])
    have e3 := he d (by simp [Op.operands])
    simp only [exec1, aop] at h ⊢
    rw [e1, e2, e3]
    split at h
    · cases h; exact ⟨.none, rfl, rfl, rfl⟩
    · cases h
  | load t a =>
    have e := he a (by simp [Op.operands])
    have hv' : aload C.T τ t (σ.eval a) = aload C.T σ t (σ.eval a) := hv t a rfl
    simp only [exec1, aop] at h ⊢
    rw [e, hv']
    obtain ⟨rfl, h1, rfl⟩ := Ab.v_inv h
    rw [h1]; exact ⟨.none, rfl, rfl, rfl⟩
  | nilCheck x =>
    have e := he x (by simp [Op.operands])
    simp only [exec1, aop] at h ⊢
    rw [e]
    split at h <;> first | (cases h; exact ⟨.none, rfl, rfl, rfl⟩) | cases h
  | binOp op t x y ty =>
    have e1 := he x (by simp [Op.operands])
    have e2 := he y (by simp [Op.operands])
    have hv' : SameAt (List.flatMap (fun x => topIds (σ.eval x)) (Op.binOp op t x y ty).operands.toList) σ τ := hv
    have s1 : SameAt (topIds (σ.eval x)) σ τ := fun i hi => hv' i (List.mem_flatMap.2 ⟨x, by simp [Op.operands], hi⟩)
    have s2 : SameAt (topIds (σ.eval y)) σ τ := fun i hi => hv' i (List.mem_flatMap.2 ⟨y, by simp [Op.operands], hi⟩)
    simp only [exec1, aop] at h ⊢
    rw [e1, e2]
    split at h
    · simp only [abinOp_at op t s1 s2]
      split at h
      · obtain ⟨rfl, h1⟩ := Ab.w_inv h; rw [h1]; exact ⟨.none, rfl, rfl, rfl⟩
      · obtain ⟨rfl, h1⟩ := Ab.w_inv h; rw [h1]; exact ⟨.none, rfl, rfl, rfl⟩
      · cases h
    · simp only [abinOp_at op t s1 s2]
      obtain ⟨rfl, h1⟩ := Ab.w_inv h; rw [h1]; exact ⟨.none, rfl, rfl, rfl⟩
  | unOp op t x =>
    have e := he x (by simp [Op.operands])
    simp only [exec1, aop] at h ⊢
    rw [e]
    split at h
    · split at h
      · simp only [cond_eq_ite] at h ⊢
        split at h
        · cases h; rename_i hsc; rw [if_pos hsc]; exact ⟨.none, rfl, rfl, rfl⟩
        · cases h
      · cases h
    · split at h
      · cases h; exact ⟨.none, rfl, rfl, rfl⟩
      · cases h
    · cases h
  | convert s d x =>
    have e := he x (by simp [Op.operands])
    simp only [exec1, aop] at h ⊢
    rw [e]
    obtain ⟨rfl, h1, rfl⟩ := Ab.v_inv h
    rw [h1]; exact ⟨.none, rfl, rfl, rfl⟩
  | makeInterface t x =>
    have e := he x (by simp [Op.operands])
    simp only [exec1, aop] at h ⊢
    rw [e]
    split at h <;> first | (cases h; done) | (cases h; exact ⟨.none, rfl, rfl, rfl⟩)
  | makeFunc fn first captured =>
    have e1 := args_eq first (fun x hx => he x (by simp [Op.operands]; exact .inl (by simpa using hx)))
    have e2 := args_eq captured (fun x hx => he x (by simp [Op.operands]; exact .inr (by simpa using hx)))
    simp only [exec1, aop] at h ⊢
    rw [e1, e2]
    cases h; exact ⟨.none, rfl, rfl, rfl⟩
  | slice t x lo hi mx =>
    have e := he x (by simp [Op.operands])
    have e1 : lo.map τ.eval = lo.map σ.eval := by cases lo with | none => rfl | some y => simp [he y (by simp [Op.operands])]
    have e2 : hi.map τ.eval = hi.map σ.eval := by cases hi with | none => rfl | some y => simp [he y (by simp [Op.operands])]
    have e3 : mx.map τ.eval = mx.map σ.eval := by cases mx with | none => rfl | some y => simp [he y (by simp [Op.operands])]
    have hv' : SameAt (List.flatMap (fun x => topIds (σ.eval x)) (Op.slice t x lo hi mx).operands.toList) σ τ := hv
    have s1 : SameAt (topIds (σ.eval x)) σ τ := fun i hi' => hv' i (List.mem_flatMap.2 ⟨x, by simp [Op.operands], hi'⟩)
    simp only [exec1, aop] at h ⊢
    rw [e, e1, e2, e3, aslice_at s1]
    simp only [cond_eq_ite] at h ⊢
    split at h
    · cases h
    · rename_i hn
      rw [if_neg hn]
      obtain ⟨rfl, h1⟩ := Ab.w_inv h; rw [h1]; exact ⟨.none, rfl, rfl, rfl⟩
  | fieldAddr s x f =>
    have e := he x (by simp [Op.operands])
    simp only [exec1, aop] at h ⊢
    rw [e]
    obtain ⟨rfl, h1, rfl⟩ := Ab.v_inv h
    rw [h1]; exact ⟨.none, rfl, rfl, rfl⟩
  | field s x f =>
    have e := he x (by simp [Op.operands])
    simp only [exec1, aop] at h ⊢
    rw [e]
    obtain ⟨rfl, h1, rfl⟩ := Ab.v_inv h
    rw [h1]; exact ⟨.none, rfl, rfl, rfl⟩
  | indexAddr t x i =>
    have e1 := he x (by simp [Op.operands])
    have e2 := he i (by simp [Op.operands])
    have hv' : SameAt (List.flatMap (fun x => topIds (σ.eval x)) (Op.indexAddr t x i).operands.toList) σ τ := hv
    have s1 : SameAt (topIds (σ.eval x)) σ τ := fun j hj => hv' j (List.mem_flatMap.2 ⟨x, by simp [Op.operands], hj⟩)
    simp only [exec1, aop] at h ⊢
    rw [e1, e2, aindexAddr_at s1]
    obtain ⟨rfl, h1⟩ := Ab.w_inv h; rw [h1]; exact ⟨.none, rfl, rfl, rfl⟩
  | index t x i =>
    have e1 := he x (by simp [Op.operands])
    have e2 := he i (by simp [Op.operands])
    simp only [exec1, aop] at h ⊢
    rw [e1, e2]
    obtain ⟨rfl, h1⟩ := Ab.w_inv h; rw [h1]; exact ⟨.none, rfl, rfl, rfl⟩
  | extract x i =>
    have e := he x (by simp [Op.operands])
    simp only [exec1, aop] at h ⊢
    rw [e]
    split at h
    · obtain ⟨rfl, h1, rfl⟩ := Ab.v_inv h
      rw [h1]; exact ⟨.none, rfl, rfl, rfl⟩
    · cases h
  | build t parts =>
    have e : parts.toList.map (fun p => (p.1, τ.eval p.2)) = parts.toList.map (fun p => (p.1, σ.eval p.2)) :=
      List.map_congr_left fun p hp => by rw [he p.2 (by simp [Op.operands]; exact ⟨p.1, by simpa using hp⟩)]
    simp only [exec1, aop] at h ⊢
    rw [e]
    obtain ⟨rfl, h1, rfl⟩ := Ab.v_inv h
    rw [h1]; exact ⟨.none, rfl, rfl, rfl⟩
  | alloc t =>
    simp only [exec1, aop] at h ⊢
    cases hT : C.T t with
    | none => rw [hT] at h; cases h
    | some ti => rw [hT] at h; cases h; rw [hl]; exact ⟨.new _, ⟨_, rfl⟩, rfl, rfl⟩
  | box t x =>
    have e := he x (by simp [Op.operands])
    simp only [exec1, aop] at h ⊢
    rw [e]
    cases hT : C.T t with
    | none => rw [hT] at h; cases h
    | some ti =>
      rw [hT] at h
      simp only [cond_eq_ite] at h ⊢
      split at h
      · rename_i hc; rw [if_pos hc]; cases h; rw [hl]; exact ⟨.new _, ⟨_, rfl⟩, rfl, rfl⟩
      · cases h
  | buildSlice t len parts =>
    have e : parts.toList.map (fun p => (p.1, τ.eval p.2)) = parts.toList.map (fun p => (p.1, σ.eval p.2)) :=
      List.map_congr_left fun p hp => by rw [he p.2 (by simp [Op.operands]; exact ⟨p.1, by simpa using hp⟩)]
    simp only [exec1, aop] at h ⊢
    rw [e]
    obtain ⟨h1, h2⟩ := abuildSlice_at (T := C.T) hl t len (parts.toList.map fun p => (p.1, σ.eval p.2))
    cases hr : abuildSlice C.T σ t len (parts.toList.map fun p => (p.1, σ.eval p.2)) with
    | some r =>
      obtain ⟨σ2, v2⟩ := r
      obtain ⟨o', e1, e2⟩ := h2 σ2 v2 hr
      rw [hr] at h
      rw [e2]
      simp only [Ab.ok] at h ⊢
      cases h
      exact ⟨.new o', ⟨_, rfl⟩, e1, rfl⟩
    | none =>
      rw [hr] at h
      rw [h1 hr]
      simp only at h ⊢
      have h3 := Ab.ok_some h
      obtain ⟨o', e1, e2⟩ := abuildX_at (T := C.T) hl t len _ σ1 v h3
      rw [e2]
      rw [h3] at h
      simp only [Ab.ok] at h ⊢
      cases h
      exact ⟨.new o', ⟨_, rfl⟩, e1, rfl⟩
  | makeSlice t l cp =>
    have e1 := he l (by simp [Op.operands])
    have e2 := he cp (by simp [Op.operands])
    simp only [exec1, aop] at h ⊢
    rw [e1, e2]
    obtain ⟨e, q, k1, k2⟩ := amakeSlice_at (T := C.T) hl t (σ.eval l) (σ.eval cp) c σ1 v h
    exact ⟨e, q, k1, k2⟩
  | store t a x =>
    have e1 := he a (by simp [Op.operands])
    have e2 := he x (by simp [Op.operands])
    simp only [exec1, aop] at h ⊢
    rw [e1, e2]
    have hv' : SameAt (topIds (σ.eval a)) σ τ := hv
    split at h
    · rename_i σ2 hs
      cases h
      obtain ⟨id, o', k1, k2, k3⟩ := astore_at (T := C.T) t (σ.eval x) (σ.eval a) hv' _ hs
      rw [k3]
      exact ⟨.write id o', ⟨id, o', rfl, k1⟩, k2, rfl⟩
    · cases h
  | call cl =>
    obtain ⟨callee, args, ats⟩ := cl
    cases callee with
    | value f =>
      cases f with
      | func n =>
        cases hq : (C.sig n).2.1.isEmpty with
        | false => simp [fkind, hq, fkBad] at hb
        | true =>
          have hq' : (C.sig n).2.1 = [] := by simpa using hq
          have ea := args_eq args (fun x hx => he x (by simp [Op.operands, Call.operands]; first | exact .inr (by simpa using hx) | exact (by simpa using hx)))
          simp only [fkind, hq, cond_true, fkBad, Bool.not_eq_false', List.isEmpty_iff] at hb
          simp only [exec1, St.eval, List.nil_append, List.append_nil] at h ⊢
          obtain ⟨rfl, hk⟩ := acall1_none hC hq' hb hl h
          rw [ea, hk]
          exact ⟨.none, by simp [EffOk, fkind, hq], rfl, rfl⟩
      | _ => simp [fkind, fkBad] at hb
    | builtin b =>
      have ea := args_eq args (fun x hx => he x (by simp [Op.operands, Call.operands]; first | exact .inr (by simpa using hx) | exact (by simpa using hx)))
      have sa : SameAt (List.flatMap (fun x => topIds (σ.eval x)) (Op.call ⟨.builtin b, args, ats⟩).operands.toList) σ τ → ∀ x ∈ args.toList.map σ.eval, SameAt (topIds x) σ τ := fun hv' x hx i hi => by
        obtain ⟨y, hy, rfl⟩ := List.mem_map.1 hx
        exact hv' i (List.mem_flatMap.2 ⟨y, by simp [Op.operands, Call.operands]; simpa using hy, hi⟩)
      cases b with
      | len =>
        have hs := sa hv
        simp only [exec1, aop] at h ⊢
        rw [ea]
        generalize args.toList.map σ.eval = as at *
        rcases hts : ats.toList with _ | ⟨t, _ | ⟨u, ts⟩⟩ <;> rcases as with _ | ⟨x, _ | ⟨y, as⟩⟩ <;> rw [hts] at h <;> simp only [abuiltin] at h ⊢ <;> first | (cases h; done) | skip
        rw [alen_at (hs x (by simp))]
        obtain ⟨rfl, h1, rfl⟩ := Ab.v_inv h
        rw [h1]; exact ⟨.none, rfl, rfl, rfl⟩
      | max =>
        simp only [exec1, aop] at h ⊢
        rw [ea]
        change (match aminmax true _ with | some x => (some (true, σ, x) : Ab (St × AV)) | none => none) = _ at h
        obtain ⟨rfl, h1, rfl⟩ := Ab.v_inv h
        refine ⟨.none, rfl, rfl, ?_⟩
        change (match aminmax true _ with | some x => (some (true, τ, x) : Ab (St × AV)) | none => none) = _
        rw [h1]; rfl
      | min =>
        simp only [exec1, aop] at h ⊢
        rw [ea]
        change (match aminmax false _ with | some x => (some (true, σ, x) : Ab (St × AV)) | none => none) = _ at h
        obtain ⟨rfl, h1, rfl⟩ := Ab.v_inv h
        refine ⟨.none, rfl, rfl, ?_⟩
        change (match aminmax false _ with | some x => (some (true, τ, x) : Ab (St × AV)) | none => none) = _
        rw [h1]; rfl
      | append =>
        have hs := sa hv
        simp only [exec1, aop] at h ⊢
        rw [ea]
        obtain ⟨e, q, k1, k2⟩ := append_at (T := C.T) hl hs c σ1 v h
        exact ⟨e, q, k1, k2⟩
      | _ => simp [fkind, fkBad] at hb
    | invoke r n => simp [fkind, fkBad] at hb
  | _ => simp [fkind, fkBad] at hb

end
end Go.Fw
