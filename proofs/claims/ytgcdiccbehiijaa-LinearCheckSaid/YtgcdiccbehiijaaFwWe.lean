/- The framework, part We: an operation done in two states that look alike to it. -/
import Derived.Test.YtgcdiccbehiijaaFwWb
set_option linter.all false
set_option linter.unusedSimpArgs false
set_option linter.unusedVariables false
namespace Go.Fw
def EffOk (fk : Fk) (o : Oper) (σ : St) (e : Eff) (v : AV) : Prop :=
  match fk with
  | .new => ∃ o', e = .new o'
  | .store => ∃ id o', e = .write id o' ∧ headId (storeTops o.op σ) = some id
  | .app => AppQ e v
  | _ => e = .none
def ObjView (T : Tab) (fk : Fk) (o : Oper) (σ τ : St) : Prop :=
  match fk with
  | .load => ∀ t a, o.op = .load t a → aload T τ t (σ.eval a) = aload T σ t (σ.eval a)
  | .look | .app => SameAt (o.op.operands.toList.flatMap fun x => topIds (σ.eval x)) σ τ
  | .store => SameAt (storeTops o.op σ) σ τ
  | _ => True
theorem reach_nil (st : List AObj) : ∀ n, reach st n [] = []
  | 0 => rfl
  | n + 1 => by simp [reach, dedup]
theorem acall1_none {P : Program} {C : Ctx} {σ τ σ1 : St} {c : Bool} {v : AV} (hC : CallOk P C) {n : FuncId} (hq : (C.sig n).2.1 = []) {args : List AV} (hi : AV.idsL args = []) (hl : τ.st.length = σ.st.length)
    (h : acall1 C σ n args = some (c, σ1, v)) : σ1 = σ ∧ acall1 C τ n args = some (c, τ, v) := by
  have key : ∀ ρ : St, ρ.st.length = σ.st.length → acall1 C ρ n args = match C.call n (AV.onRefsL (rename1 []) args) [] with | none => none | some (c, r, _) => some (c, ρ, ((C.sig n).1.expand r).onRefs (back1 [] σ.st.length)) := fun ρ hρ => by
    unfold acall1
    simp only [hi, dedup, reach_nil, List.all_nil, Bool.not_true, cond_false, List.map_nil]
    cases C.call n (AV.onRefsL (rename1 []) args) [] with
    | none => rfl
    | some x =>
      obtain ⟨c0, r, st0⟩ := x
      have e3 : ∀ mvs, pickIds ([] : List Nat) mvs = [] := fun mvs => by induction mvs with | nil => rfl | cons x xs ih => simp [pickIds, ih]
      have e2 : ρ.st.map (AObj.onRefs (scrubL1 [])) = ρ.st := by
        have : AObj.onRefs (scrubL1 []) = fun o => o := funext fun o => by
          have : scrubL1 [] = fun v => v := funext scrubL1_nil
          rw [this]; exact AObj.onRefs_id o
        rw [this]; simp
      have e1 : AV.onRefsL (scrubL1 []) ρ.tmps = ρ.tmps := by rw [onRefsL_eq, onRefs_self scrubL1_nil]; simp
      simp only [hq, OS.expandL, List.map_nil, setMany, List.drop_nil, List.append_nil, e3, e1, e2, List.nil_append, hρ]
  rw [key σ rfl] at h
  rw [key τ hl]
  split at h
  · cases h
  · cases h; exact ⟨rfl, rfl⟩
theorem acall1_one {C : Ctx} {σ τ σ1 : St} {c : Bool} {v : AV} {n : FuncId} (hq : oneArr (C.sig n).2.1 = true) {args : List AV} (hi : AV.idsL args = []) (hl : τ.st.length = σ.st.length)
    (h : acall1 C σ n args = some (c, σ1, v)) : ∃ o', σ1 = σ.new o' ∧ acall1 C τ n args = some (c, τ.new o', v) := by
  have hq' : ∃ t kd, (C.sig n).2.1 = [.arr t kd] := by
    generalize (C.sig n).2.1 = os at hq
    unfold oneArr at hq
    split at hq
    · exact ⟨_, _, rfl⟩
    · cases hq
  obtain ⟨t, kd, hq'⟩ := hq'
  have key : ∀ ρ : St, ρ.st.length = σ.st.length → acall1 C ρ n args = match C.call n (AV.onRefsL (rename1 []) args) [] with
      | none => none
      | some (c, r, st') => some (c, ρ.new ((OS.expand (.arr t kd) (st'.getD 0 .dead)).onRefs (back1 [] σ.st.length)), ((C.sig n).1.expand r).onRefs (back1 [] σ.st.length)) := fun ρ hρ => by
    unfold acall1
    simp only [hi, dedup, reach_nil, List.all_nil, Bool.not_true, cond_false, List.map_nil]
    cases C.call n (AV.onRefsL (rename1 []) args) [] with
    | none => rfl
    | some x =>
      obtain ⟨c0, r, st0⟩ := x
      have e3 : ∀ mvs, pickIds ([] : List Nat) mvs = [] := fun mvs => by induction mvs with | nil => rfl | cons x xs ih => simp [pickIds, ih]
      have e2 : ρ.st.map (AObj.onRefs (scrubL1 [])) = ρ.st := by
        have : AObj.onRefs (scrubL1 []) = fun o => o := funext fun o => by
          have : scrubL1 [] = fun v => v := funext scrubL1_nil
          rw [this]; exact AObj.onRefs_id o
        rw [this]; simp
      have e1 : AV.onRefsL (scrubL1 []) ρ.tmps = ρ.tmps := by rw [onRefsL_eq, onRefs_self scrubL1_nil]; simp
      simp only [hq', OS.expandL, setMany, List.length_nil, List.drop_zero, List.map_cons, List.map_nil, e3, e1, e2, List.nil_append, hρ, St.new]
  rw [key σ rfl] at h
  rw [key τ hl]
  split at h
  · cases h
  · cases h; exact ⟨_, rfl, rfl⟩
section
variable {C : Ctx} {σ τ σ1 : St} {c : Bool} {v : AV}
theorem exec1_at {P : Program} (hC : CallOk P C) {o : Oper} (hl : τ.st.length = σ.st.length) (he : ∀ x ∈ o.op.operands.toList, τ.eval x = σ.eval x) (hb : fkBad (fkind C.sig o.op) σ o = false)
    (hv : ObjView C.T (fkind C.sig o.op) o σ τ) (h : exec1 C σ o = some (c, σ1, v)) :
    ∃ e, EffOk (fkind C.sig o.op) o σ e v ∧ σ1 = e.on σ ∧ exec1 C τ o = some (c, e.on τ, v) := by
  obtain ⟨dst, op, type, pos, after, guard⟩ := o
  have args_eq : ∀ args : Array Operand, (∀ x ∈ args.toList, τ.eval x = σ.eval x) → args.toList.map τ.eval = args.toList.map σ.eval := fun args ha => List.map_congr_left ha
  cases op with
  | move x | assign x =>
    have e := he x (by simp [Op.operands])
    simp only [exec1, aop] at h ⊢
    rw [e]; cases h; exact ⟨.none, rfl, rfl, rfl⟩
  | pick a b d =>
    have e1 := he a (by simp [Op.operands])
    have e2 := he b (by simp [Op.operands])
    have e3 := he d (by simp [Op.operands])
    simp only [exec1, aop] at h ⊢
    rw [e1, e2, e3]
    split at h
    · cases h; exact ⟨.none, rfl, rfl, rfl⟩
    · cases h
  | load t a =>
    have e := he a (by simp [Op.operands])
    have hv' : aload C.T τ t (σ.eval a) = aload C.T σ t (σ.eval a) := hv t a rfl
    simp only [exec1, aop] at h ⊢
    rw [e, hv']
    obtain ⟨rfl, h1, rfl⟩ := Ab.v_inv h
    rw [h1]; exact ⟨.none, rfl, rfl, rfl⟩
  | nilCheck x =>
    have e := he x (by simp [Op.operands])
    simp only [exec1, aop] at h ⊢
    rw [e]
    split at h <;> first | (cases h; exact ⟨.none, rfl, rfl, rfl⟩) | cases h
  | binOp op t x y ty =>
    have e1 := he x (by simp [Op.operands])
    have e2 := he y (by simp [Op.operands])
    have hv' : SameAt (List.flatMap (fun x => topIds (σ.eval x)) (Op.binOp op t x y ty).operands.toList) σ τ := hv
    have s1 : SameAt (topIds (σ.eval x)) σ τ := fun i hi => hv' i (List.mem_flatMap.2 ⟨x, by simp [Op.operands], hi⟩)
    have s2 : SameAt (topIds (σ.eval y)) σ τ := fun i hi => hv' i (List.mem_flatMap.2 ⟨y, by simp [Op.operands], hi⟩)
    simp only [exec1, aop] at h ⊢
    rw [e1, e2]
    split at h
    · simp only [abinOp_at op t s1 s2]
      split at h
      · obtain ⟨rfl, h1⟩ := Ab.w_inv h; rw [h1]; exact ⟨.none, rfl, rfl, rfl⟩
      · obtain ⟨rfl, h1⟩ := Ab.w_inv h; rw [h1]; exact ⟨.none, rfl, rfl, rfl⟩
      · cases h
    · simp only [abinOp_at op t s1 s2]
      obtain ⟨rfl, h1⟩ := Ab.w_inv h; rw [h1]; exact ⟨.none, rfl, rfl, rfl⟩
  | unOp op t x =>
    have e := he x (by simp [Op.operands])
    simp only [exec1, aop] at h ⊢
    rw [e]
    split at h
    · split at h
      · simp only [cond_eq_ite] at h ⊢
        split at h
        · cases h; rename_i hsc; rw [if_pos hsc]; exact ⟨.none, rfl, rfl, rfl⟩
        · cases h
      · cases h
    · split at h
      · cases h; exact ⟨.none, rfl, rfl, rfl⟩
      · cases h
    · cases h
  | convert s d x =>
    have e := he x (by simp [Op.operands])
    simp only [exec1, aop] at h ⊢
    rw [e]
    obtain ⟨rfl, h1, rfl⟩ := Ab.v_inv h
    rw [h1]; exact ⟨.none, rfl, rfl, rfl⟩
  | makeInterface t x =>
    have e := he x (by simp [Op.operands])
    simp only [exec1, aop] at h ⊢
    rw [e]
    split at h <;> first | (cases h; done) | (cases h; exact ⟨.none, rfl, rfl, rfl⟩)
  | makeFunc fn first captured =>
    have e1 := args_eq first (fun x hx => he x (by simp [Op.operands]; exact .inl (by simpa using hx)))
    have e2 := args_eq captured (fun x hx => he x (by simp [Op.operands]; exact .inr (by simpa using hx)))
    simp only [exec1, aop] at h ⊢
    rw [e1, e2]
    cases h; exact ⟨.none, rfl, rfl, rfl⟩
  | slice t x lo hi mx =>
    have e := he x (by simp [Op.operands])
    have e1 : lo.map τ.eval = lo.map σ.eval := by cases lo with | none => rfl | some y => simp [he y (by simp [Op.operands])]
    have e2 : hi.map τ.eval = hi.map σ.eval := by cases hi with | none => rfl | some y => simp [he y (by simp [Op.operands])]
    have e3 : mx.map τ.eval = mx.map σ.eval := by cases mx with | none => rfl | some y => simp [he y (by simp [Op.operands])]
    have hv' : SameAt (List.flatMap (fun x => topIds (σ.eval x)) (Op.slice t x lo hi mx).operands.toList) σ τ := hv
    have s1 : SameAt (topIds (σ.eval x)) σ τ := fun i hi' => hv' i (List.mem_flatMap.2 ⟨x, by simp [Op.operands], hi'⟩)
    simp only [exec1, aop] at h ⊢
    rw [e, e1, e2, e3, aslice_at s1]
    simp only [cond_eq_ite] at h ⊢
    split at h
    · cases h
    · rename_i hn
      rw [if_neg hn]
      obtain ⟨rfl, h1⟩ := Ab.w_inv h; rw [h1]; exact ⟨.none, rfl, rfl, rfl⟩
  | fieldAddr s x f =>
    have e := he x (by simp [Op.operands])
    simp only [exec1, aop] at h ⊢
    rw [e]
    obtain ⟨rfl, h1, rfl⟩ := Ab.v_inv h
    rw [h1]; exact ⟨.none, rfl, rfl, rfl⟩
  | field s x f =>
    have e := he x (by simp [Op.operands])
    simp only [exec1, aop] at h ⊢
    rw [e]
    obtain ⟨rfl, h1, rfl⟩ := Ab.v_inv h
    rw [h1]; exact ⟨.none, rfl, rfl, rfl⟩
  | indexAddr t x i =>
    have e1 := he x (by simp [Op.operands])
    have e2 := he i (by simp [Op.operands])
    have hv' : SameAt (List.flatMap (fun x => topIds (σ.eval x)) (Op.indexAddr t x i).operands.toList) σ τ := hv
    have s1 : SameAt (topIds (σ.eval x)) σ τ := fun j hj => hv' j (List.mem_flatMap.2 ⟨x, by simp [Op.operands], hj⟩)
    simp only [exec1, aop] at h ⊢
    rw [e1, e2, aindexAddr_at s1]
    obtain ⟨rfl, h1⟩ := Ab.w_inv h; rw [h1]; exact ⟨.none, rfl, rfl, rfl⟩
  | index t x i =>
    have e1 := he x (by simp [Op.operands])
    have e2 := he i (by simp [Op.operands])
    simp only [exec1, aop] at h ⊢
    rw [e1, e2]
    obtain ⟨rfl, h1⟩ := Ab.w_inv h; rw [h1]; exact ⟨.none, rfl, rfl, rfl⟩
  | extract x i =>
    have e := he x (by simp [Op.operands])
    simp only [exec1, aop] at h ⊢
    rw [e]
    split at h
    · obtain ⟨rfl, h1, rfl⟩ := Ab.v_inv h
      rw [h1]; exact ⟨.none, rfl, rfl, rfl⟩
    · cases h
  | build t parts =>
    have e : parts.toList.map (fun p => (p.1, τ.eval p.2)) = parts.toList.map (fun p => (p.1, σ.eval p.2)) :=
      List.map_congr_left fun p hp => by rw [he p.2 (by simp [Op.operands]; exact ⟨p.1, by simpa using hp⟩)]
    simp only [exec1, aop] at h ⊢
    rw [e]
    obtain ⟨rfl, h1, rfl⟩ := Ab.v_inv h
    rw [h1]; exact ⟨.none, rfl, rfl, rfl⟩
  | alloc t =>
    simp only [exec1, aop] at h ⊢
    cases hT : C.T t with
    | none => rw [hT] at h; cases h
    | some ti => rw [hT] at h; cases h; rw [hl]; exact ⟨.new _, ⟨_, rfl⟩, rfl, rfl⟩
  | box t x =>
    have e := he x (by simp [Op.operands])
    simp only [exec1, aop] at h ⊢
    rw [e]
    cases hT : C.T t with
    | none => rw [hT] at h; cases h
    | some ti =>
      rw [hT] at h
      simp only [cond_eq_ite] at h ⊢
      split at h
      · rename_i hc; rw [if_pos hc]; cases h; rw [hl]; exact ⟨.new _, ⟨_, rfl⟩, rfl, rfl⟩
      · cases h
  | buildSlice t len parts =>
    have e : parts.toList.map (fun p => (p.1, τ.eval p.2)) = parts.toList.map (fun p => (p.1, σ.eval p.2)) :=
      List.map_congr_left fun p hp => by rw [he p.2 (by simp [Op.operands]; exact ⟨p.1, by simpa using hp⟩)]
    simp only [exec1, aop] at h ⊢
    rw [e]
    obtain ⟨h1, h2⟩ := abuildSlice_at (T := C.T) hl t len (parts.toList.map fun p => (p.1, σ.eval p.2))
    cases hr : abuildSlice C.T σ t len (parts.toList.map fun p => (p.1, σ.eval p.2)) with
    | some r =>
      obtain ⟨σ2, v2⟩ := r
      obtain ⟨o', e1, e2⟩ := h2 σ2 v2 hr
      rw [hr] at h
      rw [e2]
      simp only [Ab.ok] at h ⊢
      cases h
      exact ⟨.new o', ⟨_, rfl⟩, e1, rfl⟩
    | none =>
      rw [hr] at h
      rw [h1 hr]
      simp only at h ⊢
      have h3 := Ab.ok_some h
      obtain ⟨o', e1, e2⟩ := abuildX_at (T := C.T) hl t len _ σ1 v h3
      rw [e2]
      rw [h3] at h
      simp only [Ab.ok] at h ⊢
      cases h
      exact ⟨.new o', ⟨_, rfl⟩, e1, rfl⟩
  | makeSlice t l cp =>
    have e1 := he l (by simp [Op.operands])
    have e2 := he cp (by simp [Op.operands])
    simp only [exec1, aop] at h ⊢
    rw [e1, e2]
    obtain ⟨e, q, k1, k2⟩ := amakeSlice_at (T := C.T) hl t (σ.eval l) (σ.eval cp) c σ1 v h
    exact ⟨e, q, k1, k2⟩
  | store t a x =>
    have e1 := he a (by simp [Op.operands])
    have e2 := he x (by simp [Op.operands])
    simp only [exec1, aop] at h ⊢
    rw [e1, e2]
    have hv' : SameAt (topIds (σ.eval a)) σ τ := hv
    split at h
    · rename_i σ2 hs
      cases h
      obtain ⟨id, o', k1, k2, k3⟩ := astore_at (T := C.T) t (σ.eval x) (σ.eval a) hv' _ hs
      rw [k3]
      exact ⟨.write id o', ⟨id, o', rfl, k1⟩, k2, rfl⟩
    · cases h
  | call cl =>
    obtain ⟨callee, args, ats⟩ := cl
    cases callee with
    | value f =>
      cases f with
      | func n =>
        cases hq : (C.sig n).2.1.isEmpty with
        | false =>
          cases h1 : oneArr (C.sig n).2.1 with
          | false => simp [fkind, hq, h1, fkBad] at hb
          | true =>
            have ea := args_eq args (fun x hx => he x (by simp [Op.operands, Call.operands]; first | exact .inr (by simpa using hx) | exact (by simpa using hx)))
            simp only [fkind, hq, h1, cond_true, cond_false, fkBad, Bool.not_eq_false', List.isEmpty_iff] at hb
            simp only [exec1, St.eval, List.nil_append, List.append_nil] at h ⊢
            obtain ⟨o', rfl, hk⟩ := acall1_one h1 hb hl h
            rw [ea, hk]
            exact ⟨.new o', by simp [EffOk, fkind, hq, h1], rfl, rfl⟩
        | true =>
          have hq' : (C.sig n).2.1 = [] := by simpa using hq
          have ea := args_eq args (fun x hx => he x (by simp [Op.operands, Call.operands]; first | exact .inr (by simpa using hx) | exact (by simpa using hx)))
          simp only [fkind, hq, cond_true, fkBad, Bool.not_eq_false', List.isEmpty_iff] at hb
          simp only [exec1, St.eval, List.nil_append, List.append_nil] at h ⊢
          obtain ⟨rfl, hk⟩ := acall1_none hC hq' hb hl h
          rw [ea, hk]
          exact ⟨.none, by simp [EffOk, fkind, hq], rfl, rfl⟩
      | _ => simp [fkind, fkBad] at hb
    | builtin b =>
      have ea := args_eq args (fun x hx => he x (by simp [Op.operands, Call.operands]; first | exact .inr (by simpa using hx) | exact (by simpa using hx)))
      have sa : SameAt (List.flatMap (fun x => topIds (σ.eval x)) (Op.call ⟨.builtin b, args, ats⟩).operands.toList) σ τ → ∀ x ∈ args.toList.map σ.eval, SameAt (topIds x) σ τ := fun hv' x hx i hi => by
        obtain ⟨y, hy, rfl⟩ := List.mem_map.1 hx
        exact hv' i (List.mem_flatMap.2 ⟨y, by simp [Op.operands, Call.operands]; simpa using hy, hi⟩)
      cases b with
      | len =>
        have hs := sa hv
        simp only [exec1, aop] at h ⊢
        rw [ea]
        generalize args.toList.map σ.eval = as at *
        rcases hts : ats.toList with _ | ⟨t, _ | ⟨u, ts⟩⟩ <;> rcases as with _ | ⟨x, _ | ⟨y, as⟩⟩ <;> rw [hts] at h <;> simp only [abuiltin] at h ⊢ <;> first | (cases h; done) | skip
        rw [alen_at (hs x (by simp))]
        obtain ⟨rfl, h1, rfl⟩ := Ab.v_inv h
        rw [h1]; exact ⟨.none, rfl, rfl, rfl⟩
      | max =>
        simp only [exec1, aop] at h ⊢
        rw [ea]
        change (match aminmax true _ with | some x => (some (true, σ, x) : Ab (St × AV)) | none => none) = _ at h
        obtain ⟨rfl, h1, rfl⟩ := Ab.v_inv h
        refine ⟨.none, rfl, rfl, ?_⟩
        change (match aminmax true _ with | some x => (some (true, τ, x) : Ab (St × AV)) | none => none) = _
        rw [h1]; rfl
      | min =>
        simp only [exec1, aop] at h ⊢
        rw [ea]
        change (match aminmax false _ with | some x => (some (true, σ, x) : Ab (St × AV)) | none => none) = _ at h
        obtain ⟨rfl, h1, rfl⟩ := Ab.v_inv h
        refine ⟨.none, rfl, rfl, ?_⟩
        change (match aminmax false _ with | some x => (some (true, τ, x) : Ab (St × AV)) | none => none) = _
        rw [h1]; rfl
      | append =>
        have hs := sa hv
        simp only [exec1, aop] at h ⊢
        rw [ea]
        obtain ⟨e, q, k1, k2⟩ := append_at (T := C.T) hl hs c σ1 v h
        exact ⟨e, q, k1, k2⟩
      | _ => simp [fkind, fkBad] at hb
    | invoke r n => simp [fkind, fkBad] at hb
  | _ => simp [fkind, fkBad] at hb
end
theorem dedup_sub : ∀ (l seen : List Nat) (i : Nat), i ∈ seen → i ∈ dedup l seen
  | [], _, _, h => h
  | j :: l, seen, i, h => by
    simp only [dedup]
    cases seen.elem j
    · exact dedup_sub l _ i (List.mem_append_left _ h)
    · exact dedup_sub l _ i h
theorem reach_sub (st : List AObj) : ∀ (n : Nat) (l : List Nat) (i : Nat), i ∈ l → i ∈ reach st n l
  | 0, _, _, h => h
  | n + 1, l, i, h => by
    simp only [reach]
    cases Nat.beq (dedup (l.flatMap fun i => (st.getD i .dead).ids) l).length l.length
    · exact reach_sub st n _ i (dedup_sub _ _ i h)
    · exact h
theorem reach_same {st st' : List AObj} : ∀ (n : Nat) (l : List Nat), (∀ i ∈ reach st n l, st'.getD i .dead = st.getD i .dead) → reach st' n l = reach st n l
  | 0, _, _ => rfl
  | n + 1, l, h => by
    have hl : ∀ i ∈ l, st'.getD i .dead = st.getD i .dead := fun i hi => h i (reach_sub st (n + 1) l i hi)
    have e : (l.flatMap fun i => (st'.getD i .dead).ids) = l.flatMap fun i => (st.getD i .dead).ids := by
      have key : ∀ m : List Nat, (∀ i ∈ m, st'.getD i .dead = st.getD i .dead) → (m.flatMap fun i => (st'.getD i .dead).ids) = m.flatMap fun i => (st.getD i .dead).ids := by
        intro m
        induction m with
        | nil => intro _; rfl
        | cons a m ih =>
          intro hm
          simp only [List.flatMap_cons]
          rw [hm a List.mem_cons_self, ih fun i hi => hm i (List.mem_cons_of_mem _ hi)]
      exact key l hl
    simp only [reach, e] at h ⊢
    cases hb : Nat.beq (dedup (l.flatMap fun i => (st.getD i .dead).ids) l).length l.length with
    | true => rfl
    | false =>
      rw [hb] at h
      exact reach_same n _ h
section
variable {C : Ctx} {σ τ : St} {v : AV}
theorem calleeOf_at {op : Op} (he : ∀ x ∈ op.operands.toList, τ.eval x = σ.eval x) : calleeOf τ op = calleeOf σ op := by
  cases op with
  | call cl =>
    obtain ⟨callee, args, ats⟩ := cl
    cases callee with
    | value f =>
      have hf : τ.eval f = σ.eval f := he f (by simp [Op.operands, Call.operands])
      have ha : args.toList.map τ.eval = args.toList.map σ.eval := List.map_congr_left fun x hx => he x (by simp [Op.operands, Call.operands]; first | exact .inr (by simpa using hx) | exact (by simpa using hx))
      simp only [calleeOf, hf, ha]
    | _ => rfl
  | _ => rfl
theorem acallS_at {op : Op} (hl : τ.st.length = σ.st.length) (he : ∀ x ∈ op.operands.toList, τ.eval x = σ.eval x) (hs : SameAt (callTouch op σ) σ τ) : acallS C τ op = acallS C σ op := by
  unfold acallS
  rw [calleeOf_at he]
  unfold callTouch at hs
  cases hc : calleeOf σ op with
  | none => rfl
  | some p =>
    obtain ⟨f, args⟩ := p
    rw [hc] at hs
    have er := reach_same 8 (dedup (AV.idsL args) []) hs
    simp only [er, hl]
    simp only at hs
    generalize reach σ.st 8 (dedup (AV.idsL args) []) = ks at *
    have e1 : (ks.map fun i => (τ.st.getD i .dead).onRefs (rename1 ks)) = ks.map fun i => (σ.st.getD i .dead).onRefs (rename1 ks) := List.map_congr_left fun i hi => by rw [hs i hi]
    have e2 : (ks.map fun i => τ.st.getD i .dead) = ks.map fun i => σ.st.getD i .dead := List.map_congr_left fun i hi => hs i hi
    rw [e1, e2]
theorem setMany_getD : ∀ (ks : List Nat) (st : List AObj), (∀ k ∈ ks, k < st.length) → setMany st ks (ks.map fun i => st.getD i .dead) = st
  | [], _, _ => by simp [setMany]
  | k :: ks, st, h => by
    have hk := h k List.mem_cons_self
    simp only [List.map_cons, setMany]
    have e : st.set k (st.getD k .dead) = st := by
      rw [List.getD_eq_getElem?_getD, List.getElem?_eq_getElem hk]
      exact List.set_getElem_self hk
    rw [e]
    exact setMany_getD ks st fun i hi => h i (List.mem_cons_of_mem _ hi)
theorem acallS_exec1 {o : Oper} (h : acallS C σ o.op = some (true, v)) : exec1 C σ o = some (true, σ, v) := by
  unfold acallS at h
  cases hc : calleeOf σ o.op with
  | none => rw [hc] at h; cases h
  | some p =>
    obtain ⟨f, args⟩ := p
    rw [hc] at h
    have hx : exec1 C σ o = acall1 C σ f args := by
      unfold calleeOf at hc
      unfold exec1
      split at hc
      · rename_i g as ats hop
        simp only [hop]
        split at hc
        · rename_i n first captured hf
          cases hc
          simp only [hf]
        · cases hc
      · cases hc
    rw [hx]
    unfold acall1
    generalize hks : reach σ.st 8 (dedup (AV.idsL args) []) = ks at h
    simp only [hks] at h ⊢
    cases hb : ks.all fun i => Nat.blt i σ.st.length with
    | false => rw [hb] at h; simp at h
    | true =>
      rw [hb] at h
      simp only [Bool.not_true, cond_false] at h ⊢
      cases hcl : C.call f (AV.onRefsL (rename1 ks) args) (ks.map fun i => (σ.st.getD i .dead).onRefs (rename1 ks)) with
      | none => rw [hcl] at h; cases h
      | some x =>
        obtain ⟨c0, r, st0⟩ := x
        rw [hcl] at h
        simp only at h ⊢
        cases hm : (C.sig f).2.2.isEmpty with
        | false => rw [hm] at h; simp at h
        | true =>
          rw [hm] at h
          have hm' : (C.sig f).2.2 = [] := by simpa using hm
          simp only [cond_true, Option.some.injEq, Prod.mk.injEq, Bool.and_eq_true, eqC_iff] at h
          obtain ⟨⟨rfl, he⟩, rfl⟩ := h
          have e3 : pickIds ks [] = [] := rfl
          have e2 : σ.st.map (AObj.onRefs (scrubL1 [])) = σ.st := by
            have : AObj.onRefs (scrubL1 []) = fun o => o := funext fun o => by
              have : scrubL1 [] = fun v => v := funext scrubL1_nil
              rw [this]; exact AObj.onRefs_id o
            rw [this]; simp
          have e1 : AV.onRefsL (scrubL1 []) σ.tmps = σ.tmps := by rw [onRefsL_eq, onRefs_self scrubL1_nil]; simp
          have hlen : (OS.expandL (C.sig f).2.1 0 st0).length = ks.length := by have := congrArg List.length he; simpa using this
          have hd : (OS.expandL (C.sig f).2.1 0 st0).drop ks.length = [] := List.drop_eq_nil_of_le (by omega)
          have hg := setMany_getD ks σ.st fun k hk => by
            have := List.all_eq_true.1 hb k hk
            simpa [Nat.blt_eq] using this
          simp only [hm', e3, e1, e2, he, hd, hg, List.map_nil, List.append_nil, List.nil_append]
end
end Go.Fw
set_option linter.unusedSimpArgs false
set_option linter.unusedVariables false
namespace Go.Fw
mutual
theorem onRefs_comp {g h : AV → AV} (hg : Scrubs g) (hh : h .undef = .undef) : ∀ v : AV, (v.onRefs g).onRefs h = v.onRefs fun r => h (g r)
  | .agg cs => by simp only [AV.onRefs]; rw [onRefsL_comp hg hh cs]
  | .tup cs => by simp only [AV.onRefs]; rw [onRefsL_comp hg hh cs]
  | .fn f a b => by simp only [AV.onRefs]; rw [onRefsL_comp hg hh a, onRefsL_comp hg hh b]
  | .iface t v => by simp only [AV.onRefs]; rw [onRefs_comp hg hh v]
  | .sr i => by simp only [AV.onRefs]; rcases hg (.sr i) with e | e <;> rw [e] <;> simp only [AV.onRefs, hh]
  | .ss i a b => by simp only [AV.onRefs]; rcases hg (.ss i a b) with e | e <;> rw [e] <;> simp only [AV.onRefs, hh]
  | .ptr i a => by simp only [AV.onRefs]; rcases hg (.ptr i a) with e | e <;> rw [e] <;> simp only [AV.onRefs, hh]
  | .ap i a b => by simp only [AV.onRefs]; rcases hg (.ap i a b) with e | e <;> rw [e] <;> simp only [AV.onRefs, hh]
  | .yl i => by simp only [AV.onRefs]; rcases hg (.yl i) with e | e <;> rw [e] <;> simp only [AV.onRefs, hh]
  | .mp i => by simp only [AV.onRefs]; rcases hg (.mp i) with e | e <;> rw [e] <;> simp only [AV.onRefs, hh]
  | .undef => rfl
  | .k v => rfl
  | .sl t kd r => rfl
  | .ep t r o => rfl
theorem onRefsL_comp {g h : AV → AV} (hg : Scrubs g) (hh : h .undef = .undef) : ∀ vs : List AV, AV.onRefsL h (AV.onRefsL g vs) = AV.onRefsL (fun r => h (g r)) vs
  | [] => rfl
  | v :: vs => by simp only [AV.onRefsL]; rw [onRefs_comp hg hh v, onRefsL_comp hg hh vs]
end
theorem onRefsO_comp {g h : AV → AV} (hg : Scrubs g) (hh : h .undef = .undef) (o : AObj) : (o.onRefs g).onRefs h = o.onRefs fun r => h (g r) := by
  cases o with
  | box t cs => simp only [AObj.onRefs, onRefsL_comp hg hh]
  | arx t rows =>
    simp only [AObj.onRefs, List.map_map]
    congr 1
    exact List.map_congr_left fun r _ => onRefsL_comp hg hh r
  | loop fin p f tm ps a b => simp only [AObj.onRefs, onRefsL_comp hg hh]
  | map x t es =>
    simp only [AObj.onRefs, List.map_map]
    congr 1
    exact List.map_congr_left fun r _ => by simp only [Function.comp]; rw [onRefsL_comp hg hh]
  | _ => rfl
theorem At.keep {T : Tab} {B : Base} {σ : St} {a : Act} {w : World} (h : At T B σ a w) (ks : List Nat) (hk : ks.Nodup) (hm : ∀ i, i < B.m → ks[i]? = some i) (hl : B.m ≤ ks.length) : At T B (σ.keep ks) a w := by
  obtain ⟨hd, E, Z, h1, h2, h3, h4⟩ := h
  obtain ⟨k1, k2⟩ := h1.keep ks hk
  refine ⟨hd, _, Z, k1, h2.trans k2, fun i hi hn => ?_, by simpa [St.keep] using hl⟩
  have := h3 i hi hn
  simp only [Env.sel, hm i hi]
  exact this
theorem range_set_nodup {N slot : Nat} : ((List.range N).set slot N).Nodup := by
  refine List.pairwise_iff_getElem.2 fun i j hi hj hij => ?_
  rw [List.length_set, List.length_range] at hi hj
  rw [List.getElem_set, List.getElem_set]
  simp only [List.getElem_range]
  split
  · split
    · omega
    · omega
  · split
    · omega
    · omega
def keepIf (fk : Fk) (N : Nat) (x : St) : St := bif fk.isNew then x.keep (List.range N) else x
def stepIf (fk : Fk) (N slot : Nat) (dst : Option Nat) (σ1 : St) (v : AV) : St :=
  bif fk.isNew && Nat.blt N σ1.st.length then (σ1.put dst v).keep ((List.range N).set slot N) else σ1.put dst v
def gOf (fk : Fk) (N : Nat) : AV → AV := bif fk.isNew then rename1 (List.range N) else fun r => r
def hOf (N slot : Nat) : AV → AV := rename1 ((List.range N).set slot N)
def mkAp (fk : Fk) (N slot : Nat) (dst : Option Nat) (e : Eff) (v : AV) : Ap :=
  match e with
  | .none => ⟨gOf fk N, dst, v, none⟩
  | .write id o => ⟨gOf fk N, dst, v, some (id, o)⟩
  | .own id o => ⟨fun r => scrub1 id (gOf fk N r), dst, v, some (id, o)⟩
  | .new o => ⟨fun r => hOf N slot (gOf fk N r), dst, v.onRefs (hOf N slot), some (slot, o.onRefs (hOf N slot))⟩
theorem idxIn_range {N i : Nat} (h : i < N) {ks : List Nat} (hk : ks.Nodup) (hi : ks[i]? = some i) : idxIn ks i = some i := by
  have key : ∀ (ks : List Nat) (i j : Nat), ks.Nodup → ks[j]? = some i → idxIn ks i = some j := by
    intro ks
    induction ks with
    | nil => intro i j _ h; simp at h
    | cons k ks ih =>
      intro i j hn h
      simp only [idxIn]
      cases j with
      | zero =>
        simp only [List.getElem?_cons_zero, Option.some.injEq] at h
        subst h; simp [Nat.beq_refl]
      | succ j =>
        rw [List.getElem?_cons_succ] at h
        obtain ⟨h1, h2⟩ := List.nodup_cons.1 hn
        have : Nat.beq k i = false := by
          cases hb : Nat.beq k i with
          | false => rfl
          | true =>
            have := Nat.eq_of_beq_eq_true hb
            subst this
            exact absurd (List.mem_of_getElem? h) h1
        rw [this]
        simp [ih i j h2 h]
  exact key ks i i hk hi
theorem idxIn_non {ks : List Nat} {i : Nat} (h : i ∉ ks) : idxIn ks i = none := by
  cases hh : idxIn ks i with
  | none => rfl
  | some j => exact absurd (List.mem_of_getElem? (idxIn_some hh)) h
theorem rename1_same {ks : List Nat} (hk : ks.Nodup) : (∀ i, ks[i]? = some i → rename1 ks (.sr i) = .sr i ∧ (∀ a b, rename1 ks (.ss i a b) = .ss i a b) ∧ (∀ a, rename1 ks (.ptr i a) = .ptr i a) ∧ (∀ a b, rename1 ks (.ap i a b) = .ap i a b)) := fun i hi => by
  have h := idxIn_range (Nat.lt_succ_self i) hk hi
  simp [rename1, h]
theorem getElem?_range_self {N i : Nat} (h : i < N) : (List.range N)[i]? = some i := List.getElem?_range h
theorem getElem?_range_set {N slot i : Nat} (h : i < N) (hne : i ≠ slot) : ((List.range N).set slot N)[i]? = some i := by
  rw [List.getElem?_set, if_neg (Ne.symm hne)]
  exact List.getElem?_range h
theorem rename_range_scr (N : Nat) : Scr [] N (rename1 (List.range N)) := by
  have hk : (List.range N).Nodup := List.nodup_range
  refine ⟨fun r => ?_, fun i hi _ => (rename1_same hk i (getElem?_range_self hi)).1, fun i a b hi _ => (rename1_same hk i (getElem?_range_self hi)).2.1 a b, fun i a hi _ => (rename1_same hk i (getElem?_range_self hi)).2.2.1 a, fun i a b hi _ => (rename1_same hk i (getElem?_range_self hi)).2.2.2 a b⟩
  have key : ∀ i, (i < N ∧ idxIn (List.range N) i = some i) ∨ idxIn (List.range N) i = none := fun i => by
    rcases Nat.lt_or_ge i N with h | h
    · exact .inl ⟨h, idxIn_range h hk (getElem?_range_self h)⟩
    · exact .inr (idxIn_non (by simpa using h))
  cases r with
  | sr i => rcases key i with ⟨_, h⟩ | h <;> simp [rename1, h]
  | ss i a b => rcases key i with ⟨_, h⟩ | h <;> simp [rename1, h]
  | ptr i a => rcases key i with ⟨_, h⟩ | h <;> simp [rename1, h]
  | ap i a b => rcases key i with ⟨_, h⟩ | h <;> simp [rename1, h]
  | yl i => rcases key i with ⟨_, h⟩ | h <;> simp [rename1, h]
  | mp i => rcases key i with ⟨_, h⟩ | h <;> simp [rename1, h]
  | _ => exact .inl rfl
theorem gOf_scr (fk : Fk) (N : Nat) : Scr [] N (gOf fk N) := by
  unfold gOf
  cases fk.isNew
  · exact ⟨fun _ => .inl rfl, fun _ _ _ => rfl, fun _ _ _ _ _ => rfl, fun _ _ _ _ => rfl, fun _ _ _ _ _ => rfl⟩
  · exact rename_range_scr N
theorem own_scr (fk : Fk) (N id : Nat) : Scr [id] N (fun r => scrub1 id (gOf fk N r)) := by
  have hg := gOf_scr fk N
  have hs : ∀ i, i ∉ [id] → Nat.beq i id = false := fun i hi => by
    cases hb : Nat.beq i id with
    | false => rfl
    | true => exact absurd (by simpa using Nat.eq_of_beq_eq_true hb) hi
  refine ⟨fun r => ?_, fun i hi hn => ?_, fun i a b hi hn => ?_, fun i a hi hn => ?_, fun i a b hi hn => ?_⟩
  · rcases hg.scr r with e | e <;> simp only [e]
    · exact Scrubs.scrub1 id r
    · exact .inr rfl
  · simp only [hg.sr i hi (by simp), scrub1, hs i hn, cond_false]
  · simp only [hg.ss i a b hi (by simp), scrub1, hs i hn, cond_false]
  · simp only [hg.ptr i a hi (by simp), scrub1, hs i hn, cond_false]
  · simp only [hg.ap i a b hi (by simp), scrub1, hs i hn, cond_false]
theorem new_scr {fk : Fk} (hf : fk.isNew = true) (N slot : Nat) : Scr [slot] N (fun r => hOf N slot (gOf fk N r)) := by
  have hg : gOf fk N = rename1 (List.range N) := by unfold gOf; rw [hf]; rfl
  rw [hg]
  have hk : (List.range N).Nodup := List.nodup_range
  have hk2 : ((List.range N).set slot N).Nodup := range_set_nodup
  have key : ∀ i, (i < N ∧ idxIn (List.range N) i = some i) ∨ idxIn (List.range N) i = none := fun i => by
    rcases Nat.lt_or_ge i N with h | h
    · exact .inl ⟨h, idxIn_range h hk (getElem?_range_self h)⟩
    · exact .inr (idxIn_non (by simpa using h))
  have key2 : ∀ i, i < N → (i ≠ slot ∧ idxIn ((List.range N).set slot N) i = some i) ∨ (i = slot ∧ idxIn ((List.range N).set slot N) i = none) := fun i hi => by
    by_cases h : i = slot
    · refine .inr ⟨h, idxIn_non fun hm => ?_⟩
      obtain ⟨j, hj, e⟩ := List.mem_iff_getElem.1 hm
      rw [List.length_set, List.length_range] at hj
      rw [List.getElem_set] at e
      split at e
      · omega
      · rw [List.getElem_range] at e; omega
    · exact .inl ⟨h, idxIn_range hi hk2 (getElem?_range_set hi h)⟩
  refine ⟨fun r => ?_, fun i hi hn => ?_, fun i a b hi hn => ?_, fun i a hi hn => ?_, fun i a b hi hn => ?_⟩
  · cases r with
    | sr i | ss i a b | ptr i a | ap i a b | yl i | mp i =>
      rcases key i with ⟨hi, h⟩ | h
      · rcases key2 i hi with ⟨_, h2⟩ | ⟨_, h2⟩ <;> simp [rename1, hOf, h, h2]
      · simp [rename1, hOf, h]
    | _ => exact .inl rfl
  all_goals
    have hne : i ≠ slot := by simpa using hn
    rcases key i with ⟨_, h⟩ | h
    · rcases key2 i hi with ⟨_, h2⟩ | ⟨h3, _⟩
      · simp [rename1, hOf, h, h2]
      · exact absurd h3 hne
    · rw [idxIn_range hi hk (getElem?_range_self hi)] at h; cases h
theorem onRefsL_id2 (l : List AV) : AV.onRefsL (fun r => r) l = l := onRefsL_id' l
theorem onRefsO_id2 (l : List AObj) : l.map (AObj.onRefs fun r => r) = l := by
  conv => rhs; rw [← List.map_id l]
  exact List.map_congr_left fun o _ => AObj.onRefs_id o
theorem keepIf_eq {fk : Fk} {N : Nat} {x : St} (hl : x.st.length = N) : keepIf fk N x = ⟨AV.onRefsL (gOf fk N) x.tmps, x.st.map (AObj.onRefs (gOf fk N)), x.moved⟩ := by
  unfold keepIf gOf
  cases fk.isNew
  · simp only [cond_false, onRefsL_id2, onRefsO_id2]
  · simp only [cond_true, St.keep, St.mk.injEq, true_and, and_true]
    apply List.ext_getElem?
    intro i
    rw [List.getElem?_map, List.getElem?_map]
    rcases Nat.lt_or_ge i N with h | h
    · rw [List.getElem?_range h]
      have : x.st[i]? = some x.st[i] := List.getElem?_eq_getElem (by omega)
      simp [List.getD, this]
    · rw [List.getElem?_eq_none (by simpa using h), List.getElem?_eq_none (by omega)]
      rfl
theorem Eff.on_len {e : Eff} {σ : St} : (e.on σ).st.length = match e with | .new _ => σ.st.length + 1 | _ => σ.st.length := by
  cases e <;> simp [Eff.on, St.new, St.scrub]
theorem mkAp_on {fk : Fk} {N slot : Nat} {dst : Option Nat} {e : Eff} {v : AV} {x : St} (hl : x.st.length = N) (hs : slot < N) (he : ∀ o, e = .new o → fk.isNew = true) :
    (mkAp fk N slot dst e v).on (x.tmps, x.st) = ((stepIf fk N slot dst (e.on (keepIf fk N x)) v).tmps, (stepIf fk N slot dst (e.on (keepIf fk N x)) v).st) ∧
    (stepIf fk N slot dst (e.on (keepIf fk N x)) v).st.length = N ∧
    (stepIf fk N slot dst (e.on (keepIf fk N x)) v).moved = (match e with | .own id _ => bif x.moved.elem id then x.moved else id :: x.moved | _ => x.moved) := by
  rw [keepIf_eq hl]
  have hput : ∀ (σ : St), (σ.put dst v).tmps = (match dst with | some d => σ.tmps.set d v | none => σ.tmps) := fun σ => by cases dst <;> rfl
  have hpst : ∀ (σ : St), (σ.put dst v).st = σ.st ∧ (σ.put dst v).moved = σ.moved := fun σ => by cases dst <;> exact ⟨rfl, rfl⟩
  have hng : ∀ σ : St, σ.st.length = N → stepIf fk N slot dst σ v = σ.put dst v := fun σ h => by
    unfold stepIf
    rw [h]
    have : Nat.blt N N = false := by
      cases hb : Nat.blt N N with
      | false => rfl
      | true => exact absurd (Nat.blt_eq ▸ hb : N < N) (Nat.lt_irrefl _)
    simp [this]
  cases e with
  | none =>
    have h1 := hng (Eff.on .none ⟨AV.onRefsL (gOf fk N) x.tmps, x.st.map (AObj.onRefs (gOf fk N)), x.moved⟩) (by simp [Eff.on, hl])
    rw [h1]
    refine ⟨?_, by rw [(hpst _).1]; simp [Eff.on, hl], (hpst _).2⟩
    rw [hput, (hpst _).1]
    cases dst <;> rfl
  | write id o =>
    have h1 := hng (Eff.on (.write id o) ⟨AV.onRefsL (gOf fk N) x.tmps, x.st.map (AObj.onRefs (gOf fk N)), x.moved⟩) (by simp [Eff.on, hl])
    rw [h1]
    refine ⟨?_, by rw [(hpst _).1]; simp [Eff.on, hl], (hpst _).2⟩
    rw [hput, (hpst _).1]
    cases dst <;> rfl
  | own id o =>
    have h1 := hng (Eff.on (.own id o) ⟨AV.onRefsL (gOf fk N) x.tmps, x.st.map (AObj.onRefs (gOf fk N)), x.moved⟩) (by simp [Eff.on, hl, St.scrub])
    rw [h1]
    refine ⟨?_, by rw [(hpst _).1]; simp [Eff.on, hl, St.scrub], (hpst _).2⟩
    rw [hput, (hpst _).1]
    have e1 : AV.onRefsL (scrub1 id) (AV.onRefsL (gOf fk N) x.tmps) = AV.onRefsL (fun r => scrub1 id (gOf fk N r)) x.tmps := onRefsL_comp (gOf_scr fk N).scr rfl _
    have e2 : (x.st.map (AObj.onRefs (gOf fk N))).map (AObj.onRefs (scrub1 id)) = x.st.map (AObj.onRefs fun r => scrub1 id (gOf fk N r)) := by
      rw [List.map_map]
      exact List.map_congr_left fun o _ => onRefsO_comp (gOf_scr fk N).scr rfl o
    simp only [mkAp, Ap.on, Ap.tm, Ap.st, Eff.on, St.scrub, e1, e2]
    cases dst <;> rfl
  | new o =>
    have hf := he o rfl
    have h1 : stepIf fk N slot dst (Eff.on (.new o) ⟨AV.onRefsL (gOf fk N) x.tmps, x.st.map (AObj.onRefs (gOf fk N)), x.moved⟩) v = ((Eff.on (.new o) ⟨AV.onRefsL (gOf fk N) x.tmps, x.st.map (AObj.onRefs (gOf fk N)), x.moved⟩).put dst v).keep ((List.range N).set slot N) := by
      unfold stepIf
      have : Nat.blt N (N + 1) = true := by simp [Nat.blt]
      simp [hf, Eff.on, St.new, hl, this]
    rw [h1]
    have e1 : AV.onRefsL (hOf N slot) (AV.onRefsL (gOf fk N) x.tmps) = AV.onRefsL (fun r => hOf N slot (gOf fk N r)) x.tmps := onRefsL_comp (gOf_scr fk N).scr rfl _
    refine ⟨?_, by simp [St.keep], ?_⟩
    · simp only [mkAp, Ap.on, St.keep, Prod.mk.injEq]
      constructor
      · simp only [Ap.tm, hput]
        cases dst with
        | none => exact e1.symm
        | some d => simp only [Eff.on, St.new]; rw [onRefsL_set]; exact congrArg (fun l => List.set l d _) e1.symm
      · simp only [Ap.st, (hpst _).1]
        apply List.ext_getElem?
        intro i
        rw [List.getElem?_map]
        rcases Nat.lt_or_ge i N with h | h
        · by_cases hi : slot = i
          · subst hi
            rw [List.getElem?_set_self (by simpa [hl] using h), List.getElem?_set_self (by simpa using h)]
            simp only [Option.map_some, Eff.on, St.new]
            have : (x.st.map (AObj.onRefs (gOf fk N)) ++ [o]).getD N .dead = o := by
              rw [List.getD_eq_getElem?_getD, List.getElem?_append_right (by simp [hl])]
              simp [hl]
            rw [this]; rfl
          · rw [List.getElem?_set_ne hi, List.getElem?_set_ne hi, List.getElem?_map, List.getElem?_range h]
            have hx : x.st[i]? = some x.st[i] := List.getElem?_eq_getElem (by omega)
            rw [hx]
            simp only [Option.map_some, Eff.on, St.new]
            have : (x.st.map (AObj.onRefs (gOf fk N)) ++ [o]).getD i .dead = x.st[i].onRefs (gOf fk N) := by
              rw [List.getD_eq_getElem?_getD, List.getElem?_append_left (by simp [hl, h]), List.getElem?_map, hx]; rfl
            rw [this]
            exact congrArg some (onRefsO_comp (gOf_scr fk N).scr rfl _).symm
        · rw [List.getElem?_eq_none (by simp [hl]; omega), List.getElem?_eq_none (by simp; omega)]
          rfl
    · simp only [St.keep, (hpst _).2]; rfl
def effScr (slot : Nat) : Eff → List Nat
  | .new _ => [slot]
  | .own id _ => [id]
  | _ => []
theorem mkAp_scr {fk : Fk} {N slot : Nat} {dst : Option Nat} {e : Eff} {v : AV} (he : ∀ o, e = .new o → fk.isNew = true) :
    Scr (effScr slot e) N (mkAp fk N slot dst e v).g := by
  cases e with
  | none => exact gOf_scr fk N
  | write id o => exact gOf_scr fk N
  | own id o => exact own_scr fk N id
  | new o => exact new_scr (he o rfl) N slot
end Go.Fw
set_option linter.unusedSimpArgs false
set_option linter.unusedVariables false
namespace Go.Fw
theorem map_stab {α : Type} {h : α → α} : ∀ (l m : List α), (∀ v ∈ m, h v = v ∧ ∀ v', h v' = v → v' = v) → (l.map h = m ↔ l = m)
  | [], m, _ => by simp
  | a :: l, [], _ => by simp
  | a :: l, b :: m, hs => by
    simp only [List.map_cons, List.cons.injEq]
    rw [map_stab l m fun v hv => hs v (List.mem_cons_of_mem _ hv)]
    have h1 := hs b List.mem_cons_self
    constructor
    · rintro ⟨e, e2⟩; exact ⟨h1.2 a e, e2⟩
    · rintro ⟨e, e2⟩; exact ⟨by rw [e]; exact h1.1, e2⟩
theorem getD_onRefsL (g : AV → AV) (l : List AV) (t : Nat) : (AV.onRefsL g l).getD t .undef = (l.getD t .undef).onRefs g := by
  rw [onRefsL_eq, List.getD_eq_getElem?_getD, List.getD_eq_getElem?_getD, List.getElem?_map]
  cases l[t]? <;> rfl
theorem getD_mapO (g : AV → AV) (l : List AObj) (i : Nat) : (l.map (AObj.onRefs g)).getD i .dead = (l.getD i .dead).onRefs g := by
  rw [List.getD_eq_getElem?_getD, List.getD_eq_getElem?_getD, List.getElem?_map]
  cases l[i]? <;> rfl
theorem elemLoadX_map {T : Tab} {t e : Nat} {row : List AV} {off : Nat} (g : AV → AV) : elemLoadX T t e (AV.onRefsL g row) off = (elemLoadX T t e row off).map (AV.onRefs g) := by
  unfold elemLoadX
  split
  · simp only [cond_eq_ite]
    split
    · split
      · simp only [Option.map_some, AV.onRefs, onRefsL_eq, List.map_take, List.map_drop]
      · split
        · rw [onRefsL_eq, List.getElem?_map]
        · rfl
    · rfl
  · rfl
theorem aload_map {T : Tab} {x x' : St} (g : AV → AV) (t : Nat) (av : AV) (h : ∀ i ∈ topIds av, x'.st.getD i .dead = (x.st.getD i .dead).onRefs g) :
    aload T x' t av = aload T x t av ∨ aload T x' t av = (aload T x t av).map (AV.onRefs g) := by
  cases av with
  | ptr id off =>
    have e := h id (by simp [topIds])
    right
    unfold aload
    simp only [e]
    cases x.st.getD id .dead with
    | box bt cs =>
      simp only [AObj.onRefs]
      cases T t with
      | none => rfl
      | some ti =>
        simp only [cond_eq_ite]
        have hl : (AV.onRefsL g cs).length = cs.length := by rw [onRefsL_eq, List.length_map]
        rw [hl]
        split
        · split
          · simp only [Option.map_some, AV.onRefs, onRefsL_eq, List.map_take, List.map_drop]
          · split
            · rw [onRefsL_eq, List.getElem?_map]
            · rfl
        · rfl
    | _ => simp only [AObj.onRefs]; cases T t <;> rfl
  | ap id i off =>
    have e := h id (by simp [topIds])
    unfold aload
    simp only [e]
    cases x.st.getD id .dead with
    | arr => left; rfl
    | arx et rows =>
      right
      simp only [AObj.onRefs]
      have : (rows.map (AV.onRefsL g)).getD i [] = AV.onRefsL g (rows.getD i []) := by
        rw [List.getD_eq_getElem?_getD, List.getD_eq_getElem?_getD, List.getElem?_map]
        cases rows[i]? <;> rfl
      rw [this]; exact elemLoadX_map g
    | _ => left; rfl
  | _ => left; rfl
structure Vw (T : Tab) (N : Nat) (ops : Array Oper) (fk : Fk) (o : Oper) (fp : Fp) (x : St) : Prop where
  tm : (o.looksAt ops).map (fun t => (keepIf fk N x).tmps.getD t .undef) = fp.opv
  ld : fk = .load → ∀ t a, o.op = .load t a → aload T (keepIf fk N x) t ((keepIf fk N x).eval a) = some fp.v
  ob : fk ≠ .load → fp.touch.map (fun i => (keepIf fk N x).st.getD i .dead) = fp.tobj
def Tells (N : Nat) (ops : Array Oper) (fk : Fk) (o : Oper) (fp : Fp) : Prop :=
  fk = .load → ∀ t a, o.op = .load t a → ∀ y : St, (o.looksAt ops).map (fun t => y.tmps.getD t .undef) = fp.opv → ∀ i ∈ topIds (y.eval a), i ∈ fp.touch
section
variable {T : Tab} {N : Nat} {ops : Array Oper} {fk : Fk} {o : Oper} {fp : Fp} {p : Ap}
theorem mem_looksAt {x : Operand} {t : Nat} (hx : x ∈ o.op.operands.toList) (ht : x = .tmp t) : t ∈ o.looksAt ops := by
  subst ht
  unfold Oper.looksAt
  exact List.mem_append.2 (.inl (List.mem_filterMap.2 ⟨_, hx, rfl⟩))
theorem eval_same {y z : St} (h : ∀ t ∈ o.looksAt ops, y.tmps.getD t .undef = z.tmps.getD t .undef) {x : Operand} (hx : x ∈ o.op.operands.toList) : y.eval x = z.eval x :=
  eval_congr fun t ht => h t (mem_looksAt hx ht)
theorem map_mem_eq {α β : Type} {f g : α → β} : ∀ {l : List α}, l.map f = l.map g → ∀ t ∈ l, f t = g t
  | [], _, t, ht => by cases ht
  | a :: l, h, t, ht => by
    simp only [List.map_cons, List.cons.injEq] at h
    rcases List.mem_cons.1 ht with rfl | ht
    · exact h.1
    · exact map_mem_eq h.2 t ht
theorem Vw.iff {x x' : St} (hl : x.st.length = N) (hl' : x'.st.length = N) (hx : (x'.tmps, x'.st) = p.on (x.tmps, x.st)) (hsp : Scrubs p.g) (hdst : ∀ d, p.dst = some d → d ∉ o.looksAt ops)
    (hw : ∀ i o', p.w = some (i, o') → i ∉ fp.touch) (h1 : ∀ v ∈ fp.opv, StabV p.g v) (h2 : ∀ o ∈ fp.tobj, StabO p.g o) (h3 : fk = .load → StabV p.g fp.v) (ht : Tells N ops fk o fp) :
    Vw T N ops fk o fp x' ↔ Vw T N ops fk o fp x := by
  simp only [Ap.on, Prod.mk.injEq] at hx
  obtain ⟨hxt, hxs⟩ := hx
  have hg := (gOf_scr fk N).scr
  have ht1 : ∀ t ∈ o.looksAt ops, (keepIf fk N x').tmps.getD t .undef = ((keepIf fk N x).tmps.getD t .undef).onRefs p.g := fun t htl => by
    rw [keepIf_eq hl, keepIf_eq hl']
    simp only
    rw [getD_onRefsL, getD_onRefsL, scr_comm hg hsp]
    congr 1
    rw [hxt, ← getD_onRefsL]
    unfold Ap.tm
    cases hd : p.dst with
    | none => rfl
    | some d =>
      have hne : d ≠ t := fun e => hdst d hd (e ▸ htl)
      rw [List.getD_eq_getElem?_getD, List.getElem?_set_ne hne, ← List.getD_eq_getElem?_getD]
  have ho1 : ∀ i ∈ fp.touch, (keepIf fk N x').st.getD i .dead = ((keepIf fk N x).st.getD i .dead).onRefs p.g := fun i hi => by
    rw [keepIf_eq hl, keepIf_eq hl']
    simp only
    rw [getD_mapO, getD_mapO, scrO_comm hg hsp]
    congr 1
    rw [hxs, ← getD_mapO]
    unfold Ap.st
    cases hd : p.w with
    | none => rfl
    | some d =>
      obtain ⟨j, o'⟩ := d
      have hne : j ≠ i := fun e => hw j o' hd (e ▸ hi)
      simp only
      rw [List.getD_eq_getElem?_getD, List.getElem?_set_ne hne, ← List.getD_eq_getElem?_getD]
  have etm : (o.looksAt ops).map (fun t => (keepIf fk N x').tmps.getD t .undef) = fp.opv ↔ (o.looksAt ops).map (fun t => (keepIf fk N x).tmps.getD t .undef) = fp.opv := by
    have e : (o.looksAt ops).map (fun t => (keepIf fk N x').tmps.getD t .undef) = ((o.looksAt ops).map fun t => (keepIf fk N x).tmps.getD t .undef).map (AV.onRefs p.g) := by
      rw [List.map_map]; exact List.map_congr_left ht1
    rw [e]; exact map_stab _ _ h1
  have eob : fp.touch.map (fun i => (keepIf fk N x').st.getD i .dead) = fp.tobj ↔ fp.touch.map (fun i => (keepIf fk N x).st.getD i .dead) = fp.tobj := by
    have e : fp.touch.map (fun i => (keepIf fk N x').st.getD i .dead) = (fp.touch.map fun i => (keepIf fk N x).st.getD i .dead).map (AObj.onRefs p.g) := by
      rw [List.map_map]; exact List.map_congr_left ho1
    rw [e]; exact map_stab _ _ h2
  have same : (o.looksAt ops).map (fun t => (keepIf fk N x').tmps.getD t .undef) = fp.opv → (o.looksAt ops).map (fun t => (keepIf fk N x).tmps.getD t .undef) = fp.opv →
      fk = .load → ∀ t a, o.op = .load t a → (aload T (keepIf fk N x') t ((keepIf fk N x').eval a) = some fp.v ↔ aload T (keepIf fk N x) t ((keepIf fk N x).eval a) = some fp.v) := fun k1 k2 hf t a hop => by
    have hev : (keepIf fk N x').eval a = (keepIf fk N x).eval a := eval_same (ops := ops) (o := o) (map_mem_eq (k1.trans k2.symm)) (by rw [hop]; simp [Op.operands])
    rw [hev]
    have hm := aload_map (T := T) p.g t ((keepIf fk N x).eval a) (fun i hi => ho1 i (ht hf t a hop (keepIf fk N x) k2 i hi))
    rcases hm with e | e
    · rw [e]
    · rw [e]
      have hs := h3 hf
      cases aload T (keepIf fk N x) t ((keepIf fk N x).eval a) with
      | none => simp
      | some v =>
        simp only [Option.map_some, Option.some.injEq]
        exact ⟨fun h => hs.2 v h, fun h => by rw [h]; exact hs.1⟩
  constructor
  · rintro ⟨a1, a2, a3⟩
    have b1 := etm.1 a1
    exact ⟨b1, fun hf t a hop => (same a1 b1 hf t a hop).1 (a2 hf t a hop), fun hf => eob.1 (a3 hf)⟩
  · rintro ⟨a1, a2, a3⟩
    have b1 := etm.2 a1
    exact ⟨b1, fun hf t a hop => (same b1 a1 hf t a hop).2 (a2 hf t a hop), fun hf => eob.2 (a3 hf)⟩
end
end Go.Fw
