/- The framework, part U: regions. -/
import Derived.Test.YtgcdiccbehiijaaFwR
set_option linter.all false
set_option linter.unusedSimpArgs false
set_option linter.unusedVariables false
namespace Go.Fw
def quietOp (sig : FuncId → RS × List OS × List Nat) (o : Oper) : Bool :=
  match o.op with
  | .move _ | .assign _ | .pick _ _ _ | .load _ _ | .nilCheck _ | .binOp _ _ _ _ _ | .unOp _ _ _ | .convert _ _ _ | .makeInterface _ _ | .makeFunc _ _ _
  | .slice _ _ _ _ _ | .fieldAddr _ _ _ | .field _ _ _ | .indexAddr _ _ _ | .index _ _ _ | .extract _ _ | .build _ _ => true
  | .call { callee := .builtin .len, args := _, argTypes := _ } | .call { callee := .builtin .min, args := _, argTypes := _ } | .call { callee := .builtin .max, args := _, argTypes := _ } => true
  | .call { callee := .value (.func n), args := _, argTypes := _ } => (sig n).2.1.isEmpty
  | _ => false
theorem onRefs_self {h : AV → AV} (hh : ∀ r, h r = r) : AV.onRefs h = fun v => v := by
  have : h = fun v => v := funext hh
  subst this
  exact funext onRefs_id
theorem scrubL1_nil (r : AV) : scrubL1 [] r = r := by cases r <;> rfl
section
variable {C : Ctx} {σ σ' σ1 : St} {c : Bool} {v : AV}
theorem acall1_quiet {P : Program} (hC : CallOk P C) {n : FuncId} (hq : (C.sig n).2.1 = []) {args : List AV} (h : acall1 C σ n args = some (true, σ1, v)) :
    σ1 = σ ∧ ∀ σ' : St, σ'.st = σ.st → acall1 C σ' n args = some (true, σ', v) := by
  have hst : ∀ r0 st0, C.call n (AV.onRefsL (rename1 (reach σ.st 8 (dedup (AV.idsL args) []))) args) ((reach σ.st 8 (dedup (AV.idsL args) [])).map fun i => (σ.st.getD i .dead).onRefs (rename1 (reach σ.st 8 (dedup (AV.idsL args) [])))) = some (true, r0, st0) →
      st0 = [] ∧ reach σ.st 8 (dedup (AV.idsL args) []) = [] := fun r0 st0 hc => by
    obtain ⟨_, _, h2, h3⟩ := hC _ _ _ _ _ hc
    rw [hq] at h2
    cases st0 with
    | nil => exact ⟨rfl, List.length_eq_zero_iff.1 (by simpa using h3)⟩
    | cons x xs => simp [OS.okL] at h2
  unfold acall1 at h
  simp only at h
  cases hall : (reach σ.st 8 (dedup (AV.idsL args) [])).all fun i => Nat.blt i σ.st.length with
  | false => rw [hall] at h; cases h
  | true =>
    rw [hall] at h
    simp only [Bool.not_true, cond_false] at h
    split at h
    · cases h
    · rename_i c0 r0 st0 hc
      have hc0 : c0 = true := by cases h; rfl
      subst hc0
      obtain ⟨rfl, hk⟩ := hst _ _ hc
      have e1 : AV.onRefsL (scrubL1 []) σ.tmps = σ.tmps := by rw [onRefsL_eq, onRefs_self scrubL1_nil]; simp
      have key : ∀ σ' : St, σ'.st = σ.st → acall1 C σ' n args = some (true, σ', ((C.sig n).1.expand r0).onRefs (back1 [] σ.st.length)) := fun σ' hs => by
        unfold acall1
        simp only [hs, hk] at hc ⊢
        simp only [List.all_nil, Bool.not_true, cond_false, List.map_nil] at hc ⊢
        rw [hc]
        simp only [hq, OS.expandL, List.map_nil, setMany, List.drop_nil, List.append_nil, pickIds]
        have e3 : ∀ mvs, pickIds ([] : List Nat) mvs = [] := fun mvs => by induction mvs with | nil => rfl | cons x xs ih => simp [pickIds, ih]
        rw [e3]
        have e2 : σ'.st.map (AObj.onRefs (scrubL1 [])) = σ'.st := by
          have : AObj.onRefs (scrubL1 []) = fun o => o := funext fun o => by
            have : scrubL1 [] = fun v => v := funext scrubL1_nil
            rw [this]; exact AObj.onRefs_id o
          rw [this]; simp
        have e1 : AV.onRefsL (scrubL1 []) σ'.tmps = σ'.tmps := by rw [onRefsL_eq, onRefs_self scrubL1_nil]; simp
        cases σ'
        simp only [List.length_nil, List.nil_append] at *
        subst hs
        simp only [e1, e2, setMany]
      have h0 := key σ rfl
      have hh : acall1 C σ n args = some (true, σ1, v) := by
        unfold acall1
        simp only [hall, Bool.not_true, cond_false, hc]
        exact h
      rw [h0] at hh
      cases hh
      exact ⟨rfl, key⟩
theorem eval_congr {x : Operand} (hx : ∀ t, x = .tmp t → σ'.tmps.getD t .undef = σ.tmps.getD t .undef) : σ'.eval x = σ.eval x := by
  cases x <;> simp only [St.eval]
  exact hx _ rfl
theorem aload_st {T : Tab} (hs : σ'.st = σ.st) (t : Nat) (x : AV) : aload T σ' t x = aload T σ t x := by unfold aload; rw [hs]
theorem aslice_st {T : Tab} (hs : σ'.st = σ.st) (t : Nat) (x : AV) (a b d : Option AV) : aslice T σ' t x a b d = aslice T σ t x a b d := by unfold aslice; rw [hs]
theorem aindexAddr_st {T : Tab} (hs : σ'.st = σ.st) (t : Nat) (x i : AV) : aindexAddr T σ' t x i = aindexAddr T σ t x i := by unfold aindexAddr; rw [hs]
theorem alen_st {T : Tab} (hs : σ'.st = σ.st) (t : Nat) (x : AV) : alen T σ' t x = alen T σ t x := by unfold alen; rw [hs]
theorem abinOp_st {T : Tab} (hs : σ'.st = σ.st) (op : BinOp) (t : Nat) (x y : AV) : abinOp T σ' op t x y = abinOp T σ op t x y := by
  have h1 : ∀ d z, isNil d σ' z = isNil d σ z := fun d z => by unfold isNil; rw [hs]
  have h2 : ∀ x y, aeq T σ' t x y = aeq T σ t x y := fun x y => by unfold aeq; simp only [h1]
  unfold abinOp
  simp only [h2]
theorem Ab.w_inv {σ σ1 : St} {r : Ab AV} {c : Bool} {v : AV} (h : (match r with | some (c, x) => (some (c, σ, x) : Ab (St × AV)) | none => none) = some (c, σ1, v)) : σ1 = σ ∧ r = some (c, v) := by
  split at h
  · cases h; exact ⟨rfl, rfl⟩
  · cases h
theorem Ab.v_inv {σ σ1 : St} {r : Option AV} {c : Bool} {v : AV} (h : (match r with | some x => (some (true, σ, x) : Ab (St × AV)) | none => none) = some (c, σ1, v)) : σ1 = σ ∧ r = some v ∧ c = true := by
  split at h
  · cases h; exact ⟨rfl, rfl, rfl⟩
  · cases h
theorem abuiltin_quiet {T : Tab} {b : Builtin} (hb : b = .len ∨ b = .max ∨ b = .min) (hs : σ'.st = σ.st) {ts : List Nat} {as : List AV} (h : abuiltin T σ b ts as = some (c, σ1, v)) :
    σ1 = σ ∧ abuiltin T σ' b ts as = some (c, σ', v) := by
  rcases hb with rfl | rfl | rfl
  · rcases ts with _ | ⟨t, _ | ⟨u, ts⟩⟩ <;> rcases as with _ | ⟨x, _ | ⟨y, as⟩⟩ <;> simp only [abuiltin] at h ⊢ <;> first | (cases h; done) | skip
    rw [alen_st hs]
    obtain ⟨rfl, h1, rfl⟩ := Ab.v_inv h
    rw [h1]; exact ⟨rfl, rfl⟩
  · change (match aminmax true as with | some x => (some (true, σ, x) : Ab (St × AV)) | none => none) = _ at h
    change _ ∧ (match aminmax true as with | some x => (some (true, σ', x) : Ab (St × AV)) | none => none) = _
    obtain ⟨rfl, h1, rfl⟩ := Ab.v_inv h
    rw [h1]; exact ⟨rfl, rfl⟩
  · change (match aminmax false as with | some x => (some (true, σ, x) : Ab (St × AV)) | none => none) = _ at h
    change _ ∧ (match aminmax false as with | some x => (some (true, σ', x) : Ab (St × AV)) | none => none) = _
    obtain ⟨rfl, h1, rfl⟩ := Ab.v_inv h
    rw [h1]; exact ⟨rfl, rfl⟩
theorem exec1_quiet {P : Program} (hC : CallOk P C) {o : Oper} (hq : quietOp C.sig o = true) (hs : σ'.st = σ.st) (he : ∀ x ∈ o.op.operands.toList, σ'.eval x = σ.eval x)
    (h : exec1 C σ o = some (true, σ1, v)) : σ1 = σ ∧ exec1 C σ' o = some (true, σ', v) := by
  obtain ⟨dst, op, type, pos, after, guard⟩ := o
  have args_eq : ∀ args : Array Operand, (∀ x ∈ args.toList, σ'.eval x = σ.eval x) → args.toList.map σ'.eval = args.toList.map σ.eval := fun args ha => List.map_congr_left ha
  cases op with
  | move x | assign x =>
    have e := he x (by simp [Op.operands])
    simp only [exec1, aop] at h ⊢
    rw [e]; cases h; exact ⟨rfl, rfl⟩
  | pick a b d =>
    have e1 := he a (by simp [Op.operands])
    have e2 := he b (by simp [Op.operands])
    have e3 := he d (by simp [Op.operands])
    simp only [exec1, aop] at h ⊢
    rw [e1, e2, e3]
    split at h
    · cases h; exact ⟨rfl, rfl⟩
    · cases h
  | load t a =>
    have e := he a (by simp [Op.operands])
    simp only [exec1, aop] at h ⊢
    rw [e, aload_st hs]
    obtain ⟨rfl, h1, _⟩ := Ab.v_inv h
    rw [h1]; exact ⟨rfl, rfl⟩
  | nilCheck x =>
    have e := he x (by simp [Op.operands])
    simp only [exec1, aop] at h ⊢
    rw [e]
    split at h <;> first | (cases h; exact ⟨rfl, rfl⟩) | cases h
  | binOp op t x y ty =>
    have e1 := he x (by simp [Op.operands])
    have e2 := he y (by simp [Op.operands])
    simp only [exec1, aop] at h ⊢
    rw [e1, e2]
    simp only [abinOp_st hs]
    split at h
    · split at h
      · obtain ⟨rfl, h1⟩ := Ab.w_inv h; rw [h1]; exact ⟨rfl, rfl⟩
      · obtain ⟨rfl, h1⟩ := Ab.w_inv h; rw [h1]; exact ⟨rfl, rfl⟩
      · cases h
    · obtain ⟨rfl, h1⟩ := Ab.w_inv h; rw [h1]; exact ⟨rfl, rfl⟩
  | unOp op t x =>
    have e := he x (by simp [Op.operands])
    simp only [exec1, aop] at h ⊢
    rw [e]
    split at h
    · split at h
      · simp only [cond_eq_ite] at h ⊢
        split at h
        · cases h; rename_i hsc; rw [if_pos hsc]; exact ⟨rfl, rfl⟩
        · cases h
      · cases h
    · split at h
      · cases h; exact ⟨rfl, rfl⟩
      · cases h
    · cases h
  | convert s d x =>
    have e := he x (by simp [Op.operands])
    simp only [exec1, aop] at h ⊢
    rw [e]
    obtain ⟨rfl, h1, _⟩ := Ab.v_inv h
    rw [h1]; exact ⟨rfl, rfl⟩
  | makeInterface t x =>
    have e := he x (by simp [Op.operands])
    simp only [exec1, aop] at h ⊢
    rw [e]
    split at h <;> first | (cases h; done) | (cases h; exact ⟨rfl, rfl⟩)
  | makeFunc fn first captured =>
    have e1 := args_eq first (fun x hx => he x (by simp [Op.operands]; exact .inl (by simpa using hx)))
    have e2 := args_eq captured (fun x hx => he x (by simp [Op.operands]; exact .inr (by simpa using hx)))
    simp only [exec1, aop] at h ⊢
    rw [e1, e2]
    cases h; exact ⟨rfl, rfl⟩
  | slice t x lo hi mx =>
    have e := he x (by simp [Op.operands])
    have e1 : lo.map σ'.eval = lo.map σ.eval := by cases lo with | none => rfl | some y => simp [he y (by simp [Op.operands])]
    have e2 : hi.map σ'.eval = hi.map σ.eval := by cases hi with | none => rfl | some y => simp [he y (by simp [Op.operands])]
    have e3 : mx.map σ'.eval = mx.map σ.eval := by cases mx with | none => rfl | some y => simp [he y (by simp [Op.operands])]
    simp only [exec1, aop] at h ⊢
    rw [e, e1, e2, e3, aslice_st hs]
    simp only [cond_eq_ite] at h ⊢
    split at h
    · cases h
    · rename_i hn
      rw [if_neg hn]
      obtain ⟨rfl, h1⟩ := Ab.w_inv h; rw [h1]; exact ⟨rfl, rfl⟩
  | fieldAddr s x f =>
    have e := he x (by simp [Op.operands])
    simp only [exec1, aop] at h ⊢
    rw [e]
    obtain ⟨rfl, h1, _⟩ := Ab.v_inv h
    rw [h1]; exact ⟨rfl, rfl⟩
  | field s x f =>
    have e := he x (by simp [Op.operands])
    simp only [exec1, aop] at h ⊢
    rw [e]
    obtain ⟨rfl, h1, _⟩ := Ab.v_inv h
    rw [h1]; exact ⟨rfl, rfl⟩
  | indexAddr t x i =>
    have e1 := he x (by simp [Op.operands])
    have e2 := he i (by simp [Op.operands])
    simp only [exec1, aop] at h ⊢
    rw [e1, e2, aindexAddr_st hs]
    obtain ⟨rfl, h1⟩ := Ab.w_inv h; rw [h1]; exact ⟨rfl, rfl⟩
  | index t x i =>
    have e1 := he x (by simp [Op.operands])
    have e2 := he i (by simp [Op.operands])
    simp only [exec1, aop] at h ⊢
    rw [e1, e2]
    obtain ⟨rfl, h1⟩ := Ab.w_inv h; rw [h1]; exact ⟨rfl, rfl⟩
  | extract x i =>
    have e := he x (by simp [Op.operands])
    simp only [exec1, aop] at h ⊢
    rw [e]
    split at h
    · obtain ⟨rfl, h1, _⟩ := Ab.v_inv h
      rw [h1]; exact ⟨rfl, rfl⟩
    · cases h
  | build t parts =>
    have e : parts.toList.map (fun p => (p.1, σ'.eval p.2)) = parts.toList.map (fun p => (p.1, σ.eval p.2)) :=
      List.map_congr_left fun p hp => by rw [he p.2 (by simp [Op.operands]; exact ⟨p.1, by simpa using hp⟩)]
    simp only [exec1, aop] at h ⊢
    rw [e]
    obtain ⟨rfl, h1, _⟩ := Ab.v_inv h
    rw [h1]; exact ⟨rfl, rfl⟩
  | call cl =>
    obtain ⟨callee, args, ats⟩ := cl
    cases callee with
    | value f =>
      cases f with
      | func n =>
        have hq' : (C.sig n).2.1 = [] := by simpa [quietOp] using hq
        have ea := args_eq args (fun x hx => he x (by simp [Op.operands, Call.operands]; first | exact .inr (by simpa using hx) | exact (by simpa using hx)))
        simp only [exec1, St.eval, List.nil_append, List.append_nil] at h ⊢
        obtain ⟨rfl, hk⟩ := acall1_quiet hC hq' h
        rw [ea, hk σ' hs]; exact ⟨rfl, rfl⟩
      | _ => simp [quietOp] at hq
    | builtin b =>
      have ea := args_eq args (fun x hx => he x (by simp [Op.operands, Call.operands]; first | exact .inr (by simpa using hx) | exact (by simpa using hx)))
      cases b with
      | len | max | min =>
        simp only [exec1, aop] at h ⊢
        rw [ea]
        exact abuiltin_quiet (by simp) hs h
      | _ => simp [quietOp] at hq
    | invoke r n => simp [quietOp] at hq
  | _ => simp [quietOp] at hq
end
end Go.Fw
set_option linter.unusedSimpArgs false
set_option linter.unusedVariables false
namespace Go.Fw
section
variable {P : Program} {C : Ctx} {B : Base} {σ : St} {a : Act} {w : World} {Q : Exit → Act → World → Prop}
theorem evOps_states {ops : List Oper} {rid : Nat} {K : St → Option Res} {res : Res} : ∀ (rest : List Oper) (i : Nat) (σ : St), evOps C ops rid rest i σ K = some res →
    ∃ S : Nat → St, S i = σ ∧ (∀ j o, rest[j]? = some o → step1 C ops rid (i + j) o (S (i + j)) = some (S (i + j + 1)) ∧ freeBad C rid (i + j) (S (i + j)) o = false) ∧ K (S (i + rest.length)) = some res
  | [], i, σ, h => ⟨fun _ => σ, rfl, by simp, h⟩
  | o :: rest, i, σ, h => by
    obtain ⟨hfb, σ1, h1, h2⟩ := evOps_cons h
    obtain ⟨S, e, hS, hK⟩ := evOps_states rest (i + 1) σ1 h2
    refine ⟨fun n => if n = i then σ else S n, by simp, fun j o' hj => ?_, ?_⟩
    · have hne : ¬ (i + j + 1 = i) := by omega
      simp only [if_neg hne]
      cases j with
      | zero =>
        simp only [List.getElem?_cons_zero, Option.some.injEq] at hj
        subst hj
        simp only [Nat.add_zero, if_true]
        rw [h1, e]
        exact ⟨rfl, hfb⟩
      | succ j =>
        rw [List.getElem?_cons_succ] at hj
        have := hS j o' hj
        rw [if_neg (by omega)]
        have e1 : i + (j + 1) = i + 1 + j := by omega
        rw [e1]; exact this
    · have hne : ¬ (i + (o :: rest).length = i) := by simp
      simp only [if_neg hne]
      have e1 : i + (o :: rest).length = i + 1 + rest.length := by simp; omega
      rw [e1]; exact hK
def prd1 (acc : List Nat) : List Edge → Nat → Nat
  | [], m => m
  | e :: es, m => prd1 acc es (bif Region.binds .any e then (m ||| 2 ^ e.on) ||| acc.getD e.on 0 else m)
def prds : List Oper → List Nat → List Nat
  | [], acc => acc
  | o :: os, acc => prds os (acc ++ [prd1 acc o.after.toList 0])
def inP (ps : List Nat) (j i : Nat) : Bool := Nat.testBit (ps.getD j 0) i
theorem prd1_ok {acc : List Nat} {p : Nat} : ∀ (es : List Edge) (m : Nat), Nat.testBit (prd1 acc es m) p = true → Nat.testBit m p = true ∨ ∃ e ∈ es, Region.binds .any e = true ∧ (p = e.on ∨ Nat.testBit (acc.getD e.on 0) p = true)
  | [], m, h => .inl h
  | e :: es, m, h => by
    simp only [prd1] at h
    rcases prd1_ok es _ h with h1 | ⟨e', he', h1⟩
    · cases hb : Region.binds .any e with
      | false => rw [hb] at h1; exact .inl h1
      | true =>
        rw [hb] at h1
        simp only [cond_true, Nat.testBit_or, Nat.testBit_two_pow, Bool.or_eq_true, decide_eq_true_eq] at h1
        rcases h1 with (h1 | h1) | h1
        · exact .inl h1
        · exact .inr ⟨e, List.mem_cons_self, hb, .inl h1.symm⟩
        · exact .inr ⟨e, List.mem_cons_self, hb, .inr h1⟩
    · exact .inr ⟨e', List.mem_cons_of_mem _ he', h1⟩
def isQuiet (sig : FuncId → RS × List OS × List Nat) (pre : Nat → Bool) (i : Nat) (o : Oper) : Bool := quietOp sig o && pre i
def pairOk (sig : FuncId → RS × List OS × List Nat) (pre : Nat → Bool) (ops : Array Oper) (ps : List Nat) (i j : Nat) (x y : Oper) : Bool :=
  let b := inP ps j i
  bif isQuiet sig pre i x && isQuiet sig pre j y then
    (match x.dst, y.dst with | some d, some e => !Nat.beq d e | _, _ => true) && (b || x.apart ops y)
  else b
def drawOk (sig : FuncId → RS × List OS × List Nat) (pre : Nat → Bool) (ops : Array Oper) : Bool :=
  let ps := prds ops.toList []
  (List.range ops.size).all fun j => match ops[j]? with
    | none => true
    | some y => y.after.toList.all (fun e => !Region.binds .any e || Nat.blt e.on j) &&
      (List.range j).all fun i => match ops[i]? with
        | none => true
        | some x => pairOk sig pre ops ps i j x y
def Closed (ops : List Oper) (L : Nat → Prop) : Prop := ∀ i o, ops[i]? = some o → L i → ∀ e ∈ o.after, Region.binds .any e = true → L e.on
theorem prds_ok {all : List Oper} {L : Nat → Prop} (hL : Closed all L) : ∀ (os pre : List Oper) (acc : List Nat), pre ++ os = all → acc.length = pre.length →
    (∀ i o, pre[i]? = some o → (∀ e ∈ o.after, Region.binds .any e = true → L e.on) → ∀ p, inP acc i p = true → L p) →
    ∀ i o, all[i]? = some o → (∀ e ∈ o.after, Region.binds .any e = true → L e.on) → ∀ p, inP (prds os acc) i p = true → L p
  | [], pre, acc, he, hl, hI, i, o, hi, hr, p, hp => by
    rw [List.append_nil] at he
    subst he
    exact hI i o hi hr p hp
  | o1 :: os, pre, acc, he, hl, hI, i, o, hi, hr, p, hp => by
    simp only [prds] at hp
    refine prds_ok hL os (pre ++ [o1]) _ (by simpa using he) (by simp [hl]) (fun i' o' hi' hr' p' hp' => ?_) i o hi hr p hp
    unfold inP at hp'
    rcases Nat.lt_trichotomy i' pre.length with hlt | heq | hgt
    · rw [List.getElem?_append_left hlt] at hi'
      rw [List.getD_eq_getElem?_getD, List.getElem?_append_left (by omega), ← List.getD_eq_getElem?_getD] at hp'
      exact hI i' o' hi' hr' p' hp'
    · subst heq
      rw [List.getElem?_append_right (Nat.le_refl _)] at hi'
      simp only [Nat.sub_self, List.getElem?_cons_zero, Option.some.injEq] at hi'
      subst hi'
      rw [List.getD_eq_getElem?_getD, List.getElem?_append_right (by omega), hl] at hp'
      simp only [Nat.sub_self, List.getElem?_cons_zero, Option.getD_some] at hp'
      rcases prd1_ok _ _ hp' with h0 | ⟨e, hem, hb, hpe⟩
      · simp at h0
      · have hLe := hr' e (by simpa using hem) hb
        rcases hpe with rfl | hpe
        · exact hLe
        · rcases Nat.lt_or_ge e.on pre.length with h1 | h1
          · have h2 : pre[e.on]? = some pre[e.on] := List.getElem?_eq_getElem h1
            refine hI e.on _ h2 (fun e' he' hb' => ?_) p' hpe
            refine hL e.on pre[e.on] ?_ hLe e' he' hb'
            rw [← he, List.getElem?_append_left h1, h2]
          · rw [List.getD_eq_getElem?_getD, List.getElem?_eq_none (by omega)] at hpe
            simp at hpe
    · rw [List.getElem?_eq_none (by simp; omega)] at hi'; cases hi'
def Lst (listed : Array Bool) (i : Nat) : Prop := listed.getD i false = true
theorem Lst_set {listed : Array Bool} {i j : Nat} (hi : i < listed.size) : Lst (listed.setIfInBounds i true) j ↔ j = i ∨ Lst listed j := by
  unfold Lst
  by_cases h : i = j
  · subst h; simp [hi]
  · rw [getD_set_ne false h]
    constructor
    · exact fun h => .inr h
    · rintro (rfl | h')
      · exact absurd rfl h
      · exact h'
theorem not_Lst {listed : Array Bool} {i : Nat} (h : listed.getD i true = false) : i < listed.size ∧ ¬ Lst listed i := by
  have hlt : i < listed.size := by
    rcases Nat.lt_or_ge i listed.size with h' | h'
    · exact h'
    · simp [Array.getElem?_eq_none h'] at h
  refine ⟨hlt, fun hL => ?_⟩
  simp [Lst, hlt] at h hL
  rw [h] at hL; cases hL
end
end Go.Fw
set_option linter.unusedSimpArgs false
set_option linter.unusedVariables false
namespace Go.Fw
section
variable {P : Program} {T : Tab} {C : Ctx} {B : Base} {E : Env} {Z : Nat → Prop} {σ : St} {a : Act} {w w' : World} {Q : Exit → Act → World → Prop} {vals : List Value}
theorem StR.heap (h : StR T E Z w σ vals) (hw : w'.heap = w.heap) : StR T E Z w' σ vals := by
  have hc : ∀ b o, w'.cell? ⟨b, o, none⟩ = w.cell? ⟨b, o, none⟩ := fun b o => cell?_of_heap (by rw [hw]) o
  refine ⟨⟨fun id o ho => ?_, h.sr.out, h.sr.inj, h.sr.zown, fun b hz => by rw [hw]; exact h.sr.zlt b hz⟩, h.tm.mono (fun i v hv => ⟨hv, rfl⟩) (fun _ hz => hz) (fun b o _ => hc b o)⟩
  have := (h.sr.obj id o ho).map (E' := E) (Z' := Z) (w' := w') (id' := id) (fun x => x) (fun _ hz => hz) (fun b o _ => hc b o)
    (fun r v hr hv => hv.mono (fun i v hv => ⟨hv, rfl⟩) (fun _ hz => hz) (fun b o _ => hc b o)) rfl rfl (fun B _ => by rw [hw])
  rwa [AObj.onRefs_id] at this
theorem At.drew (h : At T B σ a w) : At T B σ a { w with drawn := w.drawn + 1 } := by
  obtain ⟨hd, E, Z, h1, h2, h3, h4⟩ := h
  exact ⟨hd.same rfl (fun _ h => h), E, Z, h1.heap rfl, ⟨h2.os, h2.tape, h2.output, h2.size, h2.same, h2.zin, h2.zout, h2.oout⟩, h3, h4⟩
theorem step1_quiet (hC : CallOk P C) {ops : Array Oper} {rid i : Nat} {o : Oper} (hq : quietOp C.sig o = true) (hp : look2 C.ann.pre rid i = []) {σ σ1 : St} (h : step1 C ops.toList rid i o σ = some σ1) :
    ∃ v, σ1 = σ.put o.dst v ∧ ∀ σ' : St, σ'.st = σ.st → (∀ t ∈ o.looksAt ops, σ'.tmps.getD t .undef = σ.tmps.getD t .undef) → step1 C ops.toList rid i o σ' = some (σ'.put o.dst v) := by
  have hgd : ∀ σ' : St, (∀ t ∈ o.looksAt ops, σ'.tmps.getD t .undef = σ.tmps.getD t .undef) → guardOf ops.toList σ' o = guardOf ops.toList σ o := fun σ' ht => by
    unfold guardOf
    cases hg : o.guard with
    | none => rfl
    | some jw =>
      obtain ⟨j, want⟩ := jw
      simp only
      cases hj : ops.toList[j]? with
      | none => rfl
      | some og =>
        simp only
        cases hd : og.dst with
        | none => rfl
        | some d =>
          have hj' : ops[j]? = some og := by simpa using hj
          have hd' : d ∈ o.looksAt ops := by
            unfold Oper.looksAt
            rw [hg]
            refine List.mem_append.2 (.inr ?_)
            simp [hj', hd]
          simp only [ht d hd']
  unfold step1 at h ⊢
  split at h
  · cases h
  · rename_i hg
    rw [hp] at h
    simp only [St.weaks] at h
    split at h
    · rename_i σ2 v hex
      cases h
      have hquiet := exec1_quiet hC hq (σ' := σ) rfl (fun _ _ => rfl) hex
      obtain ⟨rfl, _⟩ := hquiet
      refine ⟨v, rfl, fun σ' hs ht => ?_⟩
      rw [hgd σ' ht, hg, hp]
      simp only [St.weaks]
      have hev : ∀ x ∈ o.op.operands.toList, σ'.eval x = σ2.eval x := fun x hx => eval_congr fun t ht' => ht t (by
        subst ht'
        unfold Oper.looksAt
        exact List.mem_append.2 (.inl (List.mem_filterMap.2 ⟨_, hx, rfl⟩)))
      rw [(exec1_quiet hC hq hs hev hex).2]
    · cases h
  · rename_i hg
    cases h
    refine ⟨_, rfl, fun σ' hs ht => ?_⟩
    rw [hgd σ' ht, hg]
theorem put_st (σ : St) (d : Option Nat) (v : AV) : (σ.put d v).st = σ.st ∧ (σ.put d v).moved = σ.moved ∧ (σ.put d v).tmps.length = σ.tmps.length := by
  cases d <;> simp [St.put]
theorem put_get_ne (σ : St) {d : Option Nat} (v : AV) {t : Nat} (h : d ≠ some t) : (σ.put d v).tmps[t]? = σ.tmps[t]? := by
  cases d with
  | none => rfl
  | some d => simp only [St.put]; exact List.getElem?_set_ne (fun e => h (by rw [e]))
theorem put_get_eq (σ σ' : St) {d : Option Nat} (v : AV) {t : Nat} (h : d = some t) (hl : σ.tmps.length = σ'.tmps.length) : (σ.put d v).tmps[t]? = (σ'.put d v).tmps[t]? := by
  subst h
  simp only [St.put, List.getElem?_set, hl, if_true]
structure Mid (C : Ctx) (B : Base) (rid : Nat) (ops : Array Oper) (S : Nat → St) (qt : Nat → Prop) (listed : Array Bool) (a : Act) (w : World) : Prop where
  size : listed.size = ops.size
  closed : Closed ops.toList (Lst listed)
  mid : ∃ b σ, b ≤ ops.size ∧ (∀ i, i < b → Lst listed i) ∧ (∀ c, b ≤ c → c < ops.size → ¬ qt c → ∀ j, c ≤ j → ¬ Lst listed j) ∧
    σ.st = (S b).st ∧ σ.moved = (S b).moved ∧ σ.tmps.length = (S b).tmps.length ∧
    (∀ (j : Nat) (o : Oper) (t : Nat), b ≤ j → ops[j]? = some o → Lst listed j → o.dst = some t → σ.tmps[t]? = (S (j + 1)).tmps[t]?) ∧
    (∀ (t : Nat), (∀ (j : Nat) (o : Oper), b ≤ j → ops[j]? = some o → Lst listed j → o.dst ≠ some t) → σ.tmps[t]? = (S b).tmps[t]?) ∧ At C.T B σ a w
end
section
variable {P : Program} {C : Ctx} {B : Base} {rid : Nat} {ops : Array Oper} {S : Nat → St} {Q : Exit → Act → World → Prop}
theorem run_same {qt : Nat → Prop} (hS : ∀ j o, ops[j]? = some o → qt j → ∃ v, S (j + 1) = (S j).put o.dst v) : ∀ (l b : Nat), b + l ≤ ops.size → (∀ j, b ≤ j → j < b + l → qt j) →
    (S (b + l)).st = (S b).st ∧ (S (b + l)).moved = (S b).moved ∧ (S (b + l)).tmps.length = (S b).tmps.length ∧
    ∀ t, (∀ (j : Nat) (o : Oper), b ≤ j → j < b + l → ops[j]? = some o → o.dst ≠ some t) → (S (b + l)).tmps[t]? = (S b).tmps[t]?
  | 0, b, _, _ => ⟨rfl, rfl, rfl, fun _ _ => rfl⟩
  | l + 1, b, hle, hq => by
    obtain ⟨h1, h2, h3, h4⟩ := run_same hS l b (by omega) (fun j hj hj' => hq j hj (by omega))
    have hi : b + l < ops.size := by omega
    have ho : ops[b + l]? = some ops[b + l] := Array.getElem?_eq_getElem hi
    obtain ⟨v, hv⟩ := hS _ _ ho (hq _ (by omega) (by omega))
    have hp := put_st (S (b + l)) ops[b + l].dst v
    rw [← Nat.add_assoc, hv]
    refine ⟨hp.1.trans h1, hp.2.1.trans h2, hp.2.2.trans h3, fun t ht => ?_⟩
    rw [put_get_ne _ _ (ht (b + l) _ (by omega) (by omega) ho)]
    exact h4 t fun j o hj hj' => ht j o hj (by omega)
structure DrawFacts (C : Ctx) (rid : Nat) (ops : Array Oper) (qt : Nat → Prop) : Prop where
  back : ∀ j y, ops[j]? = some y → ∀ e ∈ y.after, Region.binds .any e = true → e.on < j
  pair : ∀ i j x y, i < j → ops[i]? = some x → ops[j]? = some y →
    (∀ L, Closed ops.toList L → (∀ e ∈ y.after, Region.binds .any e = true → L e.on) → L i) ∨
    (qt i ∧ qt j ∧ x.apart ops y = true)
  dst : ∀ i j x y t, i < j → ops[i]? = some x → ops[j]? = some y → qt i → qt j → x.dst = some t → y.dst ≠ some t
  quiet : ∀ j y, ops[j]? = some y → qt j → quietOp C.sig y = true ∧ look2 C.ann.pre rid j = []
theorem drawFacts (hd : drawOk C.sig (fun i => (look2 C.ann.pre rid i).isEmpty) ops = true) :
    DrawFacts C rid ops (fun j => ∃ y, ops[j]? = some y ∧ isQuiet C.sig (fun i => (look2 C.ann.pre rid i).isEmpty) j y = true) := by
  have hj : ∀ j y, ops[j]? = some y → (y.after.toList.all (fun e => !Region.binds .any e || Nat.blt e.on j) = true ∧
      ∀ i x, i < j → ops[i]? = some x → pairOk C.sig (fun i => (look2 C.ann.pre rid i).isEmpty) ops (prds ops.toList []) i j x y = true) := fun j y hy => by
    unfold drawOk at hd
    have hlt : j < ops.size := (Array.getElem?_eq_some_iff.1 hy).1
    have h1 := List.all_eq_true.1 hd j (List.mem_range.2 hlt)
    simp only [hy, Bool.and_eq_true] at h1
    refine ⟨h1.1, fun i x hi hx => ?_⟩
    have h2 := List.all_eq_true.1 h1.2 i (List.mem_range.2 hi)
    simpa only [hx] using h2
  have hps : ∀ i j y, ops[j]? = some y → inP (prds ops.toList []) j i = true → ∀ L, Closed ops.toList L → (∀ e ∈ y.after, Region.binds .any e = true → L e.on) → L i := fun i j y hy hb L hL he =>
    prds_ok hL ops.toList [] [] rfl rfl (fun i o h => by simp at h) j y (by simpa using hy) he i hb
  refine ⟨fun j y hy e he hb => ?_, fun i j x y hij hx hy => ?_, fun i j x y t hij hx hy hqi hqj hdx hdy => ?_, fun j y hy ⟨y', hy', hq⟩ => ?_⟩
  · have := List.all_eq_true.1 (hj j y hy).1 e (by simpa using he)
    simpa [hb, Nat.blt_eq] using this
  · have := (hj j y hy).2 i x hij hx
    unfold pairOk at this
    simp only at this
    cases hq : isQuiet C.sig (fun i => (look2 C.ann.pre rid i).isEmpty) i x && isQuiet C.sig (fun i => (look2 C.ann.pre rid i).isEmpty) j y with
    | false => rw [hq] at this; exact .inl (hps i j y hy this)
    | true =>
      rw [hq] at this
      simp only [cond_true, Bool.and_eq_true, Bool.or_eq_true] at this hq
      rcases this.2 with h1 | h1
      · exact .inl (hps i j y hy h1)
      · exact .inr ⟨⟨x, hx, hq.1⟩, ⟨y, hy, hq.2⟩, h1⟩
  · obtain ⟨x', hx', hqi⟩ := hqi
    obtain ⟨y', hy', hqj⟩ := hqj
    rw [hx] at hx'; cases hx'
    rw [hy] at hy'; cases hy'
    have := (hj j y hy).2 i x hij hx
    unfold pairOk at this
    simp only [hqi, hqj, Bool.and_true, cond_true, Bool.and_eq_true, hdx, hdy] at this
    simp at this
  · rw [hy] at hy'; cases hy'
    simp only [isQuiet, Bool.and_eq_true] at hq
    exact ⟨hq.1, by simpa using hq.2⟩
theorem mid_step (hT : TabOk P C.T) (hC : CallOk P C) {qt : Nat → Prop} (hF : DrawFacts C rid ops qt) (hS : ∀ j o, ops[j]? = some o → step1 C ops.toList rid j o (S j) = some (S (j + 1)))
    {listed : Array Bool} {a : Act} {w : World} (hM : Mid C B rid ops S qt listed a w) {i : Nat} (hi : i ∈ Region.ready .any ops listed) :
    wpOpIn (FR B.ro) 0 P ops Q i (fun a' w' => Mid C B rid ops S qt (listed.setIfInBounds i true) a' w') a w := by
  obtain ⟨hun, o, ho, hed⟩ := mem_ready.1 hi
  obtain ⟨hisz, hnL⟩ := not_Lst hun
  obtain ⟨hsize, hcl, b, σ, hb, hbl, hnq, e1, e2, e3, t1, t2, hA⟩ := hM
  have hin : i < ops.size := hsize ▸ hisz
  have hL' : ∀ j, Lst (listed.setIfInBounds i true) j ↔ j = i ∨ Lst listed j := fun j => Lst_set hisz
  have hib : b ≤ i := by
    rcases Nat.lt_or_ge i b with h | h
    · exact absurd (hbl i h) hnL
    · exact h
  have hSq : ∀ j o, ops[j]? = some o → qt j → ∃ v, S (j + 1) = (S j).put o.dst v := fun j o hj hq => by
    obtain ⟨h1, h2⟩ := hF.quiet j o hj hq
    obtain ⟨v, hv, _⟩ := step1_quiet hC h1 h2 (hS j o hj)
    exact ⟨v, hv⟩
  have hcl' : Closed ops.toList (Lst (listed.setIfInBounds i true)) := fun j oj hj hLj e he hbnd => by
    rcases (hL' j).1 hLj with rfl | h
    · have hj' : ops[j]? = some oj := by simpa using hj
      rw [ho] at hj'; cases hj'
      exact (hL' _).2 (.inr (hed e he hbnd))
    · exact (hL' _).2 (.inr (hcl j oj hj h e he hbnd))
  have hsize' : (listed.setIfInBounds i true).size = ops.size := by simpa using hsize
  have ahead : ∀ j x, ops[j]? = some x → (∀ L, Closed ops.toList L → (∀ e ∈ o.after, Region.binds .any e = true → L e.on) → L j) → Lst listed j := fun j x hj h => h _ hcl hed
  have behind : ∀ j y, ops[j]? = some y → (∀ L, Closed ops.toList L → (∀ e ∈ y.after, Region.binds .any e = true → L e.on) → L i) → ¬ Lst listed j := fun j y hj h hLj =>
    hnL (h _ hcl (fun e he hbnd => hcl j y (by simpa using hj) hLj e he hbnd))
  have get : ∀ j, j < ops.size → ∃ y, ops[j]? = some y := fun j hj => ⟨_, Array.getElem?_eq_getElem hj⟩
  have quiet_mid : ∀ j, b ≤ j → j < i → qt j := fun j hj hji => by
    refine Classical.byContradiction fun hq => ?_
    obtain ⟨x, hx⟩ := get j (by omega)
    rcases hF.pair j i x o hji hx ho with h | ⟨h, _⟩
    · exact hnq j hj (by omega) hq j (Nat.le_refl _) (ahead j x hx h)
    · exact hq h
  have hi' : i = b + (i - b) := by omega
  obtain ⟨r1, r2, r3, r4⟩ := run_same (S := S) hSq (i - b) b (by omega) (fun j hj hj' => quiet_mid j hj (by omega))
  rw [← hi'] at r1 r2 r3 r4
  have written : ∀ j x t, b ≤ j → j < i → ops[j]? = some x → x.dst = some t → (S i).tmps[t]? = (S (j + 1)).tmps[t]? := fun j x t hj hji hx hxt => by
    have hi2 : i = (j + 1) + (i - (j + 1)) := by omega
    have := (run_same (S := S) hSq (i - (j + 1)) (j + 1) (by omega) (fun k hk hk' => quiet_mid k (by omega) (by omega))).2.2.2 t
      (fun k y hk hk' hy => hF.dst j k x y t (by omega) hx hy (quiet_mid j hj hji) (quiet_mid k (by omega) (by omega)) hxt)
    rwa [← hi2] at this
  by_cases hq : qt i
  · -- a quiet operation
    obtain ⟨hq1, hq2⟩ := hF.quiet i o ho hq
    obtain ⟨v, hv, hcong⟩ := step1_quiet hC hq1 hq2 (hS i o ho)
    have hreads : ∀ t ∈ o.looksAt ops, σ.tmps.getD t .undef = (S i).tmps.getD t .undef := fun t ht => by
      rw [List.getD_eq_getElem?_getD, List.getD_eq_getElem?_getD]
      congr 1
      by_cases hw : ∃ j x, b ≤ j ∧ j < i ∧ ops[j]? = some x ∧ x.dst = some t
      · obtain ⟨j, x, hj, hji, hx, hxt⟩ := hw
        have hLj : Lst listed j := by
          rcases hF.pair j i x o hji hx ho with h | ⟨_, _, hap⟩
          · exact ahead j x hx h
          · exact absurd ht ((Oper.apart_spec hap).1 t hxt)
        rw [t1 j x t hj hx hLj hxt, written j x t hj hji hx hxt]
      · have hnw : ∀ (j : Nat) (x : Oper), b ≤ j → ops[j]? = some x → Lst listed j → x.dst ≠ some t := fun j x hj hx hLj hxt => by
          rcases Nat.lt_trichotomy j i with hlt | heq | hgt
          · exact hw ⟨j, x, hj, hlt, hx, hxt⟩
          · exact hnL (heq ▸ hLj)
          · rcases hF.pair i j o x hgt ho hx with h | ⟨_, _, hap⟩
            · exact behind j x hx h hLj
            · exact (Oper.apart_spec hap).2.2 t hxt ht
        rw [t2 t hnw, r4 t (fun j x hj hj' hx hxt => hw ⟨j, x, hj, by omega, hx, hxt⟩)]
    have hst := hcong σ (e1.trans r1.symm) hreads
    refine step1_ok hT hC ho hst hA fun a' w' hA' => ⟨hsize', hcl', b, _, hb, fun j hj => (hL' j).2 (.inr (hbl j hj)), fun c hc hcn hqc j hj hLj => ?_, ?_, ?_, ?_, fun j x t hj hx hLj hxt => ?_, fun t ht => ?_, hA'⟩
    · rcases (hL' j).1 hLj with rfl | h
      · rcases Nat.lt_or_eq_of_le hj with h | h
        · exact hqc (quiet_mid c hc h)
        · exact hqc (h ▸ hq)
      · exact hnq c hc hcn hqc j hj h
    · exact (put_st σ o.dst v).1.trans e1
    · exact (put_st σ o.dst v).2.1.trans e2
    · exact (put_st σ o.dst v).2.2.trans e3
    · rcases (hL' j).1 hLj with rfl | h
      · rw [ho] at hx; cases hx
        rw [hv]; exact put_get_eq _ _ v hxt (e3.trans r3.symm)
      · have hne : o.dst ≠ some t := fun hot => by
          have hqj : qt j := Classical.byContradiction fun hqj => hnq j hj (Array.getElem?_eq_some_iff.1 hx).1 hqj j (Nat.le_refl _) h
          rcases Nat.lt_trichotomy j i with hlt | heq | hgt
          · exact hF.dst j i x o t hlt hx ho hqj hq hxt hot
          · exact hnL (heq ▸ h)
          · exact hF.dst i j o x t hgt ho hx hq hqj hot hxt
        rw [put_get_ne _ _ hne]; exact t1 j x t hj hx h hxt
    · have hne : o.dst ≠ some t := ht i o hib ho ((hL' i).2 (.inl rfl))
      rw [put_get_ne _ _ hne]
      exact t2 t fun j x hj hx hLj => ht j x hj hx ((hL' j).2 (.inr hLj))
  · -- one that is not
    have hall : ∀ j, j < i → Lst listed j := fun j hj => by
      obtain ⟨x, hx⟩ := get j (by omega)
      rcases hF.pair j i x o hj hx ho with h | ⟨_, h, _⟩
      · exact ahead j x hx h
      · exact absurd h hq
    have hnone : ∀ j, i < j → ¬ Lst listed j := fun j hj hLj => by
      rcases Nat.lt_or_ge j ops.size with hlt | hge
      · obtain ⟨y, hy⟩ := get j hlt
        rcases hF.pair i j o y hj ho hy with h | ⟨h, _, _⟩
        · exact behind j y hy h hLj
        · exact hq h
      · simp [Lst, Array.getElem?_eq_none (hsize ▸ hge)] at hLj
    have hσ : σ = S i := by
      have ht : σ.tmps = (S i).tmps := by
        apply List.ext_getElem?
        intro t
        by_cases hw : ∃ j x, b ≤ j ∧ j < i ∧ ops[j]? = some x ∧ x.dst = some t
        · obtain ⟨j, x, hj, hji, hx, hxt⟩ := hw
          rw [t1 j x t hj hx (hall j hji) hxt, written j x t hj hji hx hxt]
        · rw [t2 t (fun j x hj hx hLj hxt => ?_), r4 t (fun j x hj hj' hx hxt => hw ⟨j, x, hj, by omega, hx, hxt⟩)]
          rcases Nat.lt_trichotomy j i with hlt | heq | hgt
          · exact hw ⟨j, x, hj, hlt, hx, hxt⟩
          · exact hnL (heq ▸ hLj)
          · exact hnone j hgt hLj
      have hs := e1.trans r1.symm
      have hm := e2.trans r2.symm
      cases σ
      cases hSi : S i
      rw [hSi] at ht hs hm
      simp only at ht hs hm
      subst ht; subst hs; subst hm
      rfl
    subst hσ
    refine step1_ok hT hC ho (hS i o ho) hA fun a' w' hA' => ⟨hsize', hcl', i + 1, S (i + 1), by omega, fun j hj => (hL' j).2 ?_, fun c hc hcn hqc j hj hLj => ?_, rfl, rfl, rfl, fun j x t hj hx hLj hxt => ?_, fun t ht => rfl, hA'⟩
    · rcases Nat.lt_or_eq_of_le (Nat.le_of_lt_succ hj) with h | h
      · exact .inr (hall j h)
      · exact .inl h
    · rcases (hL' j).1 hLj with h | h
      · omega
      · exact hnone j (by omega) h
    · rcases (hL' j).1 hLj with h | h
      · omega
      · exact absurd h (hnone j (by omega))
theorem mid_end (hC : CallOk P C) {qt : Nat → Prop} (hF : DrawFacts C rid ops qt) (hS : ∀ j o, ops[j]? = some o → step1 C ops.toList rid j o (S j) = some (S (j + 1)))
    {listed : Array Bool} {a : Act} {w : World} (hM : Mid C B rid ops S qt listed a w) (hr : Region.ready .any ops listed = []) : At C.T B (S ops.size) a w := by
  obtain ⟨hsize, hcl, b, σ, hb, hbl, hnq, e1, e2, e3, t1, t2, hA⟩ := hM
  have hall : ∀ i, i < ops.size → Lst listed i := by
    intro i
    induction i using Nat.strongRecOn with
    | _ i ih =>
      intro hi
      refine Classical.byContradiction fun hn => ?_
      have ho : ops[i]? = some ops[i] := Array.getElem?_eq_getElem hi
      have : i ∈ Region.ready .any ops listed := mem_ready.2 ⟨by
        have hil : i < listed.size := hsize ▸ hi
        simp only [Lst, Array.getD_eq_getD_getElem?, Array.getElem?_eq_getElem hil, Option.getD_some] at hn ⊢
        simpa using hn, _, ho, fun e he hbnd => by
          have := hF.back i _ ho e he hbnd
          exact ih e.on this (by omega)⟩
      rw [hr] at this; cases this
  have hSq : ∀ j o, ops[j]? = some o → qt j → ∃ v, S (j + 1) = (S j).put o.dst v := fun j o hj hq => by
    obtain ⟨h1, h2⟩ := hF.quiet j o hj hq
    obtain ⟨v, hv, _⟩ := step1_quiet hC h1 h2 (hS j o hj)
    exact ⟨v, hv⟩
  have hqt : ∀ j, b ≤ j → j < ops.size → qt j := fun j hj hjn => Classical.byContradiction fun hq => hnq j hj hjn hq j (Nat.le_refl _) (hall j hjn)
  have hn : ops.size = b + (ops.size - b) := by omega
  obtain ⟨r1, r2, r3, r4⟩ := run_same (S := S) hSq (ops.size - b) b (by omega) (fun j hj hj' => hqt j hj (by omega))
  rw [← hn] at r1 r2 r3 r4
  have hσ : σ = S ops.size := by
    have ht : σ.tmps = (S ops.size).tmps := by
      apply List.ext_getElem?
      intro t
      by_cases hw : ∃ j x, b ≤ j ∧ ops[j]? = some x ∧ x.dst = some t
      · obtain ⟨j, x, hj, hx, hxt⟩ := hw
        have hjn := (Array.getElem?_eq_some_iff.1 hx).1
        rw [t1 j x t hj hx (hall j hjn) hxt]
        have hn2 : ops.size = (j + 1) + (ops.size - (j + 1)) := by omega
        have := (run_same (S := S) hSq (ops.size - (j + 1)) (j + 1) (by omega) (fun k hk hk' => hqt k (by omega) (by omega))).2.2.2 t
          (fun k y hk hk' hy => hF.dst j k x y t (by omega) hx hy (hqt j hj hjn) (hqt k (by omega) (by omega)) hxt)
        rw [← hn2] at this
        exact this.symm
      · rw [t2 t (fun j x hj hx _ hxt => hw ⟨j, x, hj, hx, hxt⟩), r4 t (fun j x hj _ hx hxt => hw ⟨j, x, hj, hx, hxt⟩)]
    have hs := e1.trans r1.symm
    have hm := e2.trans r2.symm
    cases σ
    cases hSi : S ops.size
    rw [hSi] at ht hs hm
    simp only at ht hs hm
    subst ht; subst hs; subst hm
    rfl
  exact hσ ▸ hA
def undone (ops : Array Oper) (listed : Array Bool) : List Nat := (List.range ops.size).filter fun i => !listed.getD i true
theorem undone_lt {listed : Array Bool} {i : Nat} (hi : i ∈ Region.ready .any ops listed) : (undone ops (listed.setIfInBounds i true)).length < (undone ops listed).length := by
  obtain ⟨hun, o, ho, _⟩ := mem_ready.1 hi
  have hin := (Array.getElem?_eq_some_iff.1 ho).1
  have e : undone ops (listed.setIfInBounds i true) = (undone ops listed).filter fun j => !Nat.beq j i := by
    unfold undone
    rw [List.filter_filter]
    refine List.filter_congr fun j _ => ?_
    by_cases h : i = j
    · subst h
      have hil := (not_Lst hun).1
      have e1 : (listed.setIfInBounds i true).getD i true = true := by simp [hil]
      simp [e1]
    · have hb : Nat.beq j i = false := by
        cases hh : Nat.beq j i with
        | false => rfl
        | true => exact absurd (Nat.eq_of_beq_eq_true hh).symm h
      rw [getD_set_ne true h, hb]; simp
  rw [e, List.length_filter_lt_length_iff_exists]
  exact ⟨i, List.mem_filter.2 ⟨List.mem_range.2 hin, by rw [hun]; rfl⟩, by simp [Nat.beq_refl]⟩
theorem wpAny_mid (hT : TabOk P C.T) (hC : CallOk P C) {qt : Nat → Prop} (hF : DrawFacts C rid ops qt) (hS : ∀ j o, ops[j]? = some o → step1 C ops.toList rid j o (S j) = some (S (j + 1)))
    (hQ : ∀ a w, At C.T B (S ops.size) a w → Q .normal a w) : ∀ (fuel : Nat) (listed : Array Bool) (a : Act) (w : World), (undone ops listed).length ≤ fuel → Mid C B rid ops S qt listed a w →
    wpAnyIn (FR B.ro) 0 P .any ops Q fuel listed a w
  | 0, listed, a, w, hf, hM => by
    have hr : Region.ready .any ops listed = [] := by
      cases h : Region.ready .any ops listed with
      | nil => rfl
      | cons i is =>
        have := undone_lt (ops := ops) (listed := listed) (i := i) (by rw [h]; exact List.mem_cons_self)
        omega
    exact ⟨hr, hQ a w (mid_end hC hF hS hM hr)⟩
  | fuel + 1, listed, a, w, hf, hM => by
    refine ⟨fun hr => hQ a w (mid_end hC hF hS hM hr), fun i hi => ?_⟩
    have hlt := undone_lt hi
    exact wpOpIn_mono (fun a' w' h' => wpAny_mid hT hC hF hS hQ fuel _ a' w' (by omega) h') (mid_step hT hC hF hS hM hi)
theorem drawn_ok (hm : P.follows .mixedOrders = true) (hT : TabOk P C.T) (hC : CallOk P C) {id : Nat} (hd : drawOk C.sig (fun i => (look2 C.ann.pre rid i).isEmpty) ops = true) {σ : St} {K : St → Option Res} {res : Res}
    (h : evOps C ops.toList rid ops.toList 0 σ K = some res) {a : Act} {w : World} (hA : At C.T B σ a w) (hQ : ∀ σ' a w, K σ' = some res → At C.T B σ' a w → Q .normal a w) : (Code.region id ops true).wpIn (FR B.ro) 0 P Q a w := by
  obtain ⟨S, e, hS, hK⟩ := evOps_states _ _ _ h
  have hS' : ∀ j o, ops[j]? = some o → step1 C ops.toList rid j o (S j) = some (S (j + 1)) := fun j o hj => by simpa using (hS j o (by simpa using hj)).1
  refine wpIn_region_any hm (wpAny_mid hT hC (drawFacts hd) hS' (fun a w h' => hQ (S ops.size) a w (by simpa using hK) h') ops.size _ a _ ?_ ?_)
  · unfold undone
    exact Nat.le_trans (List.length_filter_le _ _) (by simp)
  · have hno : ∀ i, ¬ Lst (Array.replicate ops.size false) i := fun i hL => by
      simp only [Lst] at hL
      rcases Nat.lt_or_ge i ops.size with h1 | h1
      · simp [h1] at hL
      · simp [Nat.not_lt.2 h1] at hL
    refine ⟨by simp, fun i o _ hL => absurd hL (hno i), 0, σ, Nat.zero_le _, fun i hi => absurd hi (Nat.not_lt_zero _), fun c _ _ _ j _ => hno j, by rw [e], by rw [e], by rw [e], fun j o t _ _ hL => absurd hL (hno j), fun t _ => by rw [e], hA.drew⟩
end
end Go.Fw
set_option linter.unusedSimpArgs false
set_option linter.unusedVariables false
namespace Go.Fw
mutual
theorem clean_fix (h : AV → AV) (hh : ∀ r, h r = r ∨ h r = .undef) : ∀ v : AV, (v.onRefs h).clean = true → v.onRefs h = v
  | .agg cs, hc => by
    simp only [AV.onRefs, AV.clean] at hc ⊢
    rw [cleanL_fix h hh cs hc]
  | .tup cs, hc => by
    simp only [AV.onRefs, AV.clean] at hc ⊢
    rw [cleanL_fix h hh cs hc]
  | .fn f a b, hc => by
    simp only [AV.onRefs, AV.clean, Bool.and_eq_true] at hc ⊢
    rw [cleanL_fix h hh a hc.1, cleanL_fix h hh b hc.2]
  | .iface t v, hc => by
    simp only [AV.onRefs, AV.clean] at hc ⊢
    rw [clean_fix h hh v hc]
  | .sr i, hc => by
    simp only [AV.onRefs] at hc ⊢
    rcases hh (.sr i) with e | e <;> rw [e] at hc ⊢ <;> cases hc
  | .ss i a b, hc => by
    simp only [AV.onRefs] at hc ⊢
    rcases hh (.ss i a b) with e | e <;> rw [e] at hc ⊢ <;> cases hc
  | .ptr i a, hc => by
    simp only [AV.onRefs] at hc ⊢
    rcases hh (.ptr i a) with e | e <;> rw [e] at hc ⊢ <;> cases hc
  | .ap i a b, hc => by
    simp only [AV.onRefs] at hc ⊢
    rcases hh (.ap i a b) with e | e <;> rw [e] at hc ⊢ <;> cases hc
  | .yl i, hc => by
    simp only [AV.onRefs] at hc ⊢
    rcases hh (.yl i) with e | e <;> rw [e] at hc ⊢ <;> cases hc
  | .mp i, hc => by
    simp only [AV.onRefs] at hc ⊢
    rcases hh (.mp i) with e | e <;> rw [e] at hc ⊢ <;> cases hc
  | .undef, hc => rfl
  | .k v, hc => rfl
  | .sl t kd r, hc => rfl
  | .ep t r o, hc => rfl
theorem cleanL_fix (h : AV → AV) (hh : ∀ r, h r = r ∨ h r = .undef) : ∀ vs : List AV, AV.cleanL (AV.onRefsL h vs) = true → AV.onRefsL h vs = vs
  | [], _ => rfl
  | v :: vs, hc => by
    simp only [AV.onRefsL, AV.cleanL, Bool.and_eq_true] at hc ⊢
    rw [clean_fix h hh v hc.1, cleanL_fix h hh vs hc.2]
end
mutual
theorem clean_keep (h : AV → AV) : ∀ v : AV, v.clean = true → v.onRefs h = v
  | .agg cs, hc => by
    simp only [AV.onRefs, AV.clean] at hc ⊢
    rw [cleanL_keep h cs hc]
  | .tup cs, hc => by
    simp only [AV.onRefs, AV.clean] at hc ⊢
    rw [cleanL_keep h cs hc]
  | .fn f a b, hc => by
    simp only [AV.onRefs, AV.clean, Bool.and_eq_true] at hc ⊢
    rw [cleanL_keep h a hc.1, cleanL_keep h b hc.2]
  | .iface t v, hc => by
    simp only [AV.onRefs, AV.clean] at hc ⊢
    rw [clean_keep h v hc]
  | .sr i, hc => by cases hc
  | .ss i a b, hc => by cases hc
  | .ptr i a, hc => by cases hc
  | .ap i a b, hc => by cases hc
  | .yl i, hc => by cases hc
  | .mp i, hc => by cases hc
  | .undef, hc => rfl
  | .k v, hc => rfl
  | .sl t kd r, hc => rfl
  | .ep t r o, hc => rfl
theorem cleanL_keep (h : AV → AV) : ∀ vs : List AV, AV.cleanL vs = true → AV.onRefsL h vs = vs
  | [], _ => rfl
  | v :: vs, hc => by
    simp only [AV.onRefsL, AV.cleanL, Bool.and_eq_true] at hc ⊢
    rw [clean_keep h v hc.1, cleanL_keep h vs hc.2]
end
def Scrubs (h : AV → AV) : Prop := ∀ r, h r = r ∨ h r = .undef
theorem Scrubs.id : Scrubs (fun r => r) := fun _ => .inl rfl
theorem Scrubs.scrub1 (i : Nat) : Scrubs (scrub1 i)
  | .sr j => by simp only [Go.Fw.scrub1]; cases Nat.beq j i <;> simp
  | .ss j _ _ => by simp only [Go.Fw.scrub1]; cases Nat.beq j i <;> simp
  | .ptr j _ => by simp only [Go.Fw.scrub1]; cases Nat.beq j i <;> simp
  | .ap j _ _ => by simp only [Go.Fw.scrub1]; cases Nat.beq j i <;> simp
  | .yl j => by simp only [Go.Fw.scrub1]; cases Nat.beq j i <;> simp
  | .mp j => by simp only [Go.Fw.scrub1]; cases Nat.beq j i <;> simp
  | .agg _ | .tup _ | .fn _ _ _ | .iface _ _ | .undef | .k _ | .sl _ _ _ | .ep _ _ _ => .inl rfl
theorem Scrubs.scrubL1 (is : List Nat) : Scrubs (scrubL1 is)
  | .sr j => by simp only [Go.Fw.scrubL1]; cases is.elem j <;> simp
  | .ss j _ _ => by simp only [Go.Fw.scrubL1]; cases is.elem j <;> simp
  | .ptr j _ => by simp only [Go.Fw.scrubL1]; cases is.elem j <;> simp
  | .ap j _ _ => by simp only [Go.Fw.scrubL1]; cases is.elem j <;> simp
  | .yl j => by simp only [Go.Fw.scrubL1]; cases is.elem j <;> simp
  | .mp j => by simp only [Go.Fw.scrubL1]; cases is.elem j <;> simp
  | .agg _ | .tup _ | .fn _ _ _ | .iface _ _ | .undef | .k _ | .sl _ _ _ | .ep _ _ _ => .inl rfl
section
variable {σ σ' : St} {x y : AV}
theorem aload_clean {T : Tab} (hx : x.clean = true) (t : Nat) : aload T σ' t x = aload T σ t x := by
  cases x <;> first | rfl | cases hx
theorem aslice_clean {T : Tab} (hx : x.clean = true) (t : Nat) (a b d : Option AV) : aslice T σ' t x a b d = aslice T σ t x a b d := by
  cases x <;> first | rfl | cases hx
theorem aindexAddr_clean {T : Tab} (hx : x.clean = true) (t : Nat) (i : AV) : aindexAddr T σ' t x i = aindexAddr T σ t x i := by
  cases x <;> first | rfl | cases hx
theorem alen_clean {T : Tab} (hx : x.clean = true) (t : Nat) : alen T σ' t x = alen T σ t x := by
  cases x <;> first | rfl | (cases hx; done) | skip
  rename_i v
  cases v <;> first | rfl | (rename_i p; cases p <;> rfl)
theorem isNil_clean (d : TD) (hx : x.clean = true) : isNil d σ' x = isNil d σ x := by
  cases d <;> cases x <;> first | rfl | (cases hx; done) | (rename_i v; cases v <;> first | rfl | (rename_i p; cases p <;> rfl))
theorem abinOp_clean {T : Tab} (op : BinOp) (t : Nat) (hx : x.clean = true) (hy : y.clean = true) : abinOp T σ' op t x y = abinOp T σ op t x y := by
  have h2 : aeq T σ' t x y = aeq T σ t x y := by
    unfold aeq
    cases T t with
    | none => rfl
    | some ti =>
      simp only
      cases ti.d <;> simp only [isNil_clean (σ := σ) (σ' := σ') _ hx, isNil_clean (σ := σ) (σ' := σ') _ hy]
  unfold abinOp
  split
  · rfl
  · rfl
  · cases op <;> first | rfl | simp only [h2]
end
def freeOp (o : Oper) : Bool := o.guard.isNone && match o.op with
  | .move _ | .assign _ | .pick _ _ _ | .load _ _ | .binOp _ _ _ _ _ | .unOp _ _ _ | .convert _ _ _ | .makeInterface _ _ | .makeFunc _ _ _
  | .slice _ _ _ _ _ | .field _ _ _ | .indexAddr _ _ _ | .index _ _ _ | .extract _ _ | .build _ _ => true
  | .call { callee := .builtin .len, args := _, argTypes := _ } | .call { callee := .builtin .min, args := _, argTypes := _ } | .call { callee := .builtin .max, args := _, argTypes := _ } => true
  | _ => false
section
variable {C : Ctx} {σ σ' σ1 : St} {c : Bool} {v : AV}
theorem abuiltin_clean {T : Tab} {b : Builtin} (hb : b = .len ∨ b = .max ∨ b = .min) {ts : List Nat} {as : List AV} (hc : ∀ x ∈ as, x.clean = true) (h : abuiltin T σ b ts as = some (c, σ1, v)) :
    σ1 = σ ∧ abuiltin T σ' b ts as = some (c, σ', v) := by
  rcases hb with rfl | rfl | rfl
  · rcases ts with _ | ⟨t, _ | ⟨u, ts⟩⟩ <;> rcases as with _ | ⟨x, _ | ⟨y, as⟩⟩ <;> simp only [abuiltin] at h ⊢ <;> first | (cases h; done) | skip
    rw [alen_clean (σ := σ) (hc _ (by simp))]
    obtain ⟨rfl, h1, rfl⟩ := Ab.v_inv h
    rw [h1]; exact ⟨rfl, rfl⟩
  · change (match aminmax true as with | some x => (some (true, σ, x) : Ab (St × AV)) | none => none) = _ at h
    change _ ∧ (match aminmax true as with | some x => (some (true, σ', x) : Ab (St × AV)) | none => none) = _
    obtain ⟨rfl, h1, rfl⟩ := Ab.v_inv h
    rw [h1]; exact ⟨rfl, rfl⟩
  · change (match aminmax false as with | some x => (some (true, σ, x) : Ab (St × AV)) | none => none) = _ at h
    change _ ∧ (match aminmax false as with | some x => (some (true, σ', x) : Ab (St × AV)) | none => none) = _
    obtain ⟨rfl, h1, rfl⟩ := Ab.v_inv h
    rw [h1]; exact ⟨rfl, rfl⟩
theorem exec1_free {o : Oper} (hq : freeOp o = true) (hc : ∀ x ∈ o.op.operands.toList, (σ.eval x).clean = true) (he : ∀ x ∈ o.op.operands.toList, σ'.eval x = σ.eval x)
    (h : exec1 C σ o = some (true, σ1, v)) : σ1 = σ ∧ exec1 C σ' o = some (true, σ', v) := by
  obtain ⟨dst, op, type, pos, after, guard⟩ := o
  have args_eq : ∀ args : Array Operand, (∀ x ∈ args.toList, σ'.eval x = σ.eval x) → args.toList.map σ'.eval = args.toList.map σ.eval := fun args ha => List.map_congr_left ha
  cases op with
  | move x | assign x =>
    have e := he x (by simp [Op.operands])
    simp only [exec1, aop] at h ⊢
    rw [e]; cases h; exact ⟨rfl, rfl⟩
  | pick a b d =>
    have e1 := he a (by simp [Op.operands])
    have e2 := he b (by simp [Op.operands])
    have e3 := he d (by simp [Op.operands])
    simp only [exec1, aop] at h ⊢
    rw [e1, e2, e3]
    split at h
    · cases h; exact ⟨rfl, rfl⟩
    · cases h
  | load t a =>
    have e := he a (by simp [Op.operands])
    have hx := hc a (by simp [Op.operands])
    simp only [exec1, aop] at h ⊢
    rw [e, aload_clean (σ := σ) hx]
    obtain ⟨rfl, h1, _⟩ := Ab.v_inv h
    rw [h1]; exact ⟨rfl, rfl⟩
  | binOp op t x y ty =>
    have e1 := he x (by simp [Op.operands])
    have e2 := he y (by simp [Op.operands])
    have c1 := hc x (by simp [Op.operands])
    have c2 := hc y (by simp [Op.operands])
    simp only [exec1, aop] at h ⊢
    rw [e1, e2]
    have ee := abinOp_clean (σ := σ) (σ' := σ') (T := C.T) op t c1 c2
    generalize hp : σ.eval x = p at *
    generalize hq2 : σ.eval y = q at *
    split at h
    · split at h
      · obtain ⟨rfl, h1⟩ := Ab.w_inv h; rw [ee, h1]; exact ⟨rfl, rfl⟩
      · obtain ⟨rfl, h1⟩ := Ab.w_inv h; rw [ee, h1]; exact ⟨rfl, rfl⟩
      · cases h
    · obtain ⟨rfl, h1⟩ := Ab.w_inv h; rw [ee, h1]; exact ⟨rfl, rfl⟩
  | unOp op t x =>
    have e := he x (by simp [Op.operands])
    simp only [exec1, aop] at h ⊢
    rw [e]
    split at h
    · split at h
      · simp only [cond_eq_ite] at h ⊢
        split at h
        · cases h; rename_i hsc; rw [if_pos hsc]; exact ⟨rfl, rfl⟩
        · cases h
      · cases h
    · split at h
      · cases h; exact ⟨rfl, rfl⟩
      · cases h
    · cases h
  | convert s d x =>
    have e := he x (by simp [Op.operands])
    simp only [exec1, aop] at h ⊢
    rw [e]
    obtain ⟨rfl, h1, _⟩ := Ab.v_inv h
    rw [h1]; exact ⟨rfl, rfl⟩
  | makeInterface t x =>
    have e := he x (by simp [Op.operands])
    simp only [exec1, aop] at h ⊢
    rw [e]
    split at h <;> first | (cases h; done) | (cases h; exact ⟨rfl, rfl⟩)
  | makeFunc fn first captured =>
    have e1 := args_eq first (fun x hx => he x (by simp [Op.operands]; exact .inl (by simpa using hx)))
    have e2 := args_eq captured (fun x hx => he x (by simp [Op.operands]; exact .inr (by simpa using hx)))
    simp only [exec1, aop] at h ⊢
    rw [e1, e2]
    cases h; exact ⟨rfl, rfl⟩
  | slice t x lo hi mx =>
    have e := he x (by simp [Op.operands])
    have hx := hc x (by simp [Op.operands])
    have e1 : lo.map σ'.eval = lo.map σ.eval := by cases lo with | none => rfl | some y => simp [he y (by simp [Op.operands])]
    have e2 : hi.map σ'.eval = hi.map σ.eval := by cases hi with | none => rfl | some y => simp [he y (by simp [Op.operands])]
    have e3 : mx.map σ'.eval = mx.map σ.eval := by cases mx with | none => rfl | some y => simp [he y (by simp [Op.operands])]
    simp only [exec1, aop] at h ⊢
    rw [e, e1, e2, e3, aslice_clean (σ := σ) hx]
    simp only [cond_eq_ite] at h ⊢
    split at h
    · cases h
    · rename_i hn
      rw [if_neg hn]
      obtain ⟨rfl, h1⟩ := Ab.w_inv h; rw [h1]; exact ⟨rfl, rfl⟩
  | field s x f =>
    have e := he x (by simp [Op.operands])
    simp only [exec1, aop] at h ⊢
    rw [e]
    obtain ⟨rfl, h1, _⟩ := Ab.v_inv h
    rw [h1]; exact ⟨rfl, rfl⟩
  | indexAddr t x i =>
    have e1 := he x (by simp [Op.operands])
    have e2 := he i (by simp [Op.operands])
    have hx := hc x (by simp [Op.operands])
    simp only [exec1, aop] at h ⊢
    rw [e1, e2, aindexAddr_clean (σ := σ) hx]
    obtain ⟨rfl, h1⟩ := Ab.w_inv h; rw [h1]; exact ⟨rfl, rfl⟩
  | index t x i =>
    have e1 := he x (by simp [Op.operands])
    have e2 := he i (by simp [Op.operands])
    simp only [exec1, aop] at h ⊢
    rw [e1, e2]
    obtain ⟨rfl, h1⟩ := Ab.w_inv h; rw [h1]; exact ⟨rfl, rfl⟩
  | extract x i =>
    have e := he x (by simp [Op.operands])
    simp only [exec1, aop] at h ⊢
    rw [e]
    split at h
    · obtain ⟨rfl, h1, _⟩ := Ab.v_inv h
      rw [h1]; exact ⟨rfl, rfl⟩
    · cases h
  | build t parts =>
    have e : parts.toList.map (fun p => (p.1, σ'.eval p.2)) = parts.toList.map (fun p => (p.1, σ.eval p.2)) :=
      List.map_congr_left fun p hp => by rw [he p.2 (by simp [Op.operands]; exact ⟨p.1, by simpa using hp⟩)]
    simp only [exec1, aop] at h ⊢
    rw [e]
    obtain ⟨rfl, h1, _⟩ := Ab.v_inv h
    rw [h1]; exact ⟨rfl, rfl⟩
  | call cl =>
    obtain ⟨callee, args, ats⟩ := cl
    cases callee with
    | value f => simp [freeOp] at hq
    | builtin b =>
      have ea := args_eq args (fun x hx => he x (by simp [Op.operands, Call.operands]; first | exact .inr (by simpa using hx) | exact (by simpa using hx)))
      have ca : ∀ x ∈ args.toList.map σ.eval, x.clean = true := fun x hx => by
        obtain ⟨y, hy, rfl⟩ := List.mem_map.1 hx
        exact hc y (by simp [Op.operands, Call.operands]; first | exact .inr (by simpa using hy) | exact (by simpa using hy))
      cases b with
      | len | max | min =>
        simp only [exec1, aop] at h ⊢
        rw [ea]
        exact abuiltin_clean (by simp) ca h
      | _ => simp [freeOp] at hq
    | invoke r n => simp [freeOp] at hq
  | _ => simp [freeOp] at hq
def effOp (o : Oper) : Bool :=
  match o.op with
  | .alloc _ | .box _ _ | .buildSlice _ _ _ | .makeSlice _ _ _ | .store _ _ _ => true
  | .call { callee := .builtin .append, args := _, argTypes := _ } | .call { callee := .builtin .copy, args := _, argTypes := _ } | .call { callee := .builtin .clear, args := _, argTypes := _ } => true
  | .call { callee := .value (.func _), args := _, argTypes := _ } => true
  | _ => false
theorem onRefsL_id' (l : List AV) : AV.onRefsL (fun r => r) l = l := by
  rw [onRefsL_eq, onRefs_self (h := fun r => r) (fun _ => rfl)]; simp
def NatBy (h : AV → AV) (tm : List AV) (x : Ab (St × AV)) (y : Ab (St × AV)) : Prop :=
  match x with
  | some (c, s, v) => y = some (c, ⟨AV.onRefsL h tm, s.st, s.moved⟩, v)
  | none => y = none
section
variable {T : Tab} {st : List AObj} {mv : List Nat} {tm : List AV}
theorem NatBy.bif {h : AV → AV} {b : Bool} {x y : Ab (St × AV)} (hh : NatBy h tm x y) : NatBy h tm (bif b then x else none) (bif b then y else none) := by
  cases b
  · rfl
  · exact hh
theorem NatBy.unbif {h : AV → AV} {b : Bool} {x y : Ab (St × AV)} (hh : NatBy h tm x y) : NatBy h tm (bif b then none else x) (bif b then none else y) := by
  cases b
  · exact hh
  · rfl
theorem NatBy.ret {c : Bool} {s : List AObj} {m : List Nat} {v : AV} : NatBy (fun r => r) tm (some (c, ⟨[], s, m⟩, v)) (some (c, ⟨tm, s, m⟩, v)) := by simp [NatBy, onRefsL_id']
theorem NatBy.okk {b : Bool} {s s' : St} {v : AV} (hs : s' = ⟨tm, s.st, s.moved⟩) : NatBy (fun r => r) tm (Ab.ok (bif b then some (s, v) else none)) (Ab.ok (bif b then some (s', v) else none)) := by
  cases b
  · rfl
  · simp [NatBy, Ab.ok, onRefsL_id', hs]
theorem NatBy.stt {b : Bool} {s s' : St} (hs : s' = ⟨tm, s.st, s.moved⟩) : NatBy (fun r => r) tm (match (bif b then some s else none : Option St) with | some σ' => some (true, σ', .undef) | none => none) (match (bif b then some s' else none : Option St) with | some σ' => some (true, σ', .undef) | none => none) := by
  cases b
  · rfl
  · simp [NatBy, onRefsL_id', hs]
theorem NatBy.orok {h : AV → AV} {x y x' y' : Option (St × AV)} (h1 : NatBy h tm (Ab.ok x) (Ab.ok y)) (h2 : NatBy h tm (Ab.ok x') (Ab.ok y')) :
    NatBy h tm (Ab.ok (match (generalizing := false) x with | some r => some r | none => x')) (Ab.ok (match (generalizing := false) y with | some r => some r | none => y')) := by
  cases x with
  | none =>
    have e : y = none := by
      cases y with
      | none => rfl
      | some r => cases h1
    subst e; exact h2
  | some r =>
    cases y with
    | none => cases h1
    | some r' => exact h1
theorem NatBy.or {h : AV → AV} {x y x' y' : Ab (St × AV)} (h1 : NatBy h tm x y) (h2 : NatBy h tm x' y') :
    NatBy h tm (match (generalizing := false) x with | some r => some r | none => x') (match (generalizing := false) y with | some r => some r | none => y') := by
  cases x with
  | none =>
    have e : y = none := h1
    subst e; exact h2
  | some r =>
    obtain ⟨c, s, v⟩ := r
    have e : y = some (c, ⟨AV.onRefsL h tm, s.st, s.moved⟩, v) := h1
    subst e; rfl
theorem rowsOf_tm (x : AV) : rowsOf ⟨tm, st, mv⟩ x = rowsOf ⟨[], st, mv⟩ x := by cases x <;> rfl
theorem elemOk_tm (e : Nat) (x : AV) : elemOk ⟨tm, st, mv⟩ e x = elemOk ⟨[], st, mv⟩ e x := by cases x <;> rfl
theorem nat_build (t len : Nat) (parts : List (Nat × AV)) : NatBy (fun r => r) tm (Ab.ok (abuildSlice T ⟨[], st, mv⟩ t len parts)) (Ab.ok (abuildSlice T ⟨tm, st, mv⟩ t len parts)) := by
  unfold abuildSlice
  split
  · rename_i e _ _ _
    cases T e with
    | none => rfl
    | some te =>
      simp only
      cases te.cells with
      | nil => rfl
      | cons c0 cs0 =>
        simp only
        generalize fillRows _ _ _ parts = r
        cases r with
        | none => generalize Nat.ble _ _ = b; cases b <;> rfl
        | some rows => exact NatBy.okk rfl
  · rfl
theorem nat_buildX (t len : Nat) (parts : List (Nat × AV)) : NatBy (fun r => r) tm (Ab.ok (abuildX T ⟨[], st, mv⟩ t len parts)) (Ab.ok (abuildX T ⟨tm, st, mv⟩ t len parts)) := by
  unfold abuildX
  split
  · rename_i e _ _ _
    cases T e with
    | none => rfl
    | some te =>
      simp only
      generalize fillX _ _ parts = r
      cases r with
      | none => generalize (_ && _ : Bool) = b; cases b <;> rfl
      | some rows => exact NatBy.okk rfl
  · rfl
theorem nat_make (t : Nat) (l c : AV) : NatBy (fun r => r) tm (amakeSlice T ⟨[], st, mv⟩ t l c) (amakeSlice T ⟨tm, st, mv⟩ t l c) := by
  unfold amakeSlice
  split
  · rename_i e _ _ _ _ _ _ _
    cases T e with
    | none => rfl
    | some te => exact NatBy.unbif NatBy.ret
  · rfl
theorem nat_store (t : Nat) (v a : AV) : NatBy (fun r => r) tm (match astore T ⟨[], st, mv⟩ t v a with | some σ' => some (true, σ', .undef) | none => none) (match astore T ⟨tm, st, mv⟩ t v a with | some σ' => some (true, σ', .undef) | none => none) := by
  cases a <;> try rfl
  · rename_i id off
    simp only [astore]
    cases st.getD id .dead <;> cases T t <;> try rfl
    exact NatBy.stt rfl
  · rename_i id i off
    simp only [astore]
    cases st.getD id .dead <;> cases T t <;> try rfl
    · rename_i e kd rows ti
      simp only
      cases T e with
      | none => rfl
      | some te => exact NatBy.stt rfl
    · rename_i e rows ti
      simp only
      cases T e with
      | none => rfl
      | some te => exact NatBy.stt rfl
theorem nat_writeRows (e : Nat) (d : AV) (ys : List (List AV)) : ∃ r : Ab St, writeRows T ⟨[], st, mv⟩ e d ys = r ∧ writeRows T ⟨tm, st, mv⟩ e d ys = r.map fun s => ⟨tm, s.st, s.moved⟩ := by
  unfold writeRows
  cases T e with
  | none => exact ⟨_, rfl, rfl⟩
  | some te =>
    simp only
    cases te.cells.isEmpty with
    | true => exact ⟨_, rfl, rfl⟩
    | false =>
      simp only [cond_false]
      cases d <;> try exact ⟨_, rfl, rfl⟩
      · rename_i id
        simp only
        cases st.getD id .dead <;> try exact ⟨_, rfl, rfl⟩
        simp only
        generalize Nat.beq _ e = b
        cases b <;> exact ⟨_, rfl, rfl⟩
      · rename_i id a n
        simp only
        cases st.getD id .dead <;> try exact ⟨_, rfl, rfl⟩
        simp only
        generalize Nat.beq _ e = b
        cases b <;> exact ⟨_, rfl, rfl⟩
theorem NatBy.mapd {r r' : Ab St} {v : AV} (h : r' = r.map fun s => ⟨tm, s.st, s.moved⟩) : NatBy (fun r => r) tm (r.map fun σ' => (σ', v)) (r'.map fun σ' => (σ', v)) := by
  subst h
  rcases r with _ | ⟨c, s⟩
  · rfl
  · simp [Ab.map, NatBy, onRefsL_id']
theorem nat_copy (t : Nat) (d x : AV) : NatBy (fun r => r) tm (acopy T ⟨[], st, mv⟩ t d x) (acopy T ⟨tm, st, mv⟩ t d x) := by
  unfold acopy
  split
  · rename_i e _ _ _
    rw [rowsOf_tm (tm := tm) d, rowsOf_tm (tm := tm) x]
    split
    · rename_i ds xs te h1 h2 h3
      rw [elemOk_tm (tm := tm)]
      obtain ⟨r, h1, h2⟩ := nat_writeRows (T := T) (st := st) (mv := mv) (tm := tm) e d (xs.take ds.length)
      rw [h1]
      exact NatBy.bif (NatBy.mapd h2)
    · rfl
  · rfl
theorem nat_clear (t : Nat) (d : AV) : NatBy (fun r => r) tm (aclear T ⟨[], st, mv⟩ t d) (aclear T ⟨tm, st, mv⟩ t d) := by
  unfold aclear
  split
  · rename_i e _ _ _
    rw [rowsOf_tm (tm := tm) d]
    split
    · rename_i te ds h1 h2
      obtain ⟨r, h1, h2⟩ := nat_writeRows (T := T) (st := st) (mv := mv) (tm := tm) e d (List.replicate ds.length (te.cells.map CT.zeroR))
      rw [h1]
      exact NatBy.mapd h2
    · rfl
  · rfl
def appH : AV → AV → AV
  | .sr id => scrub1 id
  | _ => fun r => r
theorem appH_scrubs (s : AV) : Scrubs (appH s) := by
  cases s <;> first | exact Scrubs.id | exact Scrubs.scrub1 _
theorem nat_append (t : Nat) (s x : AV) : NatBy (appH s) tm (aappend T ⟨[], st, mv⟩ t s x) (aappend T ⟨tm, st, mv⟩ t s x) := by
  unfold aappend
  split
  · rename_i e _ _ _
    rw [rowsOf_tm (tm := tm) x]
    split
    · rename_i te ys h1 h2
      rw [elemOk_tm (tm := tm)]
      refine NatBy.bif ?_
      cases s <;> try rfl
      · rename_i u kd rows
        cases kd <;> try rfl
        · exact NatBy.ret
        all_goals
          cases rows with
          | nil => exact NatBy.ret
          | cons r rs => exact NatBy.bif NatBy.ret
      · rename_i id
        simp only
        cases st.getD id .dead <;> try rfl
        exact NatBy.bif rfl
      · rename_i id a n
        simp only
        cases st.getD id .dead <;> try rfl
        exact NatBy.bif NatBy.ret
    · rfl
  · rfl
theorem nat_appendX (t : Nat) (s x : AV) : NatBy (appH s) tm (aappendX T ⟨[], st, mv⟩ t s x) (aappendX T ⟨tm, st, mv⟩ t s x) := by
  unfold aappendX
  split
  · rename_i e _ _ jd _
    simp only
    cases T e with
    | none => rfl
    | some te =>
      cases st.getD jd .dead <;> try rfl
      simp only
      refine NatBy.bif ?_
      cases s <;> try rfl
      · rename_i u kd rows
        cases kd <;> try rfl
        exact NatBy.ret
      · rename_i id
        simp only
        cases st.getD id .dead <;> try rfl
        exact NatBy.bif rfl
  · rfl
theorem nat_appendZ (t u : Nat) (s x : AV) : NatBy (appH s) tm (aappendZ T ⟨[], st, mv⟩ t u s x) (aappendZ T ⟨tm, st, mv⟩ t u s x) := by
  unfold aappendZ
  split
  · rename_i e _ _ _ _ k _ _
    cases T e with
    | none => rfl
    | some te =>
      cases s <;> try rfl
      rename_i id a n
      simp only
      cases st.getD id .dead <;> try rfl
      rename_i v kd rows
      cases kd <;> try rfl
      exact NatBy.bif NatBy.ret
  · rfl
theorem nat_call (C : Ctx) (n : FuncId) (args : List AV) : ∃ h, Scrubs h ∧ ∀ tm, NatBy h tm (acall1 C ⟨[], st, mv⟩ n args) (acall1 C ⟨tm, st, mv⟩ n args) := by
  refine ⟨scrubL1 (pickIds (reach st 8 (dedup (AV.idsL args) [])) (C.sig n).2.2), Scrubs.scrubL1 _, fun tm => ?_⟩
  unfold acall1
  simp only
  cases (reach st 8 (dedup (AV.idsL args) [])).all fun i => Nat.blt i st.length with
  | false => rfl
  | true =>
    simp only [Bool.not_true, cond_false]
    cases C.call n _ _ with
    | none => rfl
    | some r => rfl
end
def mildOp (o : Oper) : Bool :=
  match o.op with
  | .alloc _ | .box _ _ | .buildSlice _ _ _ | .makeSlice _ _ _ | .store _ _ _ => true
  | .call { callee := .builtin .copy, args := _, argTypes := _ } | .call { callee := .builtin .clear, args := _, argTypes := _ } => true
  | _ => false
theorem exec1_eff {C : Ctx} {σ σ1 : St} {o : Oper} {c : Bool} {v : AV} (hq : effOp o = true) (h : exec1 C σ o = some (c, σ1, v)) :
    ∃ g, (Scrubs g ∧ (mildOp o = true → g = fun r => r)) ∧ σ1.tmps = AV.onRefsL g σ.tmps ∧ ∀ σ' : St, σ'.st = σ.st → σ'.moved = σ.moved → (∀ x ∈ o.op.operands.toList, σ'.eval x = σ.eval x) →
      exec1 C σ' o = some (c, ⟨AV.onRefsL g σ'.tmps, σ1.st, σ1.moved⟩, v) := by
  obtain ⟨dst, op, type, pos, after, guard⟩ := o
  obtain ⟨tm, st, mv⟩ := σ
  have args_eq : ∀ (σ' : St) (args : Array Operand), (∀ x ∈ args.toList, σ'.eval x = (⟨tm, st, mv⟩ : St).eval x) → args.toList.map σ'.eval = args.toList.map (⟨tm, st, mv⟩ : St).eval := fun σ' args ha => List.map_congr_left ha
  have key : ∀ (g : AV → AV) (f : List AV → Ab (St × AV)), (Scrubs g ∧ (mildOp ⟨dst, op, type, pos, after, guard⟩ = true → g = fun r => r)) → (∀ tm, NatBy g tm (f []) (f tm)) → f tm = some (c, σ1, v) →
      (∀ σ' : St, σ'.st = st → σ'.moved = mv → (∀ x ∈ op.operands.toList, σ'.eval x = (⟨tm, st, mv⟩ : St).eval x) → exec1 C σ' ⟨dst, op, type, pos, after, guard⟩ = f σ'.tmps) →
      ∃ g, (Scrubs g ∧ (mildOp ⟨dst, op, type, pos, after, guard⟩ = true → g = fun r => r)) ∧ σ1.tmps = AV.onRefsL g tm ∧ ∀ σ' : St, σ'.st = st → σ'.moved = mv → (∀ x ∈ op.operands.toList, σ'.eval x = (⟨tm, st, mv⟩ : St).eval x) →
        exec1 C σ' ⟨dst, op, type, pos, after, guard⟩ = some (c, ⟨AV.onRefsL g σ'.tmps, σ1.st, σ1.moved⟩, v) := fun g f hg hf h0 hx => by
    have h1 := hf tm
    rcases hfe : f [] with _ | ⟨c0, s0, v0⟩
    · rw [hfe] at h1; simp only [NatBy] at h1; rw [h1] at h0; cases h0
    · rw [hfe] at h1
      simp only [NatBy] at h1
      rw [h1] at h0
      cases h0
      refine ⟨g, hg, rfl, fun σ' h2 h3 h4 => ?_⟩
      rw [hx σ' h2 h3 h4]
      have h5 := hf σ'.tmps
      rw [hfe] at h5
      exact h5
  cases op with
  | alloc t =>
    refine key _ (fun tm => match C.T t with | some ti => some (true, (⟨tm, st, mv⟩ : St).new (.box t (ti.cells.map CT.zero)), .ptr st.length 0) | none => none) ⟨Scrubs.id, fun _ => rfl⟩ (fun tm => ?_) h fun σ' h2 h3 h4 => ?_
    · cases C.T t <;> simp [NatBy, onRefsL_id', St.new]
    · obtain ⟨tm', st', mv'⟩ := σ'
      simp only at h2 h3
      subst h2; subst h3
      rfl
  | box t x =>
    refine key _ (fun tm' => match C.T t with | some ti => bif Nat.beq ((⟨tm, st, mv⟩ : St).eval x).cells.length ti.cells.length && ((⟨tm, st, mv⟩ : St).eval x).cells.all isCell then some (true, (⟨tm', st, mv⟩ : St).new (.box t ((⟨tm, st, mv⟩ : St).eval x).cells), .ptr st.length 0) else none | none => none) ⟨Scrubs.id, fun _ => rfl⟩ (fun tm => ?_) h fun σ' h2 h3 h4 => ?_
    · cases C.T t with
      | none => rfl
      | some ti =>
        simp only [cond_eq_ite]
        split <;> simp [NatBy, onRefsL_id', St.new]
    · obtain ⟨tm', st', mv'⟩ := σ'
      simp only at h2 h3
      subst h2; subst h3
      have e := h4 x (by simp [Op.operands])
      simp only [exec1, aop, e]
      rfl
  | buildSlice t len parts =>
    refine key _ (fun tm' => Ab.ok (match abuildSlice C.T ⟨tm', st, mv⟩ t len (parts.toList.map fun (p : Nat × Operand) => (p.1, (⟨tm, st, mv⟩ : St).eval p.2)) with | some r => some r | none => abuildX C.T ⟨tm', st, mv⟩ t len (parts.toList.map fun (p : Nat × Operand) => (p.1, (⟨tm, st, mv⟩ : St).eval p.2)))) ⟨Scrubs.id, fun _ => rfl⟩ (fun tm => NatBy.orok (nat_build _ _ _) (nat_buildX _ _ _)) h fun σ' h2 h3 h4 => ?_
    obtain ⟨tm', st', mv'⟩ := σ'
    simp only at h2 h3
    subst h2; subst h3
    have e : parts.toList.map (fun p => (p.1, (⟨tm', st', mv'⟩ : St).eval p.2)) = parts.toList.map (fun p => (p.1, (⟨tm, st', mv'⟩ : St).eval p.2)) :=
      List.map_congr_left fun p hp => by rw [h4 p.2 (by simp [Op.operands]; exact ⟨p.1, by simpa using hp⟩)]
    simp only [exec1, aop]
    rw [e]
    rfl
  | makeSlice t l c =>
    refine key _ (fun tm' => amakeSlice C.T ⟨tm', st, mv⟩ t ((⟨tm, st, mv⟩ : St).eval l) ((⟨tm, st, mv⟩ : St).eval c)) ⟨Scrubs.id, fun _ => rfl⟩ (fun tm => nat_make _ _ _) h fun σ' h2 h3 h4 => ?_
    obtain ⟨tm', st', mv'⟩ := σ'
    simp only at h2 h3
    subst h2; subst h3
    have e1 := h4 l (by simp [Op.operands])
    have e2 := h4 c (by simp [Op.operands])
    simp only [exec1, aop, e1, e2]
  | store t a x =>
    refine key _ (fun tm' => match astore C.T ⟨tm', st, mv⟩ t ((⟨tm, st, mv⟩ : St).eval x) ((⟨tm, st, mv⟩ : St).eval a) with | some σ' => some (true, σ', .undef) | none => none) ⟨Scrubs.id, fun _ => rfl⟩ (fun tm => nat_store _ _ _) h fun σ' h2 h3 h4 => ?_
    obtain ⟨tm', st', mv'⟩ := σ'
    simp only at h2 h3
    subst h2; subst h3
    have e1 := h4 a (by simp [Op.operands])
    have e2 := h4 x (by simp [Op.operands])
    simp only [exec1, aop, e1, e2]
    rfl
  | call cl =>
    obtain ⟨callee, args, ats⟩ := cl
    have ea : ∀ σ' : St, (∀ x ∈ (Op.call ⟨callee, args, ats⟩).operands.toList, σ'.eval x = (⟨tm, st, mv⟩ : St).eval x) → args.toList.map σ'.eval = args.toList.map (⟨tm, st, mv⟩ : St).eval := fun σ' h4 =>
      args_eq σ' args fun x hx => h4 x (by cases callee <;> simp [Op.operands, Call.operands] <;> first | exact .inr (by simpa using hx) | exact (by simpa using hx))
    cases callee with
    | value f =>
      cases f with
      | func n =>
        obtain ⟨g, hg, hn⟩ := nat_call (st := st) (mv := mv) C n (args.toList.map (⟨tm, st, mv⟩ : St).eval)
        refine key g (fun tm' => acall1 C ⟨tm', st, mv⟩ n (args.toList.map (⟨tm, st, mv⟩ : St).eval)) ⟨hg, fun h => by cases h⟩ hn ?_ fun σ' h2 h3 h4 => ?_
        · simpa only [exec1, St.eval, List.nil_append, List.append_nil] using h
        · have e := ea σ' h4
          obtain ⟨tm', st', mv'⟩ := σ'
          simp only at h2 h3
          subst h2; subst h3
          simp only [exec1, St.eval, List.nil_append, List.append_nil] at e ⊢
          rw [e]
      | _ => simp [effOp] at hq
    | builtin b =>
      cases b with
      | append =>
        obtain ⟨g, hg, hn⟩ : ∃ g, Scrubs g ∧ ∀ tm', NatBy g tm' (abuiltin C.T ⟨[], st, mv⟩ .append ats.toList (args.toList.map (⟨tm, st, mv⟩ : St).eval)) (abuiltin C.T ⟨tm', st, mv⟩ .append ats.toList (args.toList.map (⟨tm, st, mv⟩ : St).eval)) := by
          generalize args.toList.map (⟨tm, st, mv⟩ : St).eval = as
          rcases hts : ats.toList with _ | ⟨t, _ | ⟨u, _ | ⟨z, ts⟩⟩⟩ <;> rcases as with _ | ⟨s, _ | ⟨x, _ | ⟨y, as⟩⟩⟩ <;> first | exact ⟨_, Scrubs.id, fun tm' => rfl⟩ | skip
          refine ⟨appH s, appH_scrubs s, fun tm' => ?_⟩
          simp only [abuiltin]
          cases srcType C.T u with
          | true => exact NatBy.or (nat_append _ _ _) (nat_appendX _ _ _)
          | false => exact nat_appendZ _ _ _ _
        refine key g (fun tm' => abuiltin C.T ⟨tm', st, mv⟩ .append ats.toList (args.toList.map (⟨tm, st, mv⟩ : St).eval)) ⟨hg, fun h => by cases h⟩ hn h fun σ' h2 h3 h4 => ?_
        have e := ea σ' h4
        obtain ⟨tm', st', mv'⟩ := σ'
        simp only at h2 h3
        subst h2; subst h3
        simp only [exec1, aop]
        rw [e]
      | copy =>
        refine key (fun r => r) (fun tm' => abuiltin C.T ⟨tm', st, mv⟩ .copy ats.toList (args.toList.map (⟨tm, st, mv⟩ : St).eval)) ⟨Scrubs.id, fun _ => rfl⟩ (fun tm' => ?_) h fun σ' h2 h3 h4 => ?_
        · generalize args.toList.map (⟨tm, st, mv⟩ : St).eval = as
          rcases hts : ats.toList with _ | ⟨t, _ | ⟨u, _ | ⟨z, ts⟩⟩⟩ <;> rcases as with _ | ⟨s, _ | ⟨x, _ | ⟨y, as⟩⟩⟩ <;> first | exact rfl | exact nat_copy _ _ _
        · have e := ea σ' h4
          obtain ⟨tm', st', mv'⟩ := σ'
          simp only at h2 h3
          subst h2; subst h3
          simp only [exec1, aop]
          rw [e]
      | clear =>
        refine key (fun r => r) (fun tm' => abuiltin C.T ⟨tm', st, mv⟩ .clear ats.toList (args.toList.map (⟨tm, st, mv⟩ : St).eval)) ⟨Scrubs.id, fun _ => rfl⟩ (fun tm' => ?_) h fun σ' h2 h3 h4 => ?_
        · generalize args.toList.map (⟨tm, st, mv⟩ : St).eval = as
          rcases hts : ats.toList with _ | ⟨t, _ | ⟨u, ts⟩⟩ <;> rcases as with _ | ⟨s, _ | ⟨x, as⟩⟩ <;> first | exact rfl | exact nat_clear _ _
        · have e := ea σ' h4
          obtain ⟨tm', st', mv'⟩ := σ'
          simp only at h2 h3
          subst h2; subst h3
          simp only [exec1, aop]
          rw [e]
      | _ => simp [effOp] at hq
    | invoke r n => simp [effOp] at hq
  | _ => simp [effOp] at hq
def shp : AObj → Option (Nat × Nat × Nat)
  | .arr t _ rows => some (0, t, rows.length)
  | .arx t rows => some (1, t, rows.length)
  | .map _ t es => some (2, t, es.length)
  | _ => none
def shp0 : AObj → Bool
  | .arr _ _ _ => false
  | .arx _ _ => false
  | _ => true
def SameShape (a b : List AObj) : Prop := ∀ id, shp (a.getD id .dead) = shp (b.getD id .dead)
def storeOp (o : Oper) : Bool := match o.op with | .store _ _ _ => true | _ => false
theorem astore_shape {T : Tab} {σ σ' : St} {t : Nat} {v a : AV} (h : astore T σ t v a = some σ') : SameShape σ'.st σ.st := by
  have key : ∀ (id : Nat) (o : AObj), shp o = shp (σ.st.getD id .dead) → SameShape (σ.st.set id o) σ.st := fun id o ho j => by
    by_cases hj : j = id
    · subst hj
      rw [List.getD_eq_getElem?_getD, List.getElem?_set]
      simp only [if_true]
      split
      · exact ho
      · rename_i hlt
        rw [List.getD_eq_getElem?_getD, List.getElem?_eq_none (by omega)]
    · rw [List.getD_eq_getElem?_getD, List.getElem?_set_ne (fun e => hj e.symm), ← List.getD_eq_getElem?_getD]
  unfold astore at h
  split at h
  · rename_i id off
    split at h
    · rename_i bt cs ti h1 h2
      simp only [cond_eq_ite] at h
      split at h
      · cases h
        exact key id _ (by rw [h1]; rfl)
      · cases h
    · cases h
  · rename_i id i off
    split at h
    · rename_i e kd rows ti h1 h2
      split at h
      · simp only [cond_eq_ite] at h
        split at h
        · cases h
          exact key id _ (by rw [h1]; simp [shp])
        · cases h
      · cases h
    · rename_i e rows ti h1 h2
      split at h
      · simp only [cond_eq_ite] at h
        split at h
        · cases h
          exact key id _ (by rw [h1]; simp [shp])
        · cases h
      · cases h
    · cases h
  · cases h
section
variable {T : Tab} {σ σ' : St} {x : AV}
theorem shp_inv {o o' : AObj} (h : shp o' = shp o) : (∃ t kd kd' rows rows', o = .arr t kd rows ∧ o' = .arr t kd' rows' ∧ rows'.length = rows.length) ∨ (∃ t rows rows', o = .arx t rows ∧ o' = .arx t rows' ∧ rows'.length = rows.length) ∨ (shp0 o = true ∧ shp0 o' = true) := by
  cases o <;> cases o' <;> first | exact .inr (.inr ⟨rfl, rfl⟩) | (cases h; done) | skip
  · simp only [shp, Option.some.injEq, Prod.mk.injEq, true_and] at h
    exact .inl ⟨_, _, _, _, _, rfl, by rw [h.1], h.2⟩
  · simp only [shp, Option.some.injEq, Prod.mk.injEq, true_and] at h
    exact .inr (.inl ⟨_, _, _, rfl, by rw [h.1], h.2⟩)
theorem aindexAddr_shape (hs : SameShape σ'.st σ.st) (t : Nat) (i : AV) : aindexAddr T σ' t x i = aindexAddr T σ t x i := by
  cases x with
  | sr id =>
    simp only [aindexAddr]
    rcases shp_inv (hs id) with ⟨u, kd, kd', rows, rows', h1, h2, h3⟩ | ⟨u, rows, rows', h1, h2, h3⟩ | ⟨h1, h2⟩
    · rw [h1, h2]; simp only [h3]
    · rw [h1, h2]; first | rfl | simp only [h3]
    · generalize σ'.st.getD id .dead = o' at *
      generalize σ.st.getD id .dead = o at *
      cases o <;> cases o' <;> first | rfl | (cases h1; done) | (cases h2; done)
  | ss id a n =>
    simp only [aindexAddr]
    rcases shp_inv (hs id) with ⟨u, kd, kd', rows, rows', h1, h2, h3⟩ | ⟨u, rows, rows', h1, h2, h3⟩ | ⟨h1, h2⟩
    · rw [h1, h2]
    · rw [h1, h2]
    · generalize σ'.st.getD id .dead = o' at *
      generalize σ.st.getD id .dead = o at *
      cases o <;> cases o' <;> first | rfl | (cases h1; done) | (cases h2; done)
  | _ => rfl
theorem shp_map {o o' : AObj} (h : shp o' = shp o) : (∃ x t es x' t' es', o = .map x t es ∧ o' = .map x' t' es' ∧ es'.length = es.length) ∨ ((∀ x t es, o ≠ .map x t es) ∧ ∀ x t es, o' ≠ .map x t es) := by
  cases o
  case map x t es =>
    cases o' <;> first | (simp [shp] at h; done) | skip
    simp only [shp, Option.some.injEq, Prod.mk.injEq, true_and] at h
    exact .inl ⟨_, _, _, _, _, _, rfl, rfl, h.2⟩
  all_goals
    refine .inr ⟨fun _ _ _ e => AObj.noConfusion e, fun x t es e => ?_⟩
    subst e
    simp [shp] at h
theorem alen_shape (hs : SameShape σ'.st σ.st) (t : Nat) : alen T σ' t x = alen T σ t x := by
  cases x with
  | sr id =>
    simp only [alen]
    rcases shp_inv (hs id) with ⟨u, kd, kd', rows, rows', h1, h2, h3⟩ | ⟨u, rows, rows', h1, h2, h3⟩ | ⟨h1, h2⟩
    · rw [h1, h2]; simp only [h3]
    · rw [h1, h2]; first | rfl | simp only [h3]
    · generalize σ'.st.getD id .dead = o' at *
      generalize σ.st.getD id .dead = o at *
      cases o <;> cases o' <;> first | rfl | (cases h1; done) | (cases h2; done)
  | mp id =>
    simp only [alen]
    rcases shp_map (hs id) with ⟨x, t1, es, x', t', es', h1, h2, h3⟩ | ⟨h1, h2⟩
    · rw [h1, h2]; simp only [h3]
    · generalize σ'.st.getD id .dead = o' at *
      generalize σ.st.getD id .dead = o at *
      cases o <;> first | exact absurd rfl (h1 _ _ _) | skip
      all_goals cases o' <;> first | exact absurd rfl (h2 _ _ _) | rfl
  | k v => cases v <;> first | rfl | (rename_i p; cases p <;> rfl)
  | _ => rfl
theorem aslice_shape (hs : SameShape σ'.st σ.st) (t : Nat) (a b d : Option AV) : aslice T σ' t x a b d = aslice T σ t x a b d := by
  cases x with
  | sr id =>
    simp only [aslice]
    rcases shp_inv (hs id) with ⟨u, kd, kd', rows, rows', h1, h2, h3⟩ | ⟨u, rows, rows', h1, h2, h3⟩ | ⟨h1, h2⟩
    · rw [h1, h2]; cases d <;> simp only [h3]
    · rw [h1, h2]; cases d <;> rfl
    · generalize σ'.st.getD id .dead = o' at *
      generalize σ.st.getD id .dead = o at *
      cases d <;> cases o <;> cases o' <;> first | rfl | (cases h1; done) | (cases h2; done)
  | ss id a n =>
    simp only [aslice]
    rcases shp_inv (hs id) with ⟨u, kd, kd', rows, rows', h1, h2, h3⟩ | ⟨u, rows, rows', h1, h2, h3⟩ | ⟨h1, h2⟩
    · rw [h1, h2]; cases d <;> simp only [h3]
    · rw [h1, h2]; cases d <;> rfl
    · generalize σ'.st.getD id .dead = o' at *
      generalize σ.st.getD id .dead = o at *
      cases d <;> cases o <;> cases o' <;> first | rfl | (cases h1; done) | (cases h2; done)
  | _ => rfl
end
def statelessOp (o : Oper) : Bool :=
  match o.op with
  | .move _ | .assign _ | .pick _ _ _ | .nilCheck _ | .unOp _ _ _ | .convert _ _ _ | .makeInterface _ _ | .makeFunc _ _ _ | .fieldAddr _ _ _ | .field _ _ _ | .extract _ _ | .build _ _ | .index _ _ _ => true
  | _ => false
def shapeOp (o : Oper) : Bool :=
  match o.op with
  | .slice _ _ _ _ _ | .indexAddr _ _ _ => true
  | .call { callee := .builtin .len, args := _, argTypes := _ } => true
  | _ => false
def mildFor (y x : Oper) : Bool := (statelessOp y && mildOp x) || (shapeOp y && storeOp x)
section
variable {C : Ctx} {σ σ' σ1 : St} {v : AV}
theorem exec1_stateless {P : Program} (hC : CallOk P C) {o : Oper} (hq : statelessOp o = true) (he : ∀ x ∈ o.op.operands.toList, σ'.eval x = σ.eval x) (h : exec1 C σ o = some (true, σ1, v)) :
    exec1 C σ' o = some (true, σ', v) := by
  have hqq : quietOp C.sig o = true := by
    obtain ⟨dst, op, type, pos, after, guard⟩ := o
    cases op <;> first | rfl | cases hq
  have h1 := exec1_quiet hC hqq (σ := σ) (σ' := ⟨σ'.tmps, σ.st, σ'.moved⟩) rfl (fun x hx => by
    have := he x hx
    cases x <;> exact this) h
  have h2 := h1.2
  obtain ⟨dst, op, type, pos, after, guard⟩ := o
  obtain ⟨tm, st, mv⟩ := σ'
  have hev : ∀ (s1 s2 : List AObj), (⟨tm, s1, mv⟩ : St).eval = (⟨tm, s2, mv⟩ : St).eval := fun s1 s2 => by funext x; cases x <;> rfl
  simp only at h2 ⊢
  cases op <;> first | (cases hq; done) | skip
  all_goals simp only [exec1, aop] at h2 ⊢
  all_goals rw [hev st σ.st]
  case move => cases h2; rfl
  case assign => cases h2; rfl
  case pick => split at h2 <;> first | (cases h2; rfl) | cases h2
  case nilCheck => split at h2 <;> first | (cases h2; rfl) | cases h2
  case unOp =>
    split at h2
    · split at h2
      · simp only [cond_eq_ite] at h2 ⊢
        split at h2
        · cases h2; rename_i hsc; rw [if_pos hsc]
        · cases h2
      · cases h2
    · split at h2
      · cases h2; rfl
      · cases h2
    · cases h2
  case convert => obtain ⟨_, h3, _⟩ := Ab.v_inv h2; rw [h3]
  case makeInterface => split at h2 <;> first | (cases h2; done) | (cases h2; rfl)
  case makeFunc => cases h2; rfl
  case fieldAddr => obtain ⟨_, h3, _⟩ := Ab.v_inv h2; rw [h3]
  case field => obtain ⟨_, h3, _⟩ := Ab.v_inv h2; rw [h3]
  case extract =>
    split at h2
    · obtain ⟨_, h3, _⟩ := Ab.v_inv h2; rw [h3]
    · cases h2
  case build => obtain ⟨_, h3, _⟩ := Ab.v_inv h2; rw [h3]
  case index => obtain ⟨_, h3⟩ := Ab.w_inv h2; rw [h3]
theorem exec1_shape {P : Program} (hC : CallOk P C) {o : Oper} (hq : shapeOp o = true) (hs : SameShape σ'.st σ.st) (he : ∀ x ∈ o.op.operands.toList, σ'.eval x = σ.eval x) (h : exec1 C σ o = some (true, σ1, v)) :
    exec1 C σ' o = some (true, σ', v) := by
  have hqq : quietOp C.sig o = true := by
    obtain ⟨dst, op, type, pos, after, guard⟩ := o
    cases op <;> first | rfl | (cases hq; done) | skip
    rename_i cl
    obtain ⟨callee, args, ats⟩ := cl
    cases callee <;> first | (cases hq; done) | skip
    rename_i b
    cases b <;> first | rfl | cases hq
  have h1 := exec1_quiet hC hqq (σ := σ) (σ' := ⟨σ'.tmps, σ.st, σ'.moved⟩) rfl (fun x hx => by
    have := he x hx
    cases x <;> exact this) h
  have h2 := h1.2
  obtain ⟨dst, op, type, pos, after, guard⟩ := o
  obtain ⟨tm, st, mv⟩ := σ'
  have hev : ∀ (s1 s2 : List AObj), (⟨tm, s1, mv⟩ : St).eval = (⟨tm, s2, mv⟩ : St).eval := fun s1 s2 => by funext x; cases x <;> rfl
  have hs' : SameShape (⟨tm, st, mv⟩ : St).st (⟨tm, σ.st, mv⟩ : St).st := hs
  simp only at h2 ⊢
  cases op <;> first | (cases hq; done) | skip
  case slice =>
    simp only [exec1, aop] at h2 ⊢
    rw [hev st σ.st, aslice_shape hs']
    simp only [cond_eq_ite] at h2 ⊢
    split at h2
    · cases h2
    · rename_i hn
      rw [if_neg hn]
      obtain ⟨_, h3⟩ := Ab.w_inv h2; rw [h3]
  case indexAddr =>
    simp only [exec1, aop] at h2 ⊢
    rw [hev st σ.st, aindexAddr_shape hs']
    obtain ⟨_, h3⟩ := Ab.w_inv h2; rw [h3]
  case call cl =>
    obtain ⟨callee, args, ats⟩ := cl
    cases callee <;> first | (cases hq; done) | skip
    rename_i b
    cases b <;> first | (cases hq; done) | skip
    simp only [exec1, aop] at h2 ⊢
    rw [hev st σ.st]
    generalize args.toList.map (⟨tm, σ.st, mv⟩ : St).eval = as at *
    rcases hts : ats.toList with _ | ⟨t, _ | ⟨u, ts⟩⟩ <;> rcases as with _ | ⟨x, _ | ⟨y, as⟩⟩ <;> rw [hts] at h2 <;> simp only [abuiltin] at h2 ⊢ <;> first | (cases h2; done) | skip
    rw [alen_shape hs']
    obtain ⟨_, h3, _⟩ := Ab.v_inv h2
    rw [h3]
end
end
end Go.Fw
