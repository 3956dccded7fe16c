/- The framework, part Wa: drawn regions in which effects stand in one order, and some quiet operations are free among them. -/
import Derived.Test.YtgcdiccbehiijaaFwW
set_option linter.all false
set_option linter.unusedSimpArgs false
set_option linter.unusedVariables false
namespace Go.Fw

/-! ### Clean values -/
mutual
theorem clean_fix (h : AV → AV) (hh : ∀ r, h r = r ∨ h r = .undef) : ∀ v : AV, (v.onRefs h).clean = true → v.onRefs h = v
  | .agg cs, hc => by
    simp only [AV.onRefs, AV.clean] at hc ⊢
    rw [cleanL_fix h hh cs hc]
  | .tup cs, hc => by
    simp only [AV.onRefs, AV.clean] at hc ⊢
    rw [cleanL_fix h hh cs hc]
  | .fn f a b, hc => by
    simp only [AV.onRefs, AV.clean, Bool.and_eq_true] at hc ⊢
    rw [cleanL_fix h hh a hc.1, cleanL_fix h hh b hc.2]
  | .iface t v, hc => by
    simp only [AV.onRefs, AV.clean] at hc ⊢
    rw [clean_fix h hh v hc]
  | .sr i, hc => by
    simp only [AV.onRefs] at hc ⊢
    rcases hh (.sr i) with e | e <;> rw [e] at hc ⊢ <;> cases hc
  | .ss i a b, hc => by
    simp only [AV.onRefs] at hc ⊢
    rcases hh (.ss i a b) with e | e <;> rw [e] at hc ⊢ <;> cases hc
  | .ptr i a, hc => by
    simp only [AV.onRefs] at hc ⊢
    rcases hh (.ptr i a) with e | e <;> rw [e] at hc ⊢ <;> cases hc
  | .ap i a b, hc => by
    simp only [AV.onRefs] at hc ⊢
    rcases hh (.ap i a b) with e | e <;> rw [e] at hc ⊢ <;> cases hc
  | .undef, hc => rfl
  | .k v, hc => rfl
  | .sl t kd r, hc => rfl
  | .ep t r o, hc => rfl
theorem cleanL_fix (h : AV → AV) (hh : ∀ r, h r = r ∨ h r = .undef) : ∀ vs : List AV, AV.cleanL (AV.onRefsL h vs) = true → AV.onRefsL h vs = vs
  | [], _ => rfl
  | v :: vs, hc => by
    simp only [AV.onRefsL, AV.cleanL, Bool.and_eq_true] at hc ⊢
    rw [clean_fix h hh v hc.1, cleanL_fix h hh vs hc.2]
end

mutual
theorem clean_keep (h : AV → AV) : ∀ v : AV, v.clean = true → v.onRefs h = v
  | .agg cs, hc => by
    simp only [AV.onRefs, AV.clean] at hc ⊢
    rw [cleanL_keep h cs hc]
  | .tup cs, hc => by
    simp only [AV.onRefs, AV.clean] at hc ⊢
    rw [cleanL_keep h cs hc]
  | .fn f a b, hc => by
    simp only [AV.onRefs, AV.clean, Bool.and_eq_true] at hc ⊢
    rw [cleanL_keep h a hc.1, cleanL_keep h b hc.2]
  | .iface t v, hc => by
    simp only [AV.onRefs, AV.clean] at hc ⊢
    rw [clean_keep h v hc]
  | .sr i, hc => by cases hc
  | .ss i a b, hc => by cases hc
  | .ptr i a, hc => by cases hc
  | .ap i a b, hc => by cases hc
  | .undef, hc => rfl
  | .k v, hc => rfl
  | .sl t kd r, hc => rfl
  | .ep t r o, hc => rfl
theorem cleanL_keep (h : AV → AV) : ∀ vs : List AV, AV.cleanL vs = true → AV.onRefsL h vs = vs
  | [], _ => rfl
  | v :: vs, hc => by
    simp only [AV.onRefsL, AV.cleanL, Bool.and_eq_true] at hc ⊢
    rw [clean_keep h v hc.1, cleanL_keep h vs hc.2]
end

/-- of references, each stays or becomes unknown -/
def Scrubs (h : AV → AV) : Prop := ∀ r, h r = r ∨ h r = .undef
theorem Scrubs.id : Scrubs (fun r => r) := fun _ => .inl rfl
theorem Scrubs.scrub1 (i : Nat) : Scrubs (scrub1 i)
  | .sr j => by simp only [Go.Fw.scrub1]; cases Nat.beq j i <;> simp
  | .ss j _ _ => by simp only [Go.Fw.scrub1]; cases Nat.beq j i <;> simp
  | .ptr j _ => by simp only [Go.Fw.scrub1]; cases Nat.beq j i <;> simp
  | .ap j _ _ => by simp only [Go.Fw.scrub1]; cases Nat.beq j i <;> simp
  | .agg _ | .tup _ | .fn _ _ _ | .iface _ _ | .undef | .k _ | .sl _ _ _ | .ep _ _ _ => .inl rfl
theorem Scrubs.scrubL1 (is : List Nat) : Scrubs (scrubL1 is)
  | .sr j => by simp only [Go.Fw.scrubL1]; cases is.elem j <;> simp
  | .ss j _ _ => by simp only [Go.Fw.scrubL1]; cases is.elem j <;> simp
  | .ptr j _ => by simp only [Go.Fw.scrubL1]; cases is.elem j <;> simp
  | .ap j _ _ => by simp only [Go.Fw.scrubL1]; cases is.elem j <;> simp
  | .agg _ | .tup _ | .fn _ _ _ | .iface _ _ | .undef | .k _ | .sl _ _ _ | .ep _ _ _ => .inl rfl

/-! ### Operations on clean values -/
section
variable {σ σ' : St} {x y : AV}

theorem aload_clean {T : Tab} (hx : x.clean = true) (t : Nat) : aload T σ' t x = aload T σ t x := by
  cases x <;> first | rfl | cases hx
theorem aslice_clean {T : Tab} (hx : x.clean = true) (t : Nat) (a b d : Option AV) : aslice T σ' t x a b d = aslice T σ t x a b d := by
  cases x <;> first | rfl | cases hx
theorem aindexAddr_clean {T : Tab} (hx : x.clean = true) (t : Nat) (i : AV) : aindexAddr T σ' t x i = aindexAddr T σ t x i := by
  cases x <;> first | rfl | cases hx
theorem alen_clean {T : Tab} (hx : x.clean = true) (t : Nat) : alen T σ' t x = alen T σ t x := by
  cases x <;> first | rfl | cases hx
theorem isNil_clean (d : TD) (hx : x.clean = true) : isNil d σ' x = isNil d σ x := by
  cases d <;> cases x <;> first | rfl | (cases hx; done) | (rename_i v; cases v <;> first | rfl | (rename_i p; cases p <;> rfl))
theorem abinOp_clean {T : Tab} (op : BinOp) (t : Nat) (hx : x.clean = true) (hy : y.clean = true) : abinOp T σ' op t x y = abinOp T σ op t x y := by
  have h2 : aeq T σ' t x y = aeq T σ t x y := by
    unfold aeq
    cases T t with
    | none => rfl
    | some ti =>
      simp only
      cases ti.d <;> simp only [isNil_clean (σ := σ) (σ' := σ') _ hx, isNil_clean (σ := σ) (σ' := σ') _ hy]
  unfold abinOp
  split
  · rfl
  · rfl
  · cases op <;> first | rfl | simp only [h2]

end

def freeOp (o : Oper) : Bool := o.guard.isNone && match o.op with
  | .move _ | .assign _ | .pick _ _ _ | .load _ _ | .binOp _ _ _ _ _ | .unOp _ _ _ | .convert _ _ _ | .makeInterface _ _ | .makeFunc _ _ _
  | .slice _ _ _ _ _ | .field _ _ _ | .indexAddr _ _ _ | .index _ _ _ | .extract _ _ | .build _ _ => true
  | .call { callee := .builtin .len, args := _, argTypes := _ } | .call { callee := .builtin .min, args := _, argTypes := _ } | .call { callee := .builtin .max, args := _, argTypes := _ } => true
  | _ => false

section
variable {C : Ctx} {σ σ' σ1 : St} {c : Bool} {v : AV}

theorem abuiltin_clean {T : Tab} {b : Builtin} (hb : b = .len ∨ b = .max ∨ b = .min) {ts : List Nat} {as : List AV} (hc : ∀ x ∈ as, x.clean = true) (h : abuiltin T σ b ts as = some (c, σ1, v)) :
    σ1 = σ ∧ abuiltin T σ' b ts as = some (c, σ', v) := by
  rcases hb with rfl | rfl | rfl
  · rcases ts with _ | ⟨t, _ | ⟨u, ts⟩⟩ <;> rcases as with _ | ⟨x, _ | ⟨y, as⟩⟩ <;> simp only [abuiltin] at h ⊢ <;> first | (cases h; done) | skip
    rw [alen_clean (σ := σ) (hc _ (by simp))]
    obtain ⟨rfl, h1, rfl⟩ := Ab.v_inv h
    rw [h1]; exact ⟨rfl, rfl⟩
  · change (match aminmax true as with | some x => (some (true, σ, x) : Ab (St × AV)) | none => none) = _ at h
    change _ ∧ (match aminmax true as with | some x => (some (true, σ', x) : Ab (St × AV)) | none => none) = _
    obtain ⟨rfl, h1, rfl⟩ := Ab.v_inv h
    rw [h1]; exact ⟨rfl, rfl⟩
  · change (match aminmax false as with | some x => (some (true, σ, x) : Ab (St × AV)) | none => none) = _ at h
    change _ ∧ (match aminmax false as with | some x => (some (true, σ', x) : Ab (St × AV)) | none => none) = _
    obtain ⟨rfl, h1, rfl⟩ := Ab.v_inv h
    rw [h1]; exact ⟨rfl, rfl⟩

/-- a free operation yields the same wherever its operands are the same -/
theorem exec1_free {o : Oper} (hq : freeOp o = true) (hc : ∀ x ∈ o.op.operands.toList, (σ.eval x).clean = true) (he : ∀ x ∈ o.op.operands.toList, σ'.eval x = σ.eval x)
    (h : exec1 C σ o = some (true, σ1, v)) : σ1 = σ ∧ exec1 C σ' o = some (true, σ', v) := by
  obtain ⟨dst, op, type, pos, after, guard⟩ := o
  have args_eq : ∀ args : Array Operand, (∀ x ∈ args.toList, σ'.eval x = σ.eval x) → args.toList.map σ'.eval = args.toList.map σ.eval := fun args ha => List.map_congr_left ha
  cases op with
  | move x | assign x =>
    have e := he x (by simp [Op.operands])
    simp only [exec1, aop] at h ⊢
    rw [e]; cases h; exact ⟨rfl, rfl⟩
  | pick a b d =>
    have e1 := he a (by simp [Op.operands])
    have e2 := he b (by simp [Op.operands])
    have e3 := he d (by simp [Op.operands])
    simp only [exec1, aop] at h ⊢
    rw [e1, e2, e3]
    split at h
    · cases h; exact ⟨rfl, rfl⟩
    · cases h
  | load t a =>
    have e := he a (by simp [Op.operands])
    have hx := hc a (by simp [Op.operands])
    simp only [exec1, aop] at h ⊢
    rw [e, aload_clean (σ := σ) hx]
    obtain ⟨rfl, h1, _⟩ := Ab.v_inv h
    rw [h1]; exact ⟨rfl, rfl⟩
  | binOp op t x y ty =>
    have e1 := he x (by simp [Op.operands])
    have e2 := he y (by simp [Op.operands])
    have c1 := hc x (by simp [Op.operands])
    have c2 := hc y (by simp [Op.operands])
    simp only [exec1, aop] at h ⊢
    rw [e1, e2]
    have ee := abinOp_clean (σ := σ) (σ' := σ') (T := C.T) op t c1 c2
    generalize hp : σ.eval x = p at *
    generalize hq2 : σ.eval y = q at *
    split at h
    · split at h
      · obtain ⟨rfl, h1⟩ := Ab.w_inv h; rw [ee, h1]; exact ⟨rfl, rfl⟩
      · obtain ⟨rfl, h1⟩ := Ab.w_inv h; rw [ee, h1]; exact ⟨rfl, rfl⟩
      · cases h
    · obtain ⟨rfl, h1⟩ := Ab.w_inv h; rw [ee, h1]; exact ⟨rfl, rfl⟩
  | unOp op t x =>
    have e := he x (by simp [Op.operands])
    simp only [exec1, aop] at h ⊢
    rw [e]
    split at h
    · split at h
      · simp only [cond_eq_ite] at h ⊢
        split at h
        · cases h; rename_i hsc; rw [if_pos hsc]; exact ⟨rfl, rfl⟩
        · cases h
      · cases h
    · split at h
      · cases h; exact ⟨rfl, rfl⟩
      · cases h
    · cases h
  | convert s d x =>
    have e := he x (by simp [Op.operands])
    simp only [exec1, aop] at h ⊢
    rw [e]
    obtain ⟨rfl, h1, _⟩ := Ab.v_inv h
    rw [h1]; exact ⟨rfl, rfl⟩
  | makeInterface t x =>
    have e := he x (by simp [Op.operands])
    simp only [exec1, aop] at h ⊢
    rw [e]
    split at h <;> first | (cases h; done) | (cases h; exact ⟨rfl, rfl⟩)
  | makeFunc fn first captured =>
    have e1 := args_eq first (fun x hx => he x (by simp [Op.operands]; exact .inl (by simpa using hx)))
    have e2 := args_eq captured (fun x hx => he x (by simp [Op.operands]; exact .inr (by simpa using hx)))
    simp only [exec1, aop] at h ⊢
    rw [e1, e2]
    cases h; exact ⟨rfl, rfl⟩
  | slice t x lo hi mx =>
    have e := he x (by simp [Op.operands])
    have hx := hc x (by simp [Op.operands])
    have e1 : lo.map σ'.eval = lo.map σ.eval := by cases lo with | none => rfl | some y => simp [he y (by simp [Op.operands])]
    have e2 : hi.map σ'.eval = hi.map σ.eval := by cases hi with | none => rfl | some y => simp [he y (by simp [Op.operands])]
    have e3 : mx.map σ'.eval = mx.map σ.eval := by cases mx with | none => rfl | some y => simp [he y (by simp [Op.operands])]
    simp only [exec1, aop] at h ⊢
    rw [e, e1, e2, e3, aslice_clean (σ := σ) hx]
    simp only [cond_eq_ite] at h ⊢
    split at h
    · cases h
    · rename_i hn
      rw [if_neg hn]
      obtain ⟨rfl, h1⟩ := Ab.w_inv h; rw [h1]; exact ⟨rfl, rfl⟩
  | field s x f =>
    have e := he x (by simp [Op.operands])
    simp only [exec1, aop] at h ⊢
    rw [e]
    obtain ⟨rfl, h1, _⟩ := Ab.v_inv h
    rw [h1]; exact ⟨rfl, rfl⟩
  | indexAddr t x i =>
    have e1 := he x (by simp [Op.operands])
    have e2 := he i (by simp [Op.operands])
    have hx := hc x (by simp [Op.operands])
    simp only [exec1, aop] at h ⊢
    rw [e1, e2, aindexAddr_clean (σ := σ) hx]
    obtain ⟨rfl, h1⟩ := Ab.w_inv h; rw [h1]; exact ⟨rfl, rfl⟩
  | index t x i =>
    have e1 := he x (by simp [Op.operands])
    have e2 := he i (by simp [Op.operands])
    simp only [exec1, aop] at h ⊢
    rw [e1, e2]
    obtain ⟨rfl, h1⟩ := Ab.w_inv h; rw [h1]; exact ⟨rfl, rfl⟩
  | extract x i =>
    have e := he x (by simp [Op.operands])
    simp only [exec1, aop] at h ⊢
    rw [e]
    split at h
    · obtain ⟨rfl, h1, _⟩ := Ab.v_inv h
      rw [h1]; exact ⟨rfl, rfl⟩
    · cases h
  | build t parts =>
    have e : parts.toList.map (fun p => (p.1, σ'.eval p.2)) = parts.toList.map (fun p => (p.1, σ.eval p.2)) :=
      List.map_congr_left fun p hp => by rw [he p.2 (by simp [Op.operands]; exact ⟨p.1, by simpa using hp⟩)]
    simp only [exec1, aop] at h ⊢
    rw [e]
    obtain ⟨rfl, h1, _⟩ := Ab.v_inv h
    rw [h1]; exact ⟨rfl, rfl⟩
  | call cl =>
    obtain ⟨callee, args, ats⟩ := cl
    cases callee with
    | value f => simp [freeOp] at hq
    | builtin b =>
      have ea := args_eq args (fun x hx => he x (by simp [Op.operands, Call.operands]; first | exact .inr (by simpa using hx) | exact (by simpa using hx)))
      have ca : ∀ x ∈ args.toList.map σ.eval, x.clean = true := fun x hx => by
        obtain ⟨y, hy, rfl⟩ := List.mem_map.1 hx
        exact hc y (by simp [Op.operands, Call.operands]; first | exact .inr (by simpa using hy) | exact (by simpa using hy))
      cases b with
      | len | max | min =>
        simp only [exec1, aop] at h ⊢
        rw [ea]
        exact abuiltin_clean (by simp) ca h
      | _ => simp [freeOp] at hq
    | invoke r n => simp [freeOp] at hq
  | _ => simp [freeOp] at hq

/-! ### Effects -/
/-- the objects may change, temporaries may become unknown: what becomes of them doesn't hang on other temporaries -/
def effOp (o : Oper) : Bool :=
  match o.op with
  | .alloc _ | .box _ _ | .buildSlice _ _ _ | .makeSlice _ _ _ | .store _ _ _ => true
  | .call { callee := .builtin .append, args := _, argTypes := _ } | .call { callee := .builtin .copy, args := _, argTypes := _ } | .call { callee := .builtin .clear, args := _, argTypes := _ } => true
  | .call { callee := .value (.func _), args := _, argTypes := _ } => true
  | _ => false

theorem onRefsL_id' (l : List AV) : AV.onRefsL (fun r => r) l = l := by
  rw [onRefsL_eq, onRefs_self (h := fun r => r) (fun _ => rfl)]; simp

/-- the temporaries `tm` do not matter, but that they are scrubbed -/
def NatBy (h : AV → AV) (tm : List AV) (x : Ab (St × AV)) (y : Ab (St × AV)) : Prop :=
  match x with
  | some (c, s, v) => y = some (c, ⟨AV.onRefsL h tm, s.st, s.moved⟩, v)
  | none => y = none

section
variable {T : Tab} {st : List AObj} {mv : List Nat} {tm : List AV}

theorem NatBy.bif {h : AV → AV} {b : Bool} {x y : Ab (St × AV)} (hh : NatBy h tm x y) : NatBy h tm (bif b then x else none) (bif b then y else none) := by
  cases b
  · rfl
  · exact hh
theorem NatBy.unbif {h : AV → AV} {b : Bool} {x y : Ab (St × AV)} (hh : NatBy h tm x y) : NatBy h tm (bif b then none else x) (bif b then none else y) := by
  cases b
  · exact hh
  · rfl
theorem NatBy.ret {c : Bool} {s : List AObj} {m : List Nat} {v : AV} : NatBy (fun r => r) tm (some (c, ⟨[], s, m⟩, v)) (some (c, ⟨tm, s, m⟩, v)) := by simp [NatBy, onRefsL_id']
theorem NatBy.okk {b : Bool} {s s' : St} {v : AV} (hs : s' = ⟨tm, s.st, s.moved⟩) : NatBy (fun r => r) tm (Ab.ok (bif b then some (s, v) else none)) (Ab.ok (bif b then some (s', v) else none)) := by
  cases b
  · rfl
  · simp [NatBy, Ab.ok, onRefsL_id', hs]
theorem NatBy.stt {b : Bool} {s s' : St} (hs : s' = ⟨tm, s.st, s.moved⟩) : NatBy (fun r => r) tm (match (bif b then some s else none : Option St) with | some σ' => some (true, σ', .undef) | none => none) (match (bif b then some s' else none : Option St) with | some σ' => some (true, σ', .undef) | none => none) := by
  cases b
  · rfl
  · simp [NatBy, onRefsL_id', hs]

theorem NatBy.orok {h : AV → AV} {x y x' y' : Option (St × AV)} (h1 : NatBy h tm (Ab.ok x) (Ab.ok y)) (h2 : NatBy h tm (Ab.ok x') (Ab.ok y')) :
    NatBy h tm (Ab.ok (match (generalizing := false) x with | some r => some r | none => x')) (Ab.ok (match (generalizing := false) y with | some r => some r | none => y')) := by
  cases x with
  | none =>
    have e : y = none := by
      cases y with
      | none => rfl
      | some r => cases h1
    subst e; exact h2
  | some r =>
    cases y with
    | none => cases h1
    | some r' => exact h1
theorem NatBy.or {h : AV → AV} {x y x' y' : Ab (St × AV)} (h1 : NatBy h tm x y) (h2 : NatBy h tm x' y') :
    NatBy h tm (match (generalizing := false) x with | some r => some r | none => x') (match (generalizing := false) y with | some r => some r | none => y') := by
  cases x with
  | none =>
    have e : y = none := h1
    subst e; exact h2
  | some r =>
    obtain ⟨c, s, v⟩ := r
    have e : y = some (c, ⟨AV.onRefsL h tm, s.st, s.moved⟩, v) := h1
    subst e; rfl

theorem rowsOf_tm (x : AV) : rowsOf ⟨tm, st, mv⟩ x = rowsOf ⟨[], st, mv⟩ x := by cases x <;> rfl
theorem elemOk_tm (e : Nat) (x : AV) : elemOk ⟨tm, st, mv⟩ e x = elemOk ⟨[], st, mv⟩ e x := by cases x <;> rfl

theorem nat_build (t len : Nat) (parts : List (Nat × AV)) : NatBy (fun r => r) tm (Ab.ok (abuildSlice T ⟨[], st, mv⟩ t len parts)) (Ab.ok (abuildSlice T ⟨tm, st, mv⟩ t len parts)) := by
  unfold abuildSlice
  split
  · rename_i e _ _ _
    cases T e with
    | none => rfl
    | some te =>
      simp only
      cases te.cells with
      | nil => rfl
      | cons c0 cs0 =>
        simp only
        generalize fillRows _ _ _ parts = r
        cases r with
        | none => generalize Nat.ble _ _ = b; cases b <;> rfl
        | some rows => exact NatBy.okk rfl
  · rfl

theorem nat_buildX (t len : Nat) (parts : List (Nat × AV)) : NatBy (fun r => r) tm (Ab.ok (abuildX T ⟨[], st, mv⟩ t len parts)) (Ab.ok (abuildX T ⟨tm, st, mv⟩ t len parts)) := by
  unfold abuildX
  split
  · rename_i e _ _ _
    cases T e with
    | none => rfl
    | some te =>
      simp only
      generalize fillX _ _ parts = r
      cases r with
      | none => generalize (_ && _ : Bool) = b; cases b <;> rfl
      | some rows => exact NatBy.okk rfl
  · rfl

theorem nat_make (t : Nat) (l c : AV) : NatBy (fun r => r) tm (amakeSlice T ⟨[], st, mv⟩ t l c) (amakeSlice T ⟨tm, st, mv⟩ t l c) := by
  unfold amakeSlice
  split
  · rename_i e _ _ _ _ _ _ _
    cases T e with
    | none => rfl
    | some te => exact NatBy.unbif NatBy.ret
  · rfl

theorem nat_store (t : Nat) (v a : AV) : NatBy (fun r => r) tm (match astore T ⟨[], st, mv⟩ t v a with | some σ' => some (true, σ', .undef) | none => none) (match astore T ⟨tm, st, mv⟩ t v a with | some σ' => some (true, σ', .undef) | none => none) := by
  cases a <;> try rfl
  · rename_i id off
    simp only [astore]
    cases st.getD id .dead <;> cases T t <;> try rfl
    exact NatBy.stt rfl
  · rename_i id i off
    simp only [astore]
    cases st.getD id .dead <;> cases T t <;> try rfl
    · rename_i e kd rows ti
      simp only
      cases T e with
      | none => rfl
      | some te => exact NatBy.stt rfl
    · rename_i e rows ti
      simp only
      cases T e with
      | none => rfl
      | some te => exact NatBy.stt rfl

theorem nat_writeRows (e : Nat) (d : AV) (ys : List (List AV)) : ∃ r : Ab St, writeRows T ⟨[], st, mv⟩ e d ys = r ∧ writeRows T ⟨tm, st, mv⟩ e d ys = r.map fun s => ⟨tm, s.st, s.moved⟩ := by
  unfold writeRows
  cases T e with
  | none => exact ⟨_, rfl, rfl⟩
  | some te =>
    simp only
    cases te.cells.isEmpty with
    | true => exact ⟨_, rfl, rfl⟩
    | false =>
      simp only [cond_false]
      cases d <;> try exact ⟨_, rfl, rfl⟩
      · rename_i id
        simp only
        cases st.getD id .dead <;> try exact ⟨_, rfl, rfl⟩
        simp only
        generalize Nat.beq _ e = b
        cases b <;> exact ⟨_, rfl, rfl⟩
      · rename_i id a n
        simp only
        cases st.getD id .dead <;> try exact ⟨_, rfl, rfl⟩
        simp only
        generalize Nat.beq _ e = b
        cases b <;> exact ⟨_, rfl, rfl⟩

theorem NatBy.mapd {r r' : Ab St} {v : AV} (h : r' = r.map fun s => ⟨tm, s.st, s.moved⟩) : NatBy (fun r => r) tm (r.map fun σ' => (σ', v)) (r'.map fun σ' => (σ', v)) := by
  subst h
  rcases r with _ | ⟨c, s⟩
  · rfl
  · simp [Ab.map, NatBy, onRefsL_id']

theorem nat_copy (t : Nat) (d x : AV) : NatBy (fun r => r) tm (acopy T ⟨[], st, mv⟩ t d x) (acopy T ⟨tm, st, mv⟩ t d x) := by
  unfold acopy
  split
  · rename_i e _ _ _
    rw [rowsOf_tm (tm := tm) d, rowsOf_tm (tm := tm) x]
    split
    · rename_i ds xs te h1 h2 h3
      rw [elemOk_tm (tm := tm)]
      obtain ⟨r, h1, h2⟩ := nat_writeRows (T := T) (st := st) (mv := mv) (tm := tm) e d (xs.take ds.length)
      rw [h1]
      exact NatBy.bif (NatBy.mapd h2)
    · rfl
  · rfl

theorem nat_clear (t : Nat) (d : AV) : NatBy (fun r => r) tm (aclear T ⟨[], st, mv⟩ t d) (aclear T ⟨tm, st, mv⟩ t d) := by
  unfold aclear
  split
  · rename_i e _ _ _
    rw [rowsOf_tm (tm := tm) d]
    split
    · rename_i te ds h1 h2
      obtain ⟨r, h1, h2⟩ := nat_writeRows (T := T) (st := st) (mv := mv) (tm := tm) e d (List.replicate ds.length (te.cells.map CT.zero))
      rw [h1]
      exact NatBy.mapd h2
    · rfl
  · rfl

/-- what an append does to the temporaries -/
def appH : AV → AV → AV
  | .sr id => scrub1 id
  | _ => fun r => r
theorem appH_scrubs (s : AV) : Scrubs (appH s) := by
  cases s <;> first | exact Scrubs.id | exact Scrubs.scrub1 _

theorem nat_append (t : Nat) (s x : AV) : NatBy (appH s) tm (aappend T ⟨[], st, mv⟩ t s x) (aappend T ⟨tm, st, mv⟩ t s x) := by
  unfold aappend
  split
  · rename_i e _ _ _
    rw [rowsOf_tm (tm := tm) x]
    split
    · rename_i te ys h1 h2
      rw [elemOk_tm (tm := tm)]
      refine NatBy.bif ?_
      cases s <;> try rfl
      · rename_i u kd rows
        cases kd <;> try rfl
        · exact NatBy.ret
        all_goals
          cases rows with
          | nil => exact NatBy.ret
          | cons r rs => exact NatBy.bif NatBy.ret
      · rename_i id
        simp only
        cases st.getD id .dead <;> try rfl
        exact NatBy.bif rfl
      · rename_i id a n
        simp only
        cases st.getD id .dead <;> try rfl
        exact NatBy.bif NatBy.ret
    · rfl
  · rfl

theorem nat_appendX (t : Nat) (s x : AV) : NatBy (appH s) tm (aappendX T ⟨[], st, mv⟩ t s x) (aappendX T ⟨tm, st, mv⟩ t s x) := by
  unfold aappendX
  split
  · rename_i e _ _ jd _
    simp only
    cases T e with
    | none => rfl
    | some te =>
      cases st.getD jd .dead <;> try rfl
      simp only
      refine NatBy.bif ?_
      cases s <;> try rfl
      · rename_i u kd rows
        cases kd <;> try rfl
        exact NatBy.ret
      · rename_i id
        simp only
        cases st.getD id .dead <;> try rfl
        exact NatBy.bif rfl
  · rfl

theorem nat_appendZ (t u : Nat) (s x : AV) : NatBy (appH s) tm (aappendZ T ⟨[], st, mv⟩ t u s x) (aappendZ T ⟨tm, st, mv⟩ t u s x) := by
  unfold aappendZ
  split
  · rename_i e _ _ _ _ k _ _
    cases T e with
    | none => rfl
    | some te =>
      cases s <;> try rfl
      rename_i id a n
      simp only
      cases st.getD id .dead <;> try rfl
      rename_i v kd rows
      cases kd <;> try rfl
      exact NatBy.bif NatBy.ret
  · rfl

theorem nat_call (C : Ctx) (n : FuncId) (args : List AV) : ∃ h, Scrubs h ∧ ∀ tm, NatBy h tm (acall1 C ⟨[], st, mv⟩ n args) (acall1 C ⟨tm, st, mv⟩ n args) := by
  refine ⟨scrubL1 (pickIds (reach st 8 (dedup (AV.idsL args) [])) (C.sig n).2.2), Scrubs.scrubL1 _, fun tm => ?_⟩
  unfold acall1
  simp only
  cases (reach st 8 (dedup (AV.idsL args) [])).all fun i => Nat.blt i st.length with
  | false => rfl
  | true =>
    simp only [Bool.not_true, cond_false]
    cases C.call n _ _ with
    | none => rfl
    | some r => rfl
end

/-- effects that leave all temporaries -/
def mildOp (o : Oper) : Bool :=
  match o.op with
  | .alloc _ | .box _ _ | .buildSlice _ _ _ | .makeSlice _ _ _ | .store _ _ _ => true
  | .call { callee := .builtin .copy, args := _, argTypes := _ } | .call { callee := .builtin .clear, args := _, argTypes := _ } => true
  | _ => false

/-- an effect: what it does to the temporaries -/
theorem exec1_eff {C : Ctx} {σ σ1 : St} {o : Oper} {c : Bool} {v : AV} (hq : effOp o = true) (h : exec1 C σ o = some (c, σ1, v)) :
    ∃ g, (Scrubs g ∧ (mildOp o = true → g = fun r => r)) ∧ σ1.tmps = AV.onRefsL g σ.tmps ∧ ∀ σ' : St, σ'.st = σ.st → σ'.moved = σ.moved → (∀ x ∈ o.op.operands.toList, σ'.eval x = σ.eval x) →
      exec1 C σ' o = some (c, ⟨AV.onRefsL g σ'.tmps, σ1.st, σ1.moved⟩, v) := by
  obtain ⟨dst, op, type, pos, after, guard⟩ := o
  obtain ⟨tm, st, mv⟩ := σ
  have args_eq : ∀ (σ' : St) (args : Array Operand), (∀ x ∈ args.toList, σ'.eval x = (⟨tm, st, mv⟩ : St).eval x) → args.toList.map σ'.eval = args.toList.map (⟨tm, st, mv⟩ : St).eval := fun σ' args ha => List.map_congr_left ha
  -- from a form that speaks of all temporaries
  have key : ∀ (g : AV → AV) (f : List AV → Ab (St × AV)), (Scrubs g ∧ (mildOp ⟨dst, op, type, pos, after, guard⟩ = true → g = fun r => r)) → (∀ tm, NatBy g tm (f []) (f tm)) → f tm = some (c, σ1, v) →
      (∀ σ' : St, σ'.st = st → σ'.moved = mv → (∀ x ∈ op.operands.toList, σ'.eval x = (⟨tm, st, mv⟩ : St).eval x) → exec1 C σ' ⟨dst, op, type, pos, after, guard⟩ = f σ'.tmps) →
      ∃ g, (Scrubs g ∧ (mildOp ⟨dst, op, type, pos, after, guard⟩ = true → g = fun r => r)) ∧ σ1.tmps = AV.onRefsL g tm ∧ ∀ σ' : St, σ'.st = st → σ'.moved = mv → (∀ x ∈ op.operands.toList, σ'.eval x = (⟨tm, st, mv⟩ : St).eval x) →
        exec1 C σ' ⟨dst, op, type, pos, after, guard⟩ = some (c, ⟨AV.onRefsL g σ'.tmps, σ1.st, σ1.moved⟩, v) := fun g f hg hf h0 hx => by
    have h1 := hf tm
    rcases hfe : f [] with _ | ⟨c0, s0, v0⟩
    · rw [hfe] at h1; simp only [NatBy] at h1; rw [h1] at h0; cases h0
    · rw [hfe] at h1
      simp only [NatBy] at h1
      rw [h1] at h0
      cases h0
      refine ⟨g, hg, rfl, fun σ' h2 h3 h4 => ?_⟩
      rw [hx σ' h2 h3 h4]
      have h5 := hf σ'.tmps
      rw [hfe] at h5
      exact h5
  cases op with
  | alloc t =>
    refine key _ (fun tm => match C.T t with | some ti => some (true, (⟨tm, st, mv⟩ : St).new (.box t (ti.cells.map CT.zero)), .ptr st.length 0) | none => none) ⟨Scrubs.id, fun _ => rfl⟩ (fun tm => ?_) h fun σ' h2 h3 h4 => ?_
    · cases C.T t <;> simp [NatBy, onRefsL_id', St.new]
    · obtain ⟨tm', st', mv'⟩ := σ'
      simp only at h2 h3
      subst h2; subst h3
      rfl
  | box t x =>
    refine key _ (fun tm' => match C.T t with | some ti => bif Nat.beq ((⟨tm, st, mv⟩ : St).eval x).cells.length ti.cells.length && ((⟨tm, st, mv⟩ : St).eval x).cells.all isCell then some (true, (⟨tm', st, mv⟩ : St).new (.box t ((⟨tm, st, mv⟩ : St).eval x).cells), .ptr st.length 0) else none | none => none) ⟨Scrubs.id, fun _ => rfl⟩ (fun tm => ?_) h fun σ' h2 h3 h4 => ?_
    · cases C.T t with
      | none => rfl
      | some ti =>
        simp only [cond_eq_ite]
        split <;> simp [NatBy, onRefsL_id', St.new]
    · obtain ⟨tm', st', mv'⟩ := σ'
      simp only at h2 h3
      subst h2; subst h3
      have e := h4 x (by simp [Op.operands])
      simp only [exec1, aop, e]
      rfl
  | buildSlice t len parts =>
    refine key _ (fun tm' => Ab.ok (match abuildSlice C.T ⟨tm', st, mv⟩ t len (parts.toList.map fun (p : Nat × Operand) => (p.1, (⟨tm, st, mv⟩ : St).eval p.2)) with | some r => some r | none => abuildX C.T ⟨tm', st, mv⟩ t len (parts.toList.map fun (p : Nat × Operand) => (p.1, (⟨tm, st, mv⟩ : St).eval p.2)))) ⟨Scrubs.id, fun _ => rfl⟩ (fun tm => NatBy.orok (nat_build _ _ _) (nat_buildX _ _ _)) h fun σ' h2 h3 h4 => ?_
    obtain ⟨tm', st', mv'⟩ := σ'
    simp only at h2 h3
    subst h2; subst h3
    have e : parts.toList.map (fun p => (p.1, (⟨tm', st', mv'⟩ : St).eval p.2)) = parts.toList.map (fun p => (p.1, (⟨tm, st', mv'⟩ : St).eval p.2)) :=
      List.map_congr_left fun p hp => by rw [h4 p.2 (by simp [Op.operands]; exact ⟨p.1, by simpa using hp⟩)]
    simp only [exec1, aop]
    rw [e]
    rfl
  | makeSlice t l c =>
    refine key _ (fun tm' => amakeSlice C.T ⟨tm', st, mv⟩ t ((⟨tm, st, mv⟩ : St).eval l) ((⟨tm, st, mv⟩ : St).eval c)) ⟨Scrubs.id, fun _ => rfl⟩ (fun tm => nat_make _ _ _) h fun σ' h2 h3 h4 => ?_
    obtain ⟨tm', st', mv'⟩ := σ'
    simp only at h2 h3
    subst h2; subst h3
    have e1 := h4 l (by simp [Op.operands])
    have e2 := h4 c (by simp [Op.operands])
    simp only [exec1, aop, e1, e2]
  | store t a x =>
    refine key _ (fun tm' => match astore C.T ⟨tm', st, mv⟩ t ((⟨tm, st, mv⟩ : St).eval x) ((⟨tm, st, mv⟩ : St).eval a) with | some σ' => some (true, σ', .undef) | none => none) ⟨Scrubs.id, fun _ => rfl⟩ (fun tm => nat_store _ _ _) h fun σ' h2 h3 h4 => ?_
    obtain ⟨tm', st', mv'⟩ := σ'
    simp only at h2 h3
    subst h2; subst h3
    have e1 := h4 a (by simp [Op.operands])
    have e2 := h4 x (by simp [Op.operands])
    simp only [exec1, aop, e1, e2]
    rfl
  | call cl =>
    obtain ⟨callee, args, ats⟩ := cl
    have ea : ∀ σ' : St, (∀ x ∈ (Op.call ⟨callee, args, ats⟩).operands.toList, σ'.eval x = (⟨tm, st, mv⟩ : St).eval x) → args.toList.map σ'.eval = args.toList.map (⟨tm, st, mv⟩ : St).eval := fun σ' h4 =>
      args_eq σ' args fun x hx => h4 x (by cases callee <;> simp [Op.operands, Call.operands] <;> first | exact .inr (by simpa using hx) | exact (by simpa using hx))
    cases callee with
    | value f =>
      cases f with
      | func n =>
        obtain ⟨g, hg, hn⟩ := nat_call (st := st) (mv := mv) C n (args.toList.map (⟨tm, st, mv⟩ : St).eval)
        refine key g (fun tm' => acall1 C ⟨tm', st, mv⟩ n (args.toList.map (⟨tm, st, mv⟩ : St).eval)) ⟨hg, fun h => by cases h⟩ hn ?_ fun σ' h2 h3 h4 => ?_
        · simpa only [exec1, St.eval, List.nil_append, List.append_nil] using h
        · have e := ea σ' h4
          obtain ⟨tm', st', mv'⟩ := σ'
          simp only at h2 h3
          subst h2; subst h3
          simp only [exec1, St.eval, List.nil_append, List.append_nil] at e ⊢
          rw [e]
      | _ => simp [effOp] at hq
    | builtin b =>
      cases b with
      | append =>
        obtain ⟨g, hg, hn⟩ : ∃ g, Scrubs g ∧ ∀ tm', NatBy g tm' (abuiltin C.T ⟨[], st, mv⟩ .append ats.toList (args.toList.map (⟨tm, st, mv⟩ : St).eval)) (abuiltin C.T ⟨tm', st, mv⟩ .append ats.toList (args.toList.map (⟨tm, st, mv⟩ : St).eval)) := by
          generalize args.toList.map (⟨tm, st, mv⟩ : St).eval = as
          rcases hts : ats.toList with _ | ⟨t, _ | ⟨u, _ | ⟨z, ts⟩⟩⟩ <;> rcases as with _ | ⟨s, _ | ⟨x, _ | ⟨y, as⟩⟩⟩ <;> first | exact ⟨_, Scrubs.id, fun tm' => rfl⟩ | skip
          refine ⟨appH s, appH_scrubs s, fun tm' => ?_⟩
          simp only [abuiltin]
          cases srcType C.T u with
          | true => exact NatBy.or (nat_append _ _ _) (nat_appendX _ _ _)
          | false => exact nat_appendZ _ _ _ _
        refine key g (fun tm' => abuiltin C.T ⟨tm', st, mv⟩ .append ats.toList (args.toList.map (⟨tm, st, mv⟩ : St).eval)) ⟨hg, fun h => by cases h⟩ hn h fun σ' h2 h3 h4 => ?_
        have e := ea σ' h4
        obtain ⟨tm', st', mv'⟩ := σ'
        simp only at h2 h3
        subst h2; subst h3
        simp only [exec1, aop]
        rw [e]
      | copy =>
        refine key (fun r => r) (fun tm' => abuiltin C.T ⟨tm', st, mv⟩ .copy ats.toList (args.toList.map (⟨tm, st, mv⟩ : St).eval)) ⟨Scrubs.id, fun _ => rfl⟩ (fun tm' => ?_) h fun σ' h2 h3 h4 => ?_
        · generalize args.toList.map (⟨tm, st, mv⟩ : St).eval = as
          rcases hts : ats.toList with _ | ⟨t, _ | ⟨u, _ | ⟨z, ts⟩⟩⟩ <;> rcases as with _ | ⟨s, _ | ⟨x, _ | ⟨y, as⟩⟩⟩ <;> first | exact rfl | exact nat_copy _ _ _
        · have e := ea σ' h4
          obtain ⟨tm', st', mv'⟩ := σ'
          simp only at h2 h3
          subst h2; subst h3
          simp only [exec1, aop]
          rw [e]
      | clear =>
        refine key (fun r => r) (fun tm' => abuiltin C.T ⟨tm', st, mv⟩ .clear ats.toList (args.toList.map (⟨tm, st, mv⟩ : St).eval)) ⟨Scrubs.id, fun _ => rfl⟩ (fun tm' => ?_) h fun σ' h2 h3 h4 => ?_
        · generalize args.toList.map (⟨tm, st, mv⟩ : St).eval = as
          rcases hts : ats.toList with _ | ⟨t, _ | ⟨u, ts⟩⟩ <;> rcases as with _ | ⟨s, _ | ⟨x, as⟩⟩ <;> first | exact rfl | exact nat_clear _ _
        · have e := ea σ' h4
          obtain ⟨tm', st', mv'⟩ := σ'
          simp only at h2 h3
          subst h2; subst h3
          simp only [exec1, aop]
          rw [e]
      | _ => simp [effOp] at hq
    | invoke r n => simp [effOp] at hq
  | _ => simp [effOp] at hq

/-! ### What hangs on the shape of objects alone -/
def shp : AObj → Option (Bool × Nat × Nat)
  | .arr t _ rows => some (false, t, rows.length)
  | .arx t rows => some (true, t, rows.length)
  | _ => none
def SameShape (a b : List AObj) : Prop := ∀ id, shp (a.getD id .dead) = shp (b.getD id .dead)

def storeOp (o : Oper) : Bool := match o.op with | .store _ _ _ => true | _ => false

theorem astore_shape {T : Tab} {σ σ' : St} {t : Nat} {v a : AV} (h : astore T σ t v a = some σ') : SameShape σ'.st σ.st := by
  have key : ∀ (id : Nat) (o : AObj), shp o = shp (σ.st.getD id .dead) → SameShape (σ.st.set id o) σ.st := fun id o ho j => by
    by_cases hj : j = id
    · subst hj
      rw [List.getD_eq_getElem?_getD, List.getElem?_set]
      simp only [if_true]
      split
      · exact ho
      · rename_i hlt
        rw [List.getD_eq_getElem?_getD, List.getElem?_eq_none (by omega)]
    · rw [List.getD_eq_getElem?_getD, List.getElem?_set_ne (fun e => hj e.symm), ← List.getD_eq_getElem?_getD]
  unfold astore at h
  split at h
  · rename_i id off
    split at h
    · rename_i bt cs ti h1 h2
      simp only [cond_eq_ite] at h
      split at h
      · cases h
        exact key id _ (by rw [h1]; rfl)
      · cases h
    · cases h
  · rename_i id i off
    split at h
    · rename_i e kd rows ti h1 h2
      split at h
      · simp only [cond_eq_ite] at h
        split at h
        · cases h
          exact key id _ (by rw [h1]; simp [shp])
        · cases h
      · cases h
    · rename_i e rows ti h1 h2
      split at h
      · simp only [cond_eq_ite] at h
        split at h
        · cases h
          exact key id _ (by rw [h1]; simp [shp])
        · cases h
      · cases h
    · cases h
  · cases h

section
variable {T : Tab} {σ σ' : St} {x : AV}
theorem shp_inv {o o' : AObj} (h : shp o' = shp o) : (∃ t kd kd' rows rows', o = .arr t kd rows ∧ o' = .arr t kd' rows' ∧ rows'.length = rows.length) ∨ (∃ t rows rows', o = .arx t rows ∧ o' = .arx t rows' ∧ rows'.length = rows.length) ∨ (shp o = none ∧ shp o' = none) := by
  cases o <;> cases o' <;> first | exact .inr (.inr ⟨rfl, rfl⟩) | (cases h; done) | skip
  · simp only [shp, Option.some.injEq, Prod.mk.injEq, true_and] at h
    exact .inl ⟨_, _, _, _, _, rfl, by rw [h.1], h.2⟩
  · simp only [shp, Option.some.injEq, Prod.mk.injEq, true_and] at h
    exact .inr (.inl ⟨_, _, _, rfl, by rw [h.1], h.2⟩)

theorem aindexAddr_shape (hs : SameShape σ'.st σ.st) (t : Nat) (i : AV) : aindexAddr T σ' t x i = aindexAddr T σ t x i := by
  cases x with
  | sr id =>
    simp only [aindexAddr]
    rcases shp_inv (hs id) with ⟨u, kd, kd', rows, rows', h1, h2, h3⟩ | ⟨u, rows, rows', h1, h2, h3⟩ | ⟨h1, h2⟩
    · rw [h1, h2]; simp only [h3]
    · rw [h1, h2]; first | rfl | simp only [h3]
    · generalize σ'.st.getD id .dead = o' at *
      generalize σ.st.getD id .dead = o at *
      cases o <;> cases o' <;> first | rfl | (cases h1; done) | (cases h2; done)
  | ss id a n =>
    simp only [aindexAddr]
    rcases shp_inv (hs id) with ⟨u, kd, kd', rows, rows', h1, h2, h3⟩ | ⟨u, rows, rows', h1, h2, h3⟩ | ⟨h1, h2⟩
    · rw [h1, h2]
    · rw [h1, h2]
    · generalize σ'.st.getD id .dead = o' at *
      generalize σ.st.getD id .dead = o at *
      cases o <;> cases o' <;> first | rfl | (cases h1; done) | (cases h2; done)
  | _ => rfl

theorem alen_shape (hs : SameShape σ'.st σ.st) (t : Nat) : alen T σ' t x = alen T σ t x := by
  cases x with
  | sr id =>
    simp only [alen]
    rcases shp_inv (hs id) with ⟨u, kd, kd', rows, rows', h1, h2, h3⟩ | ⟨u, rows, rows', h1, h2, h3⟩ | ⟨h1, h2⟩
    · rw [h1, h2]; simp only [h3]
    · rw [h1, h2]; first | rfl | simp only [h3]
    · generalize σ'.st.getD id .dead = o' at *
      generalize σ.st.getD id .dead = o at *
      cases o <;> cases o' <;> first | rfl | (cases h1; done) | (cases h2; done)
  | _ => rfl

theorem aslice_shape (hs : SameShape σ'.st σ.st) (t : Nat) (a b d : Option AV) : aslice T σ' t x a b d = aslice T σ t x a b d := by
  cases x with
  | sr id =>
    simp only [aslice]
    rcases shp_inv (hs id) with ⟨u, kd, kd', rows, rows', h1, h2, h3⟩ | ⟨u, rows, rows', h1, h2, h3⟩ | ⟨h1, h2⟩
    · rw [h1, h2]; cases d <;> simp only [h3]
    · rw [h1, h2]; cases d <;> rfl
    · generalize σ'.st.getD id .dead = o' at *
      generalize σ.st.getD id .dead = o at *
      cases d <;> cases o <;> cases o' <;> first | rfl | (cases h1; done) | (cases h2; done)
  | ss id a n =>
    simp only [aslice]
    rcases shp_inv (hs id) with ⟨u, kd, kd', rows, rows', h1, h2, h3⟩ | ⟨u, rows, rows', h1, h2, h3⟩ | ⟨h1, h2⟩
    · rw [h1, h2]; cases d <;> simp only [h3]
    · rw [h1, h2]; cases d <;> rfl
    · generalize σ'.st.getD id .dead = o' at *
      generalize σ.st.getD id .dead = o at *
      cases d <;> cases o <;> cases o' <;> first | rfl | (cases h1; done) | (cases h2; done)
  | _ => rfl
end

def statelessOp (o : Oper) : Bool :=
  match o.op with
  | .move _ | .assign _ | .pick _ _ _ | .nilCheck _ | .unOp _ _ _ | .convert _ _ _ | .makeInterface _ _ | .makeFunc _ _ _ | .fieldAddr _ _ _ | .field _ _ _ | .extract _ _ | .build _ _ | .index _ _ _ => true
  | _ => false
def shapeOp (o : Oper) : Bool :=
  match o.op with
  | .slice _ _ _ _ _ | .indexAddr _ _ _ => true
  | .call { callee := .builtin .len, args := _, argTypes := _ } => true
  | _ => false

/-- may a quiet operation stand on both sides of an effect? -/
def mildFor (y x : Oper) : Bool := (statelessOp y && mildOp x) || (shapeOp y && storeOp x)

section
variable {C : Ctx} {σ σ' σ1 : St} {v : AV}
theorem exec1_stateless {P : Program} (hC : CallOk P C) {o : Oper} (hq : statelessOp o = true) (he : ∀ x ∈ o.op.operands.toList, σ'.eval x = σ.eval x) (h : exec1 C σ o = some (true, σ1, v)) :
    exec1 C σ' o = some (true, σ', v) := by
  have hqq : quietOp C.sig o = true := by
    obtain ⟨dst, op, type, pos, after, guard⟩ := o
    cases op <;> first | rfl | cases hq
  -- of the objects nothing is used
  have h1 := exec1_quiet hC hqq (σ := σ) (σ' := ⟨σ'.tmps, σ.st, σ'.moved⟩) rfl (fun x hx => by
    have := he x hx
    cases x <;> exact this) h
  have h2 := h1.2
  obtain ⟨dst, op, type, pos, after, guard⟩ := o
  obtain ⟨tm, st, mv⟩ := σ'
  have hev : ∀ (s1 s2 : List AObj), (⟨tm, s1, mv⟩ : St).eval = (⟨tm, s2, mv⟩ : St).eval := fun s1 s2 => by funext x; cases x <;> rfl
  simp only at h2 ⊢
  cases op <;> first | (cases hq; done) | skip
  all_goals simp only [exec1, aop] at h2 ⊢
  all_goals rw [hev st σ.st]
  case move => cases h2; rfl
  case assign => cases h2; rfl
  case pick => split at h2 <;> first | (cases h2; rfl) | cases h2
  case nilCheck => split at h2 <;> first | (cases h2; rfl) | cases h2
  case unOp =>
    split at h2
    · split at h2
      · simp only [cond_eq_ite] at h2 ⊢
        split at h2
        · cases h2; rename_i hsc; rw [if_pos hsc]
        · cases h2
      · cases h2
    · split at h2
      · cases h2; rfl
      · cases h2
    · cases h2
  case convert => obtain ⟨_, h3, _⟩ := Ab.v_inv h2; rw [h3]
  case makeInterface => split at h2 <;> first | (cases h2; done) | (cases h2; rfl)
  case makeFunc => cases h2; rfl
  case fieldAddr => obtain ⟨_, h3, _⟩ := Ab.v_inv h2; rw [h3]
  case field => obtain ⟨_, h3, _⟩ := Ab.v_inv h2; rw [h3]
  case extract =>
    split at h2
    · obtain ⟨_, h3, _⟩ := Ab.v_inv h2; rw [h3]
    · cases h2
  case build => obtain ⟨_, h3, _⟩ := Ab.v_inv h2; rw [h3]
  case index => obtain ⟨_, h3⟩ := Ab.w_inv h2; rw [h3]

theorem exec1_shape {P : Program} (hC : CallOk P C) {o : Oper} (hq : shapeOp o = true) (hs : SameShape σ'.st σ.st) (he : ∀ x ∈ o.op.operands.toList, σ'.eval x = σ.eval x) (h : exec1 C σ o = some (true, σ1, v)) :
    exec1 C σ' o = some (true, σ', v) := by
  have hqq : quietOp C.sig o = true := by
    obtain ⟨dst, op, type, pos, after, guard⟩ := o
    cases op <;> first | rfl | (cases hq; done) | skip
    rename_i cl
    obtain ⟨callee, args, ats⟩ := cl
    cases callee <;> first | (cases hq; done) | skip
    rename_i b
    cases b <;> first | rfl | cases hq
  have h1 := exec1_quiet hC hqq (σ := σ) (σ' := ⟨σ'.tmps, σ.st, σ'.moved⟩) rfl (fun x hx => by
    have := he x hx
    cases x <;> exact this) h
  have h2 := h1.2
  obtain ⟨dst, op, type, pos, after, guard⟩ := o
  obtain ⟨tm, st, mv⟩ := σ'
  have hev : ∀ (s1 s2 : List AObj), (⟨tm, s1, mv⟩ : St).eval = (⟨tm, s2, mv⟩ : St).eval := fun s1 s2 => by funext x; cases x <;> rfl
  have hs' : SameShape (⟨tm, st, mv⟩ : St).st (⟨tm, σ.st, mv⟩ : St).st := hs
  simp only at h2 ⊢
  cases op <;> first | (cases hq; done) | skip
  case slice =>
    simp only [exec1, aop] at h2 ⊢
    rw [hev st σ.st, aslice_shape hs']
    simp only [cond_eq_ite] at h2 ⊢
    split at h2
    · cases h2
    · rename_i hn
      rw [if_neg hn]
      obtain ⟨_, h3⟩ := Ab.w_inv h2; rw [h3]
  case indexAddr =>
    simp only [exec1, aop] at h2 ⊢
    rw [hev st σ.st, aindexAddr_shape hs']
    obtain ⟨_, h3⟩ := Ab.w_inv h2; rw [h3]
  case call cl =>
    obtain ⟨callee, args, ats⟩ := cl
    cases callee <;> first | (cases hq; done) | skip
    rename_i b
    cases b <;> first | (cases hq; done) | skip
    simp only [exec1, aop] at h2 ⊢
    rw [hev st σ.st]
    generalize args.toList.map (⟨tm, σ.st, mv⟩ : St).eval = as at *
    rcases hts : ats.toList with _ | ⟨t, _ | ⟨u, ts⟩⟩ <;> rcases as with _ | ⟨x, _ | ⟨y, as⟩⟩ <;> rw [hts] at h2 <;> simp only [abuiltin] at h2 ⊢ <;> first | (cases h2; done) | skip
    rw [alen_shape hs']
    obtain ⟨_, h3, _⟩ := Ab.v_inv h2
    rw [h3]
end

end
end Go.Fw
