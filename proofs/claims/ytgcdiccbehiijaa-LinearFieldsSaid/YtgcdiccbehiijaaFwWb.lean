/- The framework, part Wb: drawn regions with effects in one order and free operations among them. -/
import Derived.Test.YtgcdiccbehiijaaFwWa
set_option linter.all false
set_option linter.unusedSimpArgs false
set_option linter.unusedVariables false
namespace Go.Fw

/-! ### What is checked -/
def noAnti (ops : Array Oper) (x y : Oper) : Bool := match y.dst with | some d => !(x.looksAt ops).contains d | none => true
def dstNe (x y : Oper) : Bool := match x.dst, y.dst with | some d, some e => !Nat.beq d e | _, _ => true

def quietAt (sig : FuncId → RS × List OS × List Nat) (ops : Array Oper) (j : Nat) : Bool := match ops[j]? with | some y => quietOp sig y | none => true

/-- a quiet operation that may stand on both sides of some effects -/
def slAt (ops : Array Oper) (j : Nat) : Bool := match ops[j]? with
  | some y => (statelessOp y || shapeOp y) && (List.range (j + 1)).all fun i => match ops[i]? with
    | some x => noAnti ops x y
    | none => true
  | none => false

def drawOk2 (sig : FuncId → RS × List OS × List Nat) (pre : Nat → Bool) (fr : Nat → Bool) (ops : Array Oper) : Bool :=
  let ps := prds ops.toList []
  (List.range ops.size).all fun j => match ops[j]? with
    | none => true
    | some y => y.after.toList.all (fun e => !Region.binds .any e || Nat.blt e.on j) && (pre j && ((quietOp sig y || effOp y) && ((!fr j || (freeOp y && (quietOp sig y && noAnti ops y y))) &&
      (List.range j).all fun i => match ops[i]? with
        | none => true
        | some x => dstNe x y && ((!fr j || noAnti ops x y) &&
          ((ps.getD j []).elem i || (x.apart ops y && ((quietOp sig x && quietOp sig y) || ((fr i || fr j) || ((slAt ops i && mildFor x y) || (slAt ops j && mildFor y x))))))))))

section
variable {P : Program} {C : Ctx} {B : Base} {rid : Nat} {ops : Array Oper} {S : Nat → St} {Q : Exit → Act → World → Prop}

structure DrawFacts2 (C : Ctx) (rid : Nat) (ops : Array Oper) (q f s : Nat → Bool) : Prop where
  back : ∀ j y, ops[j]? = some y → ∀ e ∈ y.after, Region.binds .any e = true → e.on < j
  pair : ∀ i j x y, i < j → ops[i]? = some x → ops[j]? = some y →
    (∀ L, Closed ops.toList L → (∀ e ∈ y.after, Region.binds .any e = true → L e.on) → L i) ∨
    (x.apart ops y = true ∧ ((q i = true ∧ q j = true) ∨ f i = true ∨ f j = true ∨ (s i = true ∧ mildFor x y = true) ∨ (s j = true ∧ mildFor y x = true)))
  dst : ∀ (i j : Nat) (x y : Oper) (t : Nat), i ≠ j → ops[i]? = some x → ops[j]? = some y → x.dst = some t → y.dst ≠ some t
  anti : ∀ (i j : Nat) (x y : Oper) (t : Nat), i ≤ j → ops[i]? = some x → ops[j]? = some y → (f j = true ∨ s j = true) → y.dst = some t → t ∉ x.looksAt ops
  pre : ∀ j y, ops[j]? = some y → look2 C.ann.pre rid j = []
  quiet : ∀ j y, ops[j]? = some y → q j = true → quietOp C.sig y = true
  eff : ∀ j y, ops[j]? = some y → q j = false → effOp y = true
  free : ∀ j y, ops[j]? = some y → f j = true → q j = true ∧ freeOp y = true
  sl : ∀ j y, ops[j]? = some y → s j = true → q j = true ∧ (statelessOp y = true ∨ shapeOp y = true)

theorem drawFacts2 {fr : Nat → Bool} (hd : drawOk2 C.sig (fun i => (look2 C.ann.pre rid i).isEmpty) fr ops = true) : DrawFacts2 C rid ops (quietAt C.sig ops) fr (slAt ops) := by
  have hall : ∀ j y, ops[j]? = some y → (y.after.toList.all (fun e => !Region.binds .any e || Nat.blt e.on j) = true ∧ ((look2 C.ann.pre rid j).isEmpty = true ∧ ((quietOp C.sig y || effOp y) = true ∧
      ((!fr j || (freeOp y && (quietOp C.sig y && noAnti ops y y))) = true ∧
      ∀ i x, i < j → ops[i]? = some x → (dstNe x y = true ∧ ((!fr j || noAnti ops x y) = true ∧ (((prds ops.toList []).getD j []).elem i || (x.apart ops y && ((quietOp C.sig x && quietOp C.sig y) || ((fr i || fr j) || ((slAt ops i && mildFor x y) || (slAt ops j && mildFor y x)))))) = true)))))) := fun j y hy => by
    unfold drawOk2 at hd
    have hlt : j < ops.size := (Array.getElem?_eq_some_iff.1 hy).1
    have h1 := List.all_eq_true.1 hd j (List.mem_range.2 hlt)
    simp only [hy] at h1
    rw [Bool.and_eq_true, Bool.and_eq_true, Bool.and_eq_true, Bool.and_eq_true] at h1
    refine ⟨h1.1, h1.2.1, h1.2.2.1, h1.2.2.2.1, fun i x hi hx => ?_⟩
    have h2 := List.all_eq_true.1 h1.2.2.2.2 i (List.mem_range.2 hi)
    simp only [hx] at h2
    rw [Bool.and_eq_true, Bool.and_eq_true] at h2
    exact h2
  have hps : ∀ i j y, ops[j]? = some y → ((prds ops.toList []).getD j []).elem i = true → ∀ L, Closed ops.toList L → (∀ e ∈ y.after, Region.binds .any e = true → L e.on) → L i := fun i j y hy hb L hL he =>
    prds_ok hL ops.toList [] [] rfl rfl (fun i o h => by simp at h) j y (by simpa using hy) he i (by simpa using hb)
  have hqa : ∀ j y, ops[j]? = some y → quietAt C.sig ops j = quietOp C.sig y := fun j y hy => by unfold quietAt; rw [hy]
  have hdst : ∀ (i j : Nat) (x y : Oper) (t : Nat), i < j → ops[i]? = some x → ops[j]? = some y → x.dst = some t → y.dst ≠ some t := fun i j x y t hij hx hy hdx hdy => by
    have := ((hall j y hy).2.2.2.2 i x hij hx).1
    simp [dstNe, hdx, hdy] at this
  refine ⟨fun j y hy e he hb => ?_, fun i j x y hij hx hy => ?_, fun i j x y t hij hx hy hdx hdy => ?_, fun i j x y t hij hx hy hf hdy hm => ?_, fun j y hy => ?_, fun j y hy hq => ?_, fun j y hy hq => ?_, fun j y hy hf => ?_, fun j y hy hs => ?_⟩
  · have := List.all_eq_true.1 (hall j y hy).1 e (by simpa using he)
    simpa [hb, Nat.blt_eq] using this
  · have := ((hall j y hy).2.2.2.2 i x hij hx).2.2
    rw [Bool.or_eq_true, Bool.and_eq_true, Bool.or_eq_true, Bool.and_eq_true, Bool.or_eq_true, Bool.or_eq_true, Bool.or_eq_true, Bool.and_eq_true, Bool.and_eq_true] at this
    rcases this with h1 | h1
    · exact .inl (hps i j y hy h1)
    · refine .inr ⟨h1.1, ?_⟩
      rw [hqa i x hx, hqa j y hy]
      rcases h1.2 with h | (h | h) | h | h
      · exact .inl h
      · exact .inr (.inl h)
      · exact .inr (.inr (.inl h))
      · exact .inr (.inr (.inr (.inl h)))
      · exact .inr (.inr (.inr (.inr h)))
  · rcases Nat.lt_or_gt_of_ne hij with h | h
    · exact hdst i j x y t h hx hy hdx hdy
    · exact hdst j i y x t h hy hx hdy hdx
  · have key : noAnti ops x y = true := by
      rcases hf.symm with hs | hf
      · unfold slAt at hs
        rw [hy] at hs
        simp only [Bool.and_eq_true] at hs
        have := List.all_eq_true.1 hs.2 i (List.mem_range.2 (by omega))
        simpa only [hx] using this
      rcases Nat.lt_or_eq_of_le hij with h | h
      · have := ((hall j y hy).2.2.2.2 i x h hx).2.1
        simpa [hf] using this
      · subst h
        rw [hx] at hy; cases hy
        have := (hall i x hx).2.2.2.1
        rw [hf] at this
        simp only [Bool.not_true, Bool.false_or, Bool.and_eq_true] at this
        exact this.2.2
    simp [noAnti, hdy] at key
    exact key hm
  · simpa using (hall j y hy).2.1
  · rw [hqa j y hy] at hq; exact hq
  · rw [hqa j y hy] at hq
    have := (hall j y hy).2.2.1
    rw [hq] at this
    simpa using this
  · have := (hall j y hy).2.2.2.1
    rw [hf] at this
    simp only [Bool.not_true, Bool.false_or, Bool.and_eq_true] at this
    exact ⟨(hqa j y hy).trans this.2.1, this.1⟩
  · unfold slAt at hs
    rw [hy] at hs
    simp only [Bool.and_eq_true, Bool.or_eq_true] at hs
    refine ⟨(hqa j y hy).trans ?_, hs.1⟩
    obtain ⟨dst, op, type, pos, after, guard⟩ := y
    rcases hs.1 with h | h
    · cases op <;> first | rfl | cases h
    · cases op <;> first | rfl | (cases h; done) | skip
      rename_i cl
      obtain ⟨callee, args, ats⟩ := cl
      cases callee <;> first | (cases h; done) | skip
      rename_i b
      cases b <;> first | rfl | cases h

/-! ### Single operations -/
theorem guardOf_congr {σ σ' : St} {o : Oper} (ht : ∀ t ∈ o.looksAt ops, σ'.tmps.getD t .undef = σ.tmps.getD t .undef) : guardOf ops.toList σ' o = guardOf ops.toList σ o := by
  unfold guardOf
  cases hg : o.guard with
  | none => rfl
  | some jw =>
    obtain ⟨j, want⟩ := jw
    simp only
    cases hj : ops.toList[j]? with
    | none => rfl
    | some og =>
      simp only
      cases hd : og.dst with
      | none => rfl
      | some d =>
        have hj' : ops[j]? = some og := by simpa using hj
        have hd' : d ∈ o.looksAt ops := by
          unfold Oper.looksAt
          rw [hg]
          refine List.mem_append.2 (.inr ?_)
          simp [hj', hd]
        simp only [ht d hd']

theorem eval_looks {σ σ' : St} {o : Oper} (ht : ∀ t ∈ o.looksAt ops, σ'.tmps.getD t .undef = σ.tmps.getD t .undef) : ∀ x ∈ o.op.operands.toList, σ'.eval x = σ.eval x :=
  fun x hx => eval_congr fun t ht' => ht t (by
    subst ht'
    unfold Oper.looksAt
    exact List.mem_append.2 (.inl (List.mem_filterMap.2 ⟨_, hx, rfl⟩)))

theorem step1_eff {i : Nat} {o : Oper} (hq : effOp o = true) (hp : look2 C.ann.pre rid i = []) {σ σ1 : St} (h : step1 C ops.toList rid i o σ = some σ1) :
    ∃ g s m v, (Scrubs g ∧ (mildOp o = true → g = fun r => r)) ∧ σ1 = (⟨AV.onRefsL g σ.tmps, s, m⟩ : St).put o.dst v ∧ ∀ σ' : St, σ'.st = σ.st → σ'.moved = σ.moved → (∀ t ∈ o.looksAt ops, σ'.tmps.getD t .undef = σ.tmps.getD t .undef) →
      step1 C ops.toList rid i o σ' = some ((⟨AV.onRefsL g σ'.tmps, s, m⟩ : St).put o.dst v) := by
  unfold step1 at h ⊢
  split at h
  · cases h
  · rename_i hg
    rw [hp] at h
    simp only [St.weaks] at h
    split at h
    · rename_i σ2 v hex
      cases h
      obtain ⟨g, h1, h2, h3⟩ := exec1_eff hq hex
      refine ⟨g, σ2.st, σ2.moved, v, h1, by rw [← h2], fun σ' hs hm ht => ?_⟩
      rw [guardOf_congr ht, hg, hp]
      simp only [St.weaks]
      rw [h3 σ' hs hm (eval_looks ht)]
    · cases h
  · rename_i hg
    cases h
    refine ⟨fun r => r, σ.st, σ.moved, _, ⟨Scrubs.id, fun _ => rfl⟩, by rw [onRefsL_id'], fun σ' hs hm ht => ?_⟩
    rw [guardOf_congr ht, hg, onRefsL_id', ← hs, ← hm]

theorem step1_free {i : Nat} {o : Oper} (hq : freeOp o = true) (hp : look2 C.ann.pre rid i = []) {σ σ1 : St} (hf : freeOk C.T σ o = true) (h : step1 C ops.toList rid i o σ = some σ1) :
    ∃ v, v.clean = true ∧ σ1 = σ.put o.dst v ∧ (∀ t ∈ o.looksAt ops, (σ.tmps.getD t .undef).clean = true) ∧
      ∀ σ' : St, (∀ t ∈ o.looksAt ops, σ'.tmps.getD t .undef = σ.tmps.getD t .undef) → step1 C ops.toList rid i o σ' = some (σ'.put o.dst v) := by
  have hgn : o.guard = none := by
    unfold freeOp at hq
    simp only [Bool.and_eq_true] at hq
    simpa using hq.1
  unfold freeOk at hf
  simp only [Bool.and_eq_true, List.all_eq_true] at hf
  have hg : guardOf ops.toList σ o = some true := by unfold guardOf; rw [hgn]
  unfold step1 at h ⊢
  rw [hg, hp] at h
  simp only [St.weaks] at h
  split at h
  · rename_i σ2 v hex
    cases h
    obtain ⟨rfl, _⟩ := exec1_free (σ' := σ) hq hf.1 (fun _ _ => rfl) hex
    have hv : v.clean = true := by
      have hh := hf.2
      have e : exec1 C σ2 o = aop C.T σ2 o.op := by
        unfold freeOp at hq
        simp only [Bool.and_eq_true] at hq
        unfold exec1
        split
        · rename_i heq; simp [heq] at hq
        · rename_i heq; simp [heq] at hq
        · rfl
      rw [← e, hex] at hh
      exact hh
    refine ⟨v, hv, rfl, fun t ht => ?_, fun σ' ht => ?_⟩
    · unfold Oper.looksAt at ht
      rw [hgn] at ht
      simp only [List.append_nil] at ht
      obtain ⟨x, hx, hxt⟩ := List.mem_filterMap.1 ht
      cases x with
      | tmp u => cases hxt; exact hf.1 _ hx
      | _ => cases hxt
    · rw [guardOf_congr ht, hg, hp]
      simp only [St.weaks]
      rw [(exec1_free (σ' := σ') hq hf.1 (eval_looks ht) hex).2]
  · cases h

theorem SameShape.rfl' {a : List AObj} : SameShape a a := fun _ => rfl
theorem SameShape.symm' {a b : List AObj} (h : SameShape a b) : SameShape b a := fun id => (h id).symm
theorem SameShape.trans' {a b c : List AObj} (h : SameShape a b) (k : SameShape b c) : SameShape a c := fun id => (h id).trans (k id)

theorem step1_store {i : Nat} {o : Oper} (hq : storeOp o = true) (hp : look2 C.ann.pre rid i = []) {σ σ1 : St} (h : step1 C ops.toList rid i o σ = some σ1) : SameShape σ1.st σ.st := by
  unfold step1 at h
  split at h
  · cases h
  · rw [hp] at h
    simp only [St.weaks] at h
    split at h
    · rename_i σ2 v hex
      cases h
      rw [(put_st _ _ _).1]
      obtain ⟨dst, op, type, pos, after, guard⟩ := o
      cases op <;> first | (cases hq; done) | skip
      simp only [exec1, aop] at hex
      split at hex
      · rename_i σ' hs
        cases hex
        exact astore_shape hs
      · cases hex
    · cases h
  · cases h
    rw [(put_st _ _ _).1]; exact SameShape.rfl'

theorem step1_sl (hC : CallOk P C) {i : Nat} {o : Oper} (hq : statelessOp o = true ∨ shapeOp o = true) (hqq : quietOp C.sig o = true) (hp : look2 C.ann.pre rid i = []) {σ σ1 : St} (h : step1 C ops.toList rid i o σ = some σ1) :
    ∃ v, σ1 = σ.put o.dst v ∧ ∀ σ' : St, (statelessOp o = true ∨ SameShape σ'.st σ.st) → (∀ t ∈ o.looksAt ops, σ'.tmps.getD t .undef = σ.tmps.getD t .undef) → step1 C ops.toList rid i o σ' = some (σ'.put o.dst v) := by
  obtain ⟨v, hv, hvq⟩ := step1_quiet hC hqq hp h
  refine ⟨v, hv, fun σ' hs ht => ?_⟩
  have h0 := hvq ⟨σ'.tmps, σ.st, σ'.moved⟩ rfl ht
  unfold step1 at h0 ⊢
  have hg := guardOf_congr (ops := ops) (o := o) (σ := σ') (σ' := ⟨σ'.tmps, σ.st, σ'.moved⟩) (fun _ _ => rfl)
  rw [hg] at h0
  cases hgd : guardOf ops.toList σ' o with
  | none => rw [hgd] at h0; cases h0
  | some g =>
    rw [hgd] at h0
    cases g with
    | false =>
      simp only [Option.some.injEq] at h0 ⊢
      have e : (St.put ⟨σ'.tmps, σ.st, σ'.moved⟩ o.dst (.k undef)).tmps = (St.put ⟨σ'.tmps, σ.st, σ'.moved⟩ o.dst v).tmps := by rw [h0]
      cases hd : o.dst with
      | none => rfl
      | some d =>
        rw [hd] at e
        simp only [St.put] at e ⊢
        rw [e]
    | true =>
      rw [hp] at h0 ⊢
      simp only [St.weaks] at h0 ⊢
      split at h0
      · rename_i s2 v2 hex
        have hx : exec1 C σ' o = some (true, σ', v2) := by
          have hev : ∀ x ∈ o.op.operands.toList, σ'.eval x = (⟨σ'.tmps, σ.st, σ'.moved⟩ : St).eval x := fun x _ => by cases x <;> rfl
          rcases hq with h1 | h1
          · exact exec1_stateless hC h1 hev hex
          · rcases hs with h2 | h2
            · exact exec1_stateless hC h2 hev hex
            · exact exec1_shape (σ := ⟨σ'.tmps, σ.st, σ'.moved⟩) hC h1 h2 hev hex
        rw [hx]
        simp only [Option.some.injEq] at h0 ⊢
        have hq2 := exec1_quiet hC hqq (σ := ⟨σ'.tmps, σ.st, σ'.moved⟩) (σ' := ⟨σ'.tmps, σ.st, σ'.moved⟩) rfl (fun _ _ => rfl) hex
        rw [hq2.1] at h0
        have e : (St.put ⟨σ'.tmps, σ.st, σ'.moved⟩ o.dst v2).tmps = (St.put ⟨σ'.tmps, σ.st, σ'.moved⟩ o.dst v).tmps := by rw [h0]
        cases hd : o.dst with
        | none => rfl
        | some d =>
          rw [hd] at e
          simp only [St.put] at e ⊢
          rw [e]
      · cases h0

theorem mildFor_inv {y x : Oper} (h : mildFor y x = true) : mildOp x = true ∧ (statelessOp y = true ∨ storeOp x = true) := by
  unfold mildFor at h
  simp only [Bool.or_eq_true, Bool.and_eq_true] at h
  rcases h with h | h
  · exact ⟨h.2, .inl h.1⟩
  · refine ⟨?_, .inr h.2⟩
    obtain ⟨dst, op, type, pos, after, guard⟩ := x
    cases op <;> first | rfl | (have := h.2; cases this)

/-! ### Runs -/
def CleanO (x : Option AV) : Prop := ∀ v, x = some v → v.clean = true

theorem tmps_put {tm : List AV} {s : List AObj} {m : List Nat} {g : AV → AV} {d : Option Nat} {v : AV} {t : Nat} (h : d ≠ some t) :
    ((⟨AV.onRefsL g tm, s, m⟩ : St).put d v).tmps[t]? = (tm[t]?).map (AV.onRefs g) := by
  rw [put_get_ne _ _ h, onRefsL_eq]
  simp

/-- each step scrubs the temporaries, and writes one -/
def Steps1 (ops : Array Oper) (S : Nat → St) : Prop :=
  ∀ j o, ops[j]? = some o → (S (j + 1)).tmps.length = (S j).tmps.length ∧ ∃ g, Scrubs g ∧ ∀ t, o.dst ≠ some t → (S (j + 1)).tmps[t]? = ((S j).tmps[t]?).map (AV.onRefs g)

theorem steps1_of (hC : CallOk P C) {q f sl : Nat → Bool} (hF : DrawFacts2 C rid ops q f sl) (hS : ∀ j o, ops[j]? = some o → step1 C ops.toList rid j o (S j) = some (S (j + 1))) : Steps1 ops S := by
  intro j o ho
  have hp := hF.pre j o ho
  cases hq : q j with
  | true =>
    obtain ⟨v, hv, _⟩ := step1_quiet hC (hF.quiet j o ho hq) hp (hS j o ho)
    rw [hv]
    refine ⟨(put_st _ _ _).2.2, fun r => r, Scrubs.id, fun t ht => ?_⟩
    rw [put_get_ne _ _ ht, onRefs_self (h := fun r => r) (fun _ => rfl)]
    simp
  | false =>
    obtain ⟨g, s, m, v, hg, hv, _⟩ := step1_eff (hF.eff j o ho hq) hp (hS j o ho)
    rw [hv]
    refine ⟨?_, g, hg.1, fun t ht => tmps_put ht⟩
    rw [(put_st _ _ _).2.2, onRefsL_eq]; simp

theorem run_len (h1 : Steps1 ops S) : ∀ (l b : Nat), b + l ≤ ops.size → (S (b + l)).tmps.length = (S b).tmps.length
  | 0, b, _ => rfl
  | l + 1, b, hle => by
    have hi : b + l < ops.size := by omega
    have := (h1 (b + l) _ (Array.getElem?_eq_getElem hi)).1
    rw [← Nat.add_assoc, this]; exact run_len h1 l b (by omega)

theorem len_all (h1 : Steps1 ops S) {p r : Nat} (hp : p ≤ ops.size) (hr : r ≤ ops.size) : (S p).tmps.length = (S r).tmps.length := by
  have a := run_len h1 p 0 (by omega)
  have b := run_len h1 r 0 (by omega)
  rw [Nat.zero_add] at a b
  rw [a, b]

theorem run_clean (h1 : Steps1 ops S) {t : Nat} : ∀ (l b : Nat), b + l ≤ ops.size → (∀ (j : Nat) (o : Oper), b ≤ j → j < b + l → ops[j]? = some o → o.dst ≠ some t) →
    (CleanO (S b).tmps[t]? ∨ CleanO (S (b + l)).tmps[t]?) → (S (b + l)).tmps[t]? = (S b).tmps[t]?
  | 0, b, _, _, _ => rfl
  | l + 1, b, hle, hu, hc => by
    have hi : b + l < ops.size := by omega
    have ho : ops[b + l]? = some ops[b + l] := Array.getElem?_eq_getElem hi
    obtain ⟨_, g, hg, ht⟩ := h1 (b + l) _ ho
    have e := ht t (hu (b + l) _ (by omega) (by omega) ho)
    have hu' : ∀ (j : Nat) (o : Oper), b ≤ j → j < b + l → ops[j]? = some o → o.dst ≠ some t := fun j o hj hj' => hu j o hj (by omega)
    rw [← Nat.add_assoc] at hc ⊢
    rcases hc with hc | hc
    · have e2 := run_clean h1 l b (by omega) hu' (.inl hc)
      rw [e, e2]
      cases hx : (S b).tmps[t]? with
      | none => rfl
      | some v => simp [clean_keep g v (hc v hx)]
    · rw [e] at hc ⊢
      have e3 : ((S (b + l)).tmps[t]?).map (AV.onRefs g) = (S (b + l)).tmps[t]? := by
        cases hx : (S (b + l)).tmps[t]? with
        | none => rfl
        | some v =>
          have := hc (v.onRefs g) (by rw [hx]; rfl)
          simp [clean_fix g hg v this]
      rw [e3] at hc ⊢
      exact run_clean h1 l b (by omega) hu' (.inr hc)

theorem run_clean_le (h1 : Steps1 ops S) {t p r : Nat} (hpr : p ≤ r) (hr : r ≤ ops.size) (hu : ∀ (j : Nat) (o : Oper), p ≤ j → j < r → ops[j]? = some o → o.dst ≠ some t)
    (hc : CleanO (S p).tmps[t]? ∨ CleanO (S r).tmps[t]?) : (S r).tmps[t]? = (S p).tmps[t]? := by
  have e : r = p + (r - p) := by omega
  rw [e] at hc hr hu ⊢
  exact run_clean h1 _ p hr hu hc

/-- through quiet operations and mild effects -/
theorem run_keep (hC : CallOk P C) {q f sl : Nat → Bool} (hF : DrawFacts2 C rid ops q f sl) (hS : ∀ j o, ops[j]? = some o → step1 C ops.toList rid j o (S j) = some (S (j + 1))) {t : Nat} :
    ∀ (l b : Nat), b + l ≤ ops.size → (∀ (k : Nat) (x : Oper), b ≤ k → k < b + l → ops[k]? = some x → q k = true ∨ mildOp x = true) → (∀ (j : Nat) (o : Oper), b ≤ j → j < b + l → ops[j]? = some o → o.dst ≠ some t) →
    (S (b + l)).tmps[t]? = (S b).tmps[t]?
  | 0, b, _, _, _ => rfl
  | l + 1, b, hle, hk, hu => by
    have hi : b + l < ops.size := by omega
    have ho : ops[b + l]? = some ops[b + l] := Array.getElem?_eq_getElem hi
    have ih := run_keep hC hF hS (t := t) l b (by omega) (fun k x h1 h2 => hk k x h1 (by omega)) (fun k x h1 h2 => hu k x h1 (by omega))
    have hd := hu (b + l) _ (by omega) (by omega) ho
    rw [← Nat.add_assoc, ← ih]
    rcases hk (b + l) _ (by omega) (by omega) ho with h | h
    · obtain ⟨v, hv, _⟩ := step1_quiet hC (hF.quiet _ _ ho h) (hF.pre _ _ ho) (hS _ _ ho)
      rw [hv, put_get_ne _ _ hd]
    · cases hq : q (b + l) with
      | true =>
        obtain ⟨v, hv, _⟩ := step1_quiet hC (hF.quiet _ _ ho hq) (hF.pre _ _ ho) (hS _ _ ho)
        rw [hv, put_get_ne _ _ hd]
      | false =>
        obtain ⟨g, s, m, v, hg, hv, _⟩ := step1_eff (hF.eff _ _ ho hq) (hF.pre _ _ ho) (hS _ _ ho)
        rw [hv, tmps_put hd, hg.2 h, onRefs_self (h := fun r => r) (fun _ => rfl)]
        simp

theorem run_keep_le (hC : CallOk P C) {q f sl : Nat → Bool} (hF : DrawFacts2 C rid ops q f sl) (hS : ∀ j o, ops[j]? = some o → step1 C ops.toList rid j o (S j) = some (S (j + 1))) {t p r : Nat} (hpr : p ≤ r) (hr : r ≤ ops.size)
    (hk : ∀ (k : Nat) (x : Oper), p ≤ k → k < r → ops[k]? = some x → q k = true ∨ mildOp x = true) (hu : ∀ (j : Nat) (o : Oper), p ≤ j → j < r → ops[j]? = some o → o.dst ≠ some t) : (S r).tmps[t]? = (S p).tmps[t]? := by
  have e : r = p + (r - p) := by omega
  rw [e] at hr hu hk ⊢
  exact run_keep hC hF hS _ p hr hk hu

theorem run_shape (hC : CallOk P C) {q f sl : Nat → Bool} (hF : DrawFacts2 C rid ops q f sl) (hS : ∀ j o, ops[j]? = some o → step1 C ops.toList rid j o (S j) = some (S (j + 1))) :
    ∀ (l b : Nat), b + l ≤ ops.size → (∀ (k : Nat) (x : Oper), b ≤ k → k < b + l → ops[k]? = some x → q k = true ∨ storeOp x = true) → SameShape (S (b + l)).st (S b).st
  | 0, b, _, _ => SameShape.rfl'
  | l + 1, b, hle, hk => by
    have hi : b + l < ops.size := by omega
    have ho : ops[b + l]? = some ops[b + l] := Array.getElem?_eq_getElem hi
    have ih := run_shape hC hF hS l b (by omega) (fun k x h1 h2 => hk k x h1 (by omega))
    rw [← Nat.add_assoc]
    refine SameShape.trans' ?_ ih
    rcases hk (b + l) _ (by omega) (by omega) ho with h | h
    · obtain ⟨v, hv, _⟩ := step1_quiet hC (hF.quiet _ _ ho h) (hF.pre _ _ ho) (hS _ _ ho)
      rw [hv, (put_st _ _ _).1]; exact SameShape.rfl'
    · exact step1_store h (hF.pre _ _ ho) (hS _ _ ho)

theorem run_shape_le (hC : CallOk P C) {q f sl : Nat → Bool} (hF : DrawFacts2 C rid ops q f sl) (hS : ∀ j o, ops[j]? = some o → step1 C ops.toList rid j o (S j) = some (S (j + 1))) {p r : Nat} (hpr : p ≤ r) (hr : r ≤ ops.size)
    (hk : ∀ (k : Nat) (x : Oper), p ≤ k → k < r → ops[k]? = some x → q k = true ∨ storeOp x = true) : SameShape (S r).st (S p).st := by
  have e : r = p + (r - p) := by omega
  rw [e] at hr hk ⊢
  exact run_shape hC hF hS _ p hr hk

/-- what is known while such a region is done -/
structure Mid2 (C : Ctx) (B : Base) (rid : Nat) (ops : Array Oper) (S : Nat → St) (q f sl : Nat → Bool) (listed : Array Bool) (a : Act) (w : World) : Prop where
  size : listed.size = ops.size
  closed : Closed ops.toList (Lst listed)
  mid : ∃ c σ, c ≤ ops.size ∧ (∀ j, j < c → q j = false → Lst listed j) ∧ (∀ j, c ≤ j → q j = false → ¬ Lst listed j) ∧ (c = 0 ∨ q (c - 1) = false) ∧
    σ.st = (S c).st ∧ σ.moved = (S c).moved ∧ σ.tmps.length = (S c).tmps.length ∧
    (∀ (j : Nat) (o : Oper) (t : Nat), ops[j]? = some o → Lst listed j → (f j = true ∨ c ≤ j) → o.dst = some t → σ.tmps[t]? = (S (j + 1)).tmps[t]?) ∧
    (∀ (t : Nat), (∀ (j : Nat) (o : Oper), ops[j]? = some o → f j = true → o.dst ≠ some t) → (∀ (j : Nat) (o : Oper), j < c → ops[j]? = some o → sl j = true → ¬ Lst listed j → o.dst ≠ some t) → (∀ (j : Nat) (o : Oper), c ≤ j → ops[j]? = some o → Lst listed j → o.dst ≠ some t) → σ.tmps[t]? = (S c).tmps[t]?) ∧ At C.T B σ a w

theorem qle {q f sl : Nat → Bool} (hF : DrawFacts2 C rid ops q f sl) {j : Nat} (hj : j < ops.size) (h : f j = true) : q j = true := (hF.free j _ (Array.getElem?_eq_getElem hj) h).1

theorem mid2_step (hT : TabOk P C.T) (hC : CallOk P C) {q f sl : Nat → Bool} (hF : DrawFacts2 C rid ops q f sl) (hS : ∀ j o, ops[j]? = some o → step1 C ops.toList rid j o (S j) = some (S (j + 1)))
    (hB : ∀ j o, ops[j]? = some o → f j = true → freeOk C.T (S j) o = true)
    {listed : Array Bool} {a : Act} {w : World} (hM : Mid2 C B rid ops S q f sl listed a w) {i : Nat} (hi : i ∈ Region.ready .any ops listed) :
    wpOp P ops Q i (fun a' w' => Mid2 C B rid ops S q f sl (listed.setIfInBounds i true) a' w') a w := by
  obtain ⟨hun, o, ho, hed⟩ := mem_ready.1 hi
  obtain ⟨hisz, hnL⟩ := not_Lst hun
  obtain ⟨hsize, hcl, c, σ, hc, hbl, hnl, hc0, e1, e2, e3, t1, t2, hA⟩ := hM
  have hin : i < ops.size := hsize ▸ hisz
  have hS1 := steps1_of hC hF hS
  have hL' : ∀ j, Lst (listed.setIfInBounds i true) j ↔ j = i ∨ Lst listed j := fun j => Lst_set hisz
  have hSq : ∀ j o, ops[j]? = some o → q j = true → ∃ v, S (j + 1) = (S j).put o.dst v := fun j o hj hq => by
    obtain ⟨v, hv, _⟩ := step1_quiet hC (hF.quiet j o hj hq) (hF.pre j o hj) (hS j o hj)
    exact ⟨v, hv⟩
  have hcl' : Closed ops.toList (Lst (listed.setIfInBounds i true)) := fun j oj hj hLj e he hbnd => by
    rcases (hL' j).1 hLj with rfl | h
    · have hj' : ops[j]? = some oj := by simpa using hj
      rw [ho] at hj'; cases hj'
      exact (hL' _).2 (.inr (hed e he hbnd))
    · exact (hL' _).2 (.inr (hcl j oj hj h e he hbnd))
  have hsize' : (listed.setIfInBounds i true).size = ops.size := by simpa using hsize
  have ahead : ∀ j x, ops[j]? = some x → (∀ L, Closed ops.toList L → (∀ e ∈ o.after, Region.binds .any e = true → L e.on) → L j) → Lst listed j := fun j x hj h => h _ hcl hed
  have behind : ∀ j y, ops[j]? = some y → (∀ L, Closed ops.toList L → (∀ e ∈ y.after, Region.binds .any e = true → L e.on) → L i) → ¬ Lst listed j := fun j y hj h hLj =>
    hnL (h _ hcl (fun e he hbnd => hcl j y (by simpa using hj) hLj e he hbnd))
  have get : ∀ j, j < ops.size → ∃ y, ops[j]? = some y := fun j hj => ⟨_, Array.getElem?_eq_getElem hj⟩
  have inr : ∀ {j x}, ops[j]? = some x → j < ops.size := fun h => (Array.getElem?_eq_some_iff.1 h).1
  have qin : ∀ j, q j = false → j < ops.size → f j = false := fun j hq hj => by
    cases hf : f j with
    | false => rfl
    | true => rw [(qle hF hj hf)] at hq; cases hq
  have sin : ∀ j, q j = false → j < ops.size → sl j = false := fun j hq hj => by
    cases hs : sl j with
    | false => rfl
    | true => rw [(hF.sl j _ (Array.getElem?_eq_getElem hj) hs).1] at hq; cases hq
  -- a quiet operation that is not free and not done stands behind all effects that are done
  have cle : ∀ j x, ops[j]? = some x → q j = true → f j = false → sl j = false → ¬ Lst listed j → c ≤ j := fun j x hj hq hf hsl hnLj => by
    rcases Nat.lt_or_ge j c with hlt | hge
    · exfalso
      rcases hc0 with h0 | h0
      · omega
      · have hc1 : c - 1 < ops.size := by omega
        obtain ⟨y, hy⟩ := get (c - 1) hc1
        have hL1 : Lst listed (c - 1) := hbl _ (by omega) h0
        have hne : j ≠ c - 1 := fun e => by rw [e, h0] at hq; cases hq
        rcases hF.pair j (c - 1) x y (by omega) hj hy with h | ⟨_, h | h | h | h | h⟩
        · exact hnLj (h _ hcl (fun e he hbnd => hcl (c - 1) y (by simpa using hy) hL1 e he hbnd))
        · rw [h0] at h; cases h.2
        · rw [hf] at h; cases h
        · rw [qin _ h0 hc1] at h; cases h
        · rw [hsl] at h; cases h.1
        · rw [sin _ h0 hc1] at h; cases h.1
    · exact hge
  -- what an operation that is not free reads
  have clean1 : ∀ (j : Nat) (x : Oper) (t : Nat), ops[j]? = some x → f j = true → x.dst = some t → CleanO (S (j + 1)).tmps[t]? := fun j x t hj hf hxt v hv => by
    obtain ⟨v', hv', hs, _⟩ := step1_free (hF.free j x hj hf).2 (hF.pre j x hj) (hB j x hj hf) (hS j x hj)
    rw [hs, hxt] at hv
    simp only [St.put, List.getElem?_set, if_true] at hv
    split at hv
    · cases hv; exact hv'
    · cases hv
  have read : ∀ t ∈ o.looksAt ops, ∃ p, p ≤ ops.size ∧ σ.tmps[t]? = (S p).tmps[t]? ∧ (∀ (k : Nat) (y : Oper), (p ≤ k ∧ k < i) ∨ (i ≤ k ∧ k < p) → ops[k]? = some y → y.dst ≠ some t) ∧ (c ≤ p ∨ CleanO (S p).tmps[t]?) ∧ (p ≤ i ∨ p = c) := fun t ht => by
    by_cases hw : ∃ (j : Nat) (x : Oper), ops[j]? = some x ∧ x.dst = some t
    · obtain ⟨j, x, hx, hxt⟩ := hw
      have uniq : ∀ (k : Nat) (y : Oper), ops[k]? = some y → k ≠ j → y.dst ≠ some t := fun k y hy hk => hF.dst j k x y t (fun e => hk e.symm) hx hy hxt
      rcases Nat.lt_trichotomy j i with hlt | heq | hgt
      · have hLj : Lst listed j := by
          rcases hF.pair j i x o hlt hx ho with h | ⟨hap, _⟩
          · exact ahead j x hx h
          · exact absurd ht ((Oper.apart_spec hap).1 t hxt)
        by_cases hfc : f j = true ∨ c ≤ j
        · refine ⟨j + 1, by omega, t1 j x t hx hLj hfc hxt, fun k y hk hy => uniq k y hy (by omega), ?_, .inl (by omega)⟩
          rcases hfc with h | h
          · exact .inr (clean1 j x t hx h hxt)
          · exact .inl (by omega)
        · have hf : f j ≠ true := fun h => hfc (.inl h)
          have hjc : j < c := by
            rcases Nat.lt_or_ge j c with h | h
            · exact h
            · exact absurd (.inr h) hfc
          refine ⟨c, hc, t2 t (fun k y hy hk he => ?_) (fun k y hk hy _ hnk he => ?_) (fun k y hk hy hLk he => ?_), fun k y hk hy => uniq k y hy (by omega), .inl (Nat.le_refl _), .inr rfl⟩
          · rcases Nat.lt_or_ge k j with h | h
            · exact uniq k y hy (by omega) he
            · rcases Nat.lt_or_eq_of_le h with h | h
              · exact uniq k y hy (by omega) he
              · exact hf (h ▸ hk)
          · by_cases h : k = j
            · exact hnk (h ▸ hLj)
            · exact uniq k y hy h he
          · exact uniq k y hy (by omega) he
      · subst heq
        rw [ho] at hx; cases hx
        have hf : f j ≠ true := fun h => hF.anti j j o o t (Nat.le_refl _) ho ho (.inl h) hxt ht
        have hsl : sl j ≠ true := fun h => hF.anti j j o o t (Nat.le_refl _) ho ho (.inr h) hxt ht
        refine ⟨c, hc, t2 t (fun k y hy hk he => ?_) (fun k y hk hy hsk _ he => ?_) (fun k y hk hy hLk he => ?_), fun k y hk hy he => ?_, .inl (Nat.le_refl _), .inr rfl⟩
        · by_cases h : k = j
          · exact hf (h ▸ hk)
          · exact uniq k y hy h he
        · by_cases h : k = j
          · exact hsl (h ▸ hsk)
          · exact uniq k y hy h he
        · by_cases h : k = j
          · exact hnL (h ▸ hLk)
          · exact uniq k y hy h he
        · by_cases h : k = j
          · subst h
            rcases hk with hk | hk
            · omega
            · -- c lies behind: then it is done, or free
              cases hq : q k with
              | true =>
                have := cle k o ho hq (by simpa using hf) (by simpa using hsl) hnL
                omega
              | false => exact hnL (hbl k hk.2 hq)
          · exact uniq k y hy h he
      · have hnLj : ¬ Lst listed j := by
          rcases hF.pair i j o x hgt ho hx with h | ⟨hap, _⟩
          · exact behind j x hx h
          · exact absurd ht ((Oper.apart_spec hap).2.2 t hxt)
        have hf : f j ≠ true := fun h => hF.anti i j o x t (Nat.le_of_lt hgt) ho hx (.inl h) hxt ht
        have hsl : sl j ≠ true := fun h => hF.anti i j o x t (Nat.le_of_lt hgt) ho hx (.inr h) hxt ht
        have hcj : c ≤ j := by
          cases hq : q j with
          | true => exact cle j x hx hq (by simpa using hf) (by simpa using hsl) hnLj
          | false =>
            rcases Nat.lt_or_ge j c with h | h
            · exact absurd (hbl j h hq) hnLj
            · exact h
        refine ⟨c, hc, t2 t (fun k y hy hk he => ?_) (fun k y hk hy hsk _ he => ?_) (fun k y hk hy hLk he => ?_), fun k y hk hy => uniq k y hy (by omega), .inl (Nat.le_refl _), .inr rfl⟩
        · by_cases h : k = j
          · exact hf (h ▸ hk)
          · exact uniq k y hy h he
        · by_cases h : k = j
          · exact hsl (h ▸ hsk)
          · exact uniq k y hy h he
        · by_cases h : k = j
          · exact hnLj (h ▸ hLk)
          · exact uniq k y hy h he
    · have hno : ∀ (k : Nat) (y : Oper), ops[k]? = some y → y.dst ≠ some t := fun k y hy he => hw ⟨k, y, hy, he⟩
      exact ⟨c, hc, t2 t (fun k y hy _ => hno k y hy) (fun k y _ hy _ _ => hno k y hy) (fun k y _ hy _ => hno k y hy), fun k y _ hy => hno k y hy, .inl (Nat.le_refl _), .inr rfl⟩
  have toD : ∀ {t : Nat} {x y : St}, x.tmps[t]? = y.tmps[t]? → x.tmps.getD t .undef = y.tmps.getD t .undef := fun h => by
    rw [List.getD_eq_getElem?_getD, List.getD_eq_getElem?_getD, h]
  cases hf : f i with
  | true =>
    -- a free one
    obtain ⟨hq, hfo⟩ := hF.free i o ho hf
    obtain ⟨v, hvc, hv, hcl1, hcong⟩ := step1_free hfo (hF.pre i o ho) (hB i o ho hf) (hS i o ho)
    have hst := hcong σ fun t ht => by
      obtain ⟨p, hp, r1, r2, r3, r4⟩ := read t ht
      have hcc := hcl1 t ht
      have hci : CleanO (S i).tmps[t]? := fun v hv => by
        rw [List.getD_eq_getElem?_getD, hv] at hcc; exact hcc
      refine toD (r1.trans ?_)
      rcases Nat.le_total p i with hpi | hpi
      · exact (run_clean_le hS1 hpi (Nat.le_of_lt hin) (fun k y h1 h2 hy => r2 k y (.inl ⟨h1, h2⟩) hy) (.inr hci)).symm
      · exact run_clean_le hS1 hpi hp (fun k y h1 h2 hy => r2 k y (.inr ⟨h1, h2⟩) hy) (.inl hci)
    refine step1_ok hT hC ho hst hA fun a' w' hA' => ⟨hsize', hcl', c, _, hc, fun j hj hqj => (hL' j).2 (.inr (hbl j hj hqj)), fun j hj hqj hLj => ?_, hc0, (put_st σ o.dst v).1.trans e1, (put_st σ o.dst v).2.1.trans e2, (put_st σ o.dst v).2.2.trans e3,
      fun j x t hx hLj hfc hxt => ?_, fun t h1 h2 h3 => ?_, hA'⟩
    · rcases (hL' j).1 hLj with rfl | h
      · rw [hq] at hqj; cases hqj
      · exact hnl j hj hqj h
    · by_cases hji : j = i
      · subst hji
        rw [ho] at hx; cases hx
        rw [hv]; exact put_get_eq _ _ v hxt (e3.trans (len_all hS1 hc (Nat.le_of_lt hin)))
      · rcases (hL' j).1 hLj with h | h
        · exact absurd h hji
        · rw [put_get_ne _ _ (hF.dst j i x o t hji hx ho hxt)]
          exact t1 j x t hx h hfc hxt
    · rw [put_get_ne _ _ (h1 i o ho hf)]
      exact t2 t h1 (fun j x hj hx hsj hnj => by
        by_cases hji : j = i
        · subst hji; exact h1 j x hx hf
        · exact h2 j x hj hx hsj fun h => hnj ((hL' j).1 h |>.resolve_left hji)) fun j x hj hx hLj => h3 j x hj hx ((hL' j).2 (.inr hLj))
  | false =>
   cases hsi : sl i with
   | true =>
    obtain ⟨hq, hso⟩ := hF.sl i o ho hsi
    -- effects between c and i are mild
    have btw : ∀ k x, ((c ≤ k ∧ k < i) ∨ (i < k ∧ k < c)) → ops[k]? = some x → q k = true ∨ mildFor o x = true := fun k x hk hx => by
      cases hqk : q k with
      | true => exact .inl rfl
      | false =>
        right
        have hkin := inr hx
        rcases hk with ⟨h1, h2⟩ | ⟨h1, h2⟩
        · rcases hF.pair k i x o h2 hx ho with h | ⟨_, h | h | h | h | h⟩
          · exact absurd (ahead k x hx h) (hnl k h1 hqk)
          · rw [hqk] at h; cases h.1
          · rw [qin k hqk hkin] at h; cases h
          · rw [hf] at h; cases h
          · rw [sin k hqk hkin] at h; cases h.1
          · exact h.2
        · rcases hF.pair i k o x h1 ho hx with h | ⟨_, h | h | h | h | h⟩
          · exact absurd (hbl k h2 hqk) (behind k x hx h)
          · rw [hqk] at h; cases h.2
          · rw [hf] at h; cases h
          · rw [qin k hqk hkin] at h; cases h
          · exact h.2
          · rw [sin k hqk hkin] at h; cases h.1
    have btm : ∀ k x, ((c ≤ k ∧ k < i) ∨ (i ≤ k ∧ k < c)) → ops[k]? = some x → q k = true ∨ mildOp x = true := fun k x hk hx => by
      by_cases hki : k = i
      · subst hki; exact .inl hq
      · rcases btw k x (by omega) hx with h | h
        · exact .inl h
        · exact .inr (mildFor_inv h).1
    obtain ⟨v, hv, hcong⟩ := step1_sl hC hso (hF.quiet i o ho hq) (hF.pre i o ho) (hS i o ho)
    have hst := hcong σ (by
      cases hsl : statelessOp o with
      | true => exact .inl rfl
      | false =>
        right
        have bts : ∀ k x, ((c ≤ k ∧ k < i) ∨ (i ≤ k ∧ k < c)) → ops[k]? = some x → q k = true ∨ storeOp x = true := fun k x hk hx => by
          by_cases hki : k = i
          · subst hki; exact .inl hq
          · rcases btw k x (by omega) hx with h | h
            · exact .inl h
            · rcases (mildFor_inv h).2 with h' | h'
              · rw [hsl] at h'; cases h'
              · exact .inr h'
        rw [e1]
        rcases Nat.le_total c i with h | h
        · exact (run_shape_le hC hF hS h (Nat.le_of_lt hin) fun k x h1 h2 hx => bts k x (.inl ⟨h1, h2⟩) hx).symm'
        · exact run_shape_le hC hF hS h hc fun k x h1 h2 hx => bts k x (.inr ⟨h1, h2⟩) hx) (fun t ht => by
      obtain ⟨p, hp, s1, s2, s3, s4⟩ := read t ht
      refine toD (s1.trans ?_)
      by_cases hpi : p ≤ i
      · rcases s3 with h | h
        · exact (run_keep_le hC hF hS hpi (Nat.le_of_lt hin) (fun k x h1 h2 hx => btm k x (.inl ⟨by omega, h2⟩) hx) (fun k y h1 h2 hy => s2 k y (.inl ⟨h1, h2⟩) hy)).symm
        · exact (run_clean_le hS1 hpi (Nat.le_of_lt hin) (fun k y h1 h2 hy => s2 k y (.inl ⟨h1, h2⟩) hy) (.inl h)).symm
      · rcases s4 with h | h
        · exact absurd h hpi
        · exact run_keep_le hC hF hS (by omega) hp (fun k x h1 h2 hx => btm k x (.inr ⟨h1, by omega⟩) hx) (fun k y h1 h2 hy => s2 k y (.inr ⟨h1, h2⟩) hy))
    refine step1_ok hT hC ho hst hA fun a' w' hA' => ⟨hsize', hcl', c, _, hc, fun j hj hqj => (hL' j).2 (.inr (hbl j hj hqj)), fun j hj hqj hLj => ?_, hc0, (put_st σ o.dst v).1.trans e1, (put_st σ o.dst v).2.1.trans e2, (put_st σ o.dst v).2.2.trans e3,
      fun j x t hx hLj hfc hxt => ?_, fun t h1 h2 h3 => ?_, hA'⟩
    · rcases (hL' j).1 hLj with rfl | h
      · rw [hq] at hqj; cases hqj
      · exact hnl j hj hqj h
    · by_cases hji : j = i
      · subst hji
        rw [ho] at hx; cases hx
        rw [hv]; exact put_get_eq _ _ v hxt (e3.trans (len_all hS1 hc (Nat.le_of_lt hin)))
      · rcases (hL' j).1 hLj with h | h
        · exact absurd h hji
        · rw [put_get_ne _ _ (hF.dst j i x o t hji hx ho hxt)]
          exact t1 j x t hx h hfc hxt
    · by_cases hot : o.dst = some t
      · have hic : i < c := by
          rcases Nat.lt_or_ge i c with h | h
          · exact h
          · exact absurd hot (h3 i o h ho ((hL' i).2 (.inl rfl)))
        have e4 : (σ.put o.dst v).tmps[t]? = (S (i + 1)).tmps[t]? := by
          rw [hv]; exact put_get_eq _ _ v hot (e3.trans (len_all hS1 hc (Nat.le_of_lt hin)))
        rw [e4]
        exact (run_keep_le hC hF hS (by omega) hc (fun k x h1 h2 hx => btm k x (.inr ⟨by omega, h2⟩) hx) (fun k y h1 h2 hy => hF.dst i k o y t (by omega) ho hy hot)).symm
      · rw [put_get_ne _ _ hot]
        exact t2 t h1 (fun j x hj hx hsj hnj => by
          by_cases hji : j = i
          · subst hji; rw [ho] at hx; cases hx; exact hot
          · exact h2 j x hj hx hsj fun h => hnj ((hL' j).1 h |>.resolve_left hji)) fun j x hj hx hLj => h3 j x hj hx ((hL' j).2 (.inr hLj))
   | false =>
    -- between c and i everything is quiet
    have hci : c ≤ i := by
      cases hq : q i with
      | true => exact cle i o ho hq hf hsi hnL
      | false =>
        rcases Nat.lt_or_ge i c with h | h
        · exact absurd (hbl i h hq) hnL
        · exact h
    have quiet_mid : ∀ j, c ≤ j → j < i → q j = true := fun j hj hji => by
      cases hqj : q j with
      | true => rfl
      | false =>
        exfalso
        obtain ⟨x, hx⟩ := get j (by omega)
        rcases hF.pair j i x o hji hx ho with h | ⟨_, h | h | h | h | h⟩
        · exact hnl j hj hqj (ahead j x hx h)
        · rw [hqj] at h; cases h.1
        · rw [qin j hqj (by omega)] at h; cases h
        · rw [hf] at h; cases h
        · rw [sin j hqj (by omega)] at h; cases h.1
        · rw [hsi] at h; cases h.1
    have run : ∀ b, c ≤ b → b ≤ i → (S i).st = (S b).st ∧ (S i).moved = (S b).moved ∧ (S i).tmps.length = (S b).tmps.length ∧
        ∀ t, (∀ (j : Nat) (x : Oper), b ≤ j → j < i → ops[j]? = some x → x.dst ≠ some t) → (S i).tmps[t]? = (S b).tmps[t]? := fun b hb hbi => by
      have := run_same (qt := fun j => q j = true) (S := S) (ops := ops) hSq (i - b) b (by omega) (fun j hj hj' => quiet_mid j (by omega) (by omega))
      rwa [show b + (i - b) = i by omega] at this
    obtain ⟨r1, r2, r3, _⟩ := run c (Nat.le_refl _) hci
    have hreads : ∀ t ∈ o.looksAt ops, σ.tmps.getD t .undef = (S i).tmps.getD t .undef := fun t ht => by
      obtain ⟨p, hp, s1, s2, s3, s4⟩ := read t ht
      have hpi : p ≤ i := by
        rcases s4 with h | h
        · exact h
        · omega
      refine toD (s1.trans ?_)
      rcases s3 with h | h
      · exact ((run p h hpi).2.2.2 t fun k y h1 h2 hy => s2 k y (.inl ⟨h1, h2⟩) hy).symm
      · exact (run_clean_le hS1 hpi (Nat.le_of_lt hin) (fun k y h1 h2 hy => s2 k y (.inl ⟨h1, h2⟩) hy) (.inl h)).symm
    cases hq : q i with
    | true =>
      obtain ⟨v, hv, hcong⟩ := step1_quiet hC (hF.quiet i o ho hq) (hF.pre i o ho) (hS i o ho)
      have hst := hcong σ (e1.trans r1.symm) hreads
      refine step1_ok hT hC ho hst hA fun a' w' hA' => ⟨hsize', hcl', c, _, hc, fun j hj hqj => (hL' j).2 (.inr (hbl j hj hqj)), fun j hj hqj hLj => ?_, hc0, (put_st σ o.dst v).1.trans e1, (put_st σ o.dst v).2.1.trans e2, (put_st σ o.dst v).2.2.trans e3,
        fun j x t hx hLj hfc hxt => ?_, fun t h1 h2 h3 => ?_, hA'⟩
      · rcases (hL' j).1 hLj with rfl | h
        · rw [hq] at hqj; cases hqj
        · exact hnl j hj hqj h
      · by_cases hji : j = i
        · subst hji
          rw [ho] at hx; cases hx
          rw [hv]; exact put_get_eq _ _ v hxt (e3.trans r3.symm)
        · rcases (hL' j).1 hLj with h | h
          · exact absurd h hji
          · rw [put_get_ne _ _ (hF.dst j i x o t hji hx ho hxt)]
            exact t1 j x t hx h hfc hxt
      · rw [put_get_ne _ _ (h3 i o hci ho ((hL' i).2 (.inl rfl)))]
        exact t2 t h1 (fun j x hj hx hsj hnj => by
          by_cases hji : j = i
          · subst hji; rw [hsi] at hsj; cases hsj
          · exact h2 j x hj hx hsj fun h => hnj ((hL' j).1 h |>.resolve_left hji)) fun j x hj hx hLj => h3 j x hj hx ((hL' j).2 (.inr hLj))
    | false =>
      obtain ⟨g, s, m, v, hg, hv, hcong⟩ := step1_eff (hF.eff i o ho hq) (hF.pre i o ho) (hS i o ho)
      have hst := hcong σ (e1.trans r1.symm) (e2.trans r2.symm) hreads
      -- what stands behind and is not free is not done
      have later : ∀ j x, i < j → ops[j]? = some x → f j = false → Lst listed j → mildOp o = true := fun j x hj hx hfj hLj => by
        rcases hF.pair i j o x hj ho hx with h | ⟨_, h | h | h | h | h⟩
        · exact absurd hLj (behind j x hx h)
        · rw [hq] at h; cases h.1
        · rw [hf] at h; cases h
        · rw [hfj] at h; cases h
        · rw [hsi] at h; cases h.1
        · exact (mildFor_inv h.2).1
      refine step1_ok hT hC ho hst hA fun a' w' hA' => ⟨hsize', hcl', i + 1, _, by omega, fun j hj hqj => ?_, fun j hj hqj hLj => ?_, .inr (by simpa using hq), ?_, ?_, ?_,
        fun j x t hx hLj hfc hxt => ?_, fun t h1 h2 h3 => ?_, hA'⟩
      · rcases Nat.lt_or_eq_of_le (Nat.le_of_lt_succ hj) with h | h
        · refine (hL' j).2 (.inr ?_)
          obtain ⟨x, hx⟩ := get j (by omega)
          rcases hF.pair j i x o h hx ho with h' | ⟨_, h' | h' | h' | h' | h'⟩
          · exact ahead j x hx h'
          · rw [hqj] at h'; cases h'.1
          · rw [qin j hqj (by omega)] at h'; cases h'
          · rw [hf] at h'; cases h'
          · rw [sin j hqj (by omega)] at h'; cases h'.1
          · rw [hsi] at h'; cases h'.1
        · exact (hL' j).2 (.inl h)
      · rcases (hL' j).1 hLj with h | h
        · omega
        · exact hnl j (by omega) hqj h
      · rw [hv, (put_st _ _ _).1, (put_st _ _ _).1]
      · rw [hv, (put_st _ _ _).2.1, (put_st _ _ _).2.1]
      · rw [hv, (put_st _ _ _).2.2, (put_st _ _ _).2.2, onRefsL_eq, onRefsL_eq]
        simp [e3.trans r3.symm]
      · have hji : j ≠ i := fun e => by
          subst e
          rcases hfc with h | h
          · rw [hf] at h; cases h
          · omega
        have hLj' : Lst listed j := by
          rcases (hL' j).1 hLj with h | h
          · exact absurd h hji
          · exact h
        cases hfj : f j with
        | true =>
          rw [tmps_put (hF.dst j i x o t hji hx ho hxt), t1 j x t hx hLj' (.inl hfj) hxt]
          have hcc := clean1 j x t hx hfj hxt
          cases hx' : (S (j + 1)).tmps[t]? with
          | none => rfl
          | some v => simp [clean_keep g v (hcc v hx')]
        | false =>
          have hij : i + 1 ≤ j := by
            rcases hfc with h | h
            · rw [hfj] at h; cases h
            · exact h
          have hg' := hg.2 (later j x (by omega) hx hfj hLj')
          rw [tmps_put (hF.dst j i x o t hji hx ho hxt), t1 j x t hx hLj' (.inr (by omega)) hxt, hg', onRefs_self (h := fun r => r) (fun _ => rfl)]
          simp
      · by_cases hot : o.dst = some t
        · rw [hv]
          refine put_get_eq _ _ v hot ?_
          rw [onRefsL_eq, onRefsL_eq]
          simp [e3.trans r3.symm]
        · rw [hv, tmps_put hot, tmps_put hot]
          congr 1
          by_cases hw : ∃ (j : Nat) (x : Oper), c ≤ j ∧ ops[j]? = some x ∧ Lst listed j ∧ x.dst = some t
          · obtain ⟨j, x, hj, hx, hLj, hxt⟩ := hw
            have hfj : f j = false := by
              cases hfj : f j with
              | false => rfl
              | true => exact absurd hxt (h1 j x hx hfj)
            have hji : j < i := by
              rcases Nat.lt_trichotomy j i with h | h | h
              · exact h
              · exact absurd hLj (h ▸ hnL)
              · exact absurd hxt (h3 j x h hx ((hL' j).2 (.inr hLj)))
            rw [t1 j x t hx hLj (.inr hj) hxt]
            exact ((run (j + 1) (by omega) (by omega)).2.2.2 t fun k y hk hk' hy => hF.dst j k x y t (by omega) hx hy hxt).symm
          · have hnl' : ∀ k, k < i → ¬ Lst listed k → ¬ Lst (listed.setIfInBounds i true) k := fun k hk hnk h => hnk (((hL' k).1 h).resolve_left (by omega))
            rw [t2 t h1 (fun j x hj hx hsj hnj => h2 j x (by omega) hx hsj (hnl' j (by omega) hnj)) fun j x hj hx hLj hxt => hw ⟨j, x, hj, hx, hLj, hxt⟩]
            refine ((run c (Nat.le_refl _) hci).2.2.2 t fun k y hk hk' hy hyt => ?_).symm
            have hfk : f k = false := by
              cases hfk : f k with
              | false => rfl
              | true => exact absurd hyt (h1 k y hy hfk)
            have hnk : ¬ Lst listed k := fun h => hw ⟨k, y, hk, hy, h, hyt⟩
            have hsk : sl k = false := by
              cases hsk : sl k with
              | false => rfl
              | true => exact absurd hyt (h2 k y (by omega) hy hsk (hnl' k hk' hnk))
            rcases hF.pair k i y o hk' hy ho with h | ⟨_, h | h | h | h | h⟩
            · exact hnk (ahead k y hy h)
            · rw [hq] at h; cases h.2
            · rw [hfk] at h; cases h
            · rw [hf] at h; cases h
            · rw [hsk] at h; cases h.1
            · rw [hsi] at h; cases h.1

/-- all is done -/
theorem mid2_end (hC : CallOk P C) {q f sl : Nat → Bool} (hF : DrawFacts2 C rid ops q f sl) (hS : ∀ j o, ops[j]? = some o → step1 C ops.toList rid j o (S j) = some (S (j + 1)))
    (hB : ∀ j o, ops[j]? = some o → f j = true → freeOk C.T (S j) o = true)
    {listed : Array Bool} {a : Act} {w : World} (hM : Mid2 C B rid ops S q f sl listed a w) (hr : Region.ready .any ops listed = []) : At C.T B (S ops.size) a w := by
  obtain ⟨hsize, hcl, c, σ, hc, hbl, hnl, hc0, e1, e2, e3, t1, t2, hA⟩ := hM
  have hS1 := steps1_of hC hF hS
  have hall : ∀ i, i < ops.size → Lst listed i := by
    intro i
    induction i using Nat.strongRecOn with
    | _ i ih =>
      intro hi
      refine Classical.byContradiction fun hn => ?_
      have ho : ops[i]? = some ops[i] := Array.getElem?_eq_getElem hi
      have : i ∈ Region.ready .any ops listed := mem_ready.2 ⟨by
        have hil : i < listed.size := hsize ▸ hi
        simp only [Lst, Array.getD_eq_getD_getElem?, Array.getElem?_eq_getElem hil, Option.getD_some] at hn ⊢
        simpa using hn, _, ho, fun e he hbnd => by
          have := hF.back i _ ho e he hbnd
          exact ih e.on this (by omega)⟩
      rw [hr] at this; cases this
  have hSq : ∀ j o, ops[j]? = some o → q j = true → ∃ v, S (j + 1) = (S j).put o.dst v := fun j o hj hq => by
    obtain ⟨v, hv, _⟩ := step1_quiet hC (hF.quiet j o hj hq) (hF.pre j o hj) (hS j o hj)
    exact ⟨v, hv⟩
  have clean1 : ∀ (j : Nat) (x : Oper) (t : Nat), ops[j]? = some x → f j = true → x.dst = some t → CleanO (S (j + 1)).tmps[t]? := fun j x t hj hf hxt v hv => by
    obtain ⟨v', hv', hs, _⟩ := step1_free (hF.free j x hj hf).2 (hF.pre j x hj) (hB j x hj hf) (hS j x hj)
    rw [hs, hxt] at hv
    simp only [St.put, List.getElem?_set, if_true] at hv
    split at hv
    · cases hv; exact hv'
    · cases hv
  have hqt : ∀ j, c ≤ j → j < ops.size → q j = true := fun j hj hjn => by
    cases hqj : q j with
    | true => rfl
    | false => exact absurd (hall j hjn) (hnl j hj hqj)
  have run : ∀ b, c ≤ b → b ≤ ops.size → (S ops.size).st = (S b).st ∧ (S ops.size).moved = (S b).moved ∧ (S ops.size).tmps.length = (S b).tmps.length ∧
      ∀ t, (∀ (j : Nat) (x : Oper), b ≤ j → j < ops.size → ops[j]? = some x → x.dst ≠ some t) → (S ops.size).tmps[t]? = (S b).tmps[t]? := fun b hb hbi => by
    have := run_same (qt := fun j => q j = true) (S := S) (ops := ops) hSq (ops.size - b) b (by omega) (fun j hj hj' => hqt j (by omega) (by omega))
    rwa [show b + (ops.size - b) = ops.size by omega] at this
  obtain ⟨r1, r2, r3, _⟩ := run c (Nat.le_refl _) hc
  have hσ : σ = S ops.size := by
    have ht : σ.tmps = (S ops.size).tmps := by
      apply List.ext_getElem?
      intro t
      by_cases hw : ∃ (j : Nat) (x : Oper), (f j = true ∨ c ≤ j) ∧ ops[j]? = some x ∧ x.dst = some t
      · obtain ⟨j, x, hj, hx, hxt⟩ := hw
        have hjn := (Array.getElem?_eq_some_iff.1 hx).1
        rw [t1 j x t hx (hall j hjn) hj hxt]
        have hu : ∀ (k : Nat) (y : Oper), j + 1 ≤ k → k < ops.size → ops[k]? = some y → y.dst ≠ some t := fun k y hk hk' hy => hF.dst j k x y t (by omega) hx hy hxt
        rcases hj with hj | hj
        · exact (run_clean_le hS1 (by omega) (Nat.le_refl _) hu (.inl (clean1 j x t hx hj hxt))).symm
        · exact ((run (j + 1) (by omega) (by omega)).2.2.2 t hu).symm
      · rw [t2 t (fun j x hx hf hxt => hw ⟨j, x, .inl hf, hx, hxt⟩) (fun j x hj hx _ hnj _ => hnj (hall j (Array.getElem?_eq_some_iff.1 hx).1)) (fun j x hj hx _ hxt => hw ⟨j, x, .inr hj, hx, hxt⟩)]
        exact ((run c (Nat.le_refl _) hc).2.2.2 t fun k y hk hk' hy hyt => hw ⟨k, y, .inr hk, hy, hyt⟩).symm
    have hs := e1.trans r1.symm
    have hm := e2.trans r2.symm
    cases σ
    cases hSi : S ops.size
    rw [hSi] at ht hs hm
    simp only at ht hs hm
    subst ht; subst hs; subst hm
    rfl
  exact hσ ▸ hA

theorem wpAny_mid2 (hT : TabOk P C.T) (hC : CallOk P C) {q f sl : Nat → Bool} (hF : DrawFacts2 C rid ops q f sl) (hS : ∀ j o, ops[j]? = some o → step1 C ops.toList rid j o (S j) = some (S (j + 1)))
    (hB : ∀ j o, ops[j]? = some o → f j = true → freeOk C.T (S j) o = true)
    (hQ : ∀ a w, At C.T B (S ops.size) a w → Q .normal a w) : ∀ (fuel : Nat) (listed : Array Bool) (a : Act) (w : World), (undone ops listed).length ≤ fuel → Mid2 C B rid ops S q f sl listed a w →
    wpAny P .any ops Q fuel listed a w
  | 0, listed, a, w, hf, hM => by
    have hr : Region.ready .any ops listed = [] := by
      cases h : Region.ready .any ops listed with
      | nil => rfl
      | cons i is =>
        have := undone_lt (ops := ops) (listed := listed) (i := i) (by rw [h]; exact List.mem_cons_self)
        omega
    exact ⟨hr, hQ a w (mid2_end hC hF hS hB hM hr)⟩
  | fuel + 1, listed, a, w, hf, hM => by
    refine ⟨fun hr => hQ a w (mid2_end hC hF hS hB hM hr), fun i hi => ?_⟩
    have hlt := undone_lt hi
    exact wpOp_mono (fun a' w' h' => wpAny_mid2 hT hC hF hS hB hQ fuel _ a' w' (by omega) h') (mid2_step hT hC hF hS hB hM hi)

/-- **A drawn region with effects.** -/
theorem drawn2_ok (hm : P.follows .mixedOrders = true) (hT : TabOk P C.T) (hC : CallOk P C) {id : Nat} (hd : drawOk2 C.sig (fun i => (look2 C.ann.pre rid i).isEmpty) (has2 C.ann.free rid) ops = true) {σ : St} {K : St → Option Res} {res : Res}
    (h : evOps C ops.toList rid ops.toList 0 σ K = some res) {a : Act} {w : World} (hA : At C.T B σ a w) (hQ : ∀ σ' a w, K σ' = some res → At C.T B σ' a w → Q .normal a w) : (Code.region id ops true).wp P Q a w := by
  obtain ⟨S, e, hS, hK⟩ := evOps_states _ _ _ h
  have hS' : ∀ j o, ops[j]? = some o → step1 C ops.toList rid j o (S j) = some (S (j + 1)) := fun j o hj => by simpa using (hS j o (by simpa using hj)).1
  have hB : ∀ j o, ops[j]? = some o → has2 C.ann.free rid j = true → freeOk C.T (S j) o = true := fun j o hj hf => by
    have := (hS j o (by simpa using hj)).2
    rw [Nat.zero_add] at this
    unfold freeBad at this
    rw [hf] at this
    simpa using this
  refine wp_region_any hm (wpAny_mid2 hT hC (drawFacts2 hd) hS' hB (fun a w h' => hQ (S ops.size) a w (by simpa using hK) h') ops.size _ a _ ?_ ?_)
  · unfold undone
    exact Nat.le_trans (List.length_filter_le _ _) (by simp)
  · have hno : ∀ i, ¬ Lst (Array.replicate ops.size false) i := fun i hL => by
      simp only [Lst] at hL
      rcases Nat.lt_or_ge i ops.size with h1 | h1
      · simp [h1] at hL
      · simp [Nat.not_lt.2 h1] at hL
    refine ⟨by simp, fun i o _ hL => absurd hL (hno i), 0, σ, Nat.zero_le _, fun i hi => absurd hi (Nat.not_lt_zero _), fun j _ _ => hno j, .inl rfl, by rw [e], by rw [e], by rw [e], fun j o t _ hL => absurd hL (hno j), fun t _ _ _ => by rw [e], hA.drew⟩

end
end Go.Fw
