/- The framework, part Wb: drawn regions with effects in one order and free operations among them. -/
import Derived.Test.YtgcdiccbehiijaaFwU
set_option linter.all false
set_option linter.unusedSimpArgs false
set_option linter.unusedVariables false
namespace Go.Fw
def noAnti (ops : Array Oper) (x y : Oper) : Bool := match y.dst with | some d => !(x.looksAt ops).contains d | none => true
def dstNe (x y : Oper) : Bool := match x.dst, y.dst with | some d, some e => !Nat.beq d e | _, _ => true
def quietAt (sig : FuncId → RS × List OS × List Nat) (ops : Array Oper) (j : Nat) : Bool := match ops[j]? with | some y => quietOp sig y | none => true
def slAt (ops : Array Oper) (j : Nat) : Bool := match ops[j]? with
  | some y => (statelessOp y || shapeOp y) && (List.range (j + 1)).all fun i => match ops[i]? with
    | some x => noAnti ops x y
    | none => true
  | none => false
def drawOk2 (sig : FuncId → RS × List OS × List Nat) (pre : Nat → Bool) (fr : Nat → Bool) (ops : Array Oper) : Bool :=
  let ps := prds ops.toList []
  (List.range ops.size).all fun j => match ops[j]? with
    | none => true
    | some y => y.after.toList.all (fun e => !Region.binds .any e || Nat.blt e.on j) && (pre j && ((quietOp sig y || effOp y) && ((!fr j || (freeOp y && (quietOp sig y && noAnti ops y y))) &&
      (List.range j).all fun i => match ops[i]? with
        | none => true
        | some x => dstNe x y && ((!fr j || noAnti ops x y) &&
          (inP ps j i || (x.apart ops y && ((quietOp sig x && quietOp sig y) || ((fr i || fr j) || ((slAt ops i && mildFor x y) || (slAt ops j && mildFor y x))))))))))
section
variable {P : Program} {C : Ctx} {B : Base} {rid : Nat} {ops : Array Oper} {S : Nat → St} {Q : Exit → Act → World → Prop}
structure DrawFacts2 (C : Ctx) (rid : Nat) (ops : Array Oper) (q f s : Nat → Bool) : Prop where
  back : ∀ j y, ops[j]? = some y → ∀ e ∈ y.after, Region.binds .any e = true → e.on < j
  pair : ∀ i j x y, i < j → ops[i]? = some x → ops[j]? = some y →
    (∀ L, Closed ops.toList L → (∀ e ∈ y.after, Region.binds .any e = true → L e.on) → L i) ∨
    (x.apart ops y = true ∧ ((q i = true ∧ q j = true) ∨ f i = true ∨ f j = true ∨ (s i = true ∧ mildFor x y = true) ∨ (s j = true ∧ mildFor y x = true)))
  dst : ∀ (i j : Nat) (x y : Oper) (t : Nat), i ≠ j → ops[i]? = some x → ops[j]? = some y → x.dst = some t → y.dst ≠ some t
  anti : ∀ (i j : Nat) (x y : Oper) (t : Nat), i ≤ j → ops[i]? = some x → ops[j]? = some y → (f j = true ∨ s j = true) → y.dst = some t → t ∉ x.looksAt ops
  pre : ∀ j y, ops[j]? = some y → look2 C.ann.pre rid j = []
  quiet : ∀ j y, ops[j]? = some y → q j = true → quietOp C.sig y = true
  eff : ∀ j y, ops[j]? = some y → q j = false → effOp y = true
  free : ∀ j y, ops[j]? = some y → f j = true → q j = true ∧ freeOp y = true
  sl : ∀ j y, ops[j]? = some y → s j = true → q j = true ∧ (statelessOp y = true ∨ shapeOp y = true)
theorem drawFacts2 {fr : Nat → Bool} (hd : drawOk2 C.sig (fun i => (look2 C.ann.pre rid i).isEmpty) fr ops = true) : DrawFacts2 C rid ops (quietAt C.sig ops) fr (slAt ops) := by
  have hall : ∀ j y, ops[j]? = some y → (y.after.toList.all (fun e => !Region.binds .any e || Nat.blt e.on j) = true ∧ ((look2 C.ann.pre rid j).isEmpty = true ∧ ((quietOp C.sig y || effOp y) = true ∧
      ((!fr j || (freeOp y && (quietOp C.sig y && noAnti ops y y))) = true ∧
      ∀ i x, i < j → ops[i]? = some x → (dstNe x y = true ∧ ((!fr j || noAnti ops x y) = true ∧ (inP (prds ops.toList []) j i || (x.apart ops y && ((quietOp C.sig x && quietOp C.sig y) || ((fr i || fr j) || ((slAt ops i && mildFor x y) || (slAt ops j && mildFor y x)))))) = true)))))) := fun j y hy => by
    unfold drawOk2 at hd
    have hlt : j < ops.size := (Array.getElem?_eq_some_iff.1 hy).1
    have h1 := List.all_eq_true.1 hd j (List.mem_range.2 hlt)
    simp only [hy] at h1
    rw [Bool.and_eq_true, Bool.and_eq_true, Bool.and_eq_true, Bool.and_eq_true] at h1
    refine ⟨h1.1, h1.2.1, h1.2.2.1, h1.2.2.2.1, fun i x hi hx => ?_⟩
    have h2 := List.all_eq_true.1 h1.2.2.2.2 i (List.mem_range.2 hi)
    simp only [hx] at h2
    rw [Bool.and_eq_true, Bool.and_eq_true] at h2
    exact h2
  have hps : ∀ i j y, ops[j]? = some y → inP (prds ops.toList []) j i = true → ∀ L, Closed ops.toList L → (∀ e ∈ y.after, Region.binds .any e = true → L e.on) → L i := fun i j y hy hb L hL he =>
    prds_ok hL ops.toList [] [] rfl rfl (fun i o h => by simp at h) j y (by simpa using hy) he i hb
  have hqa : ∀ j y, ops[j]? = some y → quietAt C.sig ops j = quietOp C.sig y := fun j y hy => by unfold quietAt; rw [hy]
  have hdst : ∀ (i j : Nat) (x y : Oper) (t : Nat), i < j → ops[i]? = some x → ops[j]? = some y → x.dst = some t → y.dst ≠ some t := fun i j x y t hij hx hy hdx hdy => by
    have := ((hall j y hy).2.2.2.2 i x hij hx).1
    simp [dstNe, hdx, hdy] at this
  refine ⟨fun j y hy e he hb => ?_, fun i j x y hij hx hy => ?_, fun i j x y t hij hx hy hdx hdy => ?_, fun i j x y t hij hx hy hf hdy hm => ?_, fun j y hy => ?_, fun j y hy hq => ?_, fun j y hy hq => ?_, fun j y hy hf => ?_, fun j y hy hs => ?_⟩
  · have := List.all_eq_true.1 (hall j y hy).1 e (by simpa using he)
    simpa [hb, Nat.blt_eq] using this
  · have := ((hall j y hy).2.2.2.2 i x hij hx).2.2
    rw [Bool.or_eq_true, Bool.and_eq_true, Bool.or_eq_true, Bool.and_eq_true, Bool.or_eq_true, Bool.or_eq_true, Bool.or_eq_true, Bool.and_eq_true, Bool.and_eq_true] at this
    rcases this with h1 | h1
    · exact .inl (hps i j y hy h1)
    · refine .inr ⟨h1.1, ?_⟩
      rw [hqa i x hx, hqa j y hy]
      rcases h1.2 with h | (h | h) | h | h
      · exact .inl h
      · exact .inr (.inl h)
      · exact .inr (.inr (.inl h))
      · exact .inr (.inr (.inr (.inl h)))
      · exact .inr (.inr (.inr (.inr h)))
  · rcases Nat.lt_or_gt_of_ne hij with h | h
    · exact hdst i j x y t h hx hy hdx hdy
    · exact hdst j i y x t h hy hx hdy hdx
  · have key : noAnti ops x y = true := by
      rcases hf.symm with hs | hf
      · unfold slAt at hs
        rw [hy] at hs
        simp only [Bool.and_eq_true] at hs
        have := List.all_eq_true.1 hs.2 i (List.mem_range.2 (by omega))
        simpa only [hx] using this
      rcases Nat.lt_or_eq_of_le hij with h | h
      · have := ((hall j y hy).2.2.2.2 i x h hx).2.1
        simpa [hf] using this
      · subst h
        rw [hx] at hy; cases hy
        have := (hall i x hx).2.2.2.1
        rw [hf] at this
        simp only [Bool.not_true, Bool.false_or, Bool.and_eq_true] at this
        exact this.2.2
    simp [noAnti, hdy] at key
    exact key hm
  · simpa using (hall j y hy).2.1
  · rw [hqa j y hy] at hq; exact hq
  · rw [hqa j y hy] at hq
    have := (hall j y hy).2.2.1
    rw [hq] at this
    simpa using this
  · have := (hall j y hy).2.2.2.1
    rw [hf] at this
    simp only [Bool.not_true, Bool.false_or, Bool.and_eq_true] at this
    exact ⟨(hqa j y hy).trans this.2.1, this.1⟩
  · unfold slAt at hs
    rw [hy] at hs
    simp only [Bool.and_eq_true, Bool.or_eq_true] at hs
    refine ⟨(hqa j y hy).trans ?_, hs.1⟩
    obtain ⟨dst, op, type, pos, after, guard⟩ := y
    rcases hs.1 with h | h
    · cases op <;> first | rfl | cases h
    · cases op <;> first | rfl | (cases h; done) | skip
      rename_i cl
      obtain ⟨callee, args, ats⟩ := cl
      cases callee <;> first | (cases h; done) | skip
      rename_i b
      cases b <;> first | rfl | cases h
theorem guardOf_congr {σ σ' : St} {o : Oper} (ht : ∀ t ∈ o.looksAt ops, σ'.tmps.getD t .undef = σ.tmps.getD t .undef) : guardOf ops.toList σ' o = guardOf ops.toList σ o := by
  unfold guardOf
  cases hg : o.guard with
  | none => rfl
  | some jw =>
    obtain ⟨j, want⟩ := jw
    simp only
    cases hj : ops.toList[j]? with
    | none => rfl
    | some og =>
      simp only
      cases hd : og.dst with
      | none => rfl
      | some d =>
        have hj' : ops[j]? = some og := by simpa using hj
        have hd' : d ∈ o.looksAt ops := by
          unfold Oper.looksAt
          rw [hg]
          refine List.mem_append.2 (.inr ?_)
          simp [hj', hd]
        simp only [ht d hd']
theorem eval_looks {σ σ' : St} {o : Oper} (ht : ∀ t ∈ o.looksAt ops, σ'.tmps.getD t .undef = σ.tmps.getD t .undef) : ∀ x ∈ o.op.operands.toList, σ'.eval x = σ.eval x :=
  fun x hx => eval_congr fun t ht' => ht t (by
    subst ht'
    unfold Oper.looksAt
    exact List.mem_append.2 (.inl (List.mem_filterMap.2 ⟨_, hx, rfl⟩)))
theorem step1_eff {i : Nat} {o : Oper} (hq : effOp o = true) (hp : look2 C.ann.pre rid i = []) {σ σ1 : St} (h : step1 C ops.toList rid i o σ = some σ1) :
    ∃ g s m v, (Scrubs g ∧ (mildOp o = true → g = fun r => r)) ∧ σ1 = (⟨AV.onRefsL g σ.tmps, s, m⟩ : St).put o.dst v ∧ ∀ σ' : St, σ'.st = σ.st → σ'.moved = σ.moved → (∀ t ∈ o.looksAt ops, σ'.tmps.getD t .undef = σ.tmps.getD t .undef) →
      step1 C ops.toList rid i o σ' = some ((⟨AV.onRefsL g σ'.tmps, s, m⟩ : St).put o.dst v) := by
  unfold step1 at h ⊢
  split at h
  · cases h
  · rename_i hg
    rw [hp] at h
    simp only [St.weaks] at h
    split at h
    · rename_i σ2 v hex
      cases h
      obtain ⟨g, h1, h2, h3⟩ := exec1_eff hq hex
      refine ⟨g, σ2.st, σ2.moved, v, h1, by rw [← h2], fun σ' hs hm ht => ?_⟩
      rw [guardOf_congr ht, hg, hp]
      simp only [St.weaks]
      rw [h3 σ' hs hm (eval_looks ht)]
    · cases h
  · rename_i hg
    cases h
    refine ⟨fun r => r, σ.st, σ.moved, _, ⟨Scrubs.id, fun _ => rfl⟩, by rw [onRefsL_id'], fun σ' hs hm ht => ?_⟩
    rw [guardOf_congr ht, hg, onRefsL_id', ← hs, ← hm]
theorem step1_free {i : Nat} {o : Oper} (hq : freeOp o = true) (hp : look2 C.ann.pre rid i = []) {σ σ1 : St} (hf : freeOk C.T σ o = true) (h : step1 C ops.toList rid i o σ = some σ1) :
    ∃ v, v.clean = true ∧ σ1 = σ.put o.dst v ∧ (∀ t ∈ o.looksAt ops, (σ.tmps.getD t .undef).clean = true) ∧
      ∀ σ' : St, (∀ t ∈ o.looksAt ops, σ'.tmps.getD t .undef = σ.tmps.getD t .undef) → step1 C ops.toList rid i o σ' = some (σ'.put o.dst v) := by
  have hgn : o.guard = none := by
    unfold freeOp at hq
    simp only [Bool.and_eq_true] at hq
    simpa using hq.1
  unfold freeOk at hf
  simp only [Bool.and_eq_true, List.all_eq_true] at hf
  have hg : guardOf ops.toList σ o = some true := by unfold guardOf; rw [hgn]
  unfold step1 at h ⊢
  rw [hg, hp] at h
  simp only [St.weaks] at h
  split at h
  · rename_i σ2 v hex
    cases h
    obtain ⟨rfl, _⟩ := exec1_free (σ' := σ) hq hf.1 (fun _ _ => rfl) hex
    have hv : v.clean = true := by
      have hh := hf.2
      have e : exec1 C σ2 o = aop C.T σ2 o.op := by
        unfold freeOp at hq
        simp only [Bool.and_eq_true] at hq
        unfold exec1
        split
        · rename_i heq; simp [heq] at hq
        · rename_i heq; simp [heq] at hq
        · rfl
      rw [← e, hex] at hh
      exact hh
    refine ⟨v, hv, rfl, fun t ht => ?_, fun σ' ht => ?_⟩
    · unfold Oper.looksAt at ht
      rw [hgn] at ht
      simp only [List.append_nil] at ht
      obtain ⟨x, hx, hxt⟩ := List.mem_filterMap.1 ht
      cases x with
      | tmp u => cases hxt; exact hf.1 _ hx
      | _ => cases hxt
    · rw [guardOf_congr ht, hg, hp]
      simp only [St.weaks]
      rw [(exec1_free (σ' := σ') hq hf.1 (eval_looks ht) hex).2]
  · cases h
theorem SameShape.rfl' {a : List AObj} : SameShape a a := fun _ => rfl
theorem SameShape.symm' {a b : List AObj} (h : SameShape a b) : SameShape b a := fun id => (h id).symm
theorem SameShape.trans' {a b c : List AObj} (h : SameShape a b) (k : SameShape b c) : SameShape a c := fun id => (h id).trans (k id)
theorem step1_store {i : Nat} {o : Oper} (hq : storeOp o = true) (hp : look2 C.ann.pre rid i = []) {σ σ1 : St} (h : step1 C ops.toList rid i o σ = some σ1) : SameShape σ1.st σ.st := by
  unfold step1 at h
  split at h
  · cases h
  · rw [hp] at h
    simp only [St.weaks] at h
    split at h
    · rename_i σ2 v hex
      cases h
      rw [(put_st _ _ _).1]
      obtain ⟨dst, op, type, pos, after, guard⟩ := o
      cases op <;> first | (cases hq; done) | skip
      simp only [exec1, aop] at hex
      split at hex
      · rename_i σ' hs
        cases hex
        exact astore_shape hs
      · cases hex
    · cases h
  · cases h
    rw [(put_st _ _ _).1]; exact SameShape.rfl'
theorem step1_sl (hC : CallOk P C) {i : Nat} {o : Oper} (hq : statelessOp o = true ∨ shapeOp o = true) (hqq : quietOp C.sig o = true) (hp : look2 C.ann.pre rid i = []) {σ σ1 : St} (h : step1 C ops.toList rid i o σ = some σ1) :
    ∃ v, σ1 = σ.put o.dst v ∧ ∀ σ' : St, (statelessOp o = true ∨ SameShape σ'.st σ.st) → (∀ t ∈ o.looksAt ops, σ'.tmps.getD t .undef = σ.tmps.getD t .undef) → step1 C ops.toList rid i o σ' = some (σ'.put o.dst v) := by
  obtain ⟨v, hv, hvq⟩ := step1_quiet hC hqq hp h
  refine ⟨v, hv, fun σ' hs ht => ?_⟩
  have h0 := hvq ⟨σ'.tmps, σ.st, σ'.moved⟩ rfl ht
  unfold step1 at h0 ⊢
  have hg := guardOf_congr (ops := ops) (o := o) (σ := σ') (σ' := ⟨σ'.tmps, σ.st, σ'.moved⟩) (fun _ _ => rfl)
  rw [hg] at h0
  cases hgd : guardOf ops.toList σ' o with
  | none => rw [hgd] at h0; cases h0
  | some g =>
    rw [hgd] at h0
    cases g with
    | false =>
      simp only [Option.some.injEq] at h0 ⊢
      have e : (St.put ⟨σ'.tmps, σ.st, σ'.moved⟩ o.dst (.k undef)).tmps = (St.put ⟨σ'.tmps, σ.st, σ'.moved⟩ o.dst v).tmps := by rw [h0]
      cases hd : o.dst with
      | none => rfl
      | some d =>
        rw [hd] at e
        simp only [St.put] at e ⊢
        rw [e]
    | true =>
      rw [hp] at h0 ⊢
      simp only [St.weaks] at h0 ⊢
      split at h0
      · rename_i s2 v2 hex
        have hx : exec1 C σ' o = some (true, σ', v2) := by
          have hev : ∀ x ∈ o.op.operands.toList, σ'.eval x = (⟨σ'.tmps, σ.st, σ'.moved⟩ : St).eval x := fun x _ => by cases x <;> rfl
          rcases hq with h1 | h1
          · exact exec1_stateless hC h1 hev hex
          · rcases hs with h2 | h2
            · exact exec1_stateless hC h2 hev hex
            · exact exec1_shape (σ := ⟨σ'.tmps, σ.st, σ'.moved⟩) hC h1 h2 hev hex
        rw [hx]
        simp only [Option.some.injEq] at h0 ⊢
        have hq2 := exec1_quiet hC hqq (σ := ⟨σ'.tmps, σ.st, σ'.moved⟩) (σ' := ⟨σ'.tmps, σ.st, σ'.moved⟩) rfl (fun _ _ => rfl) hex
        rw [hq2.1] at h0
        have e : (St.put ⟨σ'.tmps, σ.st, σ'.moved⟩ o.dst v2).tmps = (St.put ⟨σ'.tmps, σ.st, σ'.moved⟩ o.dst v).tmps := by rw [h0]
        cases hd : o.dst with
        | none => rfl
        | some d =>
          rw [hd] at e
          simp only [St.put] at e ⊢
          rw [e]
      · cases h0
theorem mildFor_inv {y x : Oper} (h : mildFor y x = true) : mildOp x = true ∧ (statelessOp y = true ∨ storeOp x = true) := by
  unfold mildFor at h
  simp only [Bool.or_eq_true, Bool.and_eq_true] at h
  rcases h with h | h
  · exact ⟨h.2, .inl h.1⟩
  · refine ⟨?_, .inr h.2⟩
    obtain ⟨dst, op, type, pos, after, guard⟩ := x
    cases op <;> first | rfl | (have := h.2; cases this)
def CleanO (x : Option AV) : Prop := ∀ v, x = some v → v.clean = true
theorem tmps_put {tm : List AV} {s : List AObj} {m : List Nat} {g : AV → AV} {d : Option Nat} {v : AV} {t : Nat} (h : d ≠ some t) :
    ((⟨AV.onRefsL g tm, s, m⟩ : St).put d v).tmps[t]? = (tm[t]?).map (AV.onRefs g) := by
  rw [put_get_ne _ _ h, onRefsL_eq]
  simp
def Steps1 (ops : Array Oper) (S : Nat → St) : Prop :=
  ∀ j o, ops[j]? = some o → (S (j + 1)).tmps.length = (S j).tmps.length ∧ ∃ g, Scrubs g ∧ ∀ t, o.dst ≠ some t → (S (j + 1)).tmps[t]? = ((S j).tmps[t]?).map (AV.onRefs g)
theorem steps1_of (hC : CallOk P C) {q f sl : Nat → Bool} (hF : DrawFacts2 C rid ops q f sl) (hS : ∀ j o, ops[j]? = some o → step1 C ops.toList rid j o (S j) = some (S (j + 1))) : Steps1 ops S := by
  intro j o ho
  have hp := hF.pre j o ho
  cases hq : q j with
  | true =>
    obtain ⟨v, hv, _⟩ := step1_quiet hC (hF.quiet j o ho hq) hp (hS j o ho)
    rw [hv]
    refine ⟨(put_st _ _ _).2.2, fun r => r, Scrubs.id, fun t ht => ?_⟩
    rw [put_get_ne _ _ ht, onRefs_self (h := fun r => r) (fun _ => rfl)]
    simp
  | false =>
    obtain ⟨g, s, m, v, hg, hv, _⟩ := step1_eff (hF.eff j o ho hq) hp (hS j o ho)
    rw [hv]
    refine ⟨?_, g, hg.1, fun t ht => tmps_put ht⟩
    rw [(put_st _ _ _).2.2, onRefsL_eq]; simp
theorem run_len (h1 : Steps1 ops S) : ∀ (l b : Nat), b + l ≤ ops.size → (S (b + l)).tmps.length = (S b).tmps.length
  | 0, b, _ => rfl
  | l + 1, b, hle => by
    have hi : b + l < ops.size := by omega
    have := (h1 (b + l) _ (Array.getElem?_eq_getElem hi)).1
    rw [← Nat.add_assoc, this]; exact run_len h1 l b (by omega)
theorem len_all (h1 : Steps1 ops S) {p r : Nat} (hp : p ≤ ops.size) (hr : r ≤ ops.size) : (S p).tmps.length = (S r).tmps.length := by
  have a := run_len h1 p 0 (by omega)
  have b := run_len h1 r 0 (by omega)
  rw [Nat.zero_add] at a b
  rw [a, b]
theorem run_clean (h1 : Steps1 ops S) {t : Nat} : ∀ (l b : Nat), b + l ≤ ops.size → (∀ (j : Nat) (o : Oper), b ≤ j → j < b + l → ops[j]? = some o → o.dst ≠ some t) →
    (CleanO (S b).tmps[t]? ∨ CleanO (S (b + l)).tmps[t]?) → (S (b + l)).tmps[t]? = (S b).tmps[t]?
  | 0, b, _, _, _ => rfl
  | l + 1, b, hle, hu, hc => by
    have hi : b + l < ops.size := by omega
    have ho : ops[b + l]? = some ops[b + l] := Array.getElem?_eq_getElem hi
    obtain ⟨_, g, hg, ht⟩ := h1 (b + l) _ ho
    have e := ht t (hu (b + l) _ (by omega) (by omega) ho)
    have hu' : ∀ (j : Nat) (o : Oper), b ≤ j → j < b + l → ops[j]? = some o → o.dst ≠ some t := fun j o hj hj' => hu j o hj (by omega)
    rw [← Nat.add_assoc] at hc ⊢
    rcases hc with hc | hc
    · have e2 := run_clean h1 l b (by omega) hu' (.inl hc)
      rw [e, e2]
      cases hx : (S b).tmps[t]? with
      | none => rfl
      | some v => simp [clean_keep g v (hc v hx)]
    · rw [e] at hc ⊢
      have e3 : ((S (b + l)).tmps[t]?).map (AV.onRefs g) = (S (b + l)).tmps[t]? := by
        cases hx : (S (b + l)).tmps[t]? with
        | none => rfl
        | some v =>
          have := hc (v.onRefs g) (by rw [hx]; rfl)
          simp [clean_fix g hg v this]
      rw [e3] at hc ⊢
      exact run_clean h1 l b (by omega) hu' (.inr hc)
theorem run_clean_le (h1 : Steps1 ops S) {t p r : Nat} (hpr : p ≤ r) (hr : r ≤ ops.size) (hu : ∀ (j : Nat) (o : Oper), p ≤ j → j < r → ops[j]? = some o → o.dst ≠ some t)
    (hc : CleanO (S p).tmps[t]? ∨ CleanO (S r).tmps[t]?) : (S r).tmps[t]? = (S p).tmps[t]? := by
  have e : r = p + (r - p) := by omega
  rw [e] at hc hr hu ⊢
  exact run_clean h1 _ p hr hu hc
theorem run_keep (hC : CallOk P C) {q f sl : Nat → Bool} (hF : DrawFacts2 C rid ops q f sl) (hS : ∀ j o, ops[j]? = some o → step1 C ops.toList rid j o (S j) = some (S (j + 1))) {t : Nat} :
    ∀ (l b : Nat), b + l ≤ ops.size → (∀ (k : Nat) (x : Oper), b ≤ k → k < b + l → ops[k]? = some x → q k = true ∨ mildOp x = true) → (∀ (j : Nat) (o : Oper), b ≤ j → j < b + l → ops[j]? = some o → o.dst ≠ some t) →
    (S (b + l)).tmps[t]? = (S b).tmps[t]?
  | 0, b, _, _, _ => rfl
  | l + 1, b, hle, hk, hu => by
    have hi : b + l < ops.size := by omega
    have ho : ops[b + l]? = some ops[b + l] := Array.getElem?_eq_getElem hi
    have ih := run_keep hC hF hS (t := t) l b (by omega) (fun k x h1 h2 => hk k x h1 (by omega)) (fun k x h1 h2 => hu k x h1 (by omega))
    have hd := hu (b + l) _ (by omega) (by omega) ho
    rw [← Nat.add_assoc, ← ih]
    rcases hk (b + l) _ (by omega) (by omega) ho with h | h
    · obtain ⟨v, hv, _⟩ := step1_quiet hC (hF.quiet _ _ ho h) (hF.pre _ _ ho) (hS _ _ ho)
      rw [hv, put_get_ne _ _ hd]
    · cases hq : q (b + l) with
      | true =>
        obtain ⟨v, hv, _⟩ := step1_quiet hC (hF.quiet _ _ ho hq) (hF.pre _ _ ho) (hS _ _ ho)
        rw [hv, put_get_ne _ _ hd]
      | false =>
        obtain ⟨g, s, m, v, hg, hv, _⟩ := step1_eff (hF.eff _ _ ho hq) (hF.pre _ _ ho) (hS _ _ ho)
        rw [hv, tmps_put hd, hg.2 h, onRefs_self (h := fun r => r) (fun _ => rfl)]
        simp
theorem run_keep_le (hC : CallOk P C) {q f sl : Nat → Bool} (hF : DrawFacts2 C rid ops q f sl) (hS : ∀ j o, ops[j]? = some o → step1 C ops.toList rid j o (S j) = some (S (j + 1))) {t p r : Nat} (hpr : p ≤ r) (hr : r ≤ ops.size)
    (hk : ∀ (k : Nat) (x : Oper), p ≤ k → k < r → ops[k]? = some x → q k = true ∨ mildOp x = true) (hu : ∀ (j : Nat) (o : Oper), p ≤ j → j < r → ops[j]? = some o → o.dst ≠ some t) : (S r).tmps[t]? = (S p).tmps[t]? := by
  have e : r = p + (r - p) := by omega
  rw [e] at hr hu hk ⊢
  exact run_keep hC hF hS _ p hr hk hu
theorem run_shape (hC : CallOk P C) {q f sl : Nat → Bool} (hF : DrawFacts2 C rid ops q f sl) (hS : ∀ j o, ops[j]? = some o → step1 C ops.toList rid j o (S j) = some (S (j + 1))) :
    ∀ (l b : Nat), b + l ≤ ops.size → (∀ (k : Nat) (x : Oper), b ≤ k → k < b + l → ops[k]? = some x → q k = true ∨ storeOp x = true) → SameShape (S (b + l)).st (S b).st
  | 0, b, _, _ => SameShape.rfl'
  | l + 1, b, hle, hk => by
    have hi : b + l < ops.size := by omega
    have ho : ops[b + l]? = some ops[b + l] := Array.getElem?_eq_getElem hi
    have ih := run_shape hC hF hS l b (by omega) (fun k x h1 h2 => hk k x h1 (by omega))
    rw [← Nat.add_assoc]
    refine SameShape.trans' ?_ ih
    rcases hk (b + l) _ (by omega) (by omega) ho with h | h
    · obtain ⟨v, hv, _⟩ := step1_quiet hC (hF.quiet _ _ ho h) (hF.pre _ _ ho) (hS _ _ ho)
      rw [hv, (put_st _ _ _).1]; exact SameShape.rfl'
    · exact step1_store h (hF.pre _ _ ho) (hS _ _ ho)
theorem run_shape_le (hC : CallOk P C) {q f sl : Nat → Bool} (hF : DrawFacts2 C rid ops q f sl) (hS : ∀ j o, ops[j]? = some o → step1 C ops.toList rid j o (S j) = some (S (j + 1))) {p r : Nat} (hpr : p ≤ r) (hr : r ≤ ops.size)
    (hk : ∀ (k : Nat) (x : Oper), p ≤ k → k < r → ops[k]? = some x → q k = true ∨ storeOp x = true) : SameShape (S r).st (S p).st := by
  have e : r = p + (r - p) := by omega
  rw [e] at hr hk ⊢
  exact run_shape hC hF hS _ p hr hk
structure Mid2 (C : Ctx) (B : Base) (rid : Nat) (ops : Array Oper) (S : Nat → St) (q f sl : Nat → Bool) (listed : Array Bool) (a : Act) (w : World) : Prop where
  size : listed.size = ops.size
  closed : Closed ops.toList (Lst listed)
  mid : ∃ c σ, c ≤ ops.size ∧ (∀ j, j < c → q j = false → Lst listed j) ∧ (∀ j, c ≤ j → q j = false → ¬ Lst listed j) ∧ (c = 0 ∨ q (c - 1) = false) ∧
    σ.st = (S c).st ∧ σ.moved = (S c).moved ∧ σ.tmps.length = (S c).tmps.length ∧
    (∀ (j : Nat) (o : Oper) (t : Nat), ops[j]? = some o → Lst listed j → (f j = true ∨ c ≤ j) → o.dst = some t → σ.tmps[t]? = (S (j + 1)).tmps[t]?) ∧
    (∀ (t : Nat), (∀ (j : Nat) (o : Oper), ops[j]? = some o → f j = true → o.dst ≠ some t) → (∀ (j : Nat) (o : Oper), j < c → ops[j]? = some o → sl j = true → ¬ Lst listed j → o.dst ≠ some t) → (∀ (j : Nat) (o : Oper), c ≤ j → ops[j]? = some o → Lst listed j → o.dst ≠ some t) → σ.tmps[t]? = (S c).tmps[t]?) ∧ At C.T B σ a w
theorem qle {q f sl : Nat → Bool} (hF : DrawFacts2 C rid ops q f sl) {j : Nat} (hj : j < ops.size) (h : f j = true) : q j = true := (hF.free j _ (Array.getElem?_eq_getElem hj) h).1
theorem mid2_step (hT : TabOk P C.T) (hC : CallOk P C) {q f sl : Nat → Bool} (hF : DrawFacts2 C rid ops q f sl) (hS : ∀ j o, ops[j]? = some o → step1 C ops.toList rid j o (S j) = some (S (j + 1)))
    (hB : ∀ j o, ops[j]? = some o → f j = true → freeOk C.T (S j) o = true)
    {listed : Array Bool} {a : Act} {w : World} (hM : Mid2 C B rid ops S q f sl listed a w) {i : Nat} (hi : i ∈ Region.ready .any ops listed) :
    wpOpIn (FR B.ro) 0 P ops Q i (fun a' w' => Mid2 C B rid ops S q f sl (listed.setIfInBounds i true) a' w') a w := by
  obtain ⟨hun, o, ho, hed⟩ := mem_ready.1 hi
  obtain ⟨hisz, hnL⟩ := not_Lst hun
  obtain ⟨hsize, hcl, c, σ, hc, hbl, hnl, hc0, e1, e2, e3, t1, t2, hA⟩ := hM
  have hin : i < ops.size := hsize ▸ hisz
  have hS1 := steps1_of hC hF hS
  have hL' : ∀ j, Lst (listed.setIfInBounds i true) j ↔ j = i ∨ Lst listed j := fun j => Lst_set hisz
  have hSq : ∀ j o, ops[j]? = some o → q j = true → ∃ v, S (j + 1) = (S j).put o.dst v := fun j o hj hq => by
    obtain ⟨v, hv, _⟩ := step1_quiet hC (hF.quiet j o hj hq) (hF.pre j o hj) (hS j o hj)
    exact ⟨v, hv⟩
  have hcl' : Closed ops.toList (Lst (listed.setIfInBounds i true)) := fun j oj hj hLj e he hbnd => by
    rcases (hL' j).1 hLj with rfl | h
    · have hj' : ops[j]? = some oj := by simpa using hj
      rw [ho] at hj'; cases hj'
      exact (hL' _).2 (.inr (hed e he hbnd))
    · exact (hL' _).2 (.inr (hcl j oj hj h e he hbnd))
  have hsize' : (listed.setIfInBounds i true).size = ops.size := by simpa using hsize
  have ahead : ∀ j x, ops[j]? = some x → (∀ L, Closed ops.toList L → (∀ e ∈ o.after, Region.binds .any e = true → L e.on) → L j) → Lst listed j := fun j x hj h => h _ hcl hed
  have behind : ∀ j y, ops[j]? = some y → (∀ L, Closed ops.toList L → (∀ e ∈ y.after, Region.binds .any e = true → L e.on) → L i) → ¬ Lst listed j := fun j y hj h hLj =>
    hnL (h _ hcl (fun e he hbnd => hcl j y (by simpa using hj) hLj e he hbnd))
  have get : ∀ j, j < ops.size → ∃ y, ops[j]? = some y := fun j hj => ⟨_, Array.getElem?_eq_getElem hj⟩
  have inr : ∀ {j x}, ops[j]? = some x → j < ops.size := fun h => (Array.getElem?_eq_some_iff.1 h).1
  have qin : ∀ j, q j = false → j < ops.size → f j = false := fun j hq hj => by
    cases hf : f j with
    | false => rfl
    | true => rw [(qle hF hj hf)] at hq; cases hq
  have sin : ∀ j, q j = false → j < ops.size → sl j = false := fun j hq hj => by
    cases hs : sl j with
    | false => rfl
    | true => rw [(hF.sl j _ (Array.getElem?_eq_getElem hj) hs).1] at hq; cases hq
  have cle : ∀ j x, ops[j]? = some x → q j = true → f j = false → sl j = false → ¬ Lst listed j → c ≤ j := fun j x hj hq hf hsl hnLj => by
    rcases Nat.lt_or_ge j c with hlt | hge
    · exfalso
      rcases hc0 with h0 | h0
      · omega
      · have hc1 : c - 1 < ops.size := by omega
        obtain ⟨y, hy⟩ := get (c - 1) hc1
        have hL1 : Lst listed (c - 1) := hbl _ (by omega) h0
        have hne : j ≠ c - 1 := fun e => by rw [e, h0] at hq; cases hq
        rcases hF.pair j (c - 1) x y (by omega) hj hy with h | ⟨_, h | h | h | h | h⟩
        · exact hnLj (h _ hcl (fun e he hbnd => hcl (c - 1) y (by simpa using hy) hL1 e he hbnd))
        · rw [h0] at h; cases h.2
        · rw [hf] at h; cases h
        · rw [qin _ h0 hc1] at h; cases h
        · rw [hsl] at h; cases h.1
        · rw [sin _ h0 hc1] at h; cases h.1
    · exact hge
  have clean1 : ∀ (j : Nat) (x : Oper) (t : Nat), ops[j]? = some x → f j = true → x.dst = some t → CleanO (S (j + 1)).tmps[t]? := fun j x t hj hf hxt v hv => by
    obtain ⟨v', hv', hs, _⟩ := step1_free (hF.free j x hj hf).2 (hF.pre j x hj) (hB j x hj hf) (hS j x hj)
    rw [hs, hxt] at hv
    simp only [St.put, List.getElem?_set, if_true] at hv
    split at hv
    · cases hv; exact hv'
    · cases hv
  have read : ∀ t ∈ o.looksAt ops, ∃ p, p ≤ ops.size ∧ σ.tmps[t]? = (S p).tmps[t]? ∧ (∀ (k : Nat) (y : Oper), (p ≤ k ∧ k < i) ∨ (i ≤ k ∧ k < p) → ops[k]? = some y → y.dst ≠ some t) ∧ (c ≤ p ∨ CleanO (S p).tmps[t]?) ∧ (p ≤ i ∨ p = c) := fun t ht => by
    by_cases hw : ∃ (j : Nat) (x : Oper), ops[j]? = some x ∧ x.dst = some t
    · obtain ⟨j, x, hx, hxt⟩ := hw
      have uniq : ∀ (k : Nat) (y : Oper), ops[k]? = some y → k ≠ j → y.dst ≠ some t := fun k y hy hk => hF.dst j k x y t (fun e => hk e.symm) hx hy hxt
      rcases Nat.lt_trichotomy j i with hlt | heq | hgt
      · have hLj : Lst listed j := by
          rcases hF.pair j i x o hlt hx ho with h | ⟨hap, _⟩
          · exact ahead j x hx h
          · exact absurd ht ((Oper.apart_spec hap).1 t hxt)
        by_cases hfc : f j = true ∨ c ≤ j
        · refine ⟨j + 1, by omega, t1 j x t hx hLj hfc hxt, fun k y hk hy => uniq k y hy (by omega), ?_, .inl (by omega)⟩
          rcases hfc with h | h
          · exact .inr (clean1 j x t hx h hxt)
          · exact .inl (by omega)
        · have hf : f j ≠ true := fun h => hfc (.inl h)
          have hjc : j < c := by
            rcases Nat.lt_or_ge j c with h | h
            · exact h
            · exact absurd (.inr h) hfc
          refine ⟨c, hc, t2 t (fun k y hy hk he => ?_) (fun k y hk hy _ hnk he => ?_) (fun k y hk hy hLk he => ?_), fun k y hk hy => uniq k y hy (by omega), .inl (Nat.le_refl _), .inr rfl⟩
          · rcases Nat.lt_or_ge k j with h | h
            · exact uniq k y hy (by omega) he
            · rcases Nat.lt_or_eq_of_le h with h | h
              · exact uniq k y hy (by omega) he
              · exact hf (h ▸ hk)
          · by_cases h : k = j
            · exact hnk (h ▸ hLj)
            · exact uniq k y hy h he
          · exact uniq k y hy (by omega) he
      · subst heq
        rw [ho] at hx; cases hx
        have hf : f j ≠ true := fun h => hF.anti j j o o t (Nat.le_refl _) ho ho (.inl h) hxt ht
        have hsl : sl j ≠ true := fun h => hF.anti j j o o t (Nat.le_refl _) ho ho (.inr h) hxt ht
        refine ⟨c, hc, t2 t (fun k y hy hk he => ?_) (fun k y hk hy hsk _ he => ?_) (fun k y hk hy hLk he => ?_), fun k y hk hy he => ?_, .inl (Nat.le_refl _), .inr rfl⟩
        · by_cases h : k = j
          · exact hf (h ▸ hk)
          · exact uniq k y hy h he
        · by_cases h : k = j
          · exact hsl (h ▸ hsk)
          · exact uniq k y hy h he
        · by_cases h : k = j
          · exact hnL (h ▸ hLk)
          · exact uniq k y hy h he
        · by_cases h : k = j
          · subst h
            rcases hk with hk | hk
            · omega
            · -- c lies behind: then it is done, or free
              cases hq : q k with
              | true =>
                have := cle k o ho hq (by simpa using hf) (by simpa using hsl) hnL
                omega
              | false => exact hnL (hbl k hk.2 hq)
          · exact uniq k y hy h he
      · have hnLj : ¬ Lst listed j := by
          rcases hF.pair i j o x hgt ho hx with h | ⟨hap, _⟩
          · exact behind j x hx h
          · exact absurd ht ((Oper.apart_spec hap).2.2 t hxt)
        have hf : f j ≠ true := fun h => hF.anti i j o x t (Nat.le_of_lt hgt) ho hx (.inl h) hxt ht
        have hsl : sl j ≠ true := fun h => hF.anti i j o x t (Nat.le_of_lt hgt) ho hx (.inr h) hxt ht
        have hcj : c ≤ j := by
          cases hq : q j with
          | true => exact cle j x hx hq (by simpa using hf) (by simpa using hsl) hnLj
          | false =>
            rcases Nat.lt_or_ge j c with h | h
            · exact absurd (hbl j h hq) hnLj
            · exact h
        refine ⟨c, hc, t2 t (fun k y hy hk he => ?_) (fun k y hk hy hsk _ he => ?_) (fun k y hk hy hLk he => ?_), fun k y hk hy => uniq k y hy (by omega), .inl (Nat.le_refl _), .inr rfl⟩
        · by_cases h : k = j
          · exact hf (h ▸ hk)
          · exact uniq k y hy h he
        · by_cases h : k = j
          · exact hsl (h ▸ hsk)
          · exact uniq k y hy h he
        · by_cases h : k = j
          · exact hnLj (h ▸ hLk)
          · exact uniq k y hy h he
    · have hno : ∀ (k : Nat) (y : Oper), ops[k]? = some y → y.dst ≠ some t := fun k y hy he => hw ⟨k, y, hy, he⟩
      exact ⟨c, hc, t2 t (fun k y hy _ => hno k y hy) (fun k y _ hy _ _ => hno k y hy) (fun k y _ hy _ => hno k y hy), fun k y _ hy => hno k y hy, .inl (Nat.le_refl _), .inr rfl⟩
  have toD : ∀ {t : Nat} {x y : St}, x.tmps[t]? = y.tmps[t]? → x.tmps.getD t .undef = y.tmps.getD t .undef := fun h => by
    rw [List.getD_eq_getElem?_getD, List.getD_eq_getElem?_getD, h]
  cases hf : f i with
  | true =>
    obtain ⟨hq, hfo⟩ := hF.free i o ho hf
    obtain ⟨v, hvc, hv, hcl1, hcong⟩ := step1_free hfo (hF.pre i o ho) (hB i o ho hf) (hS i o ho)
    have hst := hcong σ fun t ht => by
      obtain ⟨p, hp, r1, r2, r3, r4⟩ := read t ht
      have hcc := hcl1 t ht
      have hci : CleanO (S i).tmps[t]? := fun v hv => by
        rw [List.getD_eq_getElem?_getD, hv] at hcc; exact hcc
      refine toD (r1.trans ?_)
      rcases Nat.le_total p i with hpi | hpi
      · exact (run_clean_le hS1 hpi (Nat.le_of_lt hin) (fun k y h1 h2 hy => r2 k y (.inl ⟨h1, h2⟩) hy) (.inr hci)).symm
      · exact run_clean_le hS1 hpi hp (fun k y h1 h2 hy => r2 k y (.inr ⟨h1, h2⟩) hy) (.inl hci)
    refine step1_ok hT hC ho hst hA fun a' w' hA' => ⟨hsize', hcl', c, _, hc, fun j hj hqj => (hL' j).2 (.inr (hbl j hj hqj)), fun j hj hqj hLj => ?_, hc0, (put_st σ o.dst v).1.trans e1, (put_st σ o.dst v).2.1.trans e2, (put_st σ o.dst v).2.2.trans e3,
      fun j x t hx hLj hfc hxt => ?_, fun t h1 h2 h3 => ?_, hA'⟩
    · rcases (hL' j).1 hLj with rfl | h
      · rw [hq] at hqj; cases hqj
      · exact hnl j hj hqj h
    · by_cases hji : j = i
      · subst hji
        rw [ho] at hx; cases hx
        rw [hv]; exact put_get_eq _ _ v hxt (e3.trans (len_all hS1 hc (Nat.le_of_lt hin)))
      · rcases (hL' j).1 hLj with h | h
        · exact absurd h hji
        · rw [put_get_ne _ _ (hF.dst j i x o t hji hx ho hxt)]
          exact t1 j x t hx h hfc hxt
    · rw [put_get_ne _ _ (h1 i o ho hf)]
      exact t2 t h1 (fun j x hj hx hsj hnj => by
        by_cases hji : j = i
        · subst hji; exact h1 j x hx hf
        · exact h2 j x hj hx hsj fun h => hnj ((hL' j).1 h |>.resolve_left hji)) fun j x hj hx hLj => h3 j x hj hx ((hL' j).2 (.inr hLj))
  | false =>
   cases hsi : sl i with
   | true =>
    obtain ⟨hq, hso⟩ := hF.sl i o ho hsi
    have btw : ∀ k x, ((c ≤ k ∧ k < i) ∨ (i < k ∧ k < c)) → ops[k]? = some x → q k = true ∨ mildFor o x = true := fun k x hk hx => by
      cases hqk : q k with
      | true => exact .inl rfl
      | false =>
        right
        have hkin := inr hx
        rcases hk with ⟨h1, h2⟩ | ⟨h1, h2⟩
        · rcases hF.pair k i x o h2 hx ho with h | ⟨_, h | h | h | h | h⟩
          · exact absurd (ahead k x hx h) (hnl k h1 hqk)
          · rw [hqk] at h; cases h.1
          · rw [qin k hqk hkin] at h; cases h
          · rw [hf] at h; cases h
          · rw [sin k hqk hkin] at h; cases h.1
          · exact h.2
        · rcases hF.pair i k o x h1 ho hx with h | ⟨_, h | h | h | h | h⟩
          · exact absurd (hbl k h2 hqk) (behind k x hx h)
          · rw [hqk] at h; cases h.2
          · rw [hf] at h; cases h
          · rw [qin k hqk hkin] at h; cases h
          · exact h.2
          · rw [sin k hqk hkin] at h; cases h.1
    have btm : ∀ k x, ((c ≤ k ∧ k < i) ∨ (i ≤ k ∧ k < c)) → ops[k]? = some x → q k = true ∨ mildOp x = true := fun k x hk hx => by
      by_cases hki : k = i
      · subst hki; exact .inl hq
      · rcases btw k x (by omega) hx with h | h
        · exact .inl h
        · exact .inr (mildFor_inv h).1
    obtain ⟨v, hv, hcong⟩ := step1_sl hC hso (hF.quiet i o ho hq) (hF.pre i o ho) (hS i o ho)
    have hst := hcong σ (by
      cases hsl : statelessOp o with
      | true => exact .inl rfl
      | false =>
        right
        have bts : ∀ k x, ((c ≤ k ∧ k < i) ∨ (i ≤ k ∧ k < c)) → ops[k]? = some x → q k = true ∨ storeOp x = true := fun k x hk hx => by
          by_cases hki : k = i
          · subst hki; exact .inl hq
          · rcases btw k x (by omega) hx with h | h
            · exact .inl h
            · rcases (mildFor_inv h).2 with h' | h'
              · rw [hsl] at h'; cases h'
              · exact .inr h'
        rw [e1]
        rcases Nat.le_total c i with h | h
        · exact (run_shape_le hC hF hS h (Nat.le_of_lt hin) fun k x h1 h2 hx => bts k x (.inl ⟨h1, h2⟩) hx).symm'
        · exact run_shape_le hC hF hS h hc fun k x h1 h2 hx => bts k x (.inr ⟨h1, h2⟩) hx) (fun t ht => by
      obtain ⟨p, hp, s1, s2, s3, s4⟩ := read t ht
      refine toD (s1.trans ?_)
      by_cases hpi : p ≤ i
      · rcases s3 with h | h
        · exact (run_keep_le hC hF hS hpi (Nat.le_of_lt hin) (fun k x h1 h2 hx => btm k x (.inl ⟨by omega, h2⟩) hx) (fun k y h1 h2 hy => s2 k y (.inl ⟨h1, h2⟩) hy)).symm
        · exact (run_clean_le hS1 hpi (Nat.le_of_lt hin) (fun k y h1 h2 hy => s2 k y (.inl ⟨h1, h2⟩) hy) (.inl h)).symm
      · rcases s4 with h | h
        · exact absurd h hpi
        · exact run_keep_le hC hF hS (by omega) hp (fun k x h1 h2 hx => btm k x (.inr ⟨h1, by omega⟩) hx) (fun k y h1 h2 hy => s2 k y (.inr ⟨h1, h2⟩) hy))
    refine step1_ok hT hC ho hst hA fun a' w' hA' => ⟨hsize', hcl', c, _, hc, fun j hj hqj => (hL' j).2 (.inr (hbl j hj hqj)), fun j hj hqj hLj => ?_, hc0, (put_st σ o.dst v).1.trans e1, (put_st σ o.dst v).2.1.trans e2, (put_st σ o.dst v).2.2.trans e3,
      fun j x t hx hLj hfc hxt => ?_, fun t h1 h2 h3 => ?_, hA'⟩
    · rcases (hL' j).1 hLj with rfl | h
      · rw [hq] at hqj; cases hqj
      · exact hnl j hj hqj h
    · by_cases hji : j = i
      · subst hji
        rw [ho] at hx; cases hx
        rw [hv]; exact put_get_eq _ _ v hxt (e3.trans (len_all hS1 hc (Nat.le_of_lt hin)))
      · rcases (hL' j).1 hLj with h | h
        · exact absurd h hji
        · rw [put_get_ne _ _ (hF.dst j i x o t hji hx ho hxt)]
          exact t1 j x t hx h hfc hxt
    · by_cases hot : o.dst = some t
      · have hic : i < c := by
          rcases Nat.lt_or_ge i c with h | h
          · exact h
          · exact absurd hot (h3 i o h ho ((hL' i).2 (.inl rfl)))
        have e4 : (σ.put o.dst v).tmps[t]? = (S (i + 1)).tmps[t]? := by
          rw [hv]; exact put_get_eq _ _ v hot (e3.trans (len_all hS1 hc (Nat.le_of_lt hin)))
        rw [e4]
        exact (run_keep_le hC hF hS (by omega) hc (fun k x h1 h2 hx => btm k x (.inr ⟨by omega, h2⟩) hx) (fun k y h1 h2 hy => hF.dst i k o y t (by omega) ho hy hot)).symm
      · rw [put_get_ne _ _ hot]
        exact t2 t h1 (fun j x hj hx hsj hnj => by
          by_cases hji : j = i
          · subst hji; rw [ho] at hx; cases hx; exact hot
          · exact h2 j x hj hx hsj fun h => hnj ((hL' j).1 h |>.resolve_left hji)) fun j x hj hx hLj => h3 j x hj hx ((hL' j).2 (.inr hLj))
   | false =>
    have hci : c ≤ i := by
      cases hq : q i with
      | true => exact cle i o ho hq hf hsi hnL
      | false =>
        rcases Nat.lt_or_ge i c with h | h
        · exact absurd (hbl i h hq) hnL
        · exact h
    have quiet_mid : ∀ j, c ≤ j → j < i → q j = true := fun j hj hji => by
      cases hqj : q j with
      | true => rfl
      | false =>
        exfalso
        obtain ⟨x, hx⟩ := get j (by omega)
        rcases hF.pair j i x o hji hx ho with h | ⟨_, h | h | h | h | h⟩
        · exact hnl j hj hqj (ahead j x hx h)
        · rw [hqj] at h; cases h.1
        · rw [qin j hqj (by omega)] at h; cases h
        · rw [hf] at h; cases h
        · rw [sin j hqj (by omega)] at h; cases h.1
        · rw [hsi] at h; cases h.1
    have run : ∀ b, c ≤ b → b ≤ i → (S i).st = (S b).st ∧ (S i).moved = (S b).moved ∧ (S i).tmps.length = (S b).tmps.length ∧
        ∀ t, (∀ (j : Nat) (x : Oper), b ≤ j → j < i → ops[j]? = some x → x.dst ≠ some t) → (S i).tmps[t]? = (S b).tmps[t]? := fun b hb hbi => by
      have := run_same (qt := fun j => q j = true) (S := S) (ops := ops) hSq (i - b) b (by omega) (fun j hj hj' => quiet_mid j (by omega) (by omega))
      rwa [show b + (i - b) = i by omega] at this
    obtain ⟨r1, r2, r3, _⟩ := run c (Nat.le_refl _) hci
    have hreads : ∀ t ∈ o.looksAt ops, σ.tmps.getD t .undef = (S i).tmps.getD t .undef := fun t ht => by
      obtain ⟨p, hp, s1, s2, s3, s4⟩ := read t ht
      have hpi : p ≤ i := by
        rcases s4 with h | h
        · exact h
        · omega
      refine toD (s1.trans ?_)
      rcases s3 with h | h
      · exact ((run p h hpi).2.2.2 t fun k y h1 h2 hy => s2 k y (.inl ⟨h1, h2⟩) hy).symm
      · exact (run_clean_le hS1 hpi (Nat.le_of_lt hin) (fun k y h1 h2 hy => s2 k y (.inl ⟨h1, h2⟩) hy) (.inl h)).symm
    cases hq : q i with
    | true =>
      obtain ⟨v, hv, hcong⟩ := step1_quiet hC (hF.quiet i o ho hq) (hF.pre i o ho) (hS i o ho)
      have hst := hcong σ (e1.trans r1.symm) hreads
      refine step1_ok hT hC ho hst hA fun a' w' hA' => ⟨hsize', hcl', c, _, hc, fun j hj hqj => (hL' j).2 (.inr (hbl j hj hqj)), fun j hj hqj hLj => ?_, hc0, (put_st σ o.dst v).1.trans e1, (put_st σ o.dst v).2.1.trans e2, (put_st σ o.dst v).2.2.trans e3,
        fun j x t hx hLj hfc hxt => ?_, fun t h1 h2 h3 => ?_, hA'⟩
      · rcases (hL' j).1 hLj with rfl | h
        · rw [hq] at hqj; cases hqj
        · exact hnl j hj hqj h
      · by_cases hji : j = i
        · subst hji
          rw [ho] at hx; cases hx
          rw [hv]; exact put_get_eq _ _ v hxt (e3.trans r3.symm)
        · rcases (hL' j).1 hLj with h | h
          · exact absurd h hji
          · rw [put_get_ne _ _ (hF.dst j i x o t hji hx ho hxt)]
            exact t1 j x t hx h hfc hxt
      · rw [put_get_ne _ _ (h3 i o hci ho ((hL' i).2 (.inl rfl)))]
        exact t2 t h1 (fun j x hj hx hsj hnj => by
          by_cases hji : j = i
          · subst hji; rw [hsi] at hsj; cases hsj
          · exact h2 j x hj hx hsj fun h => hnj ((hL' j).1 h |>.resolve_left hji)) fun j x hj hx hLj => h3 j x hj hx ((hL' j).2 (.inr hLj))
    | false =>
      obtain ⟨g, s, m, v, hg, hv, hcong⟩ := step1_eff (hF.eff i o ho hq) (hF.pre i o ho) (hS i o ho)
      have hst := hcong σ (e1.trans r1.symm) (e2.trans r2.symm) hreads
      have later : ∀ j x, i < j → ops[j]? = some x → f j = false → Lst listed j → mildOp o = true := fun j x hj hx hfj hLj => by
        rcases hF.pair i j o x hj ho hx with h | ⟨_, h | h | h | h | h⟩
        · exact absurd hLj (behind j x hx h)
        · rw [hq] at h; cases h.1
        · rw [hf] at h; cases h
        · rw [hfj] at h; cases h
        · rw [hsi] at h; cases h.1
        · exact (mildFor_inv h.2).1
      refine step1_ok hT hC ho hst hA fun a' w' hA' => ⟨hsize', hcl', i + 1, _, by omega, fun j hj hqj => ?_, fun j hj hqj hLj => ?_, .inr (by simpa using hq), ?_, ?_, ?_,
        fun j x t hx hLj hfc hxt => ?_, fun t h1 h2 h3 => ?_, hA'⟩
      · rcases Nat.lt_or_eq_of_le (Nat.le_of_lt_succ hj) with h | h
        · refine (hL' j).2 (.inr ?_)
          obtain ⟨x, hx⟩ := get j (by omega)
          rcases hF.pair j i x o h hx ho with h' | ⟨_, h' | h' | h' | h' | h'⟩
          · exact ahead j x hx h'
          · rw [hqj] at h'; cases h'.1
          · rw [qin j hqj (by omega)] at h'; cases h'
          · rw [hf] at h'; cases h'
          · rw [sin j hqj (by omega)] at h'; cases h'.1
          · rw [hsi] at h'; cases h'.1
        · exact (hL' j).2 (.inl h)
      · rcases (hL' j).1 hLj with h | h
        · omega
        · exact hnl j (by omega) hqj h
      · rw [hv, (put_st _ _ _).1, (put_st _ _ _).1]
      · rw [hv, (put_st _ _ _).2.1, (put_st _ _ _).2.1]
      · rw [hv, (put_st _ _ _).2.2, (put_st _ _ _).2.2, onRefsL_eq, onRefsL_eq]
        simp [e3.trans r3.symm]
      · have hji : j ≠ i := fun e => by
          subst e
          rcases hfc with h | h
          · rw [hf] at h; cases h
          · omega
        have hLj' : Lst listed j := by
          rcases (hL' j).1 hLj with h | h
          · exact absurd h hji
          · exact h
        cases hfj : f j with
        | true =>
          rw [tmps_put (hF.dst j i x o t hji hx ho hxt), t1 j x t hx hLj' (.inl hfj) hxt]
          have hcc := clean1 j x t hx hfj hxt
          cases hx' : (S (j + 1)).tmps[t]? with
          | none => rfl
          | some v => simp [clean_keep g v (hcc v hx')]
        | false =>
          have hij : i + 1 ≤ j := by
            rcases hfc with h | h
            · rw [hfj] at h; cases h
            · exact h
          have hg' := hg.2 (later j x (by omega) hx hfj hLj')
          rw [tmps_put (hF.dst j i x o t hji hx ho hxt), t1 j x t hx hLj' (.inr (by omega)) hxt, hg', onRefs_self (h := fun r => r) (fun _ => rfl)]
          simp
      · by_cases hot : o.dst = some t
        · rw [hv]
          refine put_get_eq _ _ v hot ?_
          rw [onRefsL_eq, onRefsL_eq]
          simp [e3.trans r3.symm]
        · rw [hv, tmps_put hot, tmps_put hot]
          congr 1
          by_cases hw : ∃ (j : Nat) (x : Oper), c ≤ j ∧ ops[j]? = some x ∧ Lst listed j ∧ x.dst = some t
          · obtain ⟨j, x, hj, hx, hLj, hxt⟩ := hw
            have hfj : f j = false := by
              cases hfj : f j with
              | false => rfl
              | true => exact absurd hxt (h1 j x hx hfj)
            have hji : j < i := by
              rcases Nat.lt_trichotomy j i with h | h | h
              · exact h
              · exact absurd hLj (h ▸ hnL)
              · exact absurd hxt (h3 j x h hx ((hL' j).2 (.inr hLj)))
            rw [t1 j x t hx hLj (.inr hj) hxt]
            exact ((run (j + 1) (by omega) (by omega)).2.2.2 t fun k y hk hk' hy => hF.dst j k x y t (by omega) hx hy hxt).symm
          · have hnl' : ∀ k, k < i → ¬ Lst listed k → ¬ Lst (listed.setIfInBounds i true) k := fun k hk hnk h => hnk (((hL' k).1 h).resolve_left (by omega))
            rw [t2 t h1 (fun j x hj hx hsj hnj => h2 j x (by omega) hx hsj (hnl' j (by omega) hnj)) fun j x hj hx hLj hxt => hw ⟨j, x, hj, hx, hLj, hxt⟩]
            refine ((run c (Nat.le_refl _) hci).2.2.2 t fun k y hk hk' hy hyt => ?_).symm
            have hfk : f k = false := by
              cases hfk : f k with
              | false => rfl
              | true => exact absurd hyt (h1 k y hy hfk)
            have hnk : ¬ Lst listed k := fun h => hw ⟨k, y, hk, hy, h, hyt⟩
            have hsk : sl k = false := by
              cases hsk : sl k with
              | false => rfl
              | true => exact absurd hyt (h2 k y (by omega) hy hsk (hnl' k hk' hnk))
            rcases hF.pair k i y o hk' hy ho with h | ⟨_, h | h | h | h | h⟩
            · exact hnk (ahead k y hy h)
            · rw [hq] at h; cases h.2
            · rw [hfk] at h; cases h
            · rw [hf] at h; cases h
            · rw [hsk] at h; cases h.1
            · rw [hsi] at h; cases h.1
theorem mid2_end (hC : CallOk P C) {q f sl : Nat → Bool} (hF : DrawFacts2 C rid ops q f sl) (hS : ∀ j o, ops[j]? = some o → step1 C ops.toList rid j o (S j) = some (S (j + 1)))
    (hB : ∀ j o, ops[j]? = some o → f j = true → freeOk C.T (S j) o = true)
    {listed : Array Bool} {a : Act} {w : World} (hM : Mid2 C B rid ops S q f sl listed a w) (hr : Region.ready .any ops listed = []) : At C.T B (S ops.size) a w := by
  obtain ⟨hsize, hcl, c, σ, hc, hbl, hnl, hc0, e1, e2, e3, t1, t2, hA⟩ := hM
  have hS1 := steps1_of hC hF hS
  have hall : ∀ i, i < ops.size → Lst listed i := by
    intro i
    induction i using Nat.strongRecOn with
    | _ i ih =>
      intro hi
      refine Classical.byContradiction fun hn => ?_
      have ho : ops[i]? = some ops[i] := Array.getElem?_eq_getElem hi
      have : i ∈ Region.ready .any ops listed := mem_ready.2 ⟨by
        have hil : i < listed.size := hsize ▸ hi
        simp only [Lst, Array.getD_eq_getD_getElem?, Array.getElem?_eq_getElem hil, Option.getD_some] at hn ⊢
        simpa using hn, _, ho, fun e he hbnd => by
          have := hF.back i _ ho e he hbnd
          exact ih e.on this (by omega)⟩
      rw [hr] at this; cases this
  have hSq : ∀ j o, ops[j]? = some o → q j = true → ∃ v, S (j + 1) = (S j).put o.dst v := fun j o hj hq => by
    obtain ⟨v, hv, _⟩ := step1_quiet hC (hF.quiet j o hj hq) (hF.pre j o hj) (hS j o hj)
    exact ⟨v, hv⟩
  have clean1 : ∀ (j : Nat) (x : Oper) (t : Nat), ops[j]? = some x → f j = true → x.dst = some t → CleanO (S (j + 1)).tmps[t]? := fun j x t hj hf hxt v hv => by
    obtain ⟨v', hv', hs, _⟩ := step1_free (hF.free j x hj hf).2 (hF.pre j x hj) (hB j x hj hf) (hS j x hj)
    rw [hs, hxt] at hv
    simp only [St.put, List.getElem?_set, if_true] at hv
    split at hv
    · cases hv; exact hv'
    · cases hv
  have hqt : ∀ j, c ≤ j → j < ops.size → q j = true := fun j hj hjn => by
    cases hqj : q j with
    | true => rfl
    | false => exact absurd (hall j hjn) (hnl j hj hqj)
  have run : ∀ b, c ≤ b → b ≤ ops.size → (S ops.size).st = (S b).st ∧ (S ops.size).moved = (S b).moved ∧ (S ops.size).tmps.length = (S b).tmps.length ∧
      ∀ t, (∀ (j : Nat) (x : Oper), b ≤ j → j < ops.size → ops[j]? = some x → x.dst ≠ some t) → (S ops.size).tmps[t]? = (S b).tmps[t]? := fun b hb hbi => by
    have := run_same (qt := fun j => q j = true) (S := S) (ops := ops) hSq (ops.size - b) b (by omega) (fun j hj hj' => hqt j (by omega) (by omega))
    rwa [show b + (ops.size - b) = ops.size by omega] at this
  obtain ⟨r1, r2, r3, _⟩ := run c (Nat.le_refl _) hc
  have hσ : σ = S ops.size := by
    have ht : σ.tmps = (S ops.size).tmps := by
      apply List.ext_getElem?
      intro t
      by_cases hw : ∃ (j : Nat) (x : Oper), (f j = true ∨ c ≤ j) ∧ ops[j]? = some x ∧ x.dst = some t
      · obtain ⟨j, x, hj, hx, hxt⟩ := hw
        have hjn := (Array.getElem?_eq_some_iff.1 hx).1
        rw [t1 j x t hx (hall j hjn) hj hxt]
        have hu : ∀ (k : Nat) (y : Oper), j + 1 ≤ k → k < ops.size → ops[k]? = some y → y.dst ≠ some t := fun k y hk hk' hy => hF.dst j k x y t (by omega) hx hy hxt
        rcases hj with hj | hj
        · exact (run_clean_le hS1 (by omega) (Nat.le_refl _) hu (.inl (clean1 j x t hx hj hxt))).symm
        · exact ((run (j + 1) (by omega) (by omega)).2.2.2 t hu).symm
      · rw [t2 t (fun j x hx hf hxt => hw ⟨j, x, .inl hf, hx, hxt⟩) (fun j x hj hx _ hnj _ => hnj (hall j (Array.getElem?_eq_some_iff.1 hx).1)) (fun j x hj hx _ hxt => hw ⟨j, x, .inr hj, hx, hxt⟩)]
        exact ((run c (Nat.le_refl _) hc).2.2.2 t fun k y hk hk' hy hyt => hw ⟨k, y, .inr hk, hy, hyt⟩).symm
    have hs := e1.trans r1.symm
    have hm := e2.trans r2.symm
    cases σ
    cases hSi : S ops.size
    rw [hSi] at ht hs hm
    simp only at ht hs hm
    subst ht; subst hs; subst hm
    rfl
  exact hσ ▸ hA
theorem wpAny_mid2 (hT : TabOk P C.T) (hC : CallOk P C) {q f sl : Nat → Bool} (hF : DrawFacts2 C rid ops q f sl) (hS : ∀ j o, ops[j]? = some o → step1 C ops.toList rid j o (S j) = some (S (j + 1)))
    (hB : ∀ j o, ops[j]? = some o → f j = true → freeOk C.T (S j) o = true)
    (hQ : ∀ a w, At C.T B (S ops.size) a w → Q .normal a w) : ∀ (fuel : Nat) (listed : Array Bool) (a : Act) (w : World), (undone ops listed).length ≤ fuel → Mid2 C B rid ops S q f sl listed a w →
    wpAnyIn (FR B.ro) 0 P .any ops Q fuel listed a w
  | 0, listed, a, w, hf, hM => by
    have hr : Region.ready .any ops listed = [] := by
      cases h : Region.ready .any ops listed with
      | nil => rfl
      | cons i is =>
        have := undone_lt (ops := ops) (listed := listed) (i := i) (by rw [h]; exact List.mem_cons_self)
        omega
    exact ⟨hr, hQ a w (mid2_end hC hF hS hB hM hr)⟩
  | fuel + 1, listed, a, w, hf, hM => by
    refine ⟨fun hr => hQ a w (mid2_end hC hF hS hB hM hr), fun i hi => ?_⟩
    have hlt := undone_lt hi
    exact wpOpIn_mono (fun a' w' h' => wpAny_mid2 hT hC hF hS hB hQ fuel _ a' w' (by omega) h') (mid2_step hT hC hF hS hB hM hi)
theorem drawn2_ok (hm : P.follows .mixedOrders = true) (hT : TabOk P C.T) (hC : CallOk P C) {id : Nat} (hd : drawOk2 C.sig (fun i => (look2 C.ann.pre rid i).isEmpty) (has2 C.ann.free rid) ops = true) {σ : St} {K : St → Option Res} {res : Res}
    (h : evOps C ops.toList rid ops.toList 0 σ K = some res) {a : Act} {w : World} (hA : At C.T B σ a w) (hQ : ∀ σ' a w, K σ' = some res → At C.T B σ' a w → Q .normal a w) : (Code.region id ops true).wpIn (FR B.ro) 0 P Q a w := by
  obtain ⟨S, e, hS, hK⟩ := evOps_states _ _ _ h
  have hS' : ∀ j o, ops[j]? = some o → step1 C ops.toList rid j o (S j) = some (S (j + 1)) := fun j o hj => by simpa using (hS j o (by simpa using hj)).1
  have hB : ∀ j o, ops[j]? = some o → has2 C.ann.free rid j = true → freeOk C.T (S j) o = true := fun j o hj hf => by
    have := (hS j o (by simpa using hj)).2
    rw [Nat.zero_add] at this
    unfold freeBad at this
    rw [hf] at this
    simpa using this
  refine wpIn_region_any hm (wpAny_mid2 hT hC (drawFacts2 hd) hS' hB (fun a w h' => hQ (S ops.size) a w (by simpa using hK) h') ops.size _ a _ ?_ ?_)
  · unfold undone
    exact Nat.le_trans (List.length_filter_le _ _) (by simp)
  · have hno : ∀ i, ¬ Lst (Array.replicate ops.size false) i := fun i hL => by
      simp only [Lst] at hL
      rcases Nat.lt_or_ge i ops.size with h1 | h1
      · simp [h1] at hL
      · simp [Nat.not_lt.2 h1] at hL
    refine ⟨by simp, fun i o _ hL => absurd hL (hno i), 0, σ, Nat.zero_le _, fun i hi => absurd hi (Nat.not_lt_zero _), fun j _ _ => hno j, .inl rfl, by rw [e], by rw [e], by rw [e], fun j o t _ hL => absurd hL (hno j), fun t _ _ _ => by rw [e], hA.drew⟩
end
end Go.Fw
set_option linter.unusedSimpArgs false
set_option linter.unusedVariables false
namespace Go.Fw
structure Scr (ids : List Nat) (n : Nat) (g : AV → AV) : Prop where
  scr : Scrubs g
  sr : ∀ i, i < n → i ∉ ids → g (.sr i) = .sr i
  ss : ∀ i a b, i < n → i ∉ ids → g (.ss i a b) = .ss i a b
  ptr : ∀ i a, i < n → i ∉ ids → g (.ptr i a) = .ptr i a
  ap : ∀ i a b, i < n → i ∉ ids → g (.ap i a b) = .ap i a b
def StabV (g : AV → AV) (v : AV) : Prop := v.onRefs g = v ∧ ∀ v' : AV, v'.onRefs g = v → v' = v
mutual
theorem stab_fix {ids : List Nat} {n : Nat} {g : AV → AV} (hg : Scr ids n g) : ∀ v : AV, v.stab ids n = true → v.onRefs g = v
  | .agg cs, h => by simp only [AV.onRefs]; rw [stabL_fix hg cs (by simpa [AV.stab] using h)]
  | .tup cs, h => by simp only [AV.onRefs]; rw [stabL_fix hg cs (by simpa [AV.stab] using h)]
  | .fn f a b, h => by
    simp only [AV.stab, Bool.and_eq_true] at h
    simp only [AV.onRefs]; rw [stabL_fix hg a h.1, stabL_fix hg b h.2]
  | .iface t v, h => by simp only [AV.onRefs]; rw [stab_fix hg v (by simpa [AV.stab] using h)]
  | .sr i, h => by
    simp only [AV.stab, Bool.and_eq_true, Nat.blt_eq, Bool.not_eq_true', List.elem_eq_mem, decide_eq_false_iff_not] at h
    exact hg.sr i h.1 h.2
  | .ss i a b, h => by
    simp only [AV.stab, Bool.and_eq_true, Nat.blt_eq, Bool.not_eq_true', List.elem_eq_mem, decide_eq_false_iff_not] at h
    exact hg.ss i a b h.1 h.2
  | .ptr i a, h => by
    simp only [AV.stab, Bool.and_eq_true, Nat.blt_eq, Bool.not_eq_true', List.elem_eq_mem, decide_eq_false_iff_not] at h
    exact hg.ptr i a h.1 h.2
  | .ap i a b, h => by
    simp only [AV.stab, Bool.and_eq_true, Nat.blt_eq, Bool.not_eq_true', List.elem_eq_mem, decide_eq_false_iff_not] at h
    exact hg.ap i a b h.1 h.2
  | .yl i, h => by simp [AV.stab] at h
  | .mp i, h => by simp [AV.stab] at h
  | .undef, h => by simp [AV.stab] at h
  | .k v, h => rfl
  | .sl t kd r, h => rfl
  | .ep t r o, h => rfl
theorem stabL_fix {ids : List Nat} {n : Nat} {g : AV → AV} (hg : Scr ids n g) : ∀ vs : List AV, AV.stabL ids n vs = true → AV.onRefsL g vs = vs
  | [], _ => rfl
  | v :: vs, h => by
    simp only [AV.stabL, Bool.and_eq_true] at h
    simp only [AV.onRefsL]; rw [stab_fix hg v h.1, stabL_fix hg vs h.2]
end
theorem ref_back {g : AV → AV} (hg : Scrubs g) {r v' : AV} (hr : isRef r = true) (h : v'.onRefs g = r) : v' = r := by
  cases v' <;> simp only [AV.onRefs] at h
  all_goals first
    | (subst h; cases hr; done)
    | (rcases hg _ with e | e <;> rw [e] at h <;> first | exact h | (subst h; cases hr))
mutual
theorem stab_back {ids : List Nat} {n : Nat} {g : AV → AV} (hg : Scrubs g) : ∀ v v' : AV, v.stab ids n = true → v'.onRefs g = v → v' = v
  | .agg cs, v', hs, h => by
    cases v' <;> simp only [AV.onRefs] at h
    all_goals first | (cases h; done) | (rcases hg _ with e | e <;> rw [e] at h <;> cases h; done) | skip
    injection h with h
    rw [stabL_back hg cs _ (by simpa [AV.stab] using hs) h]
  | .tup cs, v', hs, h => by
    cases v' <;> simp only [AV.onRefs] at h
    all_goals first | (cases h; done) | (rcases hg _ with e | e <;> rw [e] at h <;> cases h; done) | skip
    injection h with h
    rw [stabL_back hg cs _ (by simpa [AV.stab] using hs) h]
  | .fn f a b, v', hs, h => by
    simp only [AV.stab, Bool.and_eq_true] at hs
    cases v' <;> simp only [AV.onRefs] at h
    all_goals first | (cases h; done) | (rcases hg _ with e | e <;> rw [e] at h <;> cases h; done) | skip
    injection h with h1 h2 h3
    rw [h1, stabL_back hg a _ hs.1 h2, stabL_back hg b _ hs.2 h3]
  | .iface t v, v', hs, h => by
    cases v' <;> simp only [AV.onRefs] at h
    all_goals first | (cases h; done) | (rcases hg _ with e | e <;> rw [e] at h <;> cases h; done) | skip
    injection h with h1 h2
    rw [h1, stab_back hg v _ (by simpa [AV.stab] using hs) h2]
  | .sr i, v', hs, h => ref_back hg rfl h
  | .ss i a b, v', hs, h => ref_back hg rfl h
  | .ptr i a, v', hs, h => ref_back hg rfl h
  | .ap i a b, v', hs, h => ref_back hg rfl h
  | .yl i, v', hs, h => ref_back hg rfl h
  | .mp i, v', hs, h => ref_back hg rfl h
  | .undef, v', hs, h => by simp [AV.stab] at hs
  | .k x, v', hs, h => by
    cases v' <;> simp only [AV.onRefs] at h
    all_goals first | (cases h; done) | (rcases hg _ with e | e <;> rw [e] at h <;> cases h; done) | exact h
  | .sl t kd r, v', hs, h => by
    cases v' <;> simp only [AV.onRefs] at h
    all_goals first | (cases h; done) | (rcases hg _ with e | e <;> rw [e] at h <;> cases h; done) | exact h
  | .ep t r o, v', hs, h => by
    cases v' <;> simp only [AV.onRefs] at h
    all_goals first | (cases h; done) | (rcases hg _ with e | e <;> rw [e] at h <;> cases h; done) | exact h
theorem stabL_back {ids : List Nat} {n : Nat} {g : AV → AV} (hg : Scrubs g) : ∀ vs vs' : List AV, AV.stabL ids n vs = true → AV.onRefsL g vs' = vs → vs' = vs
  | [], vs', _, h => by
    cases vs' with
    | nil => rfl
    | cons x xs => simp [AV.onRefsL] at h
  | v :: vs, vs', hs, h => by
    simp only [AV.stabL, Bool.and_eq_true] at hs
    cases vs' with
    | nil => simp [AV.onRefsL] at h
    | cons x xs =>
      simp only [AV.onRefsL, List.cons.injEq] at h
      rw [stab_back hg v x hs.1 h.1, stabL_back hg vs xs hs.2 h.2]
end
theorem Scr.stab {ids : List Nat} {n : Nat} {g : AV → AV} (hg : Scr ids n g) {v : AV} (h : v.stab ids n = true) : StabV g v := ⟨stab_fix hg v h, fun v' h' => stab_back hg.scr v v' h h'⟩
def StabO (g : AV → AV) (o : AObj) : Prop := o.onRefs g = o ∧ ∀ o' : AObj, o'.onRefs g = o → o' = o
theorem Scr.stabO {ids : List Nat} {n : Nat} {g : AV → AV} (hg : Scr ids n g) {o : AObj} (h : o.stab ids n = true) : StabO g o := by
  cases o with
  | box t cs =>
    simp only [AObj.stab] at h
    refine ⟨by simp only [AObj.onRefs]; rw [stabL_fix hg cs h], fun o' h' => ?_⟩
    cases o' <;> simp only [AObj.onRefs] at h' <;> first | (cases h'; done) | skip
    injection h' with h1 h2
    rw [h1, stabL_back hg.scr cs _ h h2]
  | arx t rows =>
    simp only [AObj.stab, List.all_eq_true] at h
    refine ⟨?_, fun o' h' => ?_⟩
    · simp only [AObj.onRefs]
      have : rows.map (AV.onRefsL g) = rows := by
        conv => rhs; rw [← List.map_id rows]
        exact List.map_congr_left fun r hr => stabL_fix hg r (h r hr)
      rw [this]
    · cases o' <;> simp only [AObj.onRefs] at h' <;> first | (cases h'; done) | skip
      rename_i t' rows'
      injection h' with h1 h2
      subst h1
      congr 1
      induction rows generalizing rows' with
      | nil => simpa using h2
      | cons r rs ih =>
        cases rows' with
        | nil => simp at h2
        | cons r' rs' =>
          simp only [List.map_cons, List.cons.injEq] at h2
          rw [stabL_back hg.scr r r' (h r List.mem_cons_self) h2.1, ih (fun x hx => h x (List.mem_cons_of_mem _ hx)) rs' h2.2]
  | arr t kd rows =>
    refine ⟨rfl, fun o' h' => ?_⟩
    cases o' <;> simp only [AObj.onRefs] at h' <;> first | (cases h'; done) | exact h'
  | iter s p =>
    refine ⟨rfl, fun o' h' => ?_⟩
    cases o' <;> simp only [AObj.onRefs] at h' <;> first | (cases h'; done) | exact h'
  | loop fin p f tm ps a b => simp [AObj.stab] at h
  | map x t es => simp [AObj.stab] at h
  | dead =>
    refine ⟨rfl, fun o' h' => ?_⟩
    cases o' <;> simp only [AObj.onRefs] at h' <;> first | (cases h'; done) | rfl
mutual
theorem scr_comm {g h : AV → AV} (hg : Scrubs g) (hh : Scrubs h) : ∀ v : AV, (v.onRefs g).onRefs h = (v.onRefs h).onRefs g
  | .agg cs => by simp only [AV.onRefs]; rw [scrL_comm hg hh cs]
  | .tup cs => by simp only [AV.onRefs]; rw [scrL_comm hg hh cs]
  | .fn f a b => by simp only [AV.onRefs]; rw [scrL_comm hg hh a, scrL_comm hg hh b]
  | .iface t v => by simp only [AV.onRefs]; rw [scr_comm hg hh v]
  | .sr i => by
    simp only [AV.onRefs]
    rcases hg (.sr i) with e1 | e1 <;> rcases hh (.sr i) with e2 | e2 <;> simp [e1, e2, AV.onRefs]
  | .ss i a b => by
    simp only [AV.onRefs]
    rcases hg (.ss i a b) with e1 | e1 <;> rcases hh (.ss i a b) with e2 | e2 <;> simp [e1, e2, AV.onRefs]
  | .ptr i a => by
    simp only [AV.onRefs]
    rcases hg (.ptr i a) with e1 | e1 <;> rcases hh (.ptr i a) with e2 | e2 <;> simp [e1, e2, AV.onRefs]
  | .ap i a b => by
    simp only [AV.onRefs]
    rcases hg (.ap i a b) with e1 | e1 <;> rcases hh (.ap i a b) with e2 | e2 <;> simp [e1, e2, AV.onRefs]
  | .yl i => by
    simp only [AV.onRefs]
    rcases hg (.yl i) with e1 | e1 <;> rcases hh (.yl i) with e2 | e2 <;> simp [e1, e2, AV.onRefs]
  | .mp i => by
    simp only [AV.onRefs]
    rcases hg (.mp i) with e1 | e1 <;> rcases hh (.mp i) with e2 | e2 <;> simp [e1, e2, AV.onRefs]
  | .undef => rfl
  | .k v => rfl
  | .sl t kd r => rfl
  | .ep t r o => rfl
theorem scrL_comm {g h : AV → AV} (hg : Scrubs g) (hh : Scrubs h) : ∀ vs : List AV, AV.onRefsL h (AV.onRefsL g vs) = AV.onRefsL g (AV.onRefsL h vs)
  | [] => rfl
  | v :: vs => by simp only [AV.onRefsL]; rw [scr_comm hg hh v, scrL_comm hg hh vs]
end
theorem scrO_comm {g h : AV → AV} (hg : Scrubs g) (hh : Scrubs h) (o : AObj) : (o.onRefs g).onRefs h = (o.onRefs h).onRefs g := by
  cases o with
  | box t cs => simp only [AObj.onRefs]; rw [scrL_comm hg hh]
  | arx t rows =>
    simp only [AObj.onRefs, List.map_map]
    congr 1
    exact List.map_congr_left fun r _ => scrL_comm hg hh r
  | loop fin p f tm ps a b => simp only [AObj.onRefs]; rw [scrL_comm hg hh]
  | map x t es =>
    simp only [AObj.onRefs, List.map_map]
    congr 1
    exact List.map_congr_left fun r _ => by simp only [Function.comp]; rw [scrL_comm hg hh]
  | _ => rfl
structure Ap where
  g : AV → AV
  dst : Option Nat
  v : AV
  w : Option (Nat × AObj)
def Ap.tm (p : Ap) (tm : List AV) : List AV := match p.dst with
  | some d => (AV.onRefsL p.g tm).set d p.v
  | none => AV.onRefsL p.g tm
def Ap.st (p : Ap) (st : List AObj) : List AObj := match p.w with
  | some (i, o) => (st.map (AObj.onRefs p.g)).set i o
  | none => st.map (AObj.onRefs p.g)
def Ap.on (p : Ap) (x : List AV × List AObj) : List AV × List AObj := (p.tm x.1, p.st x.2)
structure Indep (p q : Ap) : Prop where
  sp : Scrubs p.g
  sq : Scrubs q.g
  dst : ∀ d, p.dst = some d → q.dst ≠ some d
  vp : p.dst ≠ none → p.v.onRefs q.g = p.v
  vq : q.dst ≠ none → q.v.onRefs p.g = q.v
  w : ∀ i o j o', p.w = some (i, o) → q.w = some (j, o') → i ≠ j
  op : ∀ i o, p.w = some (i, o) → o.onRefs q.g = o
  oq : ∀ i o, q.w = some (i, o) → o.onRefs p.g = o
theorem onRefsL_set (g : AV → AV) (l : List AV) (d : Nat) (v : AV) : AV.onRefsL g (l.set d v) = (AV.onRefsL g l).set d (v.onRefs g) := by
  rw [onRefsL_eq, onRefsL_eq, List.map_set]
theorem Indep.comm {p q : Ap} (h : Indep p q) (x : List AV × List AObj) : q.on (p.on x) = p.on (q.on x) := by
  obtain ⟨tm, st⟩ := x
  simp only [Ap.on, Prod.mk.injEq]
  constructor
  · unfold Ap.tm
    have hc := scrL_comm h.sp h.sq tm
    cases hp : p.dst with
    | none =>
      cases hq : q.dst with
      | none => exact hc
      | some e =>
        simp only
        rw [onRefsL_set, hc, h.vq (by rw [hq]; simp)]
    | some d =>
      cases hq : q.dst with
      | none =>
        simp only
        rw [onRefsL_set, hc, h.vp (by rw [hp]; simp)]
      | some e =>
        simp only
        have hne : d ≠ e := fun e' => h.dst d hp (by rw [hq, e'])
        rw [onRefsL_set, onRefsL_set, hc, h.vp (by rw [hp]; simp), h.vq (by rw [hq]; simp)]
        exact List.set_comm _ _ hne
  · unfold Ap.st
    have hc : (st.map (AObj.onRefs p.g)).map (AObj.onRefs q.g) = (st.map (AObj.onRefs q.g)).map (AObj.onRefs p.g) := by
      rw [List.map_map, List.map_map]
      exact List.map_congr_left fun o _ => scrO_comm h.sp h.sq o
    cases hp : p.w with
    | none =>
      cases hq : q.w with
      | none => exact hc
      | some e =>
        obtain ⟨j, o'⟩ := e
        simp only
        rw [List.map_set, hc, h.oq j o' hq]
    | some d =>
      obtain ⟨i, o⟩ := d
      cases hq : q.w with
      | none =>
        simp only
        rw [List.map_set, hc, h.op i o hp]
      | some e =>
        obtain ⟨j, o'⟩ := e
        simp only
        have hne := h.w i o j o' hp hq
        rw [List.map_set, List.map_set, hc, h.op i o hp, h.oq j o' hq]
        exact List.set_comm _ _ hne
section
variable {A : Nat → Ap}
def app (A : Nat → Ap) (x : List AV × List AObj) (i : Nat) : List AV × List AObj := (A i).on x
theorem fold_move {i : Nat} : ∀ (l : List Nat) (x : List AV × List AObj), (∀ k ∈ l, ∀ x, app A (app A x i) k = app A (app A x k) i) → l.foldl (app A) (app A x i) = app A (l.foldl (app A) x) i
  | [], x, _ => rfl
  | k :: l, x, h => by
    simp only [List.foldl_cons]
    rw [h k List.mem_cons_self, fold_move l _ fun k' hk' => h k' (List.mem_cons_of_mem _ hk')]
theorem fold_split {P : Nat → Bool} : ∀ (l : List Nat) (x : List AV × List AObj), l.Pairwise (fun a b => P a = false → P b = true → ∀ x, app A (app A x a) b = app A (app A x b) a) →
    l.foldl (app A) x = (l.filter fun i => !P i).foldl (app A) ((l.filter P).foldl (app A) x)
  | [], x, _ => rfl
  | a :: l, x, h => by
    obtain ⟨h1, h2⟩ := List.pairwise_cons.1 h
    simp only [List.foldl_cons]
    rw [fold_split l _ h2]
    cases hP : P a with
    | true => simp [hP]
    | false =>
      simp only [List.filter_cons, hP, Bool.not_false, if_true, Bool.false_eq_true, if_false, List.foldl_cons]
      congr 1
      exact fold_move _ _ fun k hk => h1 k (List.mem_filter.1 hk).1 hP (List.mem_filter.1 hk).2
end
end Go.Fw
set_option linter.unusedSimpArgs false
set_option linter.unusedVariables false
namespace Go.Fw
def SameAt (ids : List Nat) (σ τ : St) : Prop := ∀ i ∈ ids, τ.st.getD i .dead = σ.st.getD i .dead
inductive Eff where
  | none | new (o : AObj) | write (id : Nat) (o : AObj) | own (id : Nat) (o : AObj)
def Eff.on (e : Eff) (σ : St) : St := match e with
  | .none => σ
  | .new o => σ.new o
  | .write id o => { σ with st := σ.st.set id o }
  | .own id o => { σ.scrub id with st := (σ.scrub id).st.set id o, moved := bif σ.moved.elem id then σ.moved else id :: σ.moved }
section
variable {T : Tab} {σ τ : St} {x y : AV}
theorem aslice_at (h : SameAt (topIds x) σ τ) (t : Nat) (a b d : Option AV) : aslice T τ t x a b d = aslice T σ t x a b d := by
  cases x with
  | sr id => have e := h id (by simp [topIds]); simp only [aslice, e]
  | ss id _ _ => have e := h id (by simp [topIds]); simp only [aslice, e]
  | _ => rfl
theorem aindexAddr_at (h : SameAt (topIds x) σ τ) (t : Nat) (i : AV) : aindexAddr T τ t x i = aindexAddr T σ t x i := by
  cases x with
  | sr id => have e := h id (by simp [topIds]); simp only [aindexAddr, e]
  | ss id _ _ => have e := h id (by simp [topIds]); simp only [aindexAddr, e]
  | _ => rfl
theorem alen_at (h : SameAt (topIds x) σ τ) (t : Nat) : alen T τ t x = alen T σ t x := by
  cases x with
  | sr id => have e := h id (by simp [topIds]); simp only [alen, e]
  | mp id => have e := h id (by simp [topIds]); simp only [alen, e]
  | k v => cases v <;> first | rfl | (rename_i p; cases p <;> rfl)
  | _ => rfl
theorem isNil_at (d : TD) (h : SameAt (topIds x) σ τ) : isNil d τ x = isNil d σ x := by
  cases x with
  | sr id => have e := h id (by simp [topIds]); cases d <;> first | rfl | simp only [isNil, e]
  | k v => cases d <;> cases v <;> first | rfl | (rename_i p; cases p <;> rfl)
  | _ => cases d <;> rfl
theorem abinOp_at (op : BinOp) (t : Nat) (hx : SameAt (topIds x) σ τ) (hy : SameAt (topIds y) σ τ) : abinOp T τ op t x y = abinOp T σ op t x y := by
  have h2 : aeq T τ t x y = aeq T σ t x y := by
    unfold aeq
    cases T t with
    | none => rfl
    | some ti =>
      simp only
      cases ti.d <;> simp only [isNil_at _ hx, isNil_at _ hy]
  unfold abinOp
  split
  · rfl
  · rfl
  · cases op <;> first | rfl | simp only [h2]
theorem rowsOf_at (h : SameAt (topIds x) σ τ) : rowsOf τ x = rowsOf σ x := by
  cases x with
  | sr id => have e := h id (by simp [topIds]); simp only [rowsOf, e]
  | ss id _ _ => have e := h id (by simp [topIds]); simp only [rowsOf, e]
  | k v => cases v <;> rfl
  | _ => rfl
theorem elemOk_at (e : Nat) (h : SameAt (topIds x) σ τ) : elemOk τ e x = elemOk σ e x := by
  cases x with
  | sr id => have e := h id (by simp [topIds]); simp only [elemOk, e]
  | ss id _ _ => have e := h id (by simp [topIds]); simp only [elemOk, e]
  | k v => cases v <;> rfl
  | _ => rfl
def Loc (Q : Eff → AV → Prop) (σ τ : St) (r r' : Ab (St × AV)) : Prop := ∀ c σ1 v, r = some (c, σ1, v) → ∃ e, Q e v ∧ σ1 = e.on σ ∧ r' = some (c, e.on τ, v)
theorem Loc.none {Q : Eff → AV → Prop} {r' : Ab (St × AV)} : Loc Q σ τ (none : Ab (St × AV)) r' := fun _ _ _ h => by cases h
theorem Loc.bif {Q : Eff → AV → Prop} {b : Bool} {r r' : Ab (St × AV)} (h : Loc Q σ τ r r') : Loc Q σ τ (bif b then r else Option.none) (bif b then r' else Option.none) := by
  cases b
  · exact Loc.none
  · exact h
theorem Loc.mk {Q : Eff → AV → Prop} {c : Bool} {v : AV} (e : Eff) (h : Q e v) : Loc Q σ τ (some (c, e.on σ, v)) (some (c, e.on τ, v)) := fun c' σ1 v' h' => by
  cases h'; exact ⟨e, h, rfl, rfl⟩
theorem Loc.new {Q : Eff → AV → Prop} {c : Bool} {o : AObj} (hl : τ.st.length = σ.st.length) (h : Q (.new o) (.sr σ.st.length)) : Loc Q σ τ (some (c, σ.new o, .sr σ.st.length)) (some (c, τ.new o, .sr τ.st.length)) := by
  rw [hl]; exact Loc.mk (.new o) h
def AppQ (e : Eff) (v : AV) : Prop := (∃ o, e = .new o) ∨ (∃ id o, e = .own id o ∧ v = .sr id) ∨ (∃ id o a n, e = .write id o ∧ v = .ss id a n)
def NewQ (e : Eff) (_ : AV) : Prop := ∃ o, e = .new o
theorem aappend_at {s : AV} (hl : τ.st.length = σ.st.length) (t : Nat) (hs : SameAt (topIds s) σ τ) (hx : SameAt (topIds x) σ τ) :
    (aappend T σ t s x = none → aappend T τ t s x = none) ∧ Loc AppQ σ τ (aappend T σ t s x) (aappend T τ t s x) := by
  unfold aappend
  split
  · rename_i e _ _ _
    rw [rowsOf_at hx]
    split
    · rename_i te ys h1 h2
      rw [elemOk_at e hx]
      cases hb : (elemOk σ e x && (!(te.cells.isEmpty || Nat.beq te.bytes 0) && strOk te x))
      · exact ⟨fun _ => rfl, Loc.none⟩
      simp only [cond_true]
      cases s <;> try exact ⟨fun _ => rfl, Loc.none⟩
      · rename_i u kd rows
        cases kd <;> try exact ⟨fun _ => rfl, Loc.none⟩
        · exact ⟨fun h => (nomatch h), Loc.new hl (.inl ⟨_, rfl⟩)⟩
        all_goals
          cases rows with
          | nil => exact ⟨fun h => (nomatch h), Loc.new hl (.inl ⟨_, rfl⟩)⟩
          | cons r rs =>
            simp only
            cases Nat.beq u e
            · exact ⟨fun _ => rfl, Loc.none⟩
            · exact ⟨fun h => (nomatch h), Loc.new hl (.inl ⟨_, rfl⟩)⟩
      · rename_i id
        have eq := hs id (by simp [topIds])
        simp only [eq]
        cases σ.st.getD id .dead <;> try exact ⟨fun _ => rfl, Loc.none⟩
        rename_i u kd rows
        simp only
        cases Nat.beq u e
        · exact ⟨fun _ => rfl, Loc.none⟩
        · exact ⟨fun h => (nomatch h), Loc.mk (.own id _) (.inr (.inl ⟨_, _, rfl, rfl⟩))⟩
      · rename_i id a n
        have eq := hs id (by simp [topIds])
        simp only [eq]
        cases σ.st.getD id .dead <;> try exact ⟨fun _ => rfl, Loc.none⟩
        rename_i u kd rows
        simp only
        cases Nat.beq u e
        · exact ⟨fun _ => rfl, Loc.none⟩
        · exact ⟨fun h => (nomatch h), Loc.mk (.write id _) (.inr (.inr ⟨_, _, _, _, rfl, rfl⟩))⟩
    · exact ⟨fun _ => rfl, Loc.none⟩
  · exact ⟨fun _ => rfl, Loc.none⟩
theorem aappendX_at {s : AV} (hl : τ.st.length = σ.st.length) (t : Nat) (hs : SameAt (topIds s) σ τ) (hx : SameAt (topIds x) σ τ) : Loc AppQ σ τ (aappendX T σ t s x) (aappendX T τ t s x) := by
  unfold aappendX
  split
  · rename_i e _ _ jd _
    have eqx := hx jd (by simp [topIds])
    simp only [eqx]
    cases T e with
    | none => exact Loc.none
    | some te =>
      cases σ.st.getD jd .dead <;> try exact Loc.none
      simp only
      refine Loc.bif ?_
      cases s <;> try exact Loc.none
      · rename_i u kd rows
        cases kd <;> try exact Loc.none
        exact Loc.new hl (.inl ⟨_, rfl⟩)
      · rename_i id
        have eq := hs id (by simp [topIds])
        simp only [eq]
        cases σ.st.getD id .dead <;> try exact Loc.none
        exact Loc.bif (Loc.mk (.own id _) (.inr (.inl ⟨_, _, rfl, rfl⟩)))
  · exact Loc.none
theorem aappendZ_at {s : AV} (hl : τ.st.length = σ.st.length) (t u : Nat) (hs : SameAt (topIds s) σ τ) : Loc AppQ σ τ (aappendZ T σ t u s x) (aappendZ T τ t u s x) := by
  unfold aappendZ
  split
  · rename_i e _ _ _ _ k _ _
    cases T e with
    | none => exact Loc.none
    | some te =>
      cases s <;> try exact Loc.none
      rename_i id a n
      have eq := hs id (by simp [topIds])
      simp only [eq]
      cases σ.st.getD id .dead <;> try exact Loc.none
      rename_i v kd rows
      cases kd <;> try exact Loc.none
      exact Loc.bif (Loc.new hl (.inl ⟨_, rfl⟩))
  · exact Loc.none
theorem append_at {ts : List Nat} {as : List AV} (hl : τ.st.length = σ.st.length) (h : ∀ x ∈ as, SameAt (topIds x) σ τ) : Loc AppQ σ τ (abuiltin T σ .append ts as) (abuiltin T τ .append ts as) := by
  rcases ts with _ | ⟨t, _ | ⟨u, _ | ⟨z, ts⟩⟩⟩ <;> rcases as with _ | ⟨s, _ | ⟨x, _ | ⟨y, as⟩⟩⟩ <;> first | exact Loc.none | skip
  simp only [abuiltin]
  have hs := h s (by simp)
  have hx := h x (by simp)
  cases srcType T u with
  | false => exact aappendZ_at hl t u hs
  | true =>
    simp only [cond_true]
    obtain ⟨h1, h2⟩ := aappend_at (T := T) hl t hs hx
    cases hr : aappend T σ t s x with
    | none => rw [h1 hr]; exact aappendX_at hl t hs hx
    | some r =>
      obtain ⟨c, σ1, v⟩ := r
      obtain ⟨e, q, e1, e2⟩ := h2 c σ1 v hr
      rw [e2, e1]
      exact Loc.mk e q
theorem abuildSlice_at (hl : τ.st.length = σ.st.length) (t len : Nat) (ps : List (Nat × AV)) :
    (abuildSlice T σ t len ps = none → abuildSlice T τ t len ps = none) ∧ (∀ σ1 v, abuildSlice T σ t len ps = some (σ1, v) → ∃ o, σ1 = σ.new o ∧ abuildSlice T τ t len ps = some (τ.new o, v)) := by
  unfold abuildSlice
  split
  · rename_i e _ _ _
    cases T e with
    | none => exact ⟨fun _ => rfl, fun _ _ h => (nomatch h)⟩
    | some te =>
      simp only
      cases te.cells with
      | nil => exact ⟨fun _ => rfl, fun _ _ h => (nomatch h)⟩
      | cons c cs =>
        simp only
        cases Nat.ble _ _
        · exact ⟨fun _ => rfl, fun _ _ h => (nomatch h)⟩
        · simp only [cond_true]
          cases fillRows _ _ _ ps with
          | none => exact ⟨fun _ => rfl, fun _ _ h => (nomatch h)⟩
          | some rows => exact ⟨fun h => (nomatch h), fun σ1 v h => by cases h; rw [hl]; exact ⟨_, rfl, rfl⟩⟩
  · exact ⟨fun _ => rfl, fun _ _ h => (nomatch h)⟩
theorem abuildX_at (hl : τ.st.length = σ.st.length) (t len : Nat) (ps : List (Nat × AV)) :
    (∀ σ1 v, abuildX T σ t len ps = some (σ1, v) → ∃ o, σ1 = σ.new o ∧ abuildX T τ t len ps = some (τ.new o, v)) := by
  unfold abuildX
  split
  · rename_i e _ _ _
    cases T e with
    | none => exact fun _ _ h => (nomatch h)
    | some te =>
      simp only
      cases (Nat.blt 0 len && (Nat.blt 0 te.cells.length && Nat.ble (len * te.cells.length) (2 ^ 24)))
      · exact fun _ _ h => (nomatch h)
      · simp only [cond_true]
        cases fillX _ _ ps with
        | none => exact fun _ _ h => (nomatch h)
        | some rows => exact fun σ1 v h => by cases h; rw [hl]; exact ⟨_, rfl, rfl⟩
  · exact fun _ _ h => (nomatch h)
theorem amakeSlice_at (hl : τ.st.length = σ.st.length) (t : Nat) (l c : AV) : Loc NewQ σ τ (amakeSlice T σ t l c) (amakeSlice T τ t l c) := by
  unfold amakeSlice
  split
  · rename_i e _ _ _ _ _ _ _
    cases T e with
    | none => exact Loc.none
    | some te =>
      simp only
      cases (te.cells.isEmpty || Nat.beq te.bytes 0)
      · exact Loc.new hl ⟨_, rfl⟩
      · exact Loc.none
  · exact Loc.none
theorem astore_at (t : Nat) (v a : AV) (h : SameAt (topIds a) σ τ) : ∀ σ1, astore T σ t v a = some σ1 → ∃ id o, headId (topIds a) = some id ∧ σ1 = (Eff.write id o).on σ ∧ astore T τ t v a = some ((Eff.write id o).on τ) := by
  unfold astore
  cases a
  case ptr id off =>
    have eq := h id (by simp [topIds])
    simp only [eq]
    intro σ1 h1
    split at h1
    · rename_i bt cs ti h2 h3
      simp only [cond_eq_ite] at h1 ⊢
      split at h1
      · rename_i hc; rw [if_pos hc]; cases h1; exact ⟨id, _, rfl, rfl, rfl⟩
      · cases h1
    · cases h1
  case ap id i off =>
    have eq := h id (by simp [topIds])
    simp only [eq]
    intro σ1 h1
    split at h1
    · rename_i e kd rows ti h2 h3
      split at h1
      · rename_i te h4
        simp only [cond_eq_ite] at h1 ⊢
        split at h1
        · rename_i hc; rw [if_pos hc]; cases h1; exact ⟨id, _, rfl, rfl, rfl⟩
        · cases h1
      · cases h1
    · rename_i e rows ti h2 h3
      split at h1
      · rename_i te h4
        simp only [cond_eq_ite] at h1 ⊢
        split at h1
        · rename_i hc; rw [if_pos hc]; cases h1; exact ⟨id, _, rfl, rfl, rfl⟩
        · cases h1
      · cases h1
    · cases h1
  all_goals (intro σ1 h1; cases h1)
end
end Go.Fw
