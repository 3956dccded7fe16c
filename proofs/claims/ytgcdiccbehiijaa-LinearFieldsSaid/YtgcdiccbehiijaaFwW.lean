/- The framework, part W: drawn regions: every order comes to the same. -/
import Derived.Test.YtgcdiccbehiijaaFwV
set_option linter.all false
set_option linter.unusedSimpArgs false
set_option linter.unusedVariables false
namespace Go.Fw

section
variable {P : Program} {T : Tab} {C : Ctx} {B : Base} {E : Env} {Z : Nat → Prop} {σ : St} {a : Act} {w w' : World} {Q : Exit → Act → World → Prop} {vals : List Value}

theorem StR.heap (h : StR T E Z w σ vals) (hw : w'.heap = w.heap) : StR T E Z w' σ vals := by
  have hc : ∀ b o, w'.cell? ⟨b, o, none⟩ = w.cell? ⟨b, o, none⟩ := fun b o => cell?_of_heap (by rw [hw]) o
  refine ⟨⟨fun id o ho => ?_, h.sr.out, h.sr.inj, h.sr.zown, fun b hz => by rw [hw]; exact h.sr.zlt b hz⟩, h.tm.mono (fun i v hv => ⟨hv, rfl⟩) (fun _ hz => hz) (fun b o _ => hc b o)⟩
  have := (h.sr.obj id o ho).map (E' := E) (Z' := Z) (w' := w') (id' := id) (fun x => x) (fun _ hz => hz) (fun b o _ => hc b o)
    (fun r v hr hv => hv.mono (fun i v hv => ⟨hv, rfl⟩) (fun _ hz => hz) (fun b o _ => hc b o)) rfl rfl (fun B _ => by rw [hw])
  rwa [AObj.onRefs_id] at this

theorem At.drew (h : At T B σ a w) : At T B σ a { w with drawn := w.drawn + 1 } := by
  obtain ⟨hd, E, Z, h1, h2, h3, h4⟩ := h
  exact ⟨hd, E, Z, h1.heap rfl, ⟨h2.os, h2.tape, h2.output, h2.size, h2.same, h2.zin, h2.zout, h2.oout⟩, h3, h4⟩

theorem step1_quiet (hC : CallOk P C) {ops : Array Oper} {rid i : Nat} {o : Oper} (hq : quietOp C.sig o = true) (hp : look2 C.ann.pre rid i = []) {σ σ1 : St} (h : step1 C ops.toList rid i o σ = some σ1) :
    ∃ v, σ1 = σ.put o.dst v ∧ ∀ σ' : St, σ'.st = σ.st → (∀ t ∈ o.looksAt ops, σ'.tmps.getD t .undef = σ.tmps.getD t .undef) → step1 C ops.toList rid i o σ' = some (σ'.put o.dst v) := by
  have hgd : ∀ σ' : St, (∀ t ∈ o.looksAt ops, σ'.tmps.getD t .undef = σ.tmps.getD t .undef) → guardOf ops.toList σ' o = guardOf ops.toList σ o := fun σ' ht => by
    unfold guardOf
    cases hg : o.guard with
    | none => rfl
    | some jw =>
      obtain ⟨j, want⟩ := jw
      simp only
      cases hj : ops.toList[j]? with
      | none => rfl
      | some og =>
        simp only
        cases hd : og.dst with
        | none => rfl
        | some d =>
          have hj' : ops[j]? = some og := by simpa using hj
          have hd' : d ∈ o.looksAt ops := by
            unfold Oper.looksAt
            rw [hg]
            refine List.mem_append.2 (.inr ?_)
            simp [hj', hd]
          simp only [ht d hd']
  unfold step1 at h ⊢
  split at h
  · cases h
  · rename_i hg
    rw [hp] at h
    simp only [St.weaks] at h
    split at h
    · rename_i σ2 v hex
      cases h
      have hquiet := exec1_quiet hC hq (σ' := σ) rfl (fun _ _ => rfl) hex
      obtain ⟨rfl, _⟩ := hquiet
      refine ⟨v, rfl, fun σ' hs ht => ?_⟩
      rw [hgd σ' ht, hg, hp]
      simp only [St.weaks]
      have hev : ∀ x ∈ o.op.operands.toList, σ'.eval x = σ2.eval x := fun x hx => eval_congr fun t ht' => ht t (by
        subst ht'
        unfold Oper.looksAt
        exact List.mem_append.2 (.inl (List.mem_filterMap.2 ⟨_, hx, rfl⟩)))
      rw [(exec1_quiet hC hq hs hev hex).2]
    · cases h
  · rename_i hg
    cases h
    refine ⟨_, rfl, fun σ' hs ht => ?_⟩
    rw [hgd σ' ht, hg]

theorem put_st (σ : St) (d : Option Nat) (v : AV) : (σ.put d v).st = σ.st ∧ (σ.put d v).moved = σ.moved ∧ (σ.put d v).tmps.length = σ.tmps.length := by
  cases d <;> simp [St.put]

theorem put_get_ne (σ : St) {d : Option Nat} (v : AV) {t : Nat} (h : d ≠ some t) : (σ.put d v).tmps[t]? = σ.tmps[t]? := by
  cases d with
  | none => rfl
  | some d => simp only [St.put]; exact List.getElem?_set_ne (fun e => h (by rw [e]))

theorem put_get_eq (σ σ' : St) {d : Option Nat} (v : AV) {t : Nat} (h : d = some t) (hl : σ.tmps.length = σ'.tmps.length) : (σ.put d v).tmps[t]? = (σ'.put d v).tmps[t]? := by
  subst h
  simp only [St.put, List.getElem?_set, hl, if_true]

/-- what is known while a drawn region is done -/
structure Mid (C : Ctx) (B : Base) (rid : Nat) (ops : Array Oper) (S : Nat → St) (qt : Nat → Prop) (listed : Array Bool) (a : Act) (w : World) : Prop where
  size : listed.size = ops.size
  closed : Closed ops.toList (Lst listed)
  mid : ∃ b σ, b ≤ ops.size ∧ (∀ i, i < b → Lst listed i) ∧ (∀ c, b ≤ c → c < ops.size → ¬ qt c → ∀ j, c ≤ j → ¬ Lst listed j) ∧
    σ.st = (S b).st ∧ σ.moved = (S b).moved ∧ σ.tmps.length = (S b).tmps.length ∧
    (∀ (j : Nat) (o : Oper) (t : Nat), b ≤ j → ops[j]? = some o → Lst listed j → o.dst = some t → σ.tmps[t]? = (S (j + 1)).tmps[t]?) ∧
    (∀ (t : Nat), (∀ (j : Nat) (o : Oper), b ≤ j → ops[j]? = some o → Lst listed j → o.dst ≠ some t) → σ.tmps[t]? = (S b).tmps[t]?) ∧ At C.T B σ a w

end

section
variable {P : Program} {C : Ctx} {B : Base} {rid : Nat} {ops : Array Oper} {S : Nat → St} {Q : Exit → Act → World → Prop}

/-- behind quiet operations -/
theorem run_same {qt : Nat → Prop} (hS : ∀ j o, ops[j]? = some o → qt j → ∃ v, S (j + 1) = (S j).put o.dst v) : ∀ (l b : Nat), b + l ≤ ops.size → (∀ j, b ≤ j → j < b + l → qt j) →
    (S (b + l)).st = (S b).st ∧ (S (b + l)).moved = (S b).moved ∧ (S (b + l)).tmps.length = (S b).tmps.length ∧
    ∀ t, (∀ (j : Nat) (o : Oper), b ≤ j → j < b + l → ops[j]? = some o → o.dst ≠ some t) → (S (b + l)).tmps[t]? = (S b).tmps[t]?
  | 0, b, _, _ => ⟨rfl, rfl, rfl, fun _ _ => rfl⟩
  | l + 1, b, hle, hq => by
    obtain ⟨h1, h2, h3, h4⟩ := run_same hS l b (by omega) (fun j hj hj' => hq j hj (by omega))
    have hi : b + l < ops.size := by omega
    have ho : ops[b + l]? = some ops[b + l] := Array.getElem?_eq_getElem hi
    obtain ⟨v, hv⟩ := hS _ _ ho (hq _ (by omega) (by omega))
    have hp := put_st (S (b + l)) ops[b + l].dst v
    rw [← Nat.add_assoc, hv]
    refine ⟨hp.1.trans h1, hp.2.1.trans h2, hp.2.2.trans h3, fun t ht => ?_⟩
    rw [put_get_ne _ _ (ht (b + l) _ (by omega) (by omega) ho)]
    exact h4 t fun j o hj hj' => ht j o hj (by omega)

/-- the facts that are checked of a drawn region -/
structure DrawFacts (C : Ctx) (rid : Nat) (ops : Array Oper) (qt : Nat → Prop) : Prop where
  back : ∀ j y, ops[j]? = some y → ∀ e ∈ y.after, Region.binds .any e = true → e.on < j
  /-- an operation that must stand ahead of another -/
  pair : ∀ i j x y, i < j → ops[i]? = some x → ops[j]? = some y →
    (∀ L, Closed ops.toList L → (∀ e ∈ y.after, Region.binds .any e = true → L e.on) → L i) ∨
    (qt i ∧ qt j ∧ x.apart ops y = true)
  dst : ∀ i j x y t, i < j → ops[i]? = some x → ops[j]? = some y → qt i → qt j → x.dst = some t → y.dst ≠ some t
  quiet : ∀ j y, ops[j]? = some y → qt j → quietOp C.sig y = true ∧ look2 C.ann.pre rid j = []

theorem drawFacts (hd : drawOk C.sig (fun i => (look2 C.ann.pre rid i).isEmpty) ops = true) :
    DrawFacts C rid ops (fun j => ∃ y, ops[j]? = some y ∧ isQuiet C.sig (fun i => (look2 C.ann.pre rid i).isEmpty) j y = true) := by
  have hj : ∀ j y, ops[j]? = some y → (y.after.toList.all (fun e => !Region.binds .any e || Nat.blt e.on j) = true ∧
      ∀ i x, i < j → ops[i]? = some x → pairOk C.sig (fun i => (look2 C.ann.pre rid i).isEmpty) ops (prds ops.toList []) i j x y = true) := fun j y hy => by
    unfold drawOk at hd
    have hlt : j < ops.size := (Array.getElem?_eq_some_iff.1 hy).1
    have h1 := List.all_eq_true.1 hd j (List.mem_range.2 hlt)
    simp only [hy, Bool.and_eq_true] at h1
    refine ⟨h1.1, fun i x hi hx => ?_⟩
    have h2 := List.all_eq_true.1 h1.2 i (List.mem_range.2 hi)
    simpa only [hx] using h2
  have hps : ∀ i j y, ops[j]? = some y → ((prds ops.toList []).getD j []).elem i = true → ∀ L, Closed ops.toList L → (∀ e ∈ y.after, Region.binds .any e = true → L e.on) → L i := fun i j y hy hb L hL he =>
    prds_ok hL ops.toList [] [] rfl rfl (fun i o h => by simp at h) j y (by simpa using hy) he i (by simpa using hb)
  refine ⟨fun j y hy e he hb => ?_, fun i j x y hij hx hy => ?_, fun i j x y t hij hx hy hqi hqj hdx hdy => ?_, fun j y hy ⟨y', hy', hq⟩ => ?_⟩
  · have := List.all_eq_true.1 (hj j y hy).1 e (by simpa using he)
    simpa [hb, Nat.blt_eq] using this
  · have := (hj j y hy).2 i x hij hx
    unfold pairOk at this
    simp only at this
    cases hq : isQuiet C.sig (fun i => (look2 C.ann.pre rid i).isEmpty) i x && isQuiet C.sig (fun i => (look2 C.ann.pre rid i).isEmpty) j y with
    | false => rw [hq] at this; exact .inl (hps i j y hy this)
    | true =>
      rw [hq] at this
      simp only [cond_true, Bool.and_eq_true, Bool.or_eq_true] at this hq
      rcases this.2 with h1 | h1
      · exact .inl (hps i j y hy h1)
      · exact .inr ⟨⟨x, hx, hq.1⟩, ⟨y, hy, hq.2⟩, h1⟩
  · obtain ⟨x', hx', hqi⟩ := hqi
    obtain ⟨y', hy', hqj⟩ := hqj
    rw [hx] at hx'; cases hx'
    rw [hy] at hy'; cases hy'
    have := (hj j y hy).2 i x hij hx
    unfold pairOk at this
    simp only [hqi, hqj, Bool.and_true, cond_true, Bool.and_eq_true, hdx, hdy] at this
    simp at this
  · rw [hy] at hy'; cases hy'
    simp only [isQuiet, Bool.and_eq_true] at hq
    exact ⟨hq.1, by simpa using hq.2⟩

theorem mid_step (hT : TabOk P C.T) (hC : CallOk P C) {qt : Nat → Prop} (hF : DrawFacts C rid ops qt) (hS : ∀ j o, ops[j]? = some o → step1 C ops.toList rid j o (S j) = some (S (j + 1)))
    {listed : Array Bool} {a : Act} {w : World} (hM : Mid C B rid ops S qt listed a w) {i : Nat} (hi : i ∈ Region.ready .any ops listed) :
    wpOp P ops Q i (fun a' w' => Mid C B rid ops S qt (listed.setIfInBounds i true) a' w') a w := by
  obtain ⟨hun, o, ho, hed⟩ := mem_ready.1 hi
  obtain ⟨hisz, hnL⟩ := not_Lst hun
  obtain ⟨hsize, hcl, b, σ, hb, hbl, hnq, e1, e2, e3, t1, t2, hA⟩ := hM
  have hin : i < ops.size := hsize ▸ hisz
  have hL' : ∀ j, Lst (listed.setIfInBounds i true) j ↔ j = i ∨ Lst listed j := fun j => Lst_set hisz
  have hib : b ≤ i := by
    rcases Nat.lt_or_ge i b with h | h
    · exact absurd (hbl i h) hnL
    · exact h
  have hSq : ∀ j o, ops[j]? = some o → qt j → ∃ v, S (j + 1) = (S j).put o.dst v := fun j o hj hq => by
    obtain ⟨h1, h2⟩ := hF.quiet j o hj hq
    obtain ⟨v, hv, _⟩ := step1_quiet hC h1 h2 (hS j o hj)
    exact ⟨v, hv⟩
  have hcl' : Closed ops.toList (Lst (listed.setIfInBounds i true)) := fun j oj hj hLj e he hbnd => by
    rcases (hL' j).1 hLj with rfl | h
    · have hj' : ops[j]? = some oj := by simpa using hj
      rw [ho] at hj'; cases hj'
      exact (hL' _).2 (.inr (hed e he hbnd))
    · exact (hL' _).2 (.inr (hcl j oj hj h e he hbnd))
  have hsize' : (listed.setIfInBounds i true).size = ops.size := by simpa using hsize
  -- what stands ahead of 'i' for sure is done, and what it stands ahead of is not
  have ahead : ∀ j x, ops[j]? = some x → (∀ L, Closed ops.toList L → (∀ e ∈ o.after, Region.binds .any e = true → L e.on) → L j) → Lst listed j := fun j x hj h => h _ hcl hed
  have behind : ∀ j y, ops[j]? = some y → (∀ L, Closed ops.toList L → (∀ e ∈ y.after, Region.binds .any e = true → L e.on) → L i) → ¬ Lst listed j := fun j y hj h hLj =>
    hnL (h _ hcl (fun e he hbnd => hcl j y (by simpa using hj) hLj e he hbnd))
  have get : ∀ j, j < ops.size → ∃ y, ops[j]? = some y := fun j hj => ⟨_, Array.getElem?_eq_getElem hj⟩
  -- between b and i everything is quiet
  have quiet_mid : ∀ j, b ≤ j → j < i → qt j := fun j hj hji => by
    refine Classical.byContradiction fun hq => ?_
    obtain ⟨x, hx⟩ := get j (by omega)
    rcases hF.pair j i x o hji hx ho with h | ⟨h, _⟩
    · exact hnq j hj (by omega) hq j (Nat.le_refl _) (ahead j x hx h)
    · exact hq h
  have hi' : i = b + (i - b) := by omega
  obtain ⟨r1, r2, r3, r4⟩ := run_same (S := S) hSq (i - b) b (by omega) (fun j hj hj' => quiet_mid j hj (by omega))
  rw [← hi'] at r1 r2 r3 r4
  -- the state at a place that an operation ahead has written
  have written : ∀ j x t, b ≤ j → j < i → ops[j]? = some x → x.dst = some t → (S i).tmps[t]? = (S (j + 1)).tmps[t]? := fun j x t hj hji hx hxt => by
    have hi2 : i = (j + 1) + (i - (j + 1)) := by omega
    have := (run_same (S := S) hSq (i - (j + 1)) (j + 1) (by omega) (fun k hk hk' => quiet_mid k (by omega) (by omega))).2.2.2 t
      (fun k y hk hk' hy => hF.dst j k x y t (by omega) hx hy (quiet_mid j hj hji) (quiet_mid k (by omega) (by omega)) hxt)
    rwa [← hi2] at this
  by_cases hq : qt i
  · -- a quiet operation
    obtain ⟨hq1, hq2⟩ := hF.quiet i o ho hq
    obtain ⟨v, hv, hcong⟩ := step1_quiet hC hq1 hq2 (hS i o ho)
    have hreads : ∀ t ∈ o.looksAt ops, σ.tmps.getD t .undef = (S i).tmps.getD t .undef := fun t ht => by
      rw [List.getD_eq_getElem?_getD, List.getD_eq_getElem?_getD]
      congr 1
      by_cases hw : ∃ j x, b ≤ j ∧ j < i ∧ ops[j]? = some x ∧ x.dst = some t
      · obtain ⟨j, x, hj, hji, hx, hxt⟩ := hw
        have hLj : Lst listed j := by
          rcases hF.pair j i x o hji hx ho with h | ⟨_, _, hap⟩
          · exact ahead j x hx h
          · exact absurd ht ((Oper.apart_spec hap).1 t hxt)
        rw [t1 j x t hj hx hLj hxt, written j x t hj hji hx hxt]
      · have hnw : ∀ (j : Nat) (x : Oper), b ≤ j → ops[j]? = some x → Lst listed j → x.dst ≠ some t := fun j x hj hx hLj hxt => by
          rcases Nat.lt_trichotomy j i with hlt | heq | hgt
          · exact hw ⟨j, x, hj, hlt, hx, hxt⟩
          · exact hnL (heq ▸ hLj)
          · rcases hF.pair i j o x hgt ho hx with h | ⟨_, _, hap⟩
            · exact behind j x hx h hLj
            · exact (Oper.apart_spec hap).2.2 t hxt ht
        rw [t2 t hnw, r4 t (fun j x hj hj' hx hxt => hw ⟨j, x, hj, by omega, hx, hxt⟩)]
    have hst := hcong σ (e1.trans r1.symm) hreads
    refine step1_ok hT hC ho hst hA fun a' w' hA' => ⟨hsize', hcl', b, _, hb, fun j hj => (hL' j).2 (.inr (hbl j hj)), fun c hc hcn hqc j hj hLj => ?_, ?_, ?_, ?_, fun j x t hj hx hLj hxt => ?_, fun t ht => ?_, hA'⟩
    · rcases (hL' j).1 hLj with rfl | h
      · rcases Nat.lt_or_eq_of_le hj with h | h
        · exact hqc (quiet_mid c hc h)
        · exact hqc (h ▸ hq)
      · exact hnq c hc hcn hqc j hj h
    · exact (put_st σ o.dst v).1.trans e1
    · exact (put_st σ o.dst v).2.1.trans e2
    · exact (put_st σ o.dst v).2.2.trans e3
    · rcases (hL' j).1 hLj with rfl | h
      · rw [ho] at hx; cases hx
        rw [hv]; exact put_get_eq _ _ v hxt (e3.trans r3.symm)
      · have hne : o.dst ≠ some t := fun hot => by
          have hqj : qt j := Classical.byContradiction fun hqj => hnq j hj (Array.getElem?_eq_some_iff.1 hx).1 hqj j (Nat.le_refl _) h
          rcases Nat.lt_trichotomy j i with hlt | heq | hgt
          · exact hF.dst j i x o t hlt hx ho hqj hq hxt hot
          · exact hnL (heq ▸ h)
          · exact hF.dst i j o x t hgt ho hx hq hqj hot hxt
        rw [put_get_ne _ _ hne]; exact t1 j x t hj hx h hxt
    · have hne : o.dst ≠ some t := ht i o hib ho ((hL' i).2 (.inl rfl))
      rw [put_get_ne _ _ hne]
      exact t2 t fun j x hj hx hLj => ht j x hj hx ((hL' j).2 (.inr hLj))
  · -- one that is not
    have hall : ∀ j, j < i → Lst listed j := fun j hj => by
      obtain ⟨x, hx⟩ := get j (by omega)
      rcases hF.pair j i x o hj hx ho with h | ⟨_, h, _⟩
      · exact ahead j x hx h
      · exact absurd h hq
    have hnone : ∀ j, i < j → ¬ Lst listed j := fun j hj hLj => by
      rcases Nat.lt_or_ge j ops.size with hlt | hge
      · obtain ⟨y, hy⟩ := get j hlt
        rcases hF.pair i j o y hj ho hy with h | ⟨h, _, _⟩
        · exact behind j y hy h hLj
        · exact hq h
      · simp [Lst, Array.getElem?_eq_none (hsize ▸ hge)] at hLj
    have hσ : σ = S i := by
      have ht : σ.tmps = (S i).tmps := by
        apply List.ext_getElem?
        intro t
        by_cases hw : ∃ j x, b ≤ j ∧ j < i ∧ ops[j]? = some x ∧ x.dst = some t
        · obtain ⟨j, x, hj, hji, hx, hxt⟩ := hw
          rw [t1 j x t hj hx (hall j hji) hxt, written j x t hj hji hx hxt]
        · rw [t2 t (fun j x hj hx hLj hxt => ?_), r4 t (fun j x hj hj' hx hxt => hw ⟨j, x, hj, by omega, hx, hxt⟩)]
          rcases Nat.lt_trichotomy j i with hlt | heq | hgt
          · exact hw ⟨j, x, hj, hlt, hx, hxt⟩
          · exact hnL (heq ▸ hLj)
          · exact hnone j hgt hLj
      have hs := e1.trans r1.symm
      have hm := e2.trans r2.symm
      cases σ
      cases hSi : S i
      rw [hSi] at ht hs hm
      simp only at ht hs hm
      subst ht; subst hs; subst hm
      rfl
    subst hσ
    refine step1_ok hT hC ho (hS i o ho) hA fun a' w' hA' => ⟨hsize', hcl', i + 1, S (i + 1), by omega, fun j hj => (hL' j).2 ?_, fun c hc hcn hqc j hj hLj => ?_, rfl, rfl, rfl, fun j x t hj hx hLj hxt => ?_, fun t ht => rfl, hA'⟩
    · rcases Nat.lt_or_eq_of_le (Nat.le_of_lt_succ hj) with h | h
      · exact .inr (hall j h)
      · exact .inl h
    · rcases (hL' j).1 hLj with h | h
      · omega
      · exact hnone j (by omega) h
    · rcases (hL' j).1 hLj with h | h
      · omega
      · exact absurd h (hnone j (by omega))

/-- all is done -/
theorem mid_end (hC : CallOk P C) {qt : Nat → Prop} (hF : DrawFacts C rid ops qt) (hS : ∀ j o, ops[j]? = some o → step1 C ops.toList rid j o (S j) = some (S (j + 1)))
    {listed : Array Bool} {a : Act} {w : World} (hM : Mid C B rid ops S qt listed a w) (hr : Region.ready .any ops listed = []) : At C.T B (S ops.size) a w := by
  obtain ⟨hsize, hcl, b, σ, hb, hbl, hnq, e1, e2, e3, t1, t2, hA⟩ := hM
  have hall : ∀ i, i < ops.size → Lst listed i := by
    intro i
    induction i using Nat.strongRecOn with
    | _ i ih =>
      intro hi
      refine Classical.byContradiction fun hn => ?_
      have ho : ops[i]? = some ops[i] := Array.getElem?_eq_getElem hi
      have : i ∈ Region.ready .any ops listed := mem_ready.2 ⟨by
        have hil : i < listed.size := hsize ▸ hi
        simp only [Lst, Array.getD_eq_getD_getElem?, Array.getElem?_eq_getElem hil, Option.getD_some] at hn ⊢
        simpa using hn, _, ho, fun e he hbnd => by
          have := hF.back i _ ho e he hbnd
          exact ih e.on this (by omega)⟩
      rw [hr] at this; cases this
  have hSq : ∀ j o, ops[j]? = some o → qt j → ∃ v, S (j + 1) = (S j).put o.dst v := fun j o hj hq => by
    obtain ⟨h1, h2⟩ := hF.quiet j o hj hq
    obtain ⟨v, hv, _⟩ := step1_quiet hC h1 h2 (hS j o hj)
    exact ⟨v, hv⟩
  have hqt : ∀ j, b ≤ j → j < ops.size → qt j := fun j hj hjn => Classical.byContradiction fun hq => hnq j hj hjn hq j (Nat.le_refl _) (hall j hjn)
  have hn : ops.size = b + (ops.size - b) := by omega
  obtain ⟨r1, r2, r3, r4⟩ := run_same (S := S) hSq (ops.size - b) b (by omega) (fun j hj hj' => hqt j hj (by omega))
  rw [← hn] at r1 r2 r3 r4
  have hσ : σ = S ops.size := by
    have ht : σ.tmps = (S ops.size).tmps := by
      apply List.ext_getElem?
      intro t
      by_cases hw : ∃ j x, b ≤ j ∧ ops[j]? = some x ∧ x.dst = some t
      · obtain ⟨j, x, hj, hx, hxt⟩ := hw
        have hjn := (Array.getElem?_eq_some_iff.1 hx).1
        rw [t1 j x t hj hx (hall j hjn) hxt]
        have hn2 : ops.size = (j + 1) + (ops.size - (j + 1)) := by omega
        have := (run_same (S := S) hSq (ops.size - (j + 1)) (j + 1) (by omega) (fun k hk hk' => hqt k (by omega) (by omega))).2.2.2 t
          (fun k y hk hk' hy => hF.dst j k x y t (by omega) hx hy (hqt j hj hjn) (hqt k (by omega) (by omega)) hxt)
        rw [← hn2] at this
        exact this.symm
      · rw [t2 t (fun j x hj hx _ hxt => hw ⟨j, x, hj, hx, hxt⟩), r4 t (fun j x hj _ hx hxt => hw ⟨j, x, hj, hx, hxt⟩)]
    have hs := e1.trans r1.symm
    have hm := e2.trans r2.symm
    cases σ
    cases hSi : S ops.size
    rw [hSi] at ht hs hm
    simp only at ht hs hm
    subst ht; subst hs; subst hm
    rfl
  exact hσ ▸ hA

def undone (ops : Array Oper) (listed : Array Bool) : List Nat := (List.range ops.size).filter fun i => !listed.getD i true

theorem undone_lt {listed : Array Bool} {i : Nat} (hi : i ∈ Region.ready .any ops listed) : (undone ops (listed.setIfInBounds i true)).length < (undone ops listed).length := by
  obtain ⟨hun, o, ho, _⟩ := mem_ready.1 hi
  have hin := (Array.getElem?_eq_some_iff.1 ho).1
  have e : undone ops (listed.setIfInBounds i true) = (undone ops listed).filter fun j => !Nat.beq j i := by
    unfold undone
    rw [List.filter_filter]
    refine List.filter_congr fun j _ => ?_
    by_cases h : i = j
    · subst h
      have hil := (not_Lst hun).1
      have e1 : (listed.setIfInBounds i true).getD i true = true := by simp [hil]
      simp [e1]
    · have hb : Nat.beq j i = false := by
        cases hh : Nat.beq j i with
        | false => rfl
        | true => exact absurd (Nat.eq_of_beq_eq_true hh).symm h
      rw [getD_set_ne true h, hb]; simp
  rw [e, List.length_filter_lt_length_iff_exists]
  exact ⟨i, List.mem_filter.2 ⟨List.mem_range.2 hin, by rw [hun]; rfl⟩, by simp [Nat.beq_refl]⟩

theorem wpAny_mid (hT : TabOk P C.T) (hC : CallOk P C) {qt : Nat → Prop} (hF : DrawFacts C rid ops qt) (hS : ∀ j o, ops[j]? = some o → step1 C ops.toList rid j o (S j) = some (S (j + 1)))
    (hQ : ∀ a w, At C.T B (S ops.size) a w → Q .normal a w) : ∀ (fuel : Nat) (listed : Array Bool) (a : Act) (w : World), (undone ops listed).length ≤ fuel → Mid C B rid ops S qt listed a w →
    wpAny P .any ops Q fuel listed a w
  | 0, listed, a, w, hf, hM => by
    have hr : Region.ready .any ops listed = [] := by
      cases h : Region.ready .any ops listed with
      | nil => rfl
      | cons i is =>
        have := undone_lt (ops := ops) (listed := listed) (i := i) (by rw [h]; exact List.mem_cons_self)
        omega
    exact ⟨hr, hQ a w (mid_end hC hF hS hM hr)⟩
  | fuel + 1, listed, a, w, hf, hM => by
    refine ⟨fun hr => hQ a w (mid_end hC hF hS hM hr), fun i hi => ?_⟩
    have hlt := undone_lt hi
    exact wpOp_mono (fun a' w' h' => wpAny_mid hT hC hF hS hQ fuel _ a' w' (by omega) h') (mid_step hT hC hF hS hM hi)

/-- **A drawn region.** -/
theorem drawn_ok (hm : P.follows .mixedOrders = true) (hT : TabOk P C.T) (hC : CallOk P C) {id : Nat} (hd : drawOk C.sig (fun i => (look2 C.ann.pre rid i).isEmpty) ops = true) {σ : St} {K : St → Option Res} {res : Res}
    (h : evOps C ops.toList rid ops.toList 0 σ K = some res) {a : Act} {w : World} (hA : At C.T B σ a w) (hQ : ∀ σ' a w, K σ' = some res → At C.T B σ' a w → Q .normal a w) : (Code.region id ops true).wp P Q a w := by
  obtain ⟨S, e, hS, hK⟩ := evOps_states _ _ _ h
  have hS' : ∀ j o, ops[j]? = some o → step1 C ops.toList rid j o (S j) = some (S (j + 1)) := fun j o hj => by simpa using (hS j o (by simpa using hj)).1
  refine wp_region_any hm (wpAny_mid hT hC (drawFacts hd) hS' (fun a w h' => hQ (S ops.size) a w (by simpa using hK) h') ops.size _ a _ ?_ ?_)
  · unfold undone
    exact Nat.le_trans (List.length_filter_le _ _) (by simp)
  · have hno : ∀ i, ¬ Lst (Array.replicate ops.size false) i := fun i hL => by
      simp only [Lst] at hL
      rcases Nat.lt_or_ge i ops.size with h1 | h1
      · simp [h1] at hL
      · simp [Nat.not_lt.2 h1] at hL
    refine ⟨by simp, fun i o _ hL => absurd hL (hno i), 0, σ, Nat.zero_le _, fun i hi => absurd hi (Nat.not_lt_zero _), fun c _ _ _ j _ => hno j, by rw [e], by rw [e], by rw [e], fun j o t _ _ hL => absurd hL (hno j), fun t _ => by rw [e], hA.drew⟩

end
end Go.Fw
