/- The framework, part R: calls. -/
import Derived.Test.YtgcdiccbehiijaaFwQ
set_option linter.all false
set_option linter.unusedSimpArgs false
set_option linter.unusedVariables false
namespace Go.Fw
section
variable {P : Program} {T : Tab} {E E' : Env} {Z Z' : Nat → Prop} {w w' : World} {σ σ' : St} {vals : List Value}

/-- **What a call comes to.** 'mvs': the objects handed in that may have moved -/
def AC (P : Program) (T : Tab) (f : FuncId) (args : List AV) (st : List AObj) (mvs : List Nat) (r : AV) (st' : List AObj) : Prop :=
  ∀ (E : Env) (Z : Nat → Prop) (w : World) (vals : List Value), SR T E Z w st → VRs T E Z w args vals →
    Calls P f vals.toArray w fun e w' => ∃ v E' Z', e = .returned v ∧ SR T E' Z' w' st' ∧ VR T E' Z' w' r v ∧ Ext (Owned E st) Z w (Owned E' st') Z' w' ∧ st.length ≤ st'.length ∧
      ∀ i, i < st.length → i ∉ mvs → E'.ρ i = E.ρ i ∧ E'.sz i = E.sz i

/-- the caller's environment behind a call -/
def Env.behind (E E' : Env) (ks : List Nat) (base : Nat) : Env :=
  { ρ := fun c => if c < base then (match idxIn ks c with | some j => E'.ρ j | none => E.ρ c) else E'.ρ (ks.length + (c - base))
    sz := fun c => if c < base then (match idxIn ks c with | some j => E'.sz j | none => E.sz c) else E'.sz (ks.length + (c - base)) }

theorem idxIn_none : ∀ {ks : List Nat} {i : Nat}, idxIn ks i = none → i ∉ ks
  | [], _, _ => by simp
  | k :: ks, i, h => by
    simp only [idxIn] at h
    cases hk : Nat.beq k i with
    | true => rw [hk] at h; simp at h
    | false =>
      rw [hk] at h
      simp only [cond_false, Option.map_eq_none_iff] at h
      intro hm
      rcases List.mem_cons.1 hm with rfl | hm
      · exact Nat.ne_of_beq_eq_false hk rfl
      · exact idxIn_none h hm

theorem idxIn_get {ks : List Nat} (hk : ks.Nodup) {i j : Nat} (h : ks[j]? = some i) : idxIn ks i = some j := by
  cases hh : idxIn ks i with
  | none => exact absurd (List.mem_of_getElem? h) (idxIn_none hh)
  | some j' =>
    have h' := idxIn_some hh
    obtain ⟨h1, e1⟩ := List.getElem?_eq_some_iff.1 h
    obtain ⟨h2, e2⟩ := List.getElem?_eq_some_iff.1 h'
    have := (List.getElem_inj hk).1 (e2.trans e1.symm)
    rw [this]

theorem mem_pickIds {ks : List Nat} : ∀ {l : List Nat} {k : Nat}, (∃ i ∈ l, ks[i]? = some k) → k ∈ pickIds ks l
  | [], _, ⟨i, hi, _⟩ => by simp at hi
  | i :: is, k, ⟨i', hi', hk⟩ => by
    simp only [pickIds]
    rcases List.mem_cons.1 hi' with rfl | hi'
    · rw [hk]; exact List.mem_cons_self
    · cases ks[i]? with
      | none => exact mem_pickIds ⟨i', hi', hk⟩
      | some _ => exact List.mem_cons_of_mem _ (mem_pickIds ⟨i', hi', hk⟩)

theorem setMany_length : ∀ (ks : List Nat) (os st : List AObj), (setMany st ks os).length = st.length
  | [], os, st => by cases os <;> rfl
  | i :: is, [], st => rfl
  | i :: is, o :: os, st => by simp only [setMany]; rw [setMany_length is os, List.length_set]

theorem setMany_get : ∀ {ks : List Nat} {os st : List AObj} (hk : ks.Nodup) (hin : ∀ k ∈ ks, k < st.length) (hl : ks.length ≤ os.length) (c : Nat),
    (setMany st ks os)[c]? = match idxIn ks c with | some j => os[j]? | none => st[c]?
  | [], os, st, _, _, _, c => by cases os <;> simp [setMany, idxIn]
  | i :: is, [], st, _, _, hl, c => by simp at hl
  | i :: is, o :: os, st, hk, hin, hl, c => by
    simp only [setMany]
    rw [List.nodup_cons] at hk
    rw [setMany_get hk.2 (fun k hk' => by rw [List.length_set]; exact hin k (List.mem_cons_of_mem _ hk')) (by simpa using hl) c]
    simp only [idxIn]
    cases hic : Nat.beq i c with
    | true =>
      obtain rfl := Nat.eq_of_beq_eq_true hic
      have : idxIn is i = none := by
        cases hh : idxIn is i with
        | none => rfl
        | some j => exact absurd (List.mem_of_getElem? (idxIn_some hh)) hk.1
      rw [this]
      simp only [cond_true, List.getElem?_cons_zero]
      exact List.getElem?_set_self (hin i List.mem_cons_self)
    | false =>
      simp only [cond_false]
      cases hh : idxIn is c with
      | none => simp only [Option.map_none]; exact List.getElem?_set_ne (Nat.ne_of_beq_eq_false hic)
      | some j => simp

set_option maxHeartbeats 1000000 in
/-- **The caller's state behind a call.** -/
theorem call_back (h : StR T E Z w σ vals) {ks : List Nat} (hk : ks.Nodup) (hin : ∀ k ∈ ks, k < σ.st.length) {mvs : List Nat} {st' : List AObj} {r : AV} {v : Value}
    (hS : SR T E' Z' w' st') (hr : VR T E' Z' w' r v)
    (hX : Ext (Owned (E.sel ks) (ks.map fun i => (σ.st.getD i .dead).onRefs (rename1 ks))) Z w (Owned E' st') Z' w') (hlen : ks.length ≤ st'.length)
    (hsame : ∀ i, i < ks.length → i ∉ mvs → E'.ρ i = (E.sel ks).ρ i ∧ E'.sz i = (E.sel ks).sz i) (σ2 : St)
    (hσ2 : σ2 = { tmps := AV.onRefsL (scrubL1 (pickIds ks mvs)) σ.tmps, st := setMany (σ.st.map (AObj.onRefs (scrubL1 (pickIds ks mvs)))) ks (st'.map (AObj.onRefs (back1 ks σ.st.length))) ++ (st'.drop ks.length).map (AObj.onRefs (back1 ks σ.st.length)), moved := pickIds ks mvs ++ σ.moved }) :
    StR T (E.behind E' ks σ.st.length) Z' w' σ2 vals ∧ VR T (E.behind E' ks σ.st.length) Z' w' (r.onRefs (back1 ks σ.st.length)) v ∧
      Ext (Owned E σ.st) Z w (Owned (E.behind E' ks σ.st.length) σ2.st) Z' w' ∧ Mv σ E σ2 (E.behind E' ks σ.st.length) ∧ σ.st.length ≤ σ2.st.length := by
  have hkeep := h.sr.keep ks hk
  let base := σ.st.length
  let b : Nat → Nat := fun j => match ks[j]? with | some k => k | none => base + (j - ks.length)
  have hbj : ∀ j, (E.behind E' ks base).ρ (b j) = E'.ρ j ∧ (E.behind E' ks base).sz (b j) = E'.sz j := fun j => by
    simp only [b]
    cases hj : ks[j]? with
    | some k =>
      have hkl := hin k (List.mem_of_getElem? hj)
      simp only [Env.behind]
      rw [if_pos hkl, if_pos hkl, idxIn_get hk hj]
      exact ⟨rfl, rfl⟩
    | none =>
      have hjl : ks.length ≤ j := by
        rcases Nat.lt_or_ge j ks.length with h1 | h1
        · rw [List.getElem?_eq_getElem h1] at hj; cases hj
        · exact h1
      simp only [Env.behind]
      have hnb : ¬ (base + (j - ks.length) < base) := by omega
      rw [if_neg hnb, if_neg hnb, show ks.length + (base + (j - ks.length) - base) = j by omega]
      exact ⟨rfl, rfl⟩
  -- references of the callee
  have hback : ∀ r v, isRef r = true → VR T E' Z' w' r v → VR T (E.behind E' ks base) Z' w' (back1 ks base r) v := fun r v hr hv => by
    cases hv <;> simp [isRef] at hr
    case sr i A n c he => exact .sr _ _ _ _ ((hbj i).1.trans he)
    case ss i a n A A' len c he hb hA => exact .ss (b i) _ _ _ _ _ _ ((hbj i).1.trans he) hb (by rw [(hbj i).2]; exact hA)
    case ptr i off B he => exact .ptr _ _ _ ((hbj i).1.trans he)
    case ap i k off A n c he hk' => rw [← (hbj i).2]; exact .ap (b i) _ _ _ _ _ ((hbj i).1.trans he) hk'
  -- what is not in the callee's hands has not turned
  have hunC : ∀ B, B < w.heap.size → ¬ Owned (E.sel ks) (ks.map fun i => (σ.st.getD i .dead).onRefs (rename1 ks)) B → w'.heap[B]? = w.heap[B]? := hX.same
  have hCown : ∀ B, Owned (E.sel ks) (ks.map fun i => (σ.st.getD i .dead).onRefs (rename1 ks)) B → ∃ k ∈ ks, owns E σ.st k B := fun B ⟨j, hj⟩ => by
    have hlt := owns_lt_length hj
    rw [List.length_map] at hlt
    have hkj := List.getElem?_eq_getElem hlt
    exact ⟨_, List.getElem_mem hlt, sel_owns hkj hj⟩
  have hzc : ∀ b o, Z b → w'.cell? ⟨b, o, none⟩ = w.cell? ⟨b, o, none⟩ := fun b o hz =>
    cell?_of_heap (hunC b (h.sr.zlt b hz) (fun ho => by obtain ⟨k, _, hk'⟩ := hCown b ho; exact h.sr.zown b ⟨k, hk'⟩ hz)) o
  -- the caller's own references
  have hρ : ∀ i v, E.ρ i = some v → i ∉ pickIds ks mvs → (E.behind E' ks base).ρ i = some v ∧ (E.behind E' ks base).sz i = E.sz i := fun i v hi hn => by
    have hib : i < base := by
      rcases Nat.lt_or_ge i base with h1 | h1
      · exact h1
      · rw [h.sr.out i h1] at hi; cases hi
    simp only [Env.behind]
    rw [if_pos hib, if_pos hib]
    cases hx : idxIn ks i with
    | none => exact ⟨hi, rfl⟩
    | some j =>
      have hkj := idxIn_some hx
      have hjl : j < ks.length := (List.getElem?_eq_some_iff.1 hkj).1
      have := hsame j hjl (fun hm => hn (mem_pickIds ⟨j, hm, hkj⟩))
      simp only [Env.sel, hkj] at this
      exact ⟨this.1.trans hi, this.2⟩
  have hmine : ∀ r v, isRef r = true → VR T E Z w r v → VR T (E.behind E' ks base) Z' w' (scrubL1 (pickIds ks mvs) r) v := fun r v hr hv => by
    cases hv <;> simp [isRef] at hr
    case sr i A n c he =>
      simp only [scrubL1]
      cases hi : (pickIds ks mvs).elem i with
      | true => exact .undef _
      | false => exact .sr _ _ _ _ (hρ i _ he (by simpa using hi)).1
    case ss i a n A A' len c he hb hA =>
      simp only [scrubL1]
      cases hi : (pickIds ks mvs).elem i with
      | true => exact .undef _
      | false =>
        have := hρ i _ he (by simpa using hi)
        exact .ss _ _ _ _ _ _ _ this.1 hb (by rw [this.2]; exact hA)
    case ptr i off B he =>
      simp only [scrubL1]
      cases hi : (pickIds ks mvs).elem i with
      | true => exact .undef _
      | false => exact .ptr _ _ _ (hρ i _ he (by simpa using hi)).1
    case ap i k off A n c he hk' =>
      simp only [scrubL1]
      cases hi : (pickIds ks mvs).elem i with
      | true => exact .undef _
      | false =>
        have := hρ i _ he (by simpa using hi)
        rw [← this.2]; exact .ap _ _ _ _ _ _ this.1 hk'
  have hZsub : ∀ b, Z b → Z' b := hX.zin
  -- the objects
  have hst2 : ∀ c o, σ2.st[c]? = some o →
      (∃ j x, b j = c ∧ st'[j]? = some x ∧ o = x.onRefs (back1 ks base)) ∨ (c < base ∧ c ∉ ks ∧ ∃ x, σ.st[c]? = some x ∧ o = x.onRefs (scrubL1 (pickIds ks mvs))) := fun c o hc => by
    subst hσ2
    simp only at hc
    have hsl : (setMany (σ.st.map (AObj.onRefs (scrubL1 (pickIds ks mvs)))) ks (st'.map (AObj.onRefs (back1 ks σ.st.length)))).length = base := by rw [setMany_length, List.length_map]
    rcases Nat.lt_or_ge c base with hcb | hcb
    · rw [List.getElem?_append_left (by rw [hsl]; exact hcb)] at hc
      rw [setMany_get hk (fun k hk' => by rw [List.length_map]; exact hin k hk') (by rw [List.length_map]; exact hlen)] at hc
      cases hx : idxIn ks c with
      | some j =>
        rw [hx] at hc
        simp only [List.getElem?_map, Option.map_eq_some_iff] at hc
        obtain ⟨x, hx', rfl⟩ := hc
        exact .inl ⟨j, x, by simp only [b, idxIn_some hx], hx', rfl⟩
      | none =>
        rw [hx] at hc
        simp only [List.getElem?_map, Option.map_eq_some_iff] at hc
        obtain ⟨x, hx', rfl⟩ := hc
        exact .inr ⟨hcb, idxIn_none hx, x, hx', rfl⟩
    · rw [List.getElem?_append_right (by rw [hsl]; exact hcb), hsl] at hc
      simp only [List.getElem?_map, List.getElem?_drop, Option.map_eq_some_iff] at hc
      obtain ⟨x, hx', rfl⟩ := hc
      refine .inl ⟨ks.length + (c - base), x, ?_, hx', rfl⟩
      simp only [b]
      rw [List.getElem?_eq_none (by omega)]
      show base + (ks.length + (c - base) - ks.length) = c
      rw [Nat.add_sub_cancel_left]; exact Nat.add_sub_cancel' hcb
  have hbinj : ∀ j j', j < st'.length → j' < st'.length → b j = b j' → j = j' := fun j j' _ _ hbb => by
    simp only [b] at hbb
    cases hj : ks[j]? with
    | some k =>
      rw [hj] at hbb
      cases hj' : ks[j']? with
      | some k' =>
        rw [hj'] at hbb
        simp only at hbb
        subst hbb
        obtain ⟨h1, e1⟩ := List.getElem?_eq_some_iff.1 hj
        obtain ⟨h2, e2⟩ := List.getElem?_eq_some_iff.1 hj'
        exact (List.getElem_inj hk).1 (e1.trans e2.symm)
      | none =>
        rw [hj'] at hbb
        simp only at hbb
        have := hin k (List.mem_of_getElem? hj)
        omega
    | none =>
      rw [hj] at hbb
      have hjl : ks.length ≤ j := by
        rcases Nat.lt_or_ge j ks.length with h1 | h1
        · rw [List.getElem?_eq_getElem h1] at hj; cases hj
        · exact h1
      cases hj' : ks[j']? with
      | some k' =>
        rw [hj'] at hbb
        simp only at hbb
        have := hin k' (List.mem_of_getElem? hj')
        omega
      | none =>
        rw [hj'] at hbb
        have hjl' : ks.length ≤ j' := by
          rcases Nat.lt_or_ge j' ks.length with h1 | h1
          · rw [List.getElem?_eq_getElem h1] at hj'; cases hj'
          · exact h1
        simp only at hbb
        omega
  have hown2 : ∀ c B, owns (E.behind E' ks base) σ2.st c B → (∃ j, b j = c ∧ owns E' st' j B) ∨ (c ∉ ks ∧ owns E σ.st c B) := fun c B hc => by
    obtain ⟨o, ho, hB⟩ := owns_get hc
    rcases hst2 c o ho with ⟨j, x, rfl, hx, rfl⟩ | ⟨hcb, hck, x, hx, rfl⟩
    · refine .inl ⟨j, rfl, (owns_some hx).2 ?_⟩
      have := (ownsO_onRefs _ _ _ _ _).1 hB
      cases x <;> simpa [ownsO, (hbj j).1] using this
    · refine .inr ⟨hck, (owns_some hx).2 ?_⟩
      have := (ownsO_onRefs _ _ _ _ _).1 hB
      have e : (E.behind E' ks base).ρ c = E.ρ c := by
        have hxn : idxIn ks c = none := by
          cases hh : idxIn ks c with
          | none => rfl
          | some j => exact absurd (List.mem_of_getElem? (idxIn_some hh)) hck
        simp only [Env.behind]
        rw [if_pos hcb, hxn]
      cases x <;> simpa [ownsO, e] using this
  have hnotC : ∀ c B, c ∉ ks → owns E σ.st c B → ¬ Owned (E.sel ks) (ks.map fun i => (σ.st.getD i .dead).onRefs (rename1 ks)) B := fun c B hck hc ho => by
    obtain ⟨k, hkk, hkB⟩ := hCown B ho
    exact hck (h.sr.inj c k B hc hkB ▸ hkk)
  have hO2 : ∀ B, Owned (E.behind E' ks base) σ2.st B → Owned E σ.st B ∨ w.heap.size ≤ B := fun B ⟨c, hc⟩ => by
    rcases hown2 c B hc with ⟨j, _, hj⟩ | ⟨_, hc⟩
    · rcases hX.oout B ⟨j, hj⟩ with h1 | h1
      · obtain ⟨k, _, hk'⟩ := hCown B h1
        exact .inl ⟨k, hk'⟩
      · exact .inr h1
    · exact .inl ⟨c, hc⟩
  have hlen2 : base ≤ σ2.st.length := by
    subst hσ2
    simp only [List.length_append, setMany_length, List.length_map]
    omega
  refine ⟨⟨⟨fun c o hc => ?_, fun c hc => ?_, fun c c' B hc hc' => ?_, fun B ⟨c, hc⟩ hz => ?_, hS.zlt⟩, ?_⟩, ?_, ?_, ?_, hlen2⟩
  · rcases hst2 c o hc with ⟨j, x, rfl, hx, rfl⟩ | ⟨hcb, hck, x, hx, rfl⟩
    · exact (hS.obj j x hx).map _ (fun _ hz => hz) (fun _ _ _ => rfl) hback (hbj j).1 (hbj j).2 (fun _ _ => rfl)
    · have hxn : idxIn ks c = none := by
        cases hh : idxIn ks c with
        | none => rfl
        | some j => exact absurd (List.mem_of_getElem? (idxIn_some hh)) hck
      have e : (E.behind E' ks base).ρ c = E.ρ c ∧ (E.behind E' ks base).sz c = E.sz c := by
        simp only [Env.behind]
        rw [if_pos hcb, if_pos hcb, hxn]
        exact ⟨rfl, rfl⟩
      have hor := h.sr.obj c x hx
      exact hor.map _ hZsub hzc hmine e.1 e.2 (fun B hB => hunC B (hor.owns_heap hB) (hnotC c B hck ((owns_some hx).2 hB)))
  · subst hσ2
    simp only [List.length_append, setMany_length, List.length_map, List.length_drop] at hc
    simp only [Env.behind]
    have hnb : ¬ (c < base) := by omega
    rw [if_neg hnb]
    exact hS.out _ (by omega)
  · rcases hown2 c B hc with ⟨j, rfl, hj⟩ | ⟨hck, hc⟩ <;> rcases hown2 c' B hc' with ⟨j', rfl, hj'⟩ | ⟨hck', hc'⟩
    · rw [hS.inj j j' B hj hj']
    · exfalso
      rcases hX.oout B ⟨j, hj⟩ with h1 | h1
      · exact hnotC _ B hck' hc' h1
      · exact absurd (h.sr.owns_lt hc') (by omega)
    · exfalso
      rcases hX.oout B ⟨j', hj'⟩ with h1 | h1
      · exact hnotC _ B hck hc h1
      · exact absurd (h.sr.owns_lt hc) (by omega)
    · exact h.sr.inj c c' B hc hc'
  · rcases hown2 c B hc with ⟨j, _, hj⟩ | ⟨hck, hc⟩
    · exact hS.zown B ⟨j, hj⟩ hz
    · rcases hX.zout B hz with h1 | h1 | h1
      · exact h.sr.zown B ⟨c, hc⟩ h1
      · exact hnotC c B hck hc h1
      · exact absurd (h.sr.owns_lt hc) (by omega)
  · subst hσ2
    exact h.tm.map _ hZsub hzc hmine
  · exact hr.map _ (fun _ hz => hz) (fun _ _ _ => rfl) hback
  · refine ⟨hX.os, hX.tape, hX.output, hX.size, fun B hB hno => hunC B hB (fun ho => by obtain ⟨k, _, hk'⟩ := hCown B ho; exact hno ⟨k, hk'⟩), hZsub, fun B hz => ?_, hO2⟩
    rcases hX.zout B hz with h1 | h1 | h1
    · exact .inl h1
    · obtain ⟨k, _, hk'⟩ := hCown B h1
      exact .inr (.inl ⟨k, hk'⟩)
    · exact .inr (.inr h1)
  · subst hσ2
    refine ⟨fun i hi => List.mem_append.2 (.inr hi), fun i hi hn => ?_⟩
    have hn' : i ∉ pickIds ks mvs := fun hm => hn (List.mem_append.2 (.inl hm))
    simp only [Env.behind]
    rw [if_pos hi, if_pos hi]
    cases hx : idxIn ks i with
    | none => exact ⟨rfl, rfl⟩
    | some j =>
      have hkj := idxIn_some hx
      have hjl : j < ks.length := (List.getElem?_eq_some_iff.1 hkj).1
      have := hsame j hjl (fun hm => hn' (mem_pickIds ⟨j, hm, hkj⟩))
      simp only [Env.sel, hkj] at this
      exact this

end
end Go.Fw
