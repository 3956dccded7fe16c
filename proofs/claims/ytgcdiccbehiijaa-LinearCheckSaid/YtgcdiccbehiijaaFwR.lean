/- The framework, part R: calls. -/
import Derived.Test.YtgcdiccbehiijaaFwP
import Derived.Orders
import Derived.OrdersIn
set_option linter.all false
set_option linter.unusedSimpArgs false
set_option linter.unusedVariables false
namespace Go.Fw
section
variable {P : Program} {T : Tab} {E E' : Env} {Z Z' : Nat → Prop} {w w' : World} {σ σ' : St} {vals : List Value}
def Env.behind (E E' : Env) (ks : List Nat) (base : Nat) : Env :=
  { ρ := fun c => if c < base then (match idxIn ks c with | some j => E'.ρ j | none => E.ρ c) else E'.ρ (ks.length + (c - base))
    sz := fun c => if c < base then (match idxIn ks c with | some j => E'.sz j | none => E.sz c) else E'.sz (ks.length + (c - base)) }
theorem idxIn_none : ∀ {ks : List Nat} {i : Nat}, idxIn ks i = none → i ∉ ks
  | [], _, _ => by simp
  | k :: ks, i, h => by
    simp only [idxIn] at h
    cases hk : Nat.beq k i with
    | true => rw [hk] at h; simp at h
    | false =>
      rw [hk] at h
      simp only [cond_false, Option.map_eq_none_iff] at h
      intro hm
      rcases List.mem_cons.1 hm with rfl | hm
      · exact Nat.ne_of_beq_eq_false hk rfl
      · exact idxIn_none h hm
theorem idxIn_get {ks : List Nat} (hk : ks.Nodup) {i j : Nat} (h : ks[j]? = some i) : idxIn ks i = some j := by
  cases hh : idxIn ks i with
  | none => exact absurd (List.mem_of_getElem? h) (idxIn_none hh)
  | some j' =>
    have h' := idxIn_some hh
    obtain ⟨h1, e1⟩ := List.getElem?_eq_some_iff.1 h
    obtain ⟨h2, e2⟩ := List.getElem?_eq_some_iff.1 h'
    have := (List.getElem_inj hk).1 (e2.trans e1.symm)
    rw [this]
theorem mem_pickIds {ks : List Nat} : ∀ {l : List Nat} {k : Nat}, (∃ i ∈ l, ks[i]? = some k) → k ∈ pickIds ks l
  | [], _, ⟨i, hi, _⟩ => by simp at hi
  | i :: is, k, ⟨i', hi', hk⟩ => by
    simp only [pickIds]
    rcases List.mem_cons.1 hi' with rfl | hi'
    · rw [hk]; exact List.mem_cons_self
    · cases ks[i]? with
      | none => exact mem_pickIds ⟨i', hi', hk⟩
      | some _ => exact List.mem_cons_of_mem _ (mem_pickIds ⟨i', hi', hk⟩)
theorem setMany_length : ∀ (ks : List Nat) (os st : List AObj), (setMany st ks os).length = st.length
  | [], os, st => by cases os <;> rfl
  | i :: is, [], st => rfl
  | i :: is, o :: os, st => by simp only [setMany]; rw [setMany_length is os, List.length_set]
theorem setMany_get : ∀ {ks : List Nat} {os st : List AObj} (hk : ks.Nodup) (hin : ∀ k ∈ ks, k < st.length) (hl : ks.length ≤ os.length) (c : Nat),
    (setMany st ks os)[c]? = match idxIn ks c with | some j => os[j]? | none => st[c]?
  | [], os, st, _, _, _, c => by cases os <;> simp [setMany, idxIn]
  | i :: is, [], st, _, _, hl, c => by simp at hl
  | i :: is, o :: os, st, hk, hin, hl, c => by
    simp only [setMany]
    rw [List.nodup_cons] at hk
    rw [setMany_get hk.2 (fun k hk' => by rw [List.length_set]; exact hin k (List.mem_cons_of_mem _ hk')) (by simpa using hl) c]
    simp only [idxIn]
    cases hic : Nat.beq i c with
    | true =>
      obtain rfl := Nat.eq_of_beq_eq_true hic
      have : idxIn is i = none := by
        cases hh : idxIn is i with
        | none => rfl
        | some j => exact absurd (List.mem_of_getElem? (idxIn_some hh)) hk.1
      rw [this]
      simp only [cond_true, List.getElem?_cons_zero]
      exact List.getElem?_set_self (hin i List.mem_cons_self)
    | false =>
      simp only [cond_false]
      cases hh : idxIn is c with
      | none => simp only [Option.map_none]; exact List.getElem?_set_ne (Nat.ne_of_beq_eq_false hic)
      | some j => simp
set_option maxHeartbeats 1000000 in
theorem call_back (h : StR T E Z w σ vals) {ks : List Nat} (hk : ks.Nodup) (hin : ∀ k ∈ ks, k < σ.st.length) {mvs : List Nat} {st' : List AObj} {r : AV} {v : Value}
    (hS : SR T E' Z' w' st') (hr : VR T E' Z' w' r v)
    (hX : Ext (Owned (E.sel ks) (ks.map fun i => (σ.st.getD i .dead).onRefs (rename1 ks))) Z w (Owned E' st') Z' w') (hlen : ks.length ≤ st'.length)
    (hsame : ∀ i, i < ks.length → i ∉ mvs → E'.ρ i = (E.sel ks).ρ i ∧ E'.sz i = (E.sel ks).sz i) (σ2 : St)
    (hσ2 : σ2 = { tmps := AV.onRefsL (scrubL1 (pickIds ks mvs)) σ.tmps, st := setMany (σ.st.map (AObj.onRefs (scrubL1 (pickIds ks mvs)))) ks (st'.map (AObj.onRefs (back1 ks σ.st.length))) ++ (st'.drop ks.length).map (AObj.onRefs (back1 ks σ.st.length)), moved := pickIds ks mvs ++ σ.moved }) :
    StR T (E.behind E' ks σ.st.length) Z' w' σ2 vals ∧ VR T (E.behind E' ks σ.st.length) Z' w' (r.onRefs (back1 ks σ.st.length)) v ∧
      Ext (Owned E σ.st) Z w (Owned (E.behind E' ks σ.st.length) σ2.st) Z' w' ∧ Mv σ E σ2 (E.behind E' ks σ.st.length) ∧ σ.st.length ≤ σ2.st.length := by
  have hkeep := h.sr.keep ks hk
  let base := σ.st.length
  let b : Nat → Nat := fun j => match ks[j]? with | some k => k | none => base + (j - ks.length)
  have hbj : ∀ j, (E.behind E' ks base).ρ (b j) = E'.ρ j ∧ (E.behind E' ks base).sz (b j) = E'.sz j := fun j => by
    simp only [b]
    cases hj : ks[j]? with
    | some k =>
      have hkl := hin k (List.mem_of_getElem? hj)
      simp only [Env.behind]
      rw [if_pos hkl, if_pos hkl, idxIn_get hk hj]
      exact ⟨rfl, rfl⟩
    | none =>
      have hjl : ks.length ≤ j := by
        rcases Nat.lt_or_ge j ks.length with h1 | h1
        · rw [List.getElem?_eq_getElem h1] at hj; cases hj
        · exact h1
      simp only [Env.behind]
      have hnb : ¬ (base + (j - ks.length) < base) := by omega
      rw [if_neg hnb, if_neg hnb, show ks.length + (base + (j - ks.length) - base) = j by omega]
      exact ⟨rfl, rfl⟩
  have hback : ∀ r v, isRef r = true → VR T E' Z' w' r v → VR T (E.behind E' ks base) Z' w' (back1 ks base r) v := fun r v hr hv => by
    cases hv <;> simp [isRef] at hr
    case sr i A n c he => exact .sr _ _ _ _ ((hbj i).1.trans he)
    case ss i a n A A' len c he hb hA => exact .ss (b i) _ _ _ _ _ _ ((hbj i).1.trans he) hb (by rw [(hbj i).2]; exact hA)
    case ptr i off B he => exact .ptr _ _ _ ((hbj i).1.trans he)
    case ap i k off A n c he hk' => rw [← (hbj i).2]; exact .ap (b i) _ _ _ _ _ ((hbj i).1.trans he) hk'
    case yl i l he => exact .yl _ _ ((hbj i).1.trans he)
    case mp i r he => exact .mp _ _ ((hbj i).1.trans he)
  have hunC : ∀ B, B < w.heap.size → ¬ Owned (E.sel ks) (ks.map fun i => (σ.st.getD i .dead).onRefs (rename1 ks)) B → w'.heap[B]? = w.heap[B]? := hX.same
  have hCown : ∀ B, Owned (E.sel ks) (ks.map fun i => (σ.st.getD i .dead).onRefs (rename1 ks)) B → ∃ k ∈ ks, owns E σ.st k B := fun B ⟨j, hj⟩ => by
    have hlt := owns_lt_length hj
    rw [List.length_map] at hlt
    have hkj := List.getElem?_eq_getElem hlt
    exact ⟨_, List.getElem_mem hlt, sel_owns hkj hj⟩
  have hzc : ∀ b o, Z b → w'.cell? ⟨b, o, none⟩ = w.cell? ⟨b, o, none⟩ := fun b o hz =>
    cell?_of_heap (hunC b (h.sr.zlt b hz) (fun ho => by obtain ⟨k, _, hk'⟩ := hCown b ho; exact h.sr.zown b ⟨k, hk'⟩ hz)) o
  have hρ : ∀ i v, E.ρ i = some v → i ∉ pickIds ks mvs → (E.behind E' ks base).ρ i = some v ∧ (E.behind E' ks base).sz i = E.sz i := fun i v hi hn => by
    have hib : i < base := by
      rcases Nat.lt_or_ge i base with h1 | h1
      · exact h1
      · rw [h.sr.out i h1] at hi; cases hi
    simp only [Env.behind]
    rw [if_pos hib, if_pos hib]
    cases hx : idxIn ks i with
    | none => exact ⟨hi, rfl⟩
    | some j =>
      have hkj := idxIn_some hx
      have hjl : j < ks.length := (List.getElem?_eq_some_iff.1 hkj).1
      have := hsame j hjl (fun hm => hn (mem_pickIds ⟨j, hm, hkj⟩))
      simp only [Env.sel, hkj] at this
      exact ⟨this.1.trans hi, this.2⟩
  have hmine : ∀ r v, isRef r = true → VR T E Z w r v → VR T (E.behind E' ks base) Z' w' (scrubL1 (pickIds ks mvs) r) v := fun r v hr hv => by
    cases hv <;> simp [isRef] at hr
    case sr i A n c he =>
      simp only [scrubL1]
      cases hi : (pickIds ks mvs).elem i with
      | true => exact .undef _
      | false => exact .sr _ _ _ _ (hρ i _ he (by simpa using hi)).1
    case ss i a n A A' len c he hb hA =>
      simp only [scrubL1]
      cases hi : (pickIds ks mvs).elem i with
      | true => exact .undef _
      | false =>
        have := hρ i _ he (by simpa using hi)
        exact .ss _ _ _ _ _ _ _ this.1 hb (by rw [this.2]; exact hA)
    case ptr i off B he =>
      simp only [scrubL1]
      cases hi : (pickIds ks mvs).elem i with
      | true => exact .undef _
      | false => exact .ptr _ _ _ (hρ i _ he (by simpa using hi)).1
    case ap i k off A n c he hk' =>
      simp only [scrubL1]
      cases hi : (pickIds ks mvs).elem i with
      | true => exact .undef _
      | false =>
        have := hρ i _ he (by simpa using hi)
        rw [← this.2]; exact .ap _ _ _ _ _ _ this.1 hk'
    case yl i l he =>
      simp only [scrubL1]
      cases hi : (pickIds ks mvs).elem i with
      | true => exact .undef _
      | false => exact .yl _ _ (hρ i _ he (by simpa using hi)).1
    case mp i r he =>
      simp only [scrubL1]
      cases hi : (pickIds ks mvs).elem i with
      | true => exact .undef _
      | false => exact .mp _ _ (hρ i _ he (by simpa using hi)).1
  have hZsub : ∀ b, Z b → Z' b := hX.zin
  have hst2 : ∀ c o, σ2.st[c]? = some o →
      (∃ j x, b j = c ∧ st'[j]? = some x ∧ o = x.onRefs (back1 ks base)) ∨ (c < base ∧ c ∉ ks ∧ ∃ x, σ.st[c]? = some x ∧ o = x.onRefs (scrubL1 (pickIds ks mvs))) := fun c o hc => by
    subst hσ2
    simp only at hc
    have hsl : (setMany (σ.st.map (AObj.onRefs (scrubL1 (pickIds ks mvs)))) ks (st'.map (AObj.onRefs (back1 ks σ.st.length)))).length = base := by rw [setMany_length, List.length_map]
    rcases Nat.lt_or_ge c base with hcb | hcb
    · rw [List.getElem?_append_left (by rw [hsl]; exact hcb)] at hc
      rw [setMany_get hk (fun k hk' => by rw [List.length_map]; exact hin k hk') (by rw [List.length_map]; exact hlen)] at hc
      cases hx : idxIn ks c with
      | some j =>
        rw [hx] at hc
        simp only [List.getElem?_map, Option.map_eq_some_iff] at hc
        obtain ⟨x, hx', rfl⟩ := hc
        exact .inl ⟨j, x, by simp only [b, idxIn_some hx], hx', rfl⟩
      | none =>
        rw [hx] at hc
        simp only [List.getElem?_map, Option.map_eq_some_iff] at hc
        obtain ⟨x, hx', rfl⟩ := hc
        exact .inr ⟨hcb, idxIn_none hx, x, hx', rfl⟩
    · rw [List.getElem?_append_right (by rw [hsl]; exact hcb), hsl] at hc
      simp only [List.getElem?_map, List.getElem?_drop, Option.map_eq_some_iff] at hc
      obtain ⟨x, hx', rfl⟩ := hc
      refine .inl ⟨ks.length + (c - base), x, ?_, hx', rfl⟩
      simp only [b]
      rw [List.getElem?_eq_none (by omega)]
      show base + (ks.length + (c - base) - ks.length) = c
      rw [Nat.add_sub_cancel_left]; exact Nat.add_sub_cancel' hcb
  have hbinj : ∀ j j', j < st'.length → j' < st'.length → b j = b j' → j = j' := fun j j' _ _ hbb => by
    simp only [b] at hbb
    cases hj : ks[j]? with
    | some k =>
      rw [hj] at hbb
      cases hj' : ks[j']? with
      | some k' =>
        rw [hj'] at hbb
        simp only at hbb
        subst hbb
        obtain ⟨h1, e1⟩ := List.getElem?_eq_some_iff.1 hj
        obtain ⟨h2, e2⟩ := List.getElem?_eq_some_iff.1 hj'
        exact (List.getElem_inj hk).1 (e1.trans e2.symm)
      | none =>
        rw [hj'] at hbb
        simp only at hbb
        have := hin k (List.mem_of_getElem? hj)
        omega
    | none =>
      rw [hj] at hbb
      have hjl : ks.length ≤ j := by
        rcases Nat.lt_or_ge j ks.length with h1 | h1
        · rw [List.getElem?_eq_getElem h1] at hj; cases hj
        · exact h1
      cases hj' : ks[j']? with
      | some k' =>
        rw [hj'] at hbb
        simp only at hbb
        have := hin k' (List.mem_of_getElem? hj')
        omega
      | none =>
        rw [hj'] at hbb
        have hjl' : ks.length ≤ j' := by
          rcases Nat.lt_or_ge j' ks.length with h1 | h1
          · rw [List.getElem?_eq_getElem h1] at hj'; cases hj'
          · exact h1
        simp only at hbb
        omega
  have hown2 : ∀ c B, owns (E.behind E' ks base) σ2.st c B → (∃ j, b j = c ∧ owns E' st' j B) ∨ (c ∉ ks ∧ owns E σ.st c B) := fun c B hc => by
    obtain ⟨o, ho, hB⟩ := owns_get hc
    rcases hst2 c o ho with ⟨j, x, rfl, hx, rfl⟩ | ⟨hcb, hck, x, hx, rfl⟩
    · refine .inl ⟨j, rfl, (owns_some hx).2 ?_⟩
      have := (ownsO_onRefs _ _ _ _ _).1 hB
      cases x <;> simpa [ownsO, (hbj j).1] using this
    · refine .inr ⟨hck, (owns_some hx).2 ?_⟩
      have := (ownsO_onRefs _ _ _ _ _).1 hB
      have e : (E.behind E' ks base).ρ c = E.ρ c := by
        have hxn : idxIn ks c = none := by
          cases hh : idxIn ks c with
          | none => rfl
          | some j => exact absurd (List.mem_of_getElem? (idxIn_some hh)) hck
        simp only [Env.behind]
        rw [if_pos hcb, hxn]
      cases x <;> simpa [ownsO, e] using this
  have hnotC : ∀ c B, c ∉ ks → owns E σ.st c B → ¬ Owned (E.sel ks) (ks.map fun i => (σ.st.getD i .dead).onRefs (rename1 ks)) B := fun c B hck hc ho => by
    obtain ⟨k, hkk, hkB⟩ := hCown B ho
    exact hck (h.sr.inj c k B hc hkB ▸ hkk)
  have hO2 : ∀ B, Owned (E.behind E' ks base) σ2.st B → Owned E σ.st B ∨ w.heap.size ≤ B := fun B ⟨c, hc⟩ => by
    rcases hown2 c B hc with ⟨j, _, hj⟩ | ⟨_, hc⟩
    · rcases hX.oout B ⟨j, hj⟩ with h1 | h1
      · obtain ⟨k, _, hk'⟩ := hCown B h1
        exact .inl ⟨k, hk'⟩
      · exact .inr h1
    · exact .inl ⟨c, hc⟩
  have hlen2 : base ≤ σ2.st.length := by
    subst hσ2
    simp only [List.length_append, setMany_length, List.length_map]
    omega
  refine ⟨⟨⟨fun c o hc => ?_, fun c hc => ?_, fun c c' B hc hc' => ?_, fun B ⟨c, hc⟩ hz => ?_, hS.zlt⟩, ?_⟩, ?_, ?_, ?_, hlen2⟩
  · rcases hst2 c o hc with ⟨j, x, rfl, hx, rfl⟩ | ⟨hcb, hck, x, hx, rfl⟩
    · exact (hS.obj j x hx).map _ (fun _ hz => hz) (fun _ _ _ => rfl) hback (hbj j).1 (hbj j).2 (fun _ _ => rfl)
    · have hxn : idxIn ks c = none := by
        cases hh : idxIn ks c with
        | none => rfl
        | some j => exact absurd (List.mem_of_getElem? (idxIn_some hh)) hck
      have e : (E.behind E' ks base).ρ c = E.ρ c ∧ (E.behind E' ks base).sz c = E.sz c := by
        simp only [Env.behind]
        rw [if_pos hcb, if_pos hcb, hxn]
        exact ⟨rfl, rfl⟩
      have hor := h.sr.obj c x hx
      exact hor.map _ hZsub hzc hmine e.1 e.2 (fun B hB => hunC B (hor.owns_heap hB) (hnotC c B hck ((owns_some hx).2 hB)))
  · subst hσ2
    simp only [List.length_append, setMany_length, List.length_map, List.length_drop] at hc
    simp only [Env.behind]
    have hnb : ¬ (c < base) := by omega
    rw [if_neg hnb]
    exact hS.out _ (by omega)
  · rcases hown2 c B hc with ⟨j, rfl, hj⟩ | ⟨hck, hc⟩ <;> rcases hown2 c' B hc' with ⟨j', rfl, hj'⟩ | ⟨hck', hc'⟩
    · rw [hS.inj j j' B hj hj']
    · exfalso
      rcases hX.oout B ⟨j, hj⟩ with h1 | h1
      · exact hnotC _ B hck' hc' h1
      · exact absurd (h.sr.owns_lt hc') (by omega)
    · exfalso
      rcases hX.oout B ⟨j', hj'⟩ with h1 | h1
      · exact hnotC _ B hck hc h1
      · exact absurd (h.sr.owns_lt hc) (by omega)
    · exact h.sr.inj c c' B hc hc'
  · rcases hown2 c B hc with ⟨j, _, hj⟩ | ⟨hck, hc⟩
    · exact hS.zown B ⟨j, hj⟩ hz
    · rcases hX.zout B hz with h1 | h1 | h1
      · exact h.sr.zown B ⟨c, hc⟩ h1
      · exact hnotC c B hck hc h1
      · exact absurd (h.sr.owns_lt hc) (by omega)
  · subst hσ2
    exact h.tm.map _ hZsub hzc hmine
  · exact hr.map _ (fun _ hz => hz) (fun _ _ _ => rfl) hback
  · refine ⟨hX.os, hX.tape, hX.output, hX.size, fun B hB hno => hunC B hB (fun ho => by obtain ⟨k, _, hk'⟩ := hCown B ho; exact hno ⟨k, hk'⟩), hZsub, fun B hz => ?_, hO2⟩
    rcases hX.zout B hz with h1 | h1 | h1
    · exact .inl h1
    · obtain ⟨k, _, hk'⟩ := hCown B h1
      exact .inr (.inl ⟨k, hk'⟩)
    · exact .inr (.inr h1)
  · subst hσ2
    refine ⟨fun i hi => List.mem_append.2 (.inr hi), fun i hi hn => ?_⟩
    have hn' : i ∉ pickIds ks mvs := fun hm => hn (List.mem_append.2 (.inl hm))
    simp only [Env.behind]
    rw [if_pos hi, if_pos hi]
    cases hx : idxIn ks i with
    | none => exact ⟨rfl, rfl⟩
    | some j =>
      have hkj := idxIn_some hx
      have hjl : j < ks.length := (List.getElem?_eq_some_iff.1 hkj).1
      have := hsame j hjl (fun hm => hn' (mem_pickIds ⟨j, hm, hkj⟩))
      simp only [Env.sel, hkj] at this
      exact this
end
end Go.Fw
set_option linter.unusedSimpArgs false
set_option linter.unusedVariables false
namespace Go.Fw
abbrev FR (ro : Option Nat) : Fence := { Fence.wide with round := ro }
theorem room_FR (ro : Option Nat) (n : Nat) : (FR ro).room n := fun _ h => by cases h
theorem depth_FR (ro : Option Nat) (n : Nat) : (FR ro).depth.isSome = true → 1 ≤ n := fun h => by cases h
theorem callsIn_FR {ro : Option Nat} {n : Nat} {P : Program} {f : FuncId} {args : Array Value} {w : World} {R : Ending → World → Prop} : CallsIn (FR ro) n P f args w R ↔ Calls P f args w R :=
  ⟨fun h => (callsIn_wide (n := n)).1 ⟨trivial, fun cs hr => h.2 cs (room_FR ro _)⟩, fun h => ⟨trivial, fun cs _ => ((callsIn_wide (n := n)).2 h).2 cs (room_wide _)⟩⟩
theorem rowsIn_FR {ro : Option Nat} {n : Nat} {P : Program} {row : String} {args : Array Value} {w : World} {R : Value → World → Prop} (h : Rows P row args w R) : RowsIn (FR ro) n P row args w R :=
  fun c cs _ => let ⟨v, w', r, s⟩ := h c cs; ⟨v, w', r, stepsIn_wide.2 s⟩
theorem acall_eq (C : Ctx) (σ : St) (f : FuncId) (args : List AV) (K : St → AV → Option Res) :
    acall C σ f args K = match acall1 C σ f args with | some (c, σ', r) => under c (K σ' r) | none => none := by
  unfold acall acall1
  simp only
  cases (reach σ.st 8 (dedup (AV.idsL args) [])).all fun i => Nat.blt i σ.st.length with
  | false => rfl
  | true =>
    simp only [Bool.not_true, cond_false]
    cases C.call f _ _ with
    | none => rfl
    | some x => rfl
theorem anext_eq (σ : St) (x : AV) (K : St → AV → Option Res) : anext σ x K = match anext1 σ x with | some (σ', r) => K σ' r | none => none := by
  unfold anext anext1
  split
  · rename_i id
    try simp only
    cases he : σ.st.getD id .dead with
    | iter s pos => cases hd : decide (pos < s.size) <;> simp [he, hd]
    | _ => simp [he]
  · rfl
def step1 (C : Ctx) (ops : List Oper) (rid i : Nat) (o : Oper) (σ : St) : Option St :=
  match guardOf ops σ o with
  | none => none
  | some true => match exec1 C (σ.weaks C.T (look2 C.ann.pre rid i)) o with
    | some (true, σ', v) => some (σ'.put o.dst v)
    | _ => none
  | some false => some (σ.put o.dst (.k undef))
theorem splitAt_some {sp : Bool} {σ : St} {dst : Option Nat} {v : AV} {K : St → Option Res} {res : Res} (h : splitAt sp σ dst v K = some res) : K (σ.put dst v) = some res := by
  unfold splitAt at h
  split at h
  · rename_i b
    cases b <;> exact h
  · exact h
theorem evOps_cons {C : Ctx} {ops : List Oper} {rid : Nat} {o : Oper} {rest : List Oper} {i : Nat} {σ : St} {K : St → Option Res} {res : Res}
    (h : evOps C ops rid (o :: rest) i σ K = some res) : freeBad C rid i σ o = false ∧ ∃ σ1, step1 C ops rid i o σ = some σ1 ∧ evOps C ops rid rest (i + 1) σ1 K = some res := by
  unfold evOps at h
  cases hfb : freeBad C rid i σ o with
  | true => rw [hfb] at h; cases h
  | false =>
  rw [hfb] at h
  simp only [cond_false] at h
  refine ⟨rfl, ?_⟩
  unfold step1
  cases hg : guardOf ops σ o with
  | none => rw [hg] at h; cases h
  | some g =>
    rw [hg] at h
    cases g with
    | false => exact ⟨_, rfl, h⟩
    | true =>
      simp only [cond_true] at h
      simp only
      unfold exec1
      generalize σ.weaks C.T (look2 C.ann.pre rid i) = σw at h
      split at h
      · rename_i f args ats heq
        try simp only [heq]
        split at h
        · rename_i n first captured hf
          try simp only [hf]
          rw [acall_eq] at h
          split at h
          · rename_i c σ' r hc
            cases c with
            | false => simp [under] at h
            | true =>
              rw [hc]
              simp only [under, cond_true] at h
              exact ⟨_, rfl, splitAt_some h⟩
          · cases h
        · cases h
      · rename_i it heq
        try simp only [heq]
        rw [anext_eq] at h
        split at h
        · rename_i σ' r hc
          rw [hc]
          exact ⟨_, rfl, h⟩
        · cases h
      · rename_i hn1 hn2
        split at h
        · cases h
        · rename_i c σ' v ha
          cases c with
          | false => simp [under] at h
          | true =>
            simp only [under, cond_true] at h
            exact ⟨σ'.put o.dst v, by rw [ha], splitAt_some h⟩
def Post (T : Tab) (E : Env) (Z : Nat → Prop) (w : World) (st : List AObj) (mvs : List Nat) (r : AV) (st' : List AObj) (v : Value) (w' : World) : Prop :=
  ∃ E' Z', SR T E' Z' w' st' ∧ VR T E' Z' w' r v ∧ Ext (Owned E st) Z w (Owned E' st') Z' w' ∧ st.length ≤ st'.length ∧ ∀ i, i < st.length → i ∉ mvs → E'.ρ i = E.ρ i ∧ E'.sz i = E.sz i
def CF (P : Program) (T : Tab) (f : FuncId) (args : List AV) (st : List AObj) (mvs : List Nat) (r : AV) (st' : List AObj) : Prop :=
  ∀ (E : Env) (Z : Nat → Prop) (w : World) (vals : List Value), SR T E Z w st → VRs T E Z w args vals →
    ((callFunc f vals.toArray).run P w = .ok (.enter f vals.toArray) w ∧ Calls P f vals.toArray w fun e w' => ∃ v, e = .returned v ∧ Post T E Z w st mvs r st' v w') ∨
    (∃ v w', (callFunc f vals.toArray).run P w = .ok (.value v) w' ∧ Post T E Z w st mvs r st' v w') ∨
    (∃ row as, (callFunc f vals.toArray).run P w = .ok (.row row as) w ∧ Rows P row as w fun v w' => Post T E Z w st mvs r st' v w')
def CallOk (P : Program) (C : Ctx) : Prop :=
  ∀ g args st r st', C.call g args st = some (true, r, st') →
    CF P C.T g args st (C.sig g).2.2 r st' ∧ (C.sig g).1.ok r = true ∧ OS.okL (C.sig g).2.1 st' = true ∧ st.length ≤ st'.length
mutual
theorem RS.expand_ok : ∀ {r : RS} {v : AV}, r.ok v = true → r.expand v = v
  | .cell ct, v, h => by simp only [RS.expand]; exact Fw.expand_ok (by simpa [RS.ok] using h)
  | .a rs, v, h => by
    cases v <;> simp [RS.ok] at h
    simp only [RS.expand, AV.cells]; exact congrArg _ (RS.expandL_ok (pre := []) h)
  | .t rs, v, h => by
    cases v <;> simp [RS.ok] at h
    simp only [RS.expand, AV.parts]; exact congrArg _ (RS.expandL_ok (pre := []) h)
  | .sr i, v, h => by
    cases v <;> simp [RS.ok] at h
    simp [RS.expand, h]
  | .p i o, v, h => by
    cases v <;> simp [RS.ok] at h
    simp [RS.expand, h]
  | .ss i, v, h => by
    cases v <;> simp [RS.ok] at h
    simp [RS.expand, AV.lo, AV.len, h]
  | .any, v, h => rfl
theorem RS.expandL_ok : ∀ {rs : List RS} {pre vs : List AV}, RS.okL rs vs = true → RS.expandL rs pre.length (pre ++ vs) = vs
  | [], pre, [], _ => rfl
  | [], _, _ :: _, h => by simp [RS.okL] at h
  | _ :: _, _, [], h => by simp [RS.okL] at h
  | r :: rs, pre, v :: vs, h => by
    simp only [RS.okL, Bool.and_eq_true] at h
    simp only [RS.expandL]
    have e : (pre ++ v :: vs).getD pre.length .undef = v := by simp
    rw [e, RS.expand_ok h.1]
    have := RS.expandL_ok (pre := pre ++ [v]) h.2
    simp only [List.length_append, List.length_singleton, List.append_assoc, List.singleton_append] at this
    rw [this]
end
theorem OS.expand_ok {o : OS} {x : AObj} (h : o.ok x = true) : o.expand x = x := by
  cases o with
  | box t rs =>
    cases x <;> simp [OS.ok] at h
    simp only [OS.expand, AObj.cellsO]; rw [h.1]; exact congrArg _ (RS.expandL_ok (pre := []) h.2)
  | arr t kd =>
    cases x <;> simp [OS.ok] at h
    simp [OS.expand, AObj.rowsO, h.1, h.2]
  | dead =>
    cases x <;> simp [OS.ok] at h
    rfl
  | rest => rfl
theorem OS.expandL_ok : ∀ {rs : List OS} {pre vs : List AObj}, OS.okL rs vs = true → OS.expandL rs pre.length (pre ++ vs) = vs
  | [], pre, [], _ => rfl
  | [], _, _ :: _, h => by simp [OS.okL] at h
  | r :: rs, pre, vs, h => by
    by_cases hr : r = .rest ∧ rs = []
    · obtain ⟨rfl, rfl⟩ := hr
      simp [OS.expandL]
    · have e1 : ∀ v vs, OS.okL (r :: rs) (v :: vs) = (r.ok v && OS.okL rs vs) := fun v vs => by
        cases r <;> first | rfl | (cases rs <;> first | rfl | exact absurd ⟨rfl, rfl⟩ hr)
      have e2 : ∀ j vs, OS.expandL (r :: rs) j vs = r.expand (vs.getD j .dead) :: OS.expandL rs (j + 1) vs := fun j vs => by
        cases r <;> first | rfl | (cases rs <;> first | rfl | exact absurd ⟨rfl, rfl⟩ hr)
      have e3 : OS.okL (r :: rs) [] = false := by
        cases r <;> first | rfl | (cases rs <;> first | rfl | exact absurd ⟨rfl, rfl⟩ hr)
      cases vs with
      | nil => rw [e3] at h; cases h
      | cons v vs =>
        rw [e1, Bool.and_eq_true] at h
        rw [e2]
        have e : (pre ++ v :: vs).getD pre.length .dead = v := by simp
        rw [e, OS.expand_ok h.1]
        have := OS.expandL_ok (pre := pre ++ [v]) h.2
        simp only [List.length_append, List.length_singleton, List.append_assoc, List.singleton_append] at this
        rw [this]
section
variable {P : Program} {T : Tab} {E E' : Env} {Z Z' : Nat → Prop} {w w' : World} {σ σ' : St} {vals : List Value}
def After (T : Tab) (E : Env) (Z : Nat → Prop) (w : World) (vals : List Value) (σ σ' : St) (av : AV) (v : Value) (w' : World) : Prop :=
  ∃ E' Z', StR T E' Z' w' σ' vals ∧ VR T E' Z' w' av v ∧ Ext (Owned E σ.st) Z w (Owned E' σ'.st) Z' w' ∧ Mv σ E σ' E' ∧ σ.st.length ≤ σ'.st.length
theorem acall1_ok {C : Ctx} (hC : CallOk P C) (hT : C.T = T) (h : StR T E Z w σ vals) {f : FuncId} {args : List AV} {avals : List Value} (ha : VRs T E Z w args avals) {r : AV}
    (hs : acall1 C σ f args = some (true, σ', r)) :
    ((callFunc f avals.toArray).run P w = .ok (.enter f avals.toArray) w ∧ Calls P f avals.toArray w fun e w' => ∃ v, e = .returned v ∧ After T E Z w vals σ σ' r v w') ∨
    (∃ v w', (callFunc f avals.toArray).run P w = .ok (.value v) w' ∧ After T E Z w vals σ σ' r v w') ∨
    (∃ row as, (callFunc f avals.toArray).run P w = .ok (.row row as) w ∧ Rows P row as w fun v w' => After T E Z w vals σ σ' r v w') := by
  unfold acall1 at hs
  simp only at hs
  generalize hks : reach σ.st 8 (dedup (AV.idsL args) []) = ks at hs
  have hnd : ks.Nodup := by rw [← hks]; exact reach_nodup _ _ _ (dedup_nodup _ _ List.nodup_nil)
  cases hall : ks.all fun i => Nat.blt i σ.st.length with
  | false => rw [hall] at hs; cases hs
  | true =>
    rw [hall] at hs
    simp only [Bool.not_true, cond_false] at hs
    have hin : ∀ k ∈ ks, k < σ.st.length := fun k hk => by
      have := List.all_eq_true.1 hall k hk
      simpa [Nat.blt_eq] using this
    split at hs
    · cases hs
    · rename_i c0 r0 st0 hcall
      have hc0 : c0 = true := by cases hs; rfl
      subst hc0
      obtain ⟨hcf, hr0, ho0, hl0⟩ := hC _ _ _ _ _ hcall
      have er : (C.sig f).1.expand r0 = r0 := RS.expand_ok hr0
      have es : OS.expandL (C.sig f).2.1 0 st0 = st0 := OS.expandL_ok (pre := []) ho0
      rw [er, es] at hs
      cases hs
      rw [hT] at hcf
      have hkeep := h.sr.keep ks hnd
      have hargs : VRs T (E.sel ks) Z w (AV.onRefsL (rename1 ks) args) avals := ha.map _ (fun _ hz => hz) (fun _ _ _ => rfl) (sel_leaf ks (fun _ hz => hz))
      have hlen : ks.length ≤ st0.length := by simpa using hl0
      have key : ∀ v w', Post T (E.sel ks) Z w (ks.map fun i => (σ.st.getD i .dead).onRefs (rename1 ks)) (C.sig f).2.2 r0 st0 v w' →
          After T E Z w vals σ { tmps := AV.onRefsL (scrubL1 (pickIds ks (C.sig f).2.2)) σ.tmps, st := setMany (σ.st.map (AObj.onRefs (scrubL1 (pickIds ks (C.sig f).2.2)))) ks (st0.map (AObj.onRefs (back1 ks σ.st.length))) ++ (st0.drop ks.length).map (AObj.onRefs (back1 ks σ.st.length)), moved := pickIds ks (C.sig f).2.2 ++ σ.moved } (r0.onRefs (back1 ks σ.st.length)) v w' := by
        intro v w' ⟨E1, Z1, p1, p2, p3, p4, p5⟩
        obtain ⟨q1, q2, q3, q4, q5⟩ := call_back h hnd hin p1 p2 p3 hlen (fun i hi hm => p5 i (by simpa using hi) hm) _ rfl
        exact ⟨_, _, q1, q2, q3, q4, q5⟩
      rcases hcf (E.sel ks) Z w avals hkeep.1 hargs with ⟨h1, h2⟩ | ⟨v, w', h1, h2⟩ | ⟨row, as, h1, h2⟩
      · exact .inl ⟨h1, h2.mono fun e w' ⟨v, he, hp⟩ => ⟨v, he, key v w' hp⟩⟩
      · exact .inr (.inl ⟨v, w', h1, key v w' h2⟩)
      · exact .inr (.inr ⟨row, as, h1, h2.mono fun v w' hp => key v w' hp⟩)
end
end Go.Fw
set_option linter.unusedSimpArgs false
set_option linter.unusedVariables false
namespace Go.Fw
section
variable {T : Tab} {σ σ' : St} {c : Bool} {av : AV}
theorem astore_len {t : Nat} {v x : AV} (h : astore T σ t v x = some σ') : σ.st.length ≤ σ'.st.length := by
  unfold astore at h
  repeat' split at h
  all_goals first | (cases h; done) | skip
  all_goals
    (try simp only [cond_eq_ite] at h)
    split at h <;> first | (cases h; done) | (cases h; simp)
theorem abuildSlice_len {t len : Nat} {ps : List (Nat × AV)} (h : abuildSlice T σ t len ps = some (σ', av)) : σ.st.length ≤ σ'.st.length := by
  unfold abuildSlice at h
  repeat' split at h
  all_goals first | (cases h; done) | skip
  all_goals
    simp only [cond_eq_ite] at h
    repeat' split at h
    all_goals first | (cases h; done) | (cases h; simp [St.new])
theorem amakeSlice_len {t : Nat} {l cp : AV} (h : amakeSlice T σ t l cp = some (c, σ', av)) : σ.st.length ≤ σ'.st.length := by
  unfold amakeSlice at h
  repeat' split at h
  all_goals first | (cases h; done) | skip
  all_goals
    simp only [cond_eq_ite] at h
    split at h <;> first | (cases h; done) | (cases h; simp [St.new])
theorem aappend_len {t : Nat} {s x : AV} (h : aappend T σ t s x = some (c, σ', av)) : σ.st.length ≤ σ'.st.length := by
  unfold aappend at h
  repeat' split at h
  all_goals first | (cases h; done) | skip
  all_goals
    simp only [cond_eq_ite] at h
    repeat' split at h
  all_goals first | (cases h; done) | (cases h; simp [St.new, St.scrub])
theorem aappendX_len {t : Nat} {s x : AV} (h : aappendX T σ t s x = some (c, σ', av)) : σ.st.length ≤ σ'.st.length := by
  unfold aappendX at h
  repeat' split at h
  all_goals first | (cases h; done) | skip
  all_goals
    simp only [cond_eq_ite] at h
    repeat' split at h
  all_goals first | (cases h; done) | (cases h; simp [St.new, St.scrub])
theorem abuildX_len {t len : Nat} {parts : List (Nat × AV)} (h : abuildX T σ t len parts = some (σ', av)) : σ.st.length ≤ σ'.st.length := by
  unfold abuildX at h
  repeat' split at h
  all_goals first | (cases h; done) | skip
  all_goals
    simp only [cond_eq_ite] at h
    repeat' split at h
  all_goals first | (cases h; done) | (cases h; simp [St.new])
theorem aappendZ_len {t u : Nat} {s x : AV} (h : aappendZ T σ t u s x = some (c, σ', av)) : σ.st.length ≤ σ'.st.length := by
  unfold aappendZ at h
  repeat' split at h
  all_goals first | (cases h; done) | skip
  all_goals
    simp only [cond_eq_ite] at h
    repeat' split at h
  all_goals first | (cases h; done) | (cases h; simp [St.new])
theorem writeRows_len {e : Nat} {d : AV} {ys : List (List AV)} (h : writeRows T σ e d ys = some (c, σ')) : σ.st.length ≤ σ'.st.length := by
  unfold writeRows at h
  split at h
  · cases h
  · simp only [cond_eq_ite] at h
    repeat' split at h
    all_goals first | (cases h; done) | (cases h; simp)
theorem Ab.map_some {α β : Type} {f : α → β} {x : Ab α} {c : Bool} {y : β} (h : Ab.map f x = some (c, y)) : ∃ z, x = some (c, z) ∧ f z = y := by
  unfold Ab.map at h
  split at h
  · cases h; exact ⟨_, rfl, rfl⟩
  · cases h
theorem abuiltin_len {b : Builtin} {ts : List Nat} {as : List AV} (h : abuiltin T σ b ts as = some (c, σ', av)) : σ.st.length ≤ σ'.st.length := by
  unfold abuiltin at h
  split at h
  · split at h
    · cases h; exact Nat.le_refl _
    · cases h
  · simp only [cond_eq_ite] at h
    split at h
    · split at h
      · rename_i r hr
        exact aappend_len (hr.trans h)
      · exact aappendX_len h
    · exact aappendZ_len h
  · split at h
    · cases h; exact Nat.le_refl _
    · cases h
  · unfold acopy at h
    repeat' split at h
    all_goals first | (cases h; done) | skip
    all_goals
      simp only [cond_eq_ite] at h
      split at h
      · obtain ⟨z, hz, e⟩ := Ab.map_some h
        cases e; exact writeRows_len hz
      · cases h
  · unfold aclear at h
    repeat' split at h
    all_goals first | (cases h; done) | skip
    all_goals
      obtain ⟨z, hz, e⟩ := Ab.map_some h
      cases e; exact writeRows_len hz
  · split at h
    · cases h; exact Nat.le_refl _
    · cases h
  · split at h
    · cases h; exact Nat.le_refl _
    · cases h
  · cases h
theorem Ab.ok_some {α : Type} {x : Option α} {c : Bool} {y : α} (h : Ab.ok x = some (c, y)) : x = some y := by
  cases x with
  | none => cases h
  | some z => simp only [Ab.ok] at h; cases h; rfl
theorem amakeMap_len {t : Nat} (h : amakeMap T σ t = some (σ', av)) : σ.st.length ≤ σ'.st.length := by
  unfold amakeMap at h
  simp only [cond_eq_ite] at h
  repeat' split at h
  all_goals first | (cases h; done) | (cases h; simp [St.new])
theorem amapUpdate_len {t : Nat} {m k v : AV} (h : amapUpdate T σ t m k v = some σ') : σ.st.length ≤ σ'.st.length := by
  unfold amapUpdate at h
  simp only [cond_eq_ite] at h
  repeat' split at h
  all_goals first | (cases h; done) | (cases h; simp)
theorem aop_len {o : Op} (h : aop T σ o = some (c, σ', av)) : σ.st.length ≤ σ'.st.length := by
  unfold aop at h
  simp only at h
  split at h
  all_goals first
    | exact abuiltin_len h
    | exact amakeSlice_len h
    | (have h' := Ab.ok_some h
       split at h'
       · rename_i r hr; exact abuildSlice_len (hr.trans h')
       · exact abuildX_len h')
    | skip
  all_goals try simp only [cond_eq_ite] at h
  all_goals repeat' split at h
  all_goals first
    | (cases h; done)
    | (cases h; exact Nat.le_refl _)
    | (cases h; rename_i h1; exact astore_len h1)
    | (cases h; rename_i h1; exact amapUpdate_len h1)
    | exact amakeMap_len (Ab.ok_some h)
    | (cases h; simp [St.new]; done)
    | skip
end
section
variable {P : Program} {T : Tab} {E : Env} {Z : Nat → Prop} {w w' : World} {σ σ' : St} {vals : List Value}
theorem litRows_ok (hT : TabOk P T) (h : StR T E Z w σ vals) {t len : Nat} {parts : Array (Nat × Operand)} {a : Act} {e : Nat} {rows : List (List AV)} (ht : VRs T E Z w σ.tmps a.tmps.toList)
    (hs : litRows T t len (parts.toList.map fun p => (p.1, σ.eval p.2)) = some (e, rows)) :
    ∃ Z' w' v, (Instr.buildSlice t len (parts.map fun (i, x) => (i, a.eval x))).run P w = .ok v w' ∧ StR T E Z' w' σ vals ∧ VR T E Z' w' (.sl e .full rows) v ∧ Ext (Owned E σ.st) Z w (Owned E σ.st) Z' w' := by
  unfold litRows at hs
  split at hs
  · rename_i e0 cells bytes hti
    obtain ⟨i, d, z, hto⟩ := hT _ _ hti
    have hd := dOk_sl hto.desc
    subst hd
    split at hs
    · rename_i te hte
      obtain ⟨ie, de, ze, htoe⟩ := hT _ _ hte
      have hcte := elem_cts hte
      split at hs
      · cases hs
      · rename_i hne
        have hpos : 0 < te.cells.length := by
          rcases Nat.eq_zero_or_pos te.cells.length with h0 | h0
          · exact absurd (List.length_eq_zero_iff.1 h0) hne
          · exact h0
        cases hb : Nat.ble (len * te.cells.length) (2 ^ 24) with
        | false => rw [hb] at hs; cases hs
        | true =>
          rw [hb] at hs
          have hb := Nat.le_of_ble_eq_true hb
          simp only [cond_true] at hs
          split at hs
          · rename_i rows0 hf
            cases hs
            rw [← hcte] at hf
            have hz := zeroRows_ok (P := P) (E := E) (Z := Z) (w := w) hte htoe len hpos
            rw [← hcte] at hz
            obtain ⟨vs', hv', hrr, hll⟩ := fillRows_ok (by simp) (fun j p q => parts_ok ht parts j p q) hz hf
            have hlen : rows.length = len := by rw [hll]; simp
            rcases Nat.eq_zero_or_pos len with h0 | h0
            · subst h0
              have hr0 : rows = [] := List.length_eq_zero_iff.1 hlen
              subst hr0
              have hp0 : (parts.map fun (i, x) => (i, a.eval x)).toList = [] := by
                cases hpp : (parts.map fun (i, x) => (i, a.eval x)).toList with
                | nil => rfl
                | cons p ps =>
                  exfalso
                  have hpl : (parts.toList.map fun p => (p.1, σ.eval p.2)).length = (parts.map fun (i, x) => (i, a.eval x)).toList.length := by simp
                  rw [hpp] at hpl
                  cases hq : (parts.toList.map fun p => (p.1, σ.eval p.2)) with
                  | nil => rw [hq] at hpl; simp at hpl
                  | cons q qs =>
                    rw [hq] at hf
                    simp only [List.replicate_zero, fillRows, Nat.blt, List.length_nil] at hf
                    have hbl : Nat.ble (q.1 + 1) 0 = false := rfl
                    rw [hbl, Bool.and_false] at hf
                    cases hf
              have hg := Grew.alloc w (.cells #[] e)
              have hrun : (Instr.buildSlice t 0 (parts.map fun (i, x) => (i, a.eval x))).run P w = .ok (.slice (some ⟨w.heap.size, 0, none⟩) 0 0) (w.alloc (.cells #[] e)) := by
                simp only [Instr.buildSlice, Sem.run_bind, run_und hto.und, Result.andThen_ok, run_szOf htoe.info, Nat.zero_mul]
                rw [if_neg (by decide)]
                simp only [Sem.run_pure, Result.andThen_ok, if_true, hp0, Sem.run_bind]
                simp [Instr.fill, newRow, Array.range_zero']
              obtain ⟨h1, h2⟩ := h.value (w' := w.alloc (.cells #[] e)) hg.old (by rw [hg.size]; omega) rfl rfl rfl
              exact ⟨_, _, _, hrun, h1, .sl e .full [] ⟨w.heap.size, 0, none⟩ 0 (fun _ _ => .bool false) (by simp) (fun _ => rfl) (Nat.le_refl _) (fun h => absurd rfl h) (fun h => absurd rfl h)
                (fun row hr => by simp at hr) (fun i row j av hi => by simp at hi) (fun i row j av hi => by simp at hi), h2⟩
            · have hvl : vs'.length = len * (cts T e).length := by rw [hrr.length, hlen]
              have hg := Grew.alloc w (.cells vs'.toArray e)
              have hrun : (Instr.buildSlice t len (parts.map fun (i, x) => (i, a.eval x))).run P w = .ok (.slice (some ⟨w.heap.size, 0, none⟩) len len) (w.alloc (.cells vs'.toArray e)) := by
                refine run_buildSlice w t e len _ _ ie ze hto.und htoe.info htoe.zero (by rw [htoe.size]; omega) (by rw [htoe.size]; have := Nat.mul_pos h0 hpos; omega) ?_
                rw [htoe.size, ← hcte]
                have : (Array.range (len * (cts T e).length)).map (fun x => ze.cells[x % ze.cells.size]!) = (madeCells ze.cells (len * (cts T e).length)) := rfl
                rw [this]
                simpa using hv'
              obtain ⟨h1, h2⟩ := h.value (w' := w.alloc (.cells vs'.toArray e)) hg.old (by rw [hg.size]; omega) rfl rfl rfl
              have hm := hrr.mono (E' := E) (Z' := fun b => Z b ∨ (w.heap.size ≤ b ∧ b < (w.alloc (.cells vs'.toArray e)).heap.size)) (w' := w.alloc (.cells vs'.toArray e)) (fun i v hv => ⟨hv, rfl⟩) (fun _ hz => .inl hz) (h.sr.zcell fun b hb _ => hg.old b hb)
              refine ⟨_, _, _, hrun, h1, ?_, h2⟩
              have := VR.sl (T := T) (E := E) (Z := fun b => Z b ∨ (w.heap.size ≤ b ∧ b < (w.alloc (.cells vs'.toArray e)).heap.size)) (w := w.alloc (.cells vs'.toArray e)) e .full rows ⟨w.heap.size, 0, none⟩ len
                (fun i j => vs'.getD (i * (cts T e).length + j) (.bool false)) (by simp) (fun _ => hlen.symm) (by omega) (fun _ => rfl) (fun _ => .inr ⟨Nat.le_refl _, by rw [hg.size]; exact Nat.lt_succ_self _⟩) hrr.1
                (fun i row j av hi hj => by
                  obtain ⟨v', hv', hr'⟩ := hm.get hi hj
                  rw [cell_of hg.new, List.getD_eq_getElem?_getD]
                  simp only [Nat.zero_add]
                  rw [hv']; rfl)
                (fun i row j av hi hj => by
                  obtain ⟨v', hv', hr'⟩ := hm.get hi hj
                  rw [List.getD_eq_getElem?_getD, hv']; exact hr')
              rw [hlen] at this
              exact this
          · cases hs
    · cases hs
  · cases hs
end
section
variable {P : Program} {T : Tab} {E E' : Env} {Z Z' : Nat → Prop} {w w' : World} {σ σ' : St} {vals : List Value}
theorem VRs.put {l : List AV} {vs : List Value} (h : VRs T E Z w l vs) (t : Nat) {av : AV} {v : Value} (hv : VR T E Z w av v) : VRs T E Z w (l.set t av) (vs.set t v) := by
  refine ⟨by simp [h.1], fun j x y hx hy => ?_⟩
  rw [List.getElem?_set] at hx hy
  split at hx
  · rename_i ht
    rw [if_pos ht] at hy
    split at hx
    · cases hx
      split at hy
      · cases hy; exact hv
      · cases hy
    · cases hx
  · rename_i ht
    rw [if_neg ht] at hy
    exact h.2 j x y hx hy
theorem put_tmps (a : Act) (dst : Option Tmp) (v : Value) : (a.put dst v).tmps.toList = match dst with | some d => a.tmps.toList.set d v | none => a.tmps.toList := by
  cases dst <;> simp [Act.put]
theorem StR.put {a : Act} (h : StR T E Z w σ a.tmps.toList) (dst : Option Nat) {av : AV} {v : Value} (hv : VR T E Z w av v) : StR T E Z w (σ.put dst av) (a.put dst v).tmps.toList := by
  rw [put_tmps]
  cases dst with
  | none => exact h
  | some d => exact ⟨h.sr, h.tm.put d hv⟩
structure Base where
  E0 : Env
  O0 : Nat → Prop
  Z0 : Nat → Prop
  w0 : World
  m : Nat
  D : List Deferred := []
  ro : Option Nat := none
inductive Marked (w : World) (n : Nat) : List Deferred → List Deferred → List Nat → Prop
  | nil : Marked w n [] [] []
  | mark {D l rs} (r : Nat) (hn : n ≤ r) (hb : w.heap[r]? = some (.deferred (some []))) (hr : r ∉ rs) (h : Marked w n D l rs) : Marked w n D ({ target := .collected r, args := #[] } :: l) (r :: rs)
  | keep {D l rs} (d : Deferred) (h : Marked w n D l rs) : Marked w n (d :: D) (d :: l) rs
theorem Marked.same' {w w' : World} {n : Nat} {D l : List Deferred} {rs : List Nat} (h : Marked w n D l rs) (hw : ∀ r : Nat, r ∈ rs → w.heap[r]? = some (.deferred (some [])) → w'.heap[r]? = some (.deferred (some []))) : Marked w' n D l rs := by
  induction h with
  | nil => exact .nil
  | mark r hn hb hr _ ih => exact .mark r hn (hw r List.mem_cons_self hb) hr (ih fun r' hr' => hw r' (List.mem_cons_of_mem _ hr'))
  | keep d _ ih => exact .keep d (ih hw)
theorem Marked.same {w w' : World} {n : Nat} (hw : ∀ r : Nat, w.heap[r]? = some (.deferred (some [])) → w'.heap[r]? = some (.deferred (some []))) {D l : List Deferred} {rs : List Nat} (h : Marked w n D l rs) : Marked w' n D l rs :=
  h.same' fun r _ hb => hw r hb
theorem SR.not_deferred {T : Tab} {E : Env} {Z : Nat → Prop} {w : World} {st : List AObj} (h : SR T E Z w st) {r : Nat} {ds : Option (List Deferred)} (hb : w.heap[r]? = some (.deferred ds)) : ¬ Owned E st r := fun ⟨id, ho⟩ => by
  obtain ⟨o, hst, ho⟩ := owns_get ho
  have hor := h.obj id o hst
  cases hor with
  | dead => exact ho
  | loop fin pend fn tmps ps a b l D fn' vs he hb' hr =>
    have h' : E.ρ id = _ := ho
    rw [he] at h'; simp at h'; subst h'; rw [hb] at hb'; cases hb'
  | mpo x t kt et es r' clock ns he hb' ht hl hr =>
    have h' : E.ρ id = _ := ho
    rw [he] at h'; simp at h'; subst h'; rw [hb] at hb'; cases hb'
  | box t cs B vs ty he hb' hr =>
    obtain ⟨A, hA, rfl⟩ := ho
    rw [he] at hA; simp at hA; subst hA; rw [hb] at hb'; cases hb'
  | arr0 t kd A he hn hk hsz =>
    obtain ⟨A', n, c, hA, h0, rfl⟩ := ho
    rw [he] at hA; simp at hA; omega
  | arr t kd rows B o' c vs ty hn he hc h0 hf hsz hb' hoo hok hr =>
    obtain ⟨A', n, c', hA, h0', rfl⟩ := ho
    rw [he] at hA; simp at hA; obtain ⟨rfl, _⟩ := hA; rw [hb] at hb'; cases hb'
  | iter s pos B he hb' =>
    obtain ⟨A, hA, rfl⟩ := ho
    rw [he] at hA; simp at hA; subst hA; rw [hb] at hb'; cases hb'
  | arx t rows B o' c vs ty he hc h0 hsz hb' hoo hlen hr =>
    obtain ⟨A', n, c', hA, h0', rfl⟩ := ho
    rw [he] at hA; simp at hA; obtain ⟨rfl, _⟩ := hA; rw [hb] at hb'; cases hb'
theorem SR.marks {T : Tab} {E : Env} {Z : Nat → Prop} {w w' : World} {st : List AObj} (h : SR T E Z w st) {O' Z' : Nat → Prop} (hX : Ext (Owned E st) Z w O' Z' w') (r : Nat) (hb : w.heap[r]? = some (.deferred (some []))) :
    w'.heap[r]? = some (.deferred (some [])) := by
  rw [hX.same r (Array.getElem?_eq_some_iff.1 hb).1 (h.not_deferred hb)]; exact hb
def Defs (B : Base) (a : Act) (w : World) : Prop := ∃ rs, Marked w B.w0.heap.size B.D a.defers rs
theorem Defs.same {B : Base} {a a' : Act} {w w' : World} (h : Defs B a w) (ha : a'.defers = a.defers) (hw : ∀ r : Nat, w.heap[r]? = some (.deferred (some [])) → w'.heap[r]? = some (.deferred (some []))) : Defs B a' w' := by
  obtain ⟨rs, h⟩ := h
  exact ⟨rs, by rw [ha]; exact h.same hw⟩
def At (T : Tab) (B : Base) (σ : St) (a : Act) (w : World) : Prop :=
  Defs B a w ∧ ∃ E Z, StR T E Z w σ a.tmps.toList ∧ Ext B.O0 B.Z0 B.w0 (Owned E σ.st) Z w ∧ Kp B.E0 B.m σ.moved E ∧ B.m ≤ σ.st.length
theorem guard_ok {ops : Array Oper} {a : Act} (h : VRs T E Z w σ.tmps a.tmps.toList) {o : Oper} {g : Bool} (hg : guardOf ops.toList σ o = some g) :
    Region.wanted o (yielded ops a.tmps) = g := by
  unfold guardOf at hg
  unfold Region.wanted
  split at hg
  · rename_i hn; rw [hn]; cases hg; rfl
  · rename_i j want hn
    rw [hn]
    simp only
    unfold yielded
    split at hg
    · rename_i og ho
      have ho' : ops[j]? = some og := by simpa using ho
      rw [ho']
      split at hg
      · rename_i d hd
        simp only [Option.bind_some, hd]
        have hx : ∀ av, σ.tmps.getD d .undef = av → av ≠ .undef → ∃ v, a.tmps[d]? = some v ∧ VR T E Z w av v := fun av e hne => by
          rcases Nat.lt_or_ge d σ.tmps.length with hl | hl
          · have h1 : σ.tmps[d]? = some av := by rw [List.getElem?_eq_getElem hl]; rw [List.getD_eq_getElem?_getD, List.getElem?_eq_getElem hl] at e; simpa using e
            have hl2 : d < a.tmps.toList.length := h.1 ▸ hl
            have h2 := List.getElem?_eq_getElem hl2
            exact ⟨_, by simpa using h2, h.2 d av _ h1 h2⟩
          · rw [List.getD_eq_getElem?_getD, List.getElem?_eq_none hl] at e; exact absurd e.symm hne
        split at hg
        · rename_i b hb
          obtain ⟨v, hv, hr⟩ := hx _ hb (by simp)
          cases hr
          rw [hv]; cases hg; cases b <;> cases want <;> rfl
        · rename_i vs hb
          obtain ⟨v, hv, hr⟩ := hx _ hb (by simp)
          rw [hv]
          cases hr with
          | k _ hs => simp [scalar] at hs
          | ku => cases hg; cases want <;> rfl
        · cases hg
      · cases hg
    · cases hg
theorem anext1_ok (h : StR T E Z w σ vals) {x r : AV} {vx : Value} (hx : VR T E Z w x vx) (hs : anext1 σ x = some (σ', r)) (t : TypeId) :
    ∃ v w', (Instr.next vx true t).run P w = .ok v w' ∧ After T E Z w vals σ σ' r v w' := by
  unfold anext1 at hs
  split at hs
  · rename_i id
    split at hs
    · rename_i s pos hst
      have hst := getD_some hst (by simp)
      have hid : id < σ.st.length := (List.getElem?_eq_some_iff.1 hst).1
      cases hx with
      | ptr _ _ B he =>
      have hor := h.sr.obj id _ hst
      cases hor with
      | iter _ _ B' he' hb =>
      rw [he] at he'; cases he'
      have hB : B < w.heap.size := (Array.getElem?_eq_some_iff.1 hb).1
      cases hd : decide (pos < s.size) with
      | false =>
        rw [hd] at hs; cases hs
        have hp : ¬ pos < s.size := by simpa using hd
        refine ⟨.tuple #[.bool false], w, by simp [Instr.next, getObj, Sem.run, hb, hp], E, Z, h, ?_, Ext.refl _ _ _, Mv.refl _ _ rfl, Nat.le_refl _⟩
        exact .tup [_] [_] rfl (fun j av v hj hv => by
          cases j <;> simp at hj hv
          subst hj; subst hv; exact .k _ rfl)
      | true =>
        rw [hd] at hs; cases hs
        have hp : pos < s.size := by simpa using hd
        have hw : OnlyAt B w { w with heap := w.heap.setIfInBounds B (.stringIter s (pos + (Utf8.decode s pos).2)) } :=
          ⟨fun b hb' => by simp [Array.getElem?_setIfInBounds_ne (Ne.symm hb')], by simp, rfl, rfl, rfl⟩
        obtain ⟨h1, h2⟩ := h.write (o' := .iter s (pos + (Utf8.decode s pos).2)) hid ((owns_some hst).2 ⟨_, he, rfl⟩) hw
          (.iter s _ B he (by simp [hB])) (fun C ⟨A, hA, hC⟩ => by rw [he] at hA; cases hA; exact hC.symm)
        refine ⟨.tuple #[.bool true, goInt pos, .int .i32 (Utf8.decode s pos).1], _, ?_, E, Z, h1, ?_, h2, Mv.refl _ _ rfl, by simp⟩
        · simp [Instr.next, getObj, setObj, Sem.run, hb, hp]
        · exact .tup [_, _, _] [_, _, _] rfl (fun j av v hj hv => by
            match j, hj, hv with
            | 0, hj, hv => simp at hj hv; subst hj; subst hv; exact .k _ rfl
            | 1, hj, hv => simp at hj hv; subst hj; subst hv; exact .k _ rfl
            | 2, hj, hv => simp at hj hv; subst hj; subst hv; exact .k _ rfl
            | j + 3, hj, hv => simp at hj)
    · cases hs
  · cases hs
theorem VRs.evals {a : Act} (h : VRs T E Z w σ.tmps a.tmps.toList) (args : Array Operand) : VRs T E Z w (args.toList.map σ.eval) (args.toList.map a.eval) := by
  refine ⟨by simp, fun j av v hj hv => ?_⟩
  rw [List.getElem?_map] at hj hv
  cases hx : args.toList[j]? with
  | none => rw [hx] at hj; cases hj
  | some x => rw [hx] at hj hv; cases hj; cases hv; exact eval_ok h x
theorem step1_ok {C : Ctx} (hT : TabOk P C.T) (hC : CallOk P C) {B : Base} {ops : Array Oper} {rid i : Nat} {o : Oper} (hi : ops[i]? = some o) {σ1 : St} (hs : step1 C ops.toList rid i o σ = some σ1)
    {a : Act} (hA : At C.T B σ a w) {Q : Exit → Act → World → Prop} {K : Act → World → Prop} (hK : ∀ a' w', At C.T B σ1 a' w' → K a' w') : wpOpIn (FR B.ro) 0 P ops Q i K a w := by
  obtain ⟨hd, E, Z, h, hX, hKp, hm⟩ := hA
  unfold step1 at hs
  unfold wpOpIn
  simp only [hi]
  split at hs
  · cases hs
  · rename_i hg
    rw [guard_ok h.tm hg]
    simp only [if_true]
    split at hs
    · rename_i σ' v hex
      cases hs
      have hnd : ∀ c, o.op ≠ .defer c := fun c hc => by
        unfold exec1 at hex
        rw [hc] at hex
        simp [aop] at hex
      refine ⟨fun _ _ => trivial, ?_⟩
      rw [Oper.semAt_eq _ _ _ hnd]
      obtain ⟨E1, Z1, h1, hX1, hS1, hmv1, hl1⟩ := weaks_ok (look2 C.ann.pre rid i) h
      have hK1 := WkRes.kp hKp hm hS1 hmv1
      have hm1 := Nat.le_trans hm hl1
      have hX01 := hX.trans hX1
      generalize σ.weaks C.T (look2 C.ann.pre rid i) = σw at *
      have fin : ∀ u w', After C.T E1 Z1 w a.tmps.toList σw σ' v u w' → K (a.put o.dst u) w' := fun u w' ⟨E2, Z2, g1, g2, g3, g4, g5⟩ => by
        refine hK _ _ ⟨hd.same (by cases o.dst <;> rfl) (h1.sr.marks g3), E2, Z2, g1.put o.dst g2, ?_, ?_, ?_⟩
        · have e : (σ'.put o.dst v).st = σ'.st := by cases o.dst <;> rfl
          rw [e]; exact hX01.trans g3
        · have e : (σ'.put o.dst v).moved = σ'.moved := by cases o.dst <;> rfl
          rw [e]; exact hK1.mv g4 hm1
        · have e : (σ'.put o.dst v).st = σ'.st := by cases o.dst <;> rfl
          rw [e]; exact Nat.le_trans hm1 g5
      unfold exec1 at hex
      split at hex
      · rename_i f args ats hop
        split at hex
        · rename_i n first captured hf
          have hp := hex
          have hvf := eval_ok h1.tm f
          rw [hf] at hvf
          have hargs := h1.tm.evals args
          generalize hfv : a.eval f = vf at hvf
          cases hvf with
          | fn _ _ _ va vb hla hlb hra hrb =>
            have hall : VRs C.T E1 Z1 w (first ++ args.toList.map σw.eval ++ captured) (va ++ args.toList.map a.eval ++ vb) := VRs.append (VRs.append ⟨hla, hra⟩ hargs) ⟨hlb, hrb⟩
            have hrun : (execOp a.eval o).run P w = (callFunc n (va ++ args.toList.map a.eval ++ vb).toArray).run P w := by
              have e : va.toArray ++ args.map a.eval ++ vb.toArray = (va ++ args.toList.map a.eval ++ vb).toArray := by apply Array.ext'; simp
              rw [← e]
              obtain ⟨dst, op, type, pos, after, guard⟩ := o
              simp only at hop
              subst hop
              simp only [execOp, resolve, hfv, Deferred.ofValue]
              rfl
            rw [hrun]
            rcases acall1_ok hC rfl h1 hall hp with ⟨k1, k2⟩ | ⟨u, w', k1, k2⟩ | ⟨row, as, k1, k2⟩
            · rw [k1]
              refine ⟨depth_FR _ _, callsIn_FR.2 (k2.mono fun e w' ⟨u, he, hu⟩ => ?_)⟩
              subst he
              exact fin u w' hu
            · rw [k1]; exact fin u w' k2
            · rw [k1]; exact ⟨depth_FR _ _, rowsIn_FR (k2.mono fun u w' hu => fin u w' hu)⟩
        · cases hex
      · rename_i it hop
        obtain ⟨p, hp, he⟩ := Option.map_eq_some_iff.1 hex
        obtain ⟨σ2, r2⟩ := p
        cases he
        obtain ⟨u, w', k1, k2⟩ := anext1_ok (P := P) h1 (eval_ok h1.tm it) hp o.type
        have hrun : (execOp a.eval o).run P w = .ok (.value u) w' := by
          obtain ⟨dst, op, type, pos, after, guard⟩ := o
          simp only at hop
          subst hop
          simp only [execOp]
          simp [k1]
        rw [hrun]; exact fin u w' k2
      · obtain ⟨E2, Z2, w2, u, n, k1, k2, k3, k4, k5, k6⟩ := aop_ok hT h1 o hex
        have hA2 : After C.T E1 Z1 w a.tmps.toList σw σ' v u w2 := ⟨E2, Z2, k3, k4, k5, k6, aop_len hex⟩
        rw [k1]
        rcases k2 with rfl | ⟨rfl, rfl⟩
        · exact fin u w2 hA2
        · exact fin _ w2 hA2
    · cases hs
  · rename_i hg
    cases hs
    rw [guard_ok h.tm hg]
    simp only [Bool.false_eq_true, if_false]
    have e1 : (σ.put o.dst (.k undef)).st = σ.st := by cases o.dst <;> rfl
    have e2 : (σ.put o.dst (.k undef)).moved = σ.moved := by cases o.dst <;> rfl
    refine ⟨fun _ _ => trivial, hK _ _ ⟨hd.same (by cases o.dst <;> rfl) (fun _ h => h), E, Z, h.put o.dst .ku, ?_, ?_, ?_⟩⟩
    · rw [e1]; exact hX
    · rw [e2]; exact hKp
    · rw [e1]; exact hm
theorem lit1_ok {C : Ctx} (hT : TabOk P C.T) {B : Base} {ops : Array Oper} {i : Nat} {o : Oper} (hi : ops[i]? = some o) (hg : guardOf ops.toList σ o = some true) {v : AV} (hs : litOf C.T σ o.op = some v)
    {a : Act} (hA : At C.T B σ a w) {Q : Exit → Act → World → Prop} {K : Act → World → Prop} (hK : ∀ a' w', At C.T B (σ.put o.dst v) a' w' → K a' w') : wpOpIn (FR B.ro) 0 P ops Q i K a w := by
  obtain ⟨hd, E, Z, h, hX, hKp, hm⟩ := hA
  unfold wpOpIn
  simp only [hi]
  rw [guard_ok h.tm hg]
  simp only [if_true]
  refine ⟨fun _ _ => trivial, ?_⟩
  unfold litOf at hs
  split at hs
  · rename_i t len parts hop
    split at hs
    · rename_i e rows hl
      cases hs
      rw [Oper.semAt_eq _ _ _ (fun c hc => by rw [hop] at hc; cases hc)]
      obtain ⟨Z', w', u, hr, k1, k2, k3⟩ := litRows_ok (P := P) hT h h.tm hl
      have hrun : (execOp a.eval o).run P w = .ok (.value u) w' := by
        obtain ⟨dst, op, type, pos, after, guard⟩ := o
        simp only at hop
        subst hop
        simp only [execOp]
        simp [hr]
      rw [hrun]
      refine hK _ _ ⟨hd.same (by cases o.dst <;> rfl) (h.sr.marks k3), E, Z', k1.put o.dst k2, ?_, ?_, ?_⟩
      · have e : (σ.put o.dst (.sl e .full rows)).st = σ.st := by cases o.dst <;> rfl
        rw [e]; exact hX.trans k3
      · have e : (σ.put o.dst (.sl e .full rows)).moved = σ.moved := by cases o.dst <;> rfl
        rw [e]; exact hKp
      · have e : (σ.put o.dst (.sl e .full rows)).st = σ.st := by cases o.dst <;> rfl
        rw [e]; exact hm
    · cases hs
  · cases hs
end
end Go.Fw
