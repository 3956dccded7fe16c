/- The framework, part P: objects dropped, numbered anew, frozen; what is done ahead of operations and at loops' heads. -/
import Derived.Test.YtgcdiccbehiijaaFwO
set_option linter.all false
set_option linter.unusedSimpArgs false
set_option linter.unusedVariables false
namespace Go.Fw
section
variable {P : Program} {T : Tab} {E E' : Env} {Z : Nat → Prop} {w w' : World} {σ σ' : St} {vals : List Value}

def Env.sel (E : Env) (ks : List Nat) : Env :=
  { ρ := fun j => match ks[j]? with | some i => E.ρ i | none => none, sz := fun j => match ks[j]? with | some i => E.sz i | none => 0 }

theorem idxIn_some : ∀ {ks : List Nat} {i j : Nat}, idxIn ks i = some j → ks[j]? = some i
  | [], _, _, h => by simp [idxIn] at h
  | k :: ks, i, j, h => by
    simp only [idxIn] at h
    cases hk : Nat.beq k i with
    | true => rw [hk] at h; simp at h; subst h; simp [Nat.eq_of_beq_eq_true hk]
    | false =>
      rw [hk] at h
      simp only [cond_false, Option.map_eq_some_iff] at h
      obtain ⟨j', hj', rfl⟩ := h
      simpa using idxIn_some hj'

theorem sel_leaf (ks : List Nat) (hZ : ∀ b, Z b → Z b) (r : AV) (v : Value) (hr : isRef r = true) (hv : VR T E Z w r v) : VR T (E.sel ks) Z w (rename1 ks r) v := by
  have hsel : ∀ {i j}, idxIn ks i = some j → (E.sel ks).ρ j = E.ρ i ∧ (E.sel ks).sz j = E.sz i := fun {i j} h => by
    have := idxIn_some h
    simp [Env.sel, this]
  cases hv <;> simp [isRef] at hr
  case sr i A n c he =>
    simp only [rename1]
    cases hi : idxIn ks i with
    | none => exact .undef _
    | some j => exact .sr _ _ _ _ ((hsel hi).1.trans he)
  case ss i a n A A' len c he hb hA =>
    simp only [rename1]
    cases hi : idxIn ks i with
    | none => exact .undef _
    | some j => exact .ss _ _ _ _ _ _ _ ((hsel hi).1.trans he) hb (by rw [(hsel hi).2]; exact hA)
  case ptr i off B he =>
    simp only [rename1]
    cases hi : idxIn ks i with
    | none => exact .undef _
    | some j => exact .ptr _ _ _ ((hsel hi).1.trans he)
  case ap i k off A n c he hk =>
    simp only [rename1]
    cases hi : idxIn ks i with
    | none => exact .undef _
    | some j => rw [← (hsel hi).2]; exact .ap j k off A n c ((hsel hi).1.trans he) hk

theorem ownsO_onRefs (E : Env) (id : Nat) (o : AObj) (h : AV → AV) (B : Nat) : ownsO E id (o.onRefs h) B ↔ ownsO E id o B := by
  cases o <;> simp [ownsO, AObj.onRefs]

theorem sel_owns {st : List AObj} {ks : List Nat} {j i B : Nat} (hj : ks[j]? = some i)
    (h : owns (E.sel ks) (ks.map fun i => (st.getD i .dead).onRefs (rename1 ks)) j B) : owns E st i B := by
  obtain ⟨o, ho, hB⟩ := owns_get h
  rw [List.getElem?_map, hj] at ho
  simp at ho
  subst ho
  have hρ : (E.sel ks).ρ j = E.ρ i := by simp [Env.sel, hj]
  have hB' : ownsO E i (st.getD i .dead) B := by
    have := (ownsO_onRefs _ _ _ _ _).1 hB
    simp only [List.getD]
    revert this
    generalize st[i]?.getD AObj.dead = x
    intro this
    cases x <;> simpa [ownsO, hρ] using this
  cases hh : st[i]? with
  | none => simp [List.getD, hh, ownsO] at hB'
  | some x => simp [List.getD, hh] at hB'; exact (owns_some hh).2 hB'

/-- **Some objects are kept, and numbered anew.** -/
theorem SR.keep {st : List AObj} (h : SR T E Z w st) (ks : List Nat) (hk : ks.Nodup) : SR T (E.sel ks) Z w (ks.map fun i => (st.getD i .dead).onRefs (rename1 ks)) ∧
    (∀ B, Owned (E.sel ks) (ks.map fun i => (st.getD i .dead).onRefs (rename1 ks)) B → Owned E st B) := by
  have hkj : ∀ {j B}, owns (E.sel ks) (ks.map fun i => (st.getD i .dead).onRefs (rename1 ks)) j B → ∃ i, ks[j]? = some i := fun {j B} hj => by
    have := owns_lt_length hj
    rw [List.length_map] at this
    exact ⟨_, List.getElem?_eq_getElem this⟩
  have hO : ∀ B, Owned (E.sel ks) (ks.map fun i => (st.getD i .dead).onRefs (rename1 ks)) B → Owned E st B := fun B ⟨j, hj⟩ => by
    obtain ⟨i, hi⟩ := hkj hj
    exact ⟨i, sel_owns hi hj⟩
  refine ⟨⟨fun j o hj => ?_, fun j hj => ?_, fun i j B hi hj => ?_, fun B hB => h.zown B (hO B hB), h.zlt⟩, hO⟩
  · rw [List.getElem?_map, Option.map_eq_some_iff] at hj
    obtain ⟨i, hi, rfl⟩ := hj
    cases hh : st[i]? with
    | none => simp [List.getD, hh, AObj.onRefs]; exact .dead
    | some x =>
      simp only [List.getD, hh, Option.getD_some]
      exact (h.obj i x hh).map (rename1 ks) (fun _ hz => hz) (fun _ _ _ => rfl) (fun r v hr hv => sel_leaf ks (fun _ h => h) r v hr hv) (by simp [Env.sel, hi]) (by simp [Env.sel, hi]) (fun _ _ => rfl)
  · rw [List.length_map] at hj
    simp [Env.sel, List.getElem?_eq_none hj]
  · obtain ⟨a, ha⟩ := hkj hi
    obtain ⟨b, hb⟩ := hkj hj
    have := h.inj a b B (sel_owns ha hi) (sel_owns hb hj)
    subst this
    have h1 := (List.getElem?_eq_some_iff.1 ha)
    have h2 := (List.getElem?_eq_some_iff.1 hb)
    obtain ⟨h1, e1⟩ := h1
    obtain ⟨h2, e2⟩ := h2
    exact (List.getElem_inj hk).1 (e1.trans e2.symm)

theorem StR.keep (h : StR T E Z w σ vals) (ks : List Nat) (hk : ks.Nodup) : StR T (E.sel ks) Z w (σ.keep ks) vals ∧ Ext (Owned E σ.st) Z w (Owned (E.sel ks) (σ.keep ks).st) Z w := by
  obtain ⟨h1, h2⟩ := h.sr.keep ks hk
  refine ⟨⟨h1, ?_⟩, ⟨rfl, rfl, rfl, Nat.le_refl _, fun _ _ _ => rfl, fun _ hz => hz, fun _ hz => .inl hz, fun b hb => .inl (h2 b hb)⟩⟩
  exact h.tm.map (rename1 ks) (fun _ hz => hz) (fun _ _ _ => rfl) (fun r v hr hv => sel_leaf ks (fun _ h => h) r v hr hv)

theorem dedup_nodup : ∀ (l seen : List Nat), seen.Nodup → (dedup l seen).Nodup
  | [], _, h => h
  | i :: is, seen, h => by
    simp only [dedup]
    cases hs : seen.elem i with
    | true => exact dedup_nodup is seen h
    | false =>
      refine dedup_nodup is _ ?_
      rw [List.nodup_append]
      refine ⟨h, by simp, fun a ha b hb => ?_⟩
      simp at hb; subst hb
      rintro rfl
      have : seen.elem a = true := by simpa using ha
      rw [this] at hs; cases hs

theorem reach_nodup (st : List AObj) : ∀ (n : Nat) (l : List Nat), l.Nodup → (reach st n l).Nodup
  | 0, l, h => h
  | n + 1, l, h => by
    simp only [reach]
    cases Nat.beq _ _
    · exact reach_nodup st n _ (dedup_nodup _ _ h)
    · exact h

theorem canon_nodup (m : Nat) (l : List Nat) (h : l.Nodup) : (List.range m ++ l.filter fun i => Nat.ble m i).Nodup := by
  rw [List.nodup_append]
  refine ⟨List.nodup_range, h.filter _, fun a ha b hb => ?_⟩
  rw [List.mem_range] at ha
  rw [List.mem_filter] at hb
  have := Nat.le_of_ble_eq_true hb.2
  omega

/-- the state of a function that began with 'm' objects in the environment 'E0' -/
def Kp (E0 : Env) (m : Nat) (mv : List Nat) (E : Env) : Prop := ∀ i, i < m → i ∉ mv → E.ρ i = E0.ρ i ∧ E.sz i = E0.sz i

theorem Kp.mv {E0 : Env} {m : Nat} {σ σ' : St} (h : Kp E0 m σ.moved E) (hm : Mv σ E σ' E') (hl : m ≤ σ.st.length) : Kp E0 m σ'.moved E' := fun i hi hn => by
  have h1 := hm.same i (by omega) hn
  have h2 := h i hi (fun hh => hn (hm.sub i hh))
  exact ⟨h1.1.trans h2.1, h1.2.trans h2.2⟩

theorem StR.canon (h : StR T E Z w σ vals) (m : Nat) {E0 : Env} (hK : Kp E0 m σ.moved E) :
    ∃ E', StR T E' Z w (σ.canon m) vals ∧ Ext (Owned E σ.st) Z w (Owned E' (σ.canon m).st) Z w ∧ Kp E0 m (σ.canon m).moved E' ∧ m ≤ (σ.canon m).st.length := by
  have hn := canon_nodup m _ (reach_nodup σ.st 8 _ (dedup_nodup (List.range m ++ AV.idsL σ.tmps) [] List.nodup_nil))
  obtain ⟨h1, h2⟩ := h.keep _ hn
  refine ⟨_, h1, h2, fun i hi hmv => ?_, by simp [St.canon, St.keep]⟩
  have hi' : (List.range m ++ (reach σ.st 8 (dedup (List.range m ++ AV.idsL σ.tmps) [])).filter fun i => Nat.ble m i)[i]? = some i := by
    rw [List.getElem?_append_left (by simpa using hi), List.getElem?_range hi]
  have := hK i hi hmv
  simp only [Env.sel, hi']
  exact this

end
end Go.Fw
