/- The framework, part P: objects dropped, numbered anew, frozen; what is done ahead of operations and at loops' heads. -/
import Derived.Test.YtgcdiccbehiijaaFwO
set_option linter.all false
set_option linter.unusedSimpArgs false
set_option linter.unusedVariables false
namespace Go.Fw
section
variable {P : Program} {T : Tab} {E E' : Env} {Z : Nat → Prop} {w w' : World} {σ σ' : St} {vals : List Value}
def Env.sel (E : Env) (ks : List Nat) : Env :=
  { ρ := fun j => match ks[j]? with | some i => E.ρ i | none => none, sz := fun j => match ks[j]? with | some i => E.sz i | none => 0 }
theorem idxIn_some : ∀ {ks : List Nat} {i j : Nat}, idxIn ks i = some j → ks[j]? = some i
  | [], _, _, h => by simp [idxIn] at h
  | k :: ks, i, j, h => by
    simp only [idxIn] at h
    cases hk : Nat.beq k i with
    | true => rw [hk] at h; simp at h; subst h; simp [Nat.eq_of_beq_eq_true hk]
    | false =>
      rw [hk] at h
      simp only [cond_false, Option.map_eq_some_iff] at h
      obtain ⟨j', hj', rfl⟩ := h
      simpa using idxIn_some hj'
theorem sel_leaf (ks : List Nat) (hZ : ∀ b, Z b → Z b) (r : AV) (v : Value) (hr : isRef r = true) (hv : VR T E Z w r v) : VR T (E.sel ks) Z w (rename1 ks r) v := by
  have hsel : ∀ {i j}, idxIn ks i = some j → (E.sel ks).ρ j = E.ρ i ∧ (E.sel ks).sz j = E.sz i := fun {i j} h => by
    have := idxIn_some h
    simp [Env.sel, this]
  cases hv <;> simp [isRef] at hr
  case sr i A n c he =>
    simp only [rename1]
    cases hi : idxIn ks i with
    | none => exact .undef _
    | some j => exact .sr _ _ _ _ ((hsel hi).1.trans he)
  case ss i a n A A' len c he hb hA =>
    simp only [rename1]
    cases hi : idxIn ks i with
    | none => exact .undef _
    | some j => exact .ss _ _ _ _ _ _ _ ((hsel hi).1.trans he) hb (by rw [(hsel hi).2]; exact hA)
  case ptr i off B he =>
    simp only [rename1]
    cases hi : idxIn ks i with
    | none => exact .undef _
    | some j => exact .ptr _ _ _ ((hsel hi).1.trans he)
  case ap i k off A n c he hk =>
    simp only [rename1]
    cases hi : idxIn ks i with
    | none => exact .undef _
    | some j => rw [← (hsel hi).2]; exact .ap j k off A n c ((hsel hi).1.trans he) hk
  case yl i l he =>
    simp only [rename1]
    cases hi : idxIn ks i with
    | none => exact .undef _
    | some j => exact .yl _ _ ((hsel hi).1.trans he)
  case mp i r he =>
    simp only [rename1]
    cases hi : idxIn ks i with
    | none => exact .undef _
    | some j => exact .mp _ _ ((hsel hi).1.trans he)
theorem ownsO_onRefs (E : Env) (id : Nat) (o : AObj) (h : AV → AV) (B : Nat) : ownsO E id (o.onRefs h) B ↔ ownsO E id o B := by
  cases o <;> simp [ownsO, AObj.onRefs]
theorem sel_owns {st : List AObj} {ks : List Nat} {j i B : Nat} (hj : ks[j]? = some i)
    (h : owns (E.sel ks) (ks.map fun i => (st.getD i .dead).onRefs (rename1 ks)) j B) : owns E st i B := by
  obtain ⟨o, ho, hB⟩ := owns_get h
  rw [List.getElem?_map, hj] at ho
  simp at ho
  subst ho
  have hρ : (E.sel ks).ρ j = E.ρ i := by simp [Env.sel, hj]
  have hB' : ownsO E i (st.getD i .dead) B := by
    have := (ownsO_onRefs _ _ _ _ _).1 hB
    simp only [List.getD]
    revert this
    generalize st[i]?.getD AObj.dead = x
    intro this
    cases x <;> simpa [ownsO, hρ] using this
  cases hh : st[i]? with
  | none => simp [List.getD, hh, ownsO] at hB'
  | some x => simp [List.getD, hh] at hB'; exact (owns_some hh).2 hB'
theorem SR.keep {st : List AObj} (h : SR T E Z w st) (ks : List Nat) (hk : ks.Nodup) : SR T (E.sel ks) Z w (ks.map fun i => (st.getD i .dead).onRefs (rename1 ks)) ∧
    (∀ B, Owned (E.sel ks) (ks.map fun i => (st.getD i .dead).onRefs (rename1 ks)) B → Owned E st B) := by
  have hkj : ∀ {j B}, owns (E.sel ks) (ks.map fun i => (st.getD i .dead).onRefs (rename1 ks)) j B → ∃ i, ks[j]? = some i := fun {j B} hj => by
    have := owns_lt_length hj
    rw [List.length_map] at this
    exact ⟨_, List.getElem?_eq_getElem this⟩
  have hO : ∀ B, Owned (E.sel ks) (ks.map fun i => (st.getD i .dead).onRefs (rename1 ks)) B → Owned E st B := fun B ⟨j, hj⟩ => by
    obtain ⟨i, hi⟩ := hkj hj
    exact ⟨i, sel_owns hi hj⟩
  refine ⟨⟨fun j o hj => ?_, fun j hj => ?_, fun i j B hi hj => ?_, fun B hB => h.zown B (hO B hB), h.zlt⟩, hO⟩
  · rw [List.getElem?_map, Option.map_eq_some_iff] at hj
    obtain ⟨i, hi, rfl⟩ := hj
    cases hh : st[i]? with
    | none => simp [List.getD, hh, AObj.onRefs]; exact .dead
    | some x =>
      simp only [List.getD, hh, Option.getD_some]
      exact (h.obj i x hh).map (rename1 ks) (fun _ hz => hz) (fun _ _ _ => rfl) (fun r v hr hv => sel_leaf ks (fun _ h => h) r v hr hv) (by simp [Env.sel, hi]) (by simp [Env.sel, hi]) (fun _ _ => rfl)
  · rw [List.length_map] at hj
    simp [Env.sel, List.getElem?_eq_none hj]
  · obtain ⟨a, ha⟩ := hkj hi
    obtain ⟨b, hb⟩ := hkj hj
    have := h.inj a b B (sel_owns ha hi) (sel_owns hb hj)
    subst this
    have h1 := (List.getElem?_eq_some_iff.1 ha)
    have h2 := (List.getElem?_eq_some_iff.1 hb)
    obtain ⟨h1, e1⟩ := h1
    obtain ⟨h2, e2⟩ := h2
    exact (List.getElem_inj hk).1 (e1.trans e2.symm)
theorem StR.keep (h : StR T E Z w σ vals) (ks : List Nat) (hk : ks.Nodup) : StR T (E.sel ks) Z w (σ.keep ks) vals ∧ Ext (Owned E σ.st) Z w (Owned (E.sel ks) (σ.keep ks).st) Z w := by
  obtain ⟨h1, h2⟩ := h.sr.keep ks hk
  refine ⟨⟨h1, ?_⟩, ⟨rfl, rfl, rfl, Nat.le_refl _, fun _ _ _ => rfl, fun _ hz => hz, fun _ hz => .inl hz, fun b hb => .inl (h2 b hb)⟩⟩
  exact h.tm.map (rename1 ks) (fun _ hz => hz) (fun _ _ _ => rfl) (fun r v hr hv => sel_leaf ks (fun _ h => h) r v hr hv)
theorem dedup_nodup : ∀ (l seen : List Nat), seen.Nodup → (dedup l seen).Nodup
  | [], _, h => h
  | i :: is, seen, h => by
    simp only [dedup]
    cases hs : seen.elem i with
    | true => exact dedup_nodup is seen h
    | false =>
      refine dedup_nodup is _ ?_
      rw [List.nodup_append]
      refine ⟨h, by simp, fun a ha b hb => ?_⟩
      simp at hb; subst hb
      rintro rfl
      have : seen.elem a = true := by simpa using ha
      rw [this] at hs; cases hs
theorem reach_nodup (st : List AObj) : ∀ (n : Nat) (l : List Nat), l.Nodup → (reach st n l).Nodup
  | 0, l, h => h
  | n + 1, l, h => by
    simp only [reach]
    cases Nat.beq _ _
    · exact reach_nodup st n _ (dedup_nodup _ _ h)
    · exact h
theorem canon_nodup (m : Nat) (l : List Nat) (h : l.Nodup) : (List.range m ++ l.filter fun i => Nat.ble m i).Nodup := by
  rw [List.nodup_append]
  refine ⟨List.nodup_range, h.filter _, fun a ha b hb => ?_⟩
  rw [List.mem_range] at ha
  rw [List.mem_filter] at hb
  have := Nat.le_of_ble_eq_true hb.2
  omega
def Kp (E0 : Env) (m : Nat) (mv : List Nat) (E : Env) : Prop := ∀ i, i < m → i ∉ mv → E.ρ i = E0.ρ i ∧ E.sz i = E0.sz i
theorem Kp.mv {E0 : Env} {m : Nat} {σ σ' : St} (h : Kp E0 m σ.moved E) (hm : Mv σ E σ' E') (hl : m ≤ σ.st.length) : Kp E0 m σ'.moved E' := fun i hi hn => by
  have h1 := hm.same i (by omega) hn
  have h2 := h i hi (fun hh => hn (hm.sub i hh))
  exact ⟨h1.1.trans h2.1, h1.2.trans h2.2⟩
theorem StR.canon (h : StR T E Z w σ vals) (m : Nat) {E0 : Env} (hK : Kp E0 m σ.moved E) :
    ∃ E', StR T E' Z w (σ.canon m) vals ∧ Ext (Owned E σ.st) Z w (Owned E' (σ.canon m).st) Z w ∧ Kp E0 m (σ.canon m).moved E' ∧ m ≤ (σ.canon m).st.length := by
  have hn := canon_nodup m _ (reach_nodup σ.st 8 _ (dedup_nodup (List.range m ++ AV.idsL σ.tmps) [] List.nodup_nil))
  obtain ⟨h1, h2⟩ := h.keep _ hn
  refine ⟨_, ⟨h1.sr, h1.tm⟩, h2, fun i hi hmv => ?_, by simp [St.canon, St.canon0, St.keep]⟩
  replace hmv : i ∉ σ.moved := fun hm => hmv (by
    show i ∈ σ.moved.filter fun i => Nat.blt i m
    exact List.mem_filter.2 ⟨hm, by simpa [Nat.blt_eq] using hi⟩)
  have hi' : (List.range m ++ (reach σ.st 8 (dedup (List.range m ++ AV.idsL σ.tmps) [])).filter fun i => Nat.ble m i)[i]? = some i := by
    rw [List.getElem?_append_left (by simpa using hi), List.getElem?_range hi]
  have := hK i hi hmv
  simp only [Env.sel, hi']
  exact this
end
end Go.Fw
set_option linter.unusedSimpArgs false
set_option linter.unusedVariables false
namespace Go.Fw
section
variable {P : Program} {T : Tab} {E E' : Env} {Z : Nat → Prop} {w w' : World} {σ σ' : St} {vals : List Value}
theorem VRs.set {l : List AV} {vs : List Value} (h : VRs T E Z w l vs) (t : Nat) {av : AV} (hv : ∀ v, vs[t]? = some v → VR T E Z w av v) : VRs T E Z w (l.set t av) vs := by
  refine ⟨by simp [h.1], fun j x v hj hvj => ?_⟩
  by_cases hjt : j = t
  · subst hjt
    have hlt : j < l.length := by have := (List.getElem?_eq_some_iff.1 hj).1; simpa using this
    rw [List.getElem?_set_self hlt] at hj
    cases hj
    exact hv v hvj
  · rw [List.getElem?_set_ne (Ne.symm hjt)] at hj
    exact h.2 j x v hj hvj
theorem killS_get : ∀ (l : List AV) (ts : List Nat) (i : Nat), (killS l ts i).length = l.length ∧ ∀ (j : Nat) (x : AV), (killS l ts i)[j]? = some x → x = .undef ∨ l[j]? = some x
  | [], ts, i => ⟨rfl, fun j x h => by simp [killS] at h⟩
  | v :: l, [], i => ⟨rfl, fun j x h => .inr h⟩
  | v :: l, t :: ts, i => by
    simp only [killS]
    cases Nat.beq t i with
    | true =>
      obtain ⟨h1, h2⟩ := killS_get l ts (i + 1)
      simp only [cond_true]
      refine ⟨by simp [h1], fun j x h => ?_⟩
      cases j with
      | zero => simp at h; exact .inl h.symm
      | succ j => simp only [List.getElem?_cons_succ] at h ⊢; exact h2 j x h
    | false =>
      obtain ⟨h1, h2⟩ := killS_get l (t :: ts) (i + 1)
      simp only [cond_false]
      refine ⟨by simp [h1], fun j x h => ?_⟩
      cases j with
      | zero => simp at h ⊢; exact .inr h
      | succ j => simp only [List.getElem?_cons_succ] at h ⊢; exact h2 j x h
theorem VRs.kill {vs : List Value} (ts : List Nat) {l : List AV} (h : VRs T E Z w l vs) : VRs T E Z w (killS l ts 0) vs := by
  obtain ⟨h1, h2⟩ := killS_get l ts 0
  refine ⟨h1.trans h.1, fun j x v hx hv => ?_⟩
  rcases h2 j x hx with rfl | hx'
  · exact .undef _
  · exact h.2 j x v hx' hv
theorem SK.val_nil {kd : SK} (h : kd ≠ .nil) : kd.val ≠ .nil := by cases kd <;> simp_all [SK.val]
theorem SK.val_full {kd : SK} (h : kd.val = .full ∨ kd.val = .anyf) : kd = .full ∨ kd = .anyf := by cases kd <;> simp_all [SK.val]
theorem arr_value (h : SR T E Z w σ.st) {id t : Nat} {kd : SK} {rows : List (List AV)} (hst : σ.st[id]? = some (.arr t kd rows)) {Z' : Nat → Prop} (hZ : ∀ b, Z b → Z' b) (hZ' : ∀ b, owns E σ.st id b → Z' b)
    (h' : AV → AV) :
    ∃ A c, E.ρ id = some (.slice A rows.length c) ∧ rows.length ≤ c ∧ E.sz id = (cts T t).length ∧ (∀ row ∈ rows, rowOk (cts T t) row = true) ∧ (c ≠ 0 → ∀ B, A = some B → B.spot = none) ∧
      VR T E Z' w (.sl t kd.val rows) (.slice A rows.length c) ∧
      (∀ B, A = some B → 0 < (cts T t).length → ∃ cv : Nat → Nat → Value, (rows ≠ [] → Z' B.block) ∧
        (∀ (i : Nat) (row : List AV) (j : Nat) (av : AV), rows[i]? = some row → row[j]? = some av → w.cell? ⟨B.block, B.off + (i * (cts T t).length + j), none⟩ = some (cv i j)) ∧
        (∀ (i : Nat) (row : List AV) (j : Nat) (av : AV), rows[i]? = some row → row[j]? = some av → VR T E Z' w av (cv i j))) := by
  have hor := h.obj id _ hst
  cases hor with
  | arr0 _ _ A he hn hk hsz =>
    refine ⟨A, 0, he, Nat.le_refl _, hsz, fun row hr => by simp at hr, fun h0 => absurd rfl h0, ?_, fun B hB _ => ⟨fun _ _ => .nilFunc, fun hne => absurd rfl hne, fun i row j av hi => by simp at hi, fun i row j av hi => by simp at hi⟩⟩
    cases A with
    | none => rw [hk rfl]; exact .slnil _ _ (.inr (.inl rfl))
    | some B => exact .sl t kd.val [] B 0 (fun _ _ => .nilFunc) (SK.val_nil hn) (fun _ => rfl) (Nat.le_refl _) (fun h0 => absurd rfl h0) (fun hne => absurd rfl hne) (fun row hr => by simp at hr) (fun i row j av hi => by simp at hi) (fun i row j av hi => by simp at hi)
  | arr _ _ _ B o c vs ty hn he hc h0 hf hsz hb ho hok hr =>
    have hle : o + rows.length * (cts T t).length ≤ vs.length := Nat.le_trans (Nat.add_le_add_left (Nat.mul_le_mul_right _ hc) _) ho
    have hown : owns E σ.st id B := (owns_some hst).2 ⟨_, _, _, he, h0, rfl⟩
    have hin : ∀ i row j av, rows[i]? = some row → row[j]? = some av → o + (i * (cts T t).length + j) < vs.length := fun i row j av hi hj => by
      have hi' := (List.getElem?_eq_some_iff.1 hi).1
      have hj' := (List.getElem?_eq_some_iff.1 hj).1
      rw [(rowOk_get (hok row (List.mem_of_getElem? hi))).1] at hj'
      have : (i + 1) * (cts T t).length ≤ rows.length * (cts T t).length := Nat.mul_le_mul_right _ hi'
      rw [Nat.succ_mul] at this
      omega
    have hcell : ∀ (i : Nat) (row : List AV) (j : Nat) (av : AV), rows[i]? = some row → row[j]? = some av → w.cell? ⟨B, o + (i * (cts T t).length + j), none⟩ = some (vs.getD (o + (i * (cts T t).length + j)) .nilFunc) := fun i row j av hi hj => by
      rw [cell_of hb]
      simp [List.getD, List.getElem?_eq_getElem (hin i row j av hi hj)]
    have hrep : ∀ (i : Nat) (row : List AV) (j : Nat) (av : AV), rows[i]? = some row → row[j]? = some av → VR T E Z' w av (vs.getD (o + (i * (cts T t).length + j)) .nilFunc) := fun i row j av hi hj => by
      refine VR.mono (fun i v hv => ⟨hv, rfl⟩) hZ (fun _ _ _ => rfl) (hr i row j av _ hi hj ?_)
      simp [List.getD, List.getElem?_eq_getElem (hin i row j av hi hj)]
    refine ⟨_, c, he, hc, hsz, hok, fun _ B' hB' => by cases hB'; rfl, .sl t kd.val rows ⟨B, o, none⟩ c (fun i j => vs.getD (o + (i * (cts T t).length + j)) .nilFunc) (SK.val_nil hn) (fun h => hf.1 (SK.val_full h)) hc (fun _ => rfl) (fun _ => hZ' B hown) hok hcell hrep, fun B' hB' _ => ?_⟩
    cases hB'
    exact ⟨fun i j => vs.getD (o + (i * (cts T t).length + j)) .nilFunc, fun _ => hZ' B hown, hcell, hrep⟩
theorem StR.freezeId (h : StR T E Z w σ vals) (id : Nat) :
    ∃ Z', StR T E Z' w (σ.freezeId id) vals ∧ Ext (Owned E σ.st) Z w (Owned E (σ.freezeId id).st) Z' w := by
  unfold St.freezeId
  split
  · rename_i t kd rows hst
    have hst := getD_some hst (by simp)
    let Z' : Nat → Prop := fun b => Z b ∨ owns E σ.st id b
    obtain ⟨A, c, hE, hlc, hsz, hok, hsp, hV, hC⟩ := arr_value h.sr hst (Z' := Z') (fun _ hz => .inl hz) (fun _ hz => .inr hz) (fun x => x)
    have hid : id < σ.st.length := (List.getElem?_eq_some_iff.1 hst).1
    have hleaf : ∀ r v, isRef r = true → VR T E Z w r v → VR T E Z' w (freeze1 id t kd rows r) v := fun r v hr hv => by
      cases hv <;> simp [isRef] at hr
      case sr i A' n c' he =>
        simp only [freeze1]
        cases hi : Nat.beq i id with
        | false => exact .sr _ _ _ _ he
        | true =>
          obtain rfl := Nat.eq_of_beq_eq_true hi
          rw [he] at hE; cases hE
          exact hV
      case ss i a n A' A'' len c' he hb hA =>
        simp only [freeze1]
        cases hi : Nat.beq i id with
        | false => exact .ss _ _ _ _ _ _ _ he hb hA
        | true =>
          obtain rfl := Nat.eq_of_beq_eq_true hi
          rw [he] at hE
          simp only [Option.some.injEq, Value.slice.injEq] at hE
          obtain ⟨rfl, rfl, rfl⟩ := hE
          have hyl : ((rows.drop a).take n).length = n := by simp; omega
          cases A'' with
          | none =>
            have hn0 : n = 0 ∧ c' - a = 0 := by
              by_cases hac : a < c'
              · have := hA hac
                cases A' with
                | none =>
                  have hor := h.sr.obj _ _ hst
                  cases hor with
                  | arr0 _ _ A he' _ _ _ => rw [he] at he'; cases he'; omega
                  | arr _ _ _ B o c vs ty hn he' hc h0 hf hsz hb ho hok hr => rw [he] at he'; cases he'
                | some B => simp at this
              · omega
            obtain ⟨rfl, e2⟩ := hn0
            rw [e2]
            simp only [List.take_zero]
            exact .slnil _ _ (.inr (.inl rfl))
          | some B'' =>
            by_cases hn0 : n = 0
            · subst hn0
              simp only [List.take_zero]
              exact .sl t .any [] B'' (c' - a) (fun _ _ => .nilFunc) (by simp) (by simp) (by simp) (fun hca => by
                have hAA := hA (by omega)
                cases A' with
                | none => cases hAA
                | some B => cases hAA; rfl) (fun hne => absurd rfl hne) (fun row hr => by simp at hr) (fun i row j av hi => by simp at hi) (fun i row j av hi => by simp at hi)
            · have hac : a < c' := by omega
              have hAA := hA hac
              cases A' with
              | none => cases hAA
              | some B =>
                cases hAA
                rcases Nat.eq_zero_or_pos (cts T t).length with hz0 | hzp
                · -- elements without cells
                  have := VR.sl (T := T) (E := E) (Z := Z') (w := w) t .any ((rows.drop a).take n) ⟨B.block, B.off + a * E.sz i, none⟩ (c' - a) (fun _ _ => .nilFunc) (by simp) (by simp) (by rw [hyl]; omega) (fun _ => rfl)
                    (fun _ => .inr ((owns_some hst).2 ⟨B, _, _, he, by omega, rfl⟩)) (fun row hrow => hok row (List.mem_of_mem_drop (List.mem_of_mem_take hrow)))
                    (fun i' row j av hi hj => by
                      have hm := hok row (List.mem_of_mem_drop (List.mem_of_mem_take (List.mem_of_getElem? hi)))
                      have hj' := (List.getElem?_eq_some_iff.1 hj).1
                      rw [(rowOk_get hm).1] at hj'; omega)
                    (fun i' row j av hi hj => by
                      have hm := hok row (List.mem_of_mem_drop (List.mem_of_mem_take (List.mem_of_getElem? hi)))
                      have hj' := (List.getElem?_eq_some_iff.1 hj).1
                      rw [(rowOk_get hm).1] at hj'; omega)
                  rw [hyl] at this; exact this
                · obtain ⟨cv, hz, hc1, hc2⟩ := hC B rfl hzp
                  have hget : ∀ (i' : Nat) row, ((rows.drop a).take n)[i']? = some row → rows[a + i']? = some row := fun i' row hi => by
                    rw [List.getElem?_take] at hi
                    split at hi
                    · rwa [List.getElem?_drop] at hi
                    · cases hi
                  have := VR.sl (T := T) (E := E) (Z := Z') (w := w) t .any ((rows.drop a).take n) ⟨B.block, B.off + a * E.sz i, none⟩ (c' - a) (fun i' j => cv (a + i') j) (by simp) (by simp) (by rw [hyl]; omega) (fun _ => rfl)
                    (fun _ => hz (by rintro rfl; simp at hb; omega)) (fun row hrow => hok row (List.mem_of_mem_drop (List.mem_of_mem_take hrow)))
                    (fun i' row j av hi hj => by
                      have := hc1 (a + i') row j av (hget i' row hi) hj
                      rw [hsz]
                      simpa [Nat.add_mul, Nat.add_assoc] using this)
                    (fun i' row j av hi hj => hc2 (a + i') row j av (hget i' row hi) hj)
                  rw [hyl] at this; exact this
      case ptr i off B he =>
        simp only [freeze1]
        cases hi : Nat.beq i id with
        | false => exact .ptr _ _ _ he
        | true => exact .undef _
      case yl i l he =>
        simp only [freeze1]
        cases hi : Nat.beq i id with
        | false => exact .yl _ _ he
        | true => exact .undef _
      case mp i r he =>
        simp only [freeze1]
        cases hi : Nat.beq i id with
        | false => exact .mp _ _ he
        | true => exact .undef _
      case ap i k off A' n c' he hk =>
        simp only [freeze1]
        cases hi : Nat.beq i id with
        | false => exact .ap _ _ _ _ _ _ he hk
        | true =>
          obtain rfl := Nat.eq_of_beq_eq_true hi
          rw [he] at hE
          simp only [Option.some.injEq, Value.slice.injEq] at hE
          obtain ⟨hAe, rfl, rfl⟩ := hE
          subst hAe
          have hrow : rows[k]? = some rows[k] := List.getElem?_eq_getElem hk
          have hg : rows.getD k [] = rows[k] := by simp [List.getD, hrow]
          simp only [cond_true, hg]
          have hokr := hok _ (List.getElem_mem hk)
          have hzb : Z' A'.block := by
            refine .inr ((owns_some hst).2 ⟨A', _, _, he, ?_, rfl⟩)
            omega
          rcases Nat.eq_zero_or_pos (cts T t).length with hz0 | hzp
          · have := VR.ep (T := T) (E := E) (Z := Z') (w := w) t rows[k] off ⟨A'.block, A'.off + k * E.sz i, none⟩ (fun _ => .nilFunc) hzb hokr
              (fun j av hj => by have hj' := (List.getElem?_eq_some_iff.1 hj).1; rw [(rowOk_get hokr).1] at hj'; omega)
              (fun j av hj => by have hj' := (List.getElem?_eq_some_iff.1 hj).1; rw [(rowOk_get hokr).1] at hj'; omega)
            simpa [Nat.add_assoc] using this
          · obtain ⟨cv, hz, hc1, hc2⟩ := hC A' rfl hzp
            have := VR.ep (T := T) (E := E) (Z := Z') (w := w) t rows[k] off ⟨A'.block, A'.off + k * E.sz i, none⟩ (cv k) hzb hokr
              (fun j av hj => by have := hc1 k _ j av hrow hj; rw [hsz]; simpa [Nat.add_assoc] using this)
              (fun j av hj => hc2 k _ j av hrow hj)
            simpa [Nat.add_assoc] using this
    have hget : ∀ j o, ((σ.st.set id .dead).map (AObj.onRefs (freeze1 id t kd rows)))[j]? = some o → (j = id ∧ o = .dead) ∨ (j ≠ id ∧ ∃ x, σ.st[j]? = some x ∧ o = x.onRefs (freeze1 id t kd rows)) := fun j o hj => by
      rw [List.getElem?_map, Option.map_eq_some_iff] at hj
      obtain ⟨x, hx, rfl⟩ := hj
      by_cases hji : j = id
      · subst hji
        rw [List.getElem?_set_self hid] at hx
        cases hx
        exact .inl ⟨rfl, rfl⟩
      · rw [List.getElem?_set_ne (Ne.symm hji)] at hx
        exact .inr ⟨hji, x, hx, rfl⟩
    have hown : ∀ j B, owns E ((σ.st.set id .dead).map (AObj.onRefs (freeze1 id t kd rows))) j B → j ≠ id ∧ owns E σ.st j B := fun j B hj => by
      obtain ⟨o, hjo, hB⟩ := owns_get hj
      rcases hget j o hjo with ⟨rfl, rfl⟩ | ⟨hji, x, hx, rfl⟩
      · exact hB.elim
      · exact ⟨hji, (owns_some hx).2 ((ownsO_onRefs _ _ _ _ _).1 hB)⟩
    refine ⟨Z', ⟨⟨fun j o hj => ?_, fun j hj => h.sr.out j (by simpa using hj), fun i j B hi hj => h.sr.inj i j B (hown i B hi).2 (hown j B hj).2, fun B ⟨j, hj⟩ hz => ?_, fun B hz => ?_⟩, ?_⟩,
      ⟨rfl, rfl, rfl, Nat.le_refl _, fun _ _ _ => rfl, fun _ hz => .inl hz, fun b hz => ?_, fun b ⟨j, hj⟩ => .inl ⟨j, (hown j b hj).2⟩⟩⟩
    · rcases hget j o hj with ⟨rfl, rfl⟩ | ⟨hji, x, hx, rfl⟩
      · exact .dead
      · exact (h.sr.obj j x hx).map _ (fun _ hz => .inl hz) (fun _ _ _ => rfl) hleaf rfl rfl (fun _ _ => rfl)
    · obtain ⟨hji, hB⟩ := hown j B hj
      rcases hz with hz | hz
      · exact h.sr.zown B ⟨j, hB⟩ hz
      · exact hji (h.sr.inj j id B hB hz)
    · rcases hz with hz | hz
      · exact h.sr.zlt B hz
      · exact h.sr.owns_lt hz
    · exact h.tm.map _ (fun _ hz => .inl hz) (fun _ _ _ => rfl) hleaf
    · rcases hz with hz | hz
      · exact .inl hz
      · exact .inr (.inl ⟨id, hz⟩)
  · exact ⟨Z, h, Ext.refl _ _ _⟩
theorem freezeId_len (σ : St) (id : Nat) : (σ.freezeId id).st.length = σ.st.length ∧ (σ.freezeId id).moved = σ.moved := by
  unfold St.freezeId
  split <;> simp
def WkRes (T : Tab) (E : Env) (Z : Nat → Prop) (w : World) (vals : List Value) (σ σ' : St) : Prop :=
  ∃ E' Z', StR T E' Z' w σ' vals ∧ Ext (Owned E σ.st) Z w (Owned E' σ'.st) Z' w ∧ SameE σ.st.length E E' ∧ σ'.moved = σ.moved ∧ σ.st.length ≤ σ'.st.length
theorem WkRes.refl (h : StR T E Z w σ vals) : WkRes T E Z w vals σ σ := ⟨E, Z, h, Ext.refl _ _ _, fun _ _ => ⟨rfl, rfl⟩, rfl, Nat.le_refl _⟩
theorem WkRes.trans {σ'' : St} (h : WkRes T E Z w vals σ σ') (k : ∀ E' Z', StR T E' Z' w σ' vals → WkRes T E' Z' w vals σ' σ'') : WkRes T E Z w vals σ σ'' := by
  obtain ⟨E', Z', h1, h2, h3, h4, h5⟩ := h
  obtain ⟨E'', Z'', k1, k2, k3, k4, k5⟩ := k E' Z' h1
  exact ⟨E'', Z'', k1, h2.trans k2, fun i hi => ⟨(k3 i (by omega)).1.trans (h3 i hi).1, (k3 i (by omega)).2.trans (h3 i hi).2⟩, k4.trans h4, Nat.le_trans h5 k5⟩
theorem freezeAll_ok : ∀ (ids : List Nat) {E : Env} {Z : Nat → Prop} {σ : St}, StR T E Z w σ vals → WkRes T E Z w vals σ (σ.freezeAll ids)
  | [], _, _, _, h => WkRes.refl h
  | i :: is, E, Z, σ, h => by
    obtain ⟨Z', h1, h2⟩ := h.freezeId i
    have hl := freezeId_len σ i
    exact WkRes.trans ⟨E, Z', h1, h2, fun _ _ => ⟨rfl, rfl⟩, hl.2, by rw [hl.1]; exact Nat.le_refl _⟩ (fun E' Z' h' => freezeAll_ok is h')
theorem StR.dropId (h : StR T E Z w σ vals) (id : Nat) : StR T E Z w (σ.dropId id) vals ∧ (∀ B, Owned E (σ.dropId id).st B → ∃ j, j ≠ id ∧ owns E σ.st j B) ∧ (σ.dropId id).st.length = σ.st.length := by
  have hleaf : ∀ r v, isRef r = true → VR T E Z w r v → VR T E Z w (scrub1 id r) v := fun r v hr hv => by
    cases hv <;> simp [isRef] at hr
    case sr i A n c he =>
      simp only [scrub1]
      cases Nat.beq i id with
      | false => exact .sr _ _ _ _ he
      | true => exact .undef _
    case ss i a n A A' len c he hb hA =>
      simp only [scrub1]
      cases Nat.beq i id with
      | false => exact .ss _ _ _ _ _ _ _ he hb hA
      | true => exact .undef _
    case ptr i off B he =>
      simp only [scrub1]
      cases Nat.beq i id with
      | false => exact .ptr _ _ _ he
      | true => exact .undef _
    case ap i k off A n c he hk =>
      simp only [scrub1]
      cases Nat.beq i id with
      | false => exact .ap _ _ _ _ _ _ he hk
      | true => exact .undef _
    case yl i l he =>
      simp only [scrub1]
      cases Nat.beq i id with
      | false => exact .yl _ _ he
      | true => exact .undef _
    case mp i r he =>
      simp only [scrub1]
      cases Nat.beq i id with
      | false => exact .mp _ _ he
      | true => exact .undef _
  have hlen : (σ.dropId id).st.length = σ.st.length := by simp [St.dropId, St.scrub]
  have hget : ∀ j o, (σ.dropId id).st[j]? = some o → (j = id ∧ o = .dead) ∨ (j ≠ id ∧ ∃ x, σ.st[j]? = some x ∧ o = x.onRefs (scrub1 id)) := fun j o hj => by
    simp only [St.dropId, St.scrub] at hj
    by_cases hji : j = id
    · subst hji
      by_cases hl : j < σ.st.length
      · rw [List.getElem?_set_self (by simpa using hl)] at hj
        cases hj
        exact .inl ⟨rfl, rfl⟩
      · rw [List.getElem?_eq_none (by simp; omega)] at hj; cases hj
    · rw [List.getElem?_set_ne (Ne.symm hji), List.getElem?_map, Option.map_eq_some_iff] at hj
      obtain ⟨x, hx, rfl⟩ := hj
      exact .inr ⟨hji, x, hx, rfl⟩
  have hown : ∀ j B, owns E (σ.dropId id).st j B → j ≠ id ∧ owns E σ.st j B := fun j B hj => by
    obtain ⟨o, hjo, hB⟩ := owns_get hj
    rcases hget j o hjo with ⟨rfl, rfl⟩ | ⟨hji, x, hx, rfl⟩
    · exact hB.elim
    · exact ⟨hji, (owns_some hx).2 ((ownsO_onRefs _ _ _ _ _).1 hB)⟩
  refine ⟨⟨⟨fun j o hj => ?_, fun j hj => h.sr.out j (by rw [hlen] at hj; exact hj), fun i j B hi hj => h.sr.inj i j B (hown i B hi).2 (hown j B hj).2, fun B ⟨j, hj⟩ hz => h.sr.zown B ⟨j, (hown j B hj).2⟩ hz, h.sr.zlt⟩, ?_⟩,
    fun B ⟨j, hj⟩ => ⟨j, hown j B hj⟩, hlen⟩
  · rcases hget j o hj with ⟨rfl, rfl⟩ | ⟨hji, x, hx, rfl⟩
    · exact .dead
    · exact (h.sr.obj j x hx).map _ (fun _ hz => hz) (fun _ _ _ => rfl) hleaf rfl rfl (fun _ _ => rfl)
  · exact h.tm.map _ (fun _ hz => hz) (fun _ _ _ => rfl) hleaf
theorem StR.dropId_wk (h : StR T E Z w σ vals) (id : Nat) : WkRes T E Z w vals σ (σ.dropId id) := by
  obtain ⟨h1, h2, h3⟩ := h.dropId id
  exact ⟨E, Z, h1, ⟨rfl, rfl, rfl, Nat.le_refl _, fun _ _ _ => rfl, fun _ hz => hz, fun _ hz => .inl hz, fun b hb => by obtain ⟨j, _, hj⟩ := h2 b hb; exact .inl ⟨j, hj⟩⟩, fun _ _ => ⟨rfl, rfl⟩, rfl, by rw [h3]; exact Nat.le_refl _⟩
theorem dropAll_ok : ∀ (ids : List Nat) {E : Env} {Z : Nat → Prop} {σ : St}, StR T E Z w σ vals → WkRes T E Z w vals σ (σ.dropAll ids)
  | [], _, _, _, h => WkRes.refl h
  | i :: is, E, Z, σ, h => WkRes.trans (h.dropId_wk i) (fun E' Z' h' => dropAll_ok is h')
theorem SR.add {st : List AObj} (h : SR T E Z w st) (o : AObj) (v : Value) (s : Nat) (ho : OR T (E.snoc st.length v s) Z w st.length o) (hfree : ∀ B, ownsO (E.snoc st.length v s) st.length o B → ¬ Owned E st B ∧ ¬ Z B) :
    SR T (E.snoc st.length v s) Z w (st ++ [o]) ∧ (∀ B, Owned (E.snoc st.length v s) (st ++ [o]) B → Owned E st B ∨ ownsO (E.snoc st.length v s) st.length o B) := by
  have hle := h.snoc_le v s
  have hget : ∀ j x, (st ++ [o])[j]? = some x → (j < st.length ∧ st[j]? = some x) ∨ (j = st.length ∧ x = o) := fun j x hj => by
    rcases Nat.lt_trichotomy j st.length with hl | hl | hl
    · rw [List.getElem?_append_left hl] at hj; exact .inl ⟨hl, hj⟩
    · subst hl; simp at hj; exact .inr ⟨rfl, hj.symm⟩
    · rw [List.getElem?_eq_none (by simp; omega)] at hj; cases hj
  have hold : ∀ j x B, j < st.length → (ownsO (E.snoc st.length v s) j x B ↔ ownsO E j x B) := fun j x B hj => by
    have : (E.snoc st.length v s).ρ j = E.ρ j := by simp [Env.snoc]; omega
    cases x <;> simp only [ownsO, this]
  have hall : ∀ j B, owns (E.snoc st.length v s) (st ++ [o]) j B → (j < st.length ∧ owns E st j B) ∨ (j = st.length ∧ ownsO (E.snoc st.length v s) st.length o B) := fun j B hB => by
    obtain ⟨x, hj, hB'⟩ := owns_get hB
    rcases hget j x hj with ⟨hl, hj⟩ | ⟨rfl, rfl⟩
    · exact .inl ⟨hl, (owns_some hj).2 ((hold j x B hl).1 hB')⟩
    · exact .inr ⟨rfl, hB'⟩
  refine ⟨⟨fun j x hj => ?_, fun j hj => ?_, fun i j B hi hj => ?_, fun B ⟨j, hB⟩ => ?_, h.zlt⟩, fun B ⟨j, hj⟩ => ?_⟩
  · rcases hget j x hj with ⟨hl, hj⟩ | ⟨rfl, rfl⟩
    · have hor := h.obj j x hj
      exact hor.mono hle (fun _ hz => hz) (fun _ _ _ => rfl) hor.has (fun B hB => rfl)
    · exact ho
  · simp at hj
    have hne : j ≠ st.length := by omega
    simp [Env.snoc, hne]; exact h.out j (by omega)
  · rcases hall i B hi with ⟨hli, hi2⟩ | ⟨e1, hi2⟩ <;> rcases hall j B hj with ⟨hlj, hj2⟩ | ⟨e2, hj2⟩
    · exact h.inj i j B hi2 hj2
    · exact absurd ⟨i, hi2⟩ (hfree B hj2).1
    · exact absurd ⟨j, hj2⟩ (hfree B hi2).1
    · rw [e1, e2]
  · rcases hall j B hB with ⟨hl, hB2⟩ | ⟨e1, hB2⟩
    · exact h.zown B ⟨j, hB2⟩
    · exact (hfree B hB2).2
  · rcases hall j B hj with ⟨hl, hB2⟩ | ⟨e1, hB2⟩
    · exact .inl ⟨j, hB2⟩
    · exact .inr hB2
theorem part_obj (h : SR T E Z w σ.st) {id e a n : Nat} {kd : SK} {rows : List (List AV)} (hst : σ.st[id]? = some (.arr e kd rows)) {v : Value} (hv : VR T E Z w (.ss id a n) v) (m : Nat) (hm : E.ρ m = none) :
    OR T (E.snoc m v (cts T e).length) Z w m (.arr e .any ((rows.drop a).take n)) ∧ (∀ B, ownsO (E.snoc m v (cts T e).length) m (.arr e .any ((rows.drop a).take n)) B → owns E σ.st id B) := by
  have hor := h.obj id _ hst
  have hle : ∀ i x, E.ρ i = some x → (E.snoc m v (cts T e).length).ρ i = some x ∧ (E.snoc m v (cts T e).length).sz i = E.sz i := fun i x hx => by
    have hne : i ≠ m := fun e => by rw [e, hm] at hx; cases hx
    simp [Env.snoc, hne, hx]
  have hρ : (E.snoc m v (cts T e).length).ρ m = some v := by simp [Env.snoc]
  have hs : (E.snoc m v (cts T e).length).sz m = (cts T e).length := by simp [Env.snoc]
  cases hv with
  | ss _ _ _ A A' len c he hb hA =>
    have hlr : len = rows.length := by
      cases hor with
      | arr0 _ _ A'' he' hn hk hsz => rw [he] at he'; cases he'; rfl
      | arr _ _ _ B o c' vs' ty' hn he' hc h0 hf hsz hbb ho hok hr => rw [he] at he'; cases he'; rfl
    subst hlr
    have hlen : ((rows.drop a).take n).length = n := by simp; omega
    have hcl : rows.length ≤ c := by
      cases hor with
      | arr0 _ _ A'' he' hn hk hsz => rw [he] at he'; cases he'; exact Nat.le_refl _
      | arr _ _ _ B o c' vs' ty' hn he' hc h0 hf hsz hbb ho hok hr => rw [he] at he'; cases he'; exact hc
    by_cases hac : a < c
    · cases hor with
      | arr0 _ _ A'' he' hn hk hsz => rw [he] at he'; cases he'; omega
      | arr _ _ _ B o c' vs' ty' hn he' hc h0 hf hsz hbb ho hok hr =>
        rw [he] at he'
        simp only [Option.some.injEq, Value.slice.injEq] at he'
        obtain ⟨rfl, _, rfl⟩ := he'
        have hAA := hA hac
        simp only [Option.map_some] at hAA
        rw [hsz] at hAA
        subst hAA
        have hle2 : a * (cts T e).length + (c - a) * (cts T e).length = c * (cts T e).length := by rw [← Nat.add_mul]; congr 1; omega
        refine ⟨.arr e .any _ B (o + a * (cts T e).length) (c - a) vs' ty' (by simp) (by rw [hρ, hlen]) (by rw [hlen]; omega) (by omega) ⟨by simp, fun hk => by cases hk⟩ hs hbb (by omega)
          (fun row hrow => hok row (List.mem_of_mem_drop (List.mem_of_mem_take hrow))) (fun i row j av x hi hj hx => ?_), fun C hC => ?_⟩
        · have hi' : rows[a + i]? = some row := by
            rw [List.getElem?_take] at hi
            split at hi
            · rwa [List.getElem?_drop] at hi
            · cases hi
          exact (hr (a + i) row j av x hi' hj (by rw [← hx]; congr 1; rw [Nat.add_mul]; omega)).mono hle (fun _ hz => hz) (fun _ _ _ => rfl)
        · obtain ⟨A2, n2, c2, h1, h2, rfl⟩ := hC
          rw [hρ] at h1
          cases h1
          exact (owns_some hst).2 ⟨_, _, _, he, h0, rfl⟩
    · have hn0 : n = 0 := by omega
      subst hn0
      have hc0 : c - a = 0 := by omega
      rw [hc0] at hρ ⊢
      simp only [List.take_zero]
      refine ⟨.arr0 e .any A' hρ (by simp) (fun _ => rfl) (by simpa [Env.snoc] using hs), fun C hC => ?_⟩
      obtain ⟨A2, n2, c2, h1, h2, _⟩ := hC
      rw [hρ] at h1
      cases h1
      exact absurd rfl h2
theorem partOf_ok (h : StR T E Z w σ vals) {t id e a n : Nat} {kd : SK} {rows : List (List AV)} (hst : σ.st[id]? = some (.arr e kd rows)) (ht : ∀ v, vals[t]? = some v → VR T E Z w (.ss id a n) v) (hl : t < σ.tmps.length) :
    WkRes T E Z w vals σ (σ.partOf t id e ((rows.drop a).take n)) := by
  have hlv : t < vals.length := by rw [← h.tm.1]; exact hl
  obtain ⟨v, hv⟩ : ∃ v, vals[t]? = some v := ⟨_, List.getElem?_eq_getElem hlv⟩
  have hvv := ht v hv
  obtain ⟨d1, d2, d3⟩ := h.dropId id
  have hout : E.ρ (σ.dropId id).st.length = none := h.sr.out _ (by rw [d3]; exact Nat.le_refl _)
  obtain ⟨p1, p2⟩ := part_obj h.sr hst hvv (σ.dropId id).st.length hout
  obtain ⟨a1, a2⟩ := d1.sr.add (.arr e .any ((rows.drop a).take n)) v (cts T e).length p1 (fun B hB => by
    have hB' := p2 B hB
    refine ⟨fun hO => ?_, h.sr.zown B ⟨id, hB'⟩⟩
    obtain ⟨j, hj, hjB⟩ := d2 B hO
    exact hj (h.sr.inj j id B hjB hB'))
  refine ⟨_, Z, ⟨a1, ?_⟩, ⟨rfl, rfl, rfl, Nat.le_refl _, fun _ _ _ => rfl, fun _ hz => hz, fun _ hz => .inl hz, fun b hb => ?_⟩, fun i hi => ?_, rfl, by simp [St.partOf, d3]⟩
  · refine (d1.tm.mono (d1.sr.snoc_le v (cts T e).length) (fun _ hz => hz) (fun _ _ _ => rfl)).set t fun v' hv' => ?_
    rw [hv] at hv'; cases hv'
    cases hvv with
    | ss _ _ _ A A' len c he hb hA => exact .sr _ _ _ _ (by simp [Env.snoc])
  · rcases a2 b hb with hO | hO
    · obtain ⟨j, _, hj⟩ := d2 b hO
      exact .inl ⟨j, hj⟩
    · exact .inl ⟨id, p2 b hO⟩
  · have hne : i ≠ (σ.dropId id).st.length := by rw [d3]; omega
    simp [Env.snoc, hne]
mutual
theorem nilTo_ok {x : AV} (hx : VR T E Z w x (.slice none 0 0)) : ∀ (v : AV) (u : Value), VR T E Z w v u → ∀ v', AV.nilTo x v = some v' → VR T E Z w v' u
  | .sl t kd rows, u, h, v', hv => by
    cases kd with
    | nil =>
      simp only [AV.nilTo, Option.some.injEq] at hv
      subst hv
      cases h with
      | slnil _ _ hk => exact hx
      | sl _ _ _ A c cv hn hf hc hsp hz hok hcell hrep => exact absurd rfl hn
    | _ => simp [AV.nilTo] at hv
  | .agg cs, u, h, v', hv => by
    cases h with
    | agg _ vs hl hr =>
      simp only [AV.nilTo] at hv
      split at hv
      · rename_i cs' hcs
        cases hv
        obtain ⟨h1, h2⟩ := nilToL_ok hx cs vs hl hr cs' hcs
        exact .agg cs' vs h1 h2
      · cases hv
  | .tup cs, u, h, v', hv => by
    cases h with
    | tup _ vs hl hr =>
      simp only [AV.nilTo] at hv
      split at hv
      · rename_i cs' hcs
        cases hv
        obtain ⟨h1, h2⟩ := nilToL_ok hx cs vs hl hr cs' hcs
        exact .tup cs' vs h1 h2
      · cases hv
  | .undef, _, _, _, hv => by simp [AV.nilTo] at hv
  | .k _, _, _, _, hv => by simp [AV.nilTo] at hv
  | .sr _, _, _, _, hv => by simp [AV.nilTo] at hv
  | .ss _ _ _, _, _, _, hv => by simp [AV.nilTo] at hv
  | .ptr _ _, _, _, _, hv => by simp [AV.nilTo] at hv
  | .ap _ _ _, _, _, _, hv => by simp [AV.nilTo] at hv
  | .ep _ _ _, _, _, _, hv => by simp [AV.nilTo] at hv
  | .fn _ _ _, _, _, _, hv => by simp [AV.nilTo] at hv
  | .iface _ _, _, _, _, hv => by simp [AV.nilTo] at hv
theorem nilToL_ok {x : AV} (hx : VR T E Z w x (.slice none 0 0)) : ∀ (l : List AV) (us : List Value), l.length = us.length → (∀ (j : Nat) (av : AV) (v : Value), l[j]? = some av → us[j]? = some v → VR T E Z w av v) →
    ∀ l', AV.nilToL x l = some l' → l'.length = us.length ∧ ∀ (j : Nat) (av : AV) (v : Value), l'[j]? = some av → us[j]? = some v → VR T E Z w av v
  | [], us, hl, hr, l', h => by simp [AV.nilToL] at h
  | v :: vs, [], hl, hr, l', h => by simp at hl
  | v :: vs, u :: us, hl, hr, l', h => by
    simp only [AV.nilToL] at h
    split at h
    · rename_i v' hv
      cases h
      have h0 := nilTo_ok hx v u (hr 0 v u rfl rfl) v' hv
      refine ⟨by simpa using hl, fun j av y hj hy => ?_⟩
      cases j with
      | zero => cases hj; cases hy; exact h0
      | succ j => exact hr (j + 1) av y (by simpa using hj) (by simpa using hy)
    · split at h
      · rename_i vs' hvs
        cases h
        obtain ⟨h1, h2⟩ := nilToL_ok hx vs us (by simpa using hl) (fun j av y hj hy => hr (j + 1) av y (by simpa using hj) (by simpa using hy)) vs' hvs
        refine ⟨by simpa using h1, fun j av y hj hy => ?_⟩
        cases j with
        | zero => cases hj; cases hy; exact hr 0 _ _ rfl rfl
        | succ j => exact h2 j av y (by simpa using hj) (by simpa using hy)
      · cases h
end
theorem loose_ok (h : StR T E Z w σ vals) (id : Nat) : WkRes T E Z w vals σ (σ.loose id) := by
  unfold St.loose
  split
  · rename_i t kd rows hst
    have hst' := getD_some hst (by simp)
    have hid : id < σ.st.length := (List.getElem?_eq_some_iff.1 hst').1
    have hor := h.sr.obj id _ hst'
    have hor' : OR T E Z w id (.arr t .any rows) := by
      cases hor with
      | arr0 _ _ A he hn hk hsz => exact .arr0 t .any A he (by simp) (fun _ => rfl) hsz
      | arr _ _ _ B o c vs ty hn he hc h0 hf hsz hb ho hok hr => exact .arr t .any rows B o c vs ty (by simp) he hc h0 ⟨by simp, fun hk => by cases hk⟩ hsz hb ho hok hr
    have hup := h.sr.update (w' := w) (id := id) (o' := .arr t .any rows) hid (fun _ _ _ _ => rfl) (fun _ _ _ => rfl) (Nat.le_refl _) hor' (fun B hB => (owns_some hst').2 hB)
    exact ⟨E, Z, ⟨hup.1, h.tm⟩, ⟨rfl, rfl, rfl, Nat.le_refl _, fun _ _ _ => rfl, fun _ hz => hz, fun _ hz => .inl hz, fun b hb => .inl (hup.2 b hb)⟩, fun _ _ => ⟨rfl, rfl⟩, rfl, by simp⟩
  · exact WkRes.refl h
theorem looseAll_ok : ∀ (ids : List Nat) {E : Env} {Z : Nat → Prop} {σ : St}, StR T E Z w σ vals → WkRes T E Z w vals σ (σ.looseAll ids)
  | [], _, _, _, h => WkRes.refl h
  | i :: is, E, Z, σ, h => WkRes.trans (loose_ok h i) (fun E' Z' h' => looseAll_ok is h')
theorem ownIn_ok (h : StR T E Z w σ vals) (t e : Nat) : WkRes T E Z w vals σ (match AV.nilTo (.sr σ.st.length) (σ.tmps.getD t .undef) with
    | some v => { σ.new (.arr e .any []) with tmps := σ.tmps.set t v }
    | none => σ) := by
  split
  · rename_i v hv
    obtain ⟨E', h1, h2, h3, h4⟩ := h.newArr0 e .any none (by simp) (fun _ => rfl)
    refine ⟨E', Z, ⟨h1.sr, h1.tm.set t fun u hu => ?_⟩, h3, h4, rfl, by simp [St.new]⟩
    have hlt : t < σ.tmps.length := by
      have := (List.getElem?_eq_some_iff.1 hu).1
      rw [h.tm.1]; exact this
    have hg : σ.tmps[t]? = some (σ.tmps.getD t .undef) := by
      rw [List.getElem?_eq_getElem hlt]
      simp [List.getD, List.getElem?_eq_getElem hlt]
    exact nilTo_ok h2 _ u (h1.tm.2 t _ u hg hu) v hv
  · exact WkRes.refl h
theorem thawId_ok (h : StR T E Z w σ vals) (id : Nat) : WkRes T E Z w vals σ (σ.thawId id) := by
  unfold St.thawId
  split
  · rename_i t kd r rs hst
    have hst' := getD_some hst (by simp)
    have hid : id < σ.st.length := (List.getElem?_eq_some_iff.1 hst').1
    have hor := h.sr.obj id _ hst'
    have hor' : OR T E Z w id (.arx t (r :: rs)) := by
      cases hor with
      | arr _ _ _ B o c vs ty hn he hc h0 hf hsz hb ho hok hr => exact .arx t (r :: rs) B o c vs ty he hc h0 hsz hb ho (fun row hrow => (rowOk_get (hok row hrow)).1) hr
    have hup := h.sr.update (w' := w) (id := id) (o' := .arx t (r :: rs)) hid (fun _ _ _ _ => rfl) (fun _ _ _ => rfl) (Nat.le_refl _) hor' (fun B hB => (owns_some hst').2 hB)
    exact ⟨E, Z, ⟨hup.1, h.tm⟩, ⟨rfl, rfl, rfl, Nat.le_refl _, fun _ _ _ => rfl, fun _ hz => hz, fun _ hz => .inl hz, fun b hb => .inl (hup.2 b hb)⟩, fun _ _ => ⟨rfl, rfl⟩, rfl, by simp⟩
  · exact WkRes.refl h
theorem coL_get : ∀ (cs : List CT) (row : List AV) (j : Nat) (av : AV), (coL cs row)[j]? = some av → ∃ av0, row[j]? = some av0 ∧ (av = av0 ∨ ∃ c, av = CT.co c av0)
  | [], row, j, av, h => by
    cases row with
    | nil => simp [coL] at h
    | cons v vs => simp only [coL] at h; exact ⟨av, h, .inl rfl⟩
  | c :: cs, [], j, av, h => by simp [coL] at h
  | c :: cs, v :: vs, j, av, h => by
    simp only [coL] at h
    cases j with
    | zero => simp at h; exact ⟨v, rfl, .inr ⟨c, h.symm⟩⟩
    | succ j => simp only [List.getElem?_cons_succ] at h ⊢; exact coL_get cs vs j av h
theorem chillId_ok (h : StR T E Z w σ vals) (id : Nat) : WkRes T E Z w vals σ (σ.chillId T id) := by
  unfold St.chillId
  split
  · rename_i t rows hst
    cases hall : (rows.map (coL (cts T t))).all (rowOk (cts T t)) with
    | false => exact WkRes.refl h
    | true =>
      simp only [cond_true]
      rw [List.all_eq_true] at hall
      have hst' := getD_some hst (by simp)
      have hid : id < σ.st.length := (List.getElem?_eq_some_iff.1 hst').1
      have hor := h.sr.obj id _ hst'
      have hor' : OR T E Z w id (.arr t .any (rows.map (coL (cts T t)))) := by
        cases hor with
        | arx _ _ B o c vs ty he hc h0 hsz hb ho hlen hr =>
          refine .arr t .any _ B o c vs ty (by simp) (by simpa using he) (by simpa using hc) h0 ⟨by simp, fun hk => by cases hk⟩ hsz hb ho hall fun i row j av v hi hj hv => ?_
          rw [List.getElem?_map] at hi
          cases hri : rows[i]? with
          | none => rw [hri] at hi; cases hi
          | some row0 =>
            rw [hri] at hi
            simp only [Option.map_some, Option.some.injEq] at hi
            subst hi
            obtain ⟨av0, h1, h2⟩ := coL_get _ _ _ _ hj
            have h3 := hr i row0 j av0 v hri h1 hv
            rcases h2 with rfl | ⟨c, rfl⟩
            · exact h3
            · exact h3.co
      have hup := h.sr.update (w' := w) (id := id) (o' := .arr t .any (rows.map (coL (cts T t)))) hid (fun _ _ _ _ => rfl) (fun _ _ _ => rfl) (Nat.le_refl _) hor' (fun B hB => (owns_some hst').2 hB)
      exact ⟨E, Z, ⟨hup.1, h.tm⟩, ⟨rfl, rfl, rfl, Nat.le_refl _, fun _ _ _ => rfl, fun _ hz => hz, fun _ hz => .inl hz, fun b hb => .inl (hup.2 b hb)⟩, fun _ _ => ⟨rfl, rfl⟩, rfl, by simp⟩
  · exact WkRes.refl h
theorem chillAll_ok : ∀ (ids : List Nat) {E : Env} {Z : Nat → Prop} {σ : St}, StR T E Z w σ vals → WkRes T E Z w vals σ (σ.chillAll T ids)
  | [], _, _, _, h => WkRes.refl h
  | i :: is, E, Z, σ, h => by
    have h1 : WkRes T E Z w vals σ (σ.chill1 T i) := by
      unfold St.chill1
      split
      · exact WkRes.trans (freezeAll_ok _ h) (fun E' Z' h' => chillId_ok h' _)
      · exact WkRes.refl h
    exact WkRes.trans h1 (fun E' Z' h' => chillAll_ok is h')
theorem freezeBId_ok (h : StR T E Z w σ vals) (id : Nat) : WkRes T E Z w vals σ (σ.freezeBId T id) := by
  unfold St.freezeBId
  split
  · rename_i t cs hst
    have hst := getD_some hst (by simp)
    cases hok : rowOk (cts T t) cs with
    | false => exact WkRes.refl h
    | true =>
    rw [cond_true]
    let Z' : Nat → Prop := fun b => Z b ∨ owns E σ.st id b
    have hid : id < σ.st.length := (List.getElem?_eq_some_iff.1 hst).1
    obtain ⟨B, vs, ty, hE, hb, hv⟩ : ∃ B vs ty, E.ρ id = some (.pointer (some ⟨B, 0, none⟩)) ∧ w.heap[B]? = some (.cells vs.toArray ty (0, 0)) ∧ VRs T E Z w cs vs := by
      cases h.sr.obj id _ hst with
      | box _ _ B vs ty he hb hr => exact ⟨B, vs, ty, he, hb, hr⟩
    have hown0 : owns E σ.st id B := (owns_some hst).2 ⟨_, hE, rfl⟩
    have hlt : ∀ (j : Nat) (av : AV), cs[j]? = some av → j < vs.length := fun j av hj => by
      have := (List.getElem?_eq_some_iff.1 hj).1
      rw [hv.1] at this; exact this
    have hcell : ∀ (j : Nat) (av : AV), cs[j]? = some av → w.cell? ⟨B, 0 + j, none⟩ = some (vs.getD j .nilFunc) := fun j av hj => by
      rw [cell_of hb]
      simp [List.getD, List.getElem?_eq_getElem (hlt j av hj)]
    have hrep : ∀ (j : Nat) (av : AV), cs[j]? = some av → VR T E Z' w av (vs.getD j .nilFunc) := fun j av hj => by
      refine VR.mono (fun i v hv => ⟨hv, rfl⟩) (fun _ hz => .inl hz) (fun _ _ _ => rfl) (hv.2 j av _ hj ?_)
      simp [List.getD, List.getElem?_eq_getElem (hlt j av hj)]
    have hleaf : ∀ r v, isRef r = true → VR T E Z w r v → VR T E Z' w (freezeB1 id t cs r) v := fun r v hr hv => by
      cases hv <;> simp [isRef] at hr
      case sr i A' n c' he =>
        simp only [freezeB1]
        cases hi : Nat.beq i id with
        | false => exact .sr _ _ _ _ he
        | true => exact .undef _
      case ss i a n A' A'' len c' he hb hA =>
        simp only [freezeB1]
        cases hi : Nat.beq i id with
        | false => exact .ss _ _ _ _ _ _ _ he hb hA
        | true => exact .undef _
      case ptr i off B' he =>
        simp only [freezeB1]
        cases hi : Nat.beq i id with
        | false => exact .ptr _ _ _ he
        | true =>
          obtain rfl := Nat.eq_of_beq_eq_true hi
          rw [he] at hE
          simp only [Option.some.injEq, Value.pointer.injEq, Addr.mk.injEq] at hE
          obtain ⟨rfl, _⟩ := hE
          have := VR.ep (T := T) (E := E) (Z := Z') (w := w) t cs off ⟨B', 0, none⟩ (fun j => vs.getD j .nilFunc) (.inr hown0) hok hcell hrep
          simpa using this
      case yl i l he =>
        simp only [freezeB1]
        cases hi : Nat.beq i id with
        | false => exact .yl _ _ he
        | true => exact .undef _
      case mp i r he =>
        simp only [freezeB1]
        cases hi : Nat.beq i id with
        | false => exact .mp _ _ he
        | true => exact .undef _
      case ap i k off A' n c' he hk =>
        simp only [freezeB1]
        cases hi : Nat.beq i id with
        | false => exact .ap _ _ _ _ _ _ he hk
        | true => exact .undef _
    have hget : ∀ j o, ((σ.st.set id .dead).map (AObj.onRefs (freezeB1 id t cs)))[j]? = some o → (j = id ∧ o = .dead) ∨ (j ≠ id ∧ ∃ x, σ.st[j]? = some x ∧ o = x.onRefs (freezeB1 id t cs)) := fun j o hj => by
      rw [List.getElem?_map, Option.map_eq_some_iff] at hj
      obtain ⟨x, hx, rfl⟩ := hj
      by_cases hji : j = id
      · subst hji
        rw [List.getElem?_set_self hid] at hx
        cases hx
        exact .inl ⟨rfl, rfl⟩
      · rw [List.getElem?_set_ne (Ne.symm hji)] at hx
        exact .inr ⟨hji, x, hx, rfl⟩
    have hown : ∀ j B, owns E ((σ.st.set id .dead).map (AObj.onRefs (freezeB1 id t cs))) j B → j ≠ id ∧ owns E σ.st j B := fun j B hj => by
      obtain ⟨o, hjo, hB⟩ := owns_get hj
      rcases hget j o hjo with ⟨rfl, rfl⟩ | ⟨hji, x, hx, rfl⟩
      · exact hB.elim
      · exact ⟨hji, (owns_some hx).2 ((ownsO_onRefs _ _ _ _ _).1 hB)⟩
    refine ⟨E, Z', ⟨⟨fun j o hj => ?_, fun j hj => h.sr.out j (by simpa using hj), fun i j B hi hj => h.sr.inj i j B (hown i B hi).2 (hown j B hj).2, fun B ⟨j, hj⟩ hz => ?_, fun B hz => ?_⟩, ?_⟩,
      ⟨rfl, rfl, rfl, Nat.le_refl _, fun _ _ _ => rfl, fun _ hz => .inl hz, fun b hz => ?_, fun b ⟨j, hj⟩ => .inl ⟨j, (hown j b hj).2⟩⟩, fun _ _ => ⟨rfl, rfl⟩, rfl, by simp⟩
    · rcases hget j o hj with ⟨rfl, rfl⟩ | ⟨hji, x, hx, rfl⟩
      · exact .dead
      · exact (h.sr.obj j x hx).map _ (fun _ hz => .inl hz) (fun _ _ _ => rfl) hleaf rfl rfl (fun _ _ => rfl)
    · obtain ⟨hji, hB⟩ := hown j B hj
      rcases hz with hz | hz
      · exact h.sr.zown B ⟨j, hB⟩ hz
      · exact hji (h.sr.inj j id B hB hz)
    · rcases hz with hz | hz
      · exact h.sr.zlt B hz
      · exact h.sr.owns_lt hz
    · exact h.tm.map _ (fun _ hz => .inl hz) (fun _ _ _ => rfl) hleaf
    · rcases hz with hz | hz
      · exact .inl hz
      · exact .inr (.inl ⟨id, hz⟩)
  · exact WkRes.refl h
theorem weak_ok (h : StR T E Z w σ vals) (x : Weak) : WkRes T E Z w vals σ (σ.weak T x) := by
  cases x with
  | kill ts => exact ⟨E, Z, ⟨h.sr, h.tm.kill ts⟩, Ext.refl _ _ _, fun _ _ => ⟨rfl, rfl⟩, rfl, Nat.le_refl _⟩
  | freezeIn t =>
    simp only [St.weak]
    split
    · split
      · exact freezeAll_ok _ h
      · exact WkRes.refl h
    · exact WkRes.refl h
  | thaw t =>
    simp only [St.weak]
    split
    · exact thawId_ok h _
    · exact WkRes.refl h
  | chill t => exact chillAll_ok _ h
  | freezeB t =>
    simp only [St.weak]
    split
    · exact freezeBId_ok h _
    · exact WkRes.refl h
  | freeze t => exact freezeAll_ok _ h
  | own t e =>
    simp only [St.weak]
    cases hs : ownAV σ e (σ.tmps.getD t .undef) with
    | none => exact WkRes.refl h
    | some r =>
      obtain ⟨σ1, v⟩ := r
      unfold ownAV at hs
      split at hs
      · rename_i u rows heq
        cases hs
        obtain ⟨E', h1, h2, h3, h4⟩ := h.newArr0 e .any none (by simp) (fun _ => rfl)
        refine ⟨E', Z, ⟨h1.sr, h1.tm.set t fun v hv => ?_⟩, h3, h4, rfl, by simp [St.put, St.new]⟩
        have hlt : t < σ.tmps.length := by
          have := (List.getElem?_eq_some_iff.1 hv).1
          rw [h.tm.1]; exact this
        have hg : σ.tmps[t]? = some (.sl u .nil rows) := by
          rw [List.getElem?_eq_getElem hlt]
          rw [← heq]; simp [List.getD, List.getElem?_eq_getElem hlt]
        have hold := h.tm.2 t _ _ hg hv
        cases hold with
        | slnil _ _ hk => exact h2
        | sl _ _ _ A c cv hn hf hc hsp hz hok hcell hrep => exact absurd rfl hn
      · cases hs
  | ownCell t off e =>
    simp only [St.weak]
    split
    · rename_i id o heq
      split
      · rename_i bt cs hst
        cases hs : ownAV σ e (cs.getD (o + off) .undef) with
        | none => exact WkRes.refl h
        | some r =>
          obtain ⟨σ1, v⟩ := r
          unfold ownAV at hs
          split at hs
          · rename_i u rows heq2
            cases hs
            have hst' := getD_some hst (by simp)
            have hid : id < σ.st.length := (List.getElem?_eq_some_iff.1 hst').1
            obtain ⟨E', h1, h2, h3, h4⟩ := h.newArr0 e .any none (by simp) (fun _ => rfl)
            have hst1 : (σ.new (.arr e .any [])).st[id]? = some (.box bt cs) := by
              simp only [St.new]
              rw [List.getElem?_append_left hid]; exact hst'
            have hor := h1.sr.obj id _ hst1
            have hlen1 : id < (σ.new (.arr e .any [])).st.length := (List.getElem?_eq_some_iff.1 hst1).1
            have hor' : OR T E' Z w id (.box bt (cs.set (o + off) (.sr σ.st.length))) := by
              cases hor with
              | box _ _ B vs ty he hb hr =>
                refine .box bt _ B vs ty he hb (hr.set _ fun v hv => ?_)
                have hlt : o + off < cs.length := by
                  have := (List.getElem?_eq_some_iff.1 hv).1
                  rw [hr.1]; exact this
                have hg : cs[o + off]? = some (.sl u .nil rows) := by
                  rw [List.getElem?_eq_getElem hlt]
                  rw [← heq2]; simp [List.getD, List.getElem?_eq_getElem hlt]
                have hold := hr.2 _ _ _ hg hv
                cases hold with
                | slnil _ _ hk => exact h2
                | sl _ _ _ A c cv hn hf hc hsp hz hok hcell hrep => exact absurd rfl hn
            have hup := h1.sr.update (w' := w) (id := id) (o' := .box bt (cs.set (o + off) (.sr σ.st.length))) hlen1 (fun _ _ _ _ => rfl) (fun _ _ _ => rfl) (Nat.le_refl _) hor'
              (fun B hB => (owns_some hst1).2 hB)
            refine ⟨E', Z, ⟨hup.1, h1.tm⟩, h3.trans ⟨rfl, rfl, rfl, Nat.le_refl _, fun _ _ _ => rfl, fun _ hz => hz, fun _ hz => .inl hz, fun b hb => .inl (hup.2 b hb)⟩, h4, rfl, by simp [St.new]⟩
          · cases hs
      · exact WkRes.refl h
    · exact WkRes.refl h
  | drop ids => exact dropAll_ok ids h
  | ownIn t e => exact ownIn_ok h t e
  | loose t => exact looseAll_ok _ h
  | part t =>
    simp only [St.weak]
    have hg : ∀ av, σ.tmps.getD t .undef = av → av ≠ .undef → t < σ.tmps.length ∧ ∀ v, vals[t]? = some v → VR T E Z w av v := fun av hav hne => by
      have hlt : t < σ.tmps.length := by
        rcases Nat.lt_or_ge t σ.tmps.length with h1 | h1
        · exact h1
        · rw [List.getD_eq_getElem?_getD, List.getElem?_eq_none h1] at hav
          exact absurd hav.symm hne
      refine ⟨hlt, fun v hv => h.tm.2 t av v ?_ hv⟩
      rw [List.getElem?_eq_getElem hlt, ← hav]
      simp [List.getD, List.getElem?_eq_getElem hlt]
    split
    · rename_i id a n heq
      obtain ⟨g1, g2⟩ := hg _ heq (by simp)
      split
      · rename_i e kd rows hst
        exact partOf_ok h (getD_some hst (by simp)) g2 g1
      · exact WkRes.refl h
    · rename_i id heq
      obtain ⟨g1, g2⟩ := hg _ heq (by simp)
      split
      · rename_i e kd rows hst
        have hst' := getD_some hst (by simp)
        have := partOf_ok (a := 0) (n := rows.length) h hst' (fun v hv => by
          have hor := h.sr.obj id _ hst'
          have hx := g2 v hv
          cases hx with
          | sr _ A n c he =>
            obtain ⟨rfl, hsp⟩ : n = rows.length ∧ (0 < c → A = A.map fun B => ⟨B.block, B.off + 0 * E.sz id, none⟩) := by
              cases hor with
              | arr0 _ _ A'' he' hn hk hsz => rw [he] at he'; cases he'; exact ⟨rfl, fun h => absurd h (by omega)⟩
              | arr _ _ _ B o c' vs' ty' hn he' hc h0 hf hsz hbb ho hok hr => rw [he] at he'; cases he'; exact ⟨rfl, fun _ => by simp⟩
            exact .ss id 0 rows.length A A rows.length c he (by omega) hsp) g1
        rw [List.drop_zero, List.take_length] at this
        exact this
      · exact WkRes.refl h
    · exact WkRes.refl h
theorem weaks_ok : ∀ (xs : List Weak) {E : Env} {Z : Nat → Prop} {σ : St}, StR T E Z w σ vals → WkRes T E Z w vals σ (σ.weaks T xs)
  | [], _, _, _, h => WkRes.refl h
  | x :: xs, E, Z, σ, h => WkRes.trans (weak_ok h x) (fun E' Z' h' => weaks_ok xs h')
theorem WkRes.kp {E0 : Env} {m : Nat} (hK : Kp E0 m σ.moved E) (hl : m ≤ σ.st.length) (hE : SameE σ.st.length E E') (hm : σ'.moved = σ.moved) : Kp E0 m σ'.moved E' := fun i hi hn => by
  have h1 := hE i (by omega)
  have h2 := hK i hi (hm ▸ hn)
  exact ⟨h1.1.trans h2.1, h1.2.trans h2.2⟩
end
end Go.Fw
