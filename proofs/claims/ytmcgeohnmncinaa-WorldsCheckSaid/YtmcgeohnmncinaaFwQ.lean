/- The framework, part Q: what is done ahead of operations and at loops' heads. -/
import Derived.Test.YtmcgeohnmncinaaFwP
set_option linter.all false
set_option linter.unusedSimpArgs false
set_option linter.unusedVariables false
namespace Go.Fw
section
variable {P : Program} {T : Tab} {E E' : Env} {Z : Nat → Prop} {w w' : World} {σ σ' : St} {vals : List Value}

theorem VRs.set {l : List AV} {vs : List Value} (h : VRs T E Z w l vs) (t : Nat) {av : AV} (hv : ∀ v, vs[t]? = some v → VR T E Z w av v) : VRs T E Z w (l.set t av) vs := by
  refine ⟨by simp [h.1], fun j x v hj hvj => ?_⟩
  by_cases hjt : j = t
  · subst hjt
    have hlt : j < l.length := by have := (List.getElem?_eq_some_iff.1 hj).1; simpa using this
    rw [List.getElem?_set_self hlt] at hj
    cases hj
    exact hv v hvj
  · rw [List.getElem?_set_ne (Ne.symm hjt)] at hj
    exact h.2 j x v hj hvj

theorem VRs.kill {vs : List Value} : ∀ (ts : List Nat) {l : List AV}, VRs T E Z w l vs → VRs T E Z w (killAll l ts) vs
  | [], _, h => h
  | t :: ts, l, h => by
    simp only [killAll]
    exact VRs.kill ts (h.set t fun v _ => .undef v)

/-- an owned array as a value -/
theorem arr_value (h : SR T E Z w σ.st) {id t : Nat} {kd : SK} {rows : List (List AV)} (hst : σ.st[id]? = some (.arr t kd rows)) {Z' : Nat → Prop} (hZ : ∀ b, Z b → Z' b) (hZ' : ∀ b, owns E σ.st id b → Z' b)
    (h' : AV → AV) :
    ∃ A c, E.ρ id = some (.slice A rows.length c) ∧ rows.length ≤ c ∧ E.sz id = (cts T t).length ∧ (∀ row ∈ rows, rowOk (cts T t) row = true) ∧ (c ≠ 0 → ∀ B, A = some B → B.spot = none) ∧
      VR T E Z' w (.sl t kd rows) (.slice A rows.length c) ∧
      (∀ B, A = some B → 0 < (cts T t).length → ∃ cv : Nat → Nat → Value, (rows ≠ [] → Z' B.block) ∧
        (∀ (i : Nat) (row : List AV) (j : Nat) (av : AV), rows[i]? = some row → row[j]? = some av → w.cell? ⟨B.block, B.off + (i * (cts T t).length + j), none⟩ = some (cv i j)) ∧
        (∀ (i : Nat) (row : List AV) (j : Nat) (av : AV), rows[i]? = some row → row[j]? = some av → VR T E Z' w av (cv i j))) := by
  have hor := h.obj id _ hst
  cases hor with
  | arr0 _ _ A he hn hk hsz =>
    refine ⟨A, 0, he, Nat.le_refl _, hsz, fun row hr => by simp at hr, fun h0 => absurd rfl h0, ?_, fun B hB _ => ⟨fun _ _ => .nilFunc, fun hne => absurd rfl hne, fun i row j av hi => by simp at hi, fun i row j av hi => by simp at hi⟩⟩
    cases A with
    | none => rw [hk rfl]; exact .slnil _ _ (.inr (.inl rfl))
    | some B => exact .sl t kd [] B 0 (fun _ _ => .nilFunc) hn (fun _ => rfl) (Nat.le_refl _) (fun h0 => absurd rfl h0) (fun hne => absurd rfl hne) (fun row hr => by simp at hr) (fun i row j av hi => by simp at hi) (fun i row j av hi => by simp at hi)
  | arr _ _ _ B o c vs ty hn he hc h0 hf hsz hb ho hok hr =>
    have hle : o + rows.length * (cts T t).length ≤ vs.length := Nat.le_trans (Nat.add_le_add_left (Nat.mul_le_mul_right _ hc) _) ho
    have hown : owns E σ.st id B := (owns_some hst).2 ⟨_, _, _, he, h0, rfl⟩
    have hin : ∀ i row j av, rows[i]? = some row → row[j]? = some av → o + (i * (cts T t).length + j) < vs.length := fun i row j av hi hj => by
      have hi' := (List.getElem?_eq_some_iff.1 hi).1
      have hj' := (List.getElem?_eq_some_iff.1 hj).1
      rw [(rowOk_get (hok row (List.mem_of_getElem? hi))).1] at hj'
      have : (i + 1) * (cts T t).length ≤ rows.length * (cts T t).length := Nat.mul_le_mul_right _ hi'
      rw [Nat.succ_mul] at this
      omega
    have hcell : ∀ (i : Nat) (row : List AV) (j : Nat) (av : AV), rows[i]? = some row → row[j]? = some av → w.cell? ⟨B, o + (i * (cts T t).length + j), none⟩ = some (vs.getD (o + (i * (cts T t).length + j)) .nilFunc) := fun i row j av hi hj => by
      rw [cell_of hb]
      simp [List.getD, List.getElem?_eq_getElem (hin i row j av hi hj)]
    have hrep : ∀ (i : Nat) (row : List AV) (j : Nat) (av : AV), rows[i]? = some row → row[j]? = some av → VR T E Z' w av (vs.getD (o + (i * (cts T t).length + j)) .nilFunc) := fun i row j av hi hj => by
      refine VR.mono (fun i v hv => ⟨hv, rfl⟩) hZ (fun _ _ _ => rfl) (hr i row j av _ hi hj ?_)
      simp [List.getD, List.getElem?_eq_getElem (hin i row j av hi hj)]
    refine ⟨_, c, he, hc, hsz, hok, fun _ B' hB' => by cases hB'; rfl, .sl t kd rows ⟨B, o, none⟩ c (fun i j => vs.getD (o + (i * (cts T t).length + j)) .nilFunc) hn hf hc (fun _ => rfl) (fun _ => hZ' B hown) hok hcell hrep, fun B' hB' _ => ?_⟩
    cases hB'
    exact ⟨fun i j => vs.getD (o + (i * (cts T t).length + j)) .nilFunc, fun _ => hZ' B hown, hcell, hrep⟩

/-- **An owned array becomes a value.** -/
theorem StR.freezeId (h : StR T E Z w σ vals) (id : Nat) :
    ∃ Z', StR T E Z' w (σ.freezeId id) vals ∧ Ext (Owned E σ.st) Z w (Owned E (σ.freezeId id).st) Z' w := by
  unfold St.freezeId
  split
  · rename_i t kd rows hst
    have hst := getD_some hst (by simp)
    let Z' : Nat → Prop := fun b => Z b ∨ owns E σ.st id b
    obtain ⟨A, c, hE, hlc, hsz, hok, hsp, hV, hC⟩ := arr_value h.sr hst (Z' := Z') (fun _ hz => .inl hz) (fun _ hz => .inr hz) (fun x => x)
    have hid : id < σ.st.length := (List.getElem?_eq_some_iff.1 hst).1
    have hleaf : ∀ r v, isRef r = true → VR T E Z w r v → VR T E Z' w (freeze1 id t kd rows r) v := fun r v hr hv => by
      cases hv <;> simp [isRef] at hr
      case sr i A' n c' he =>
        simp only [freeze1]
        cases hi : Nat.beq i id with
        | false => exact .sr _ _ _ _ he
        | true =>
          obtain rfl := Nat.eq_of_beq_eq_true hi
          rw [he] at hE; cases hE
          exact hV
      case ss i a n A' A'' len c' he hb hA =>
        simp only [freeze1]
        cases hi : Nat.beq i id with
        | false => exact .ss _ _ _ _ _ _ _ he hb hA
        | true =>
          obtain rfl := Nat.eq_of_beq_eq_true hi
          rw [he] at hE
          simp only [Option.some.injEq, Value.slice.injEq] at hE
          obtain ⟨rfl, rfl, rfl⟩ := hE
          have hyl : ((rows.drop a).take n).length = n := by simp; omega
          cases A'' with
          | none =>
            have hn0 : n = 0 ∧ c' - a = 0 := by
              by_cases hac : a < c'
              · have := hA hac
                cases A' with
                | none =>
                  have hor := h.sr.obj _ _ hst
                  cases hor with
                  | arr0 _ _ A he' _ _ _ => rw [he] at he'; cases he'; omega
                  | arr _ _ _ B o c vs ty hn he' hc h0 hf hsz hb ho hok hr => rw [he] at he'; cases he'
                | some B => simp at this
              · omega
            obtain ⟨rfl, e2⟩ := hn0
            rw [e2]
            simp only [List.take_zero]
            exact .slnil _ _ (.inr (.inl rfl))
          | some B'' =>
            by_cases hn0 : n = 0
            · subst hn0
              simp only [List.take_zero]
              exact .sl t .any [] B'' (c' - a) (fun _ _ => .nilFunc) (by simp) (by simp) (by simp) (fun hca => by
                have hAA := hA (by omega)
                cases A' with
                | none => cases hAA
                | some B => cases hAA; rfl) (fun hne => absurd rfl hne) (fun row hr => by simp at hr) (fun i row j av hi => by simp at hi) (fun i row j av hi => by simp at hi)
            · have hac : a < c' := by omega
              have hAA := hA hac
              cases A' with
              | none => cases hAA
              | some B =>
                cases hAA
                rcases Nat.eq_zero_or_pos (cts T t).length with hz0 | hzp
                · -- elements without cells
                  have := VR.sl (T := T) (E := E) (Z := Z') (w := w) t .any ((rows.drop a).take n) ⟨B.block, B.off + a * E.sz i, none⟩ (c' - a) (fun _ _ => .nilFunc) (by simp) (by simp) (by rw [hyl]; omega) (fun _ => rfl)
                    (fun _ => .inr ((owns_some hst).2 ⟨B, _, _, he, by omega, rfl⟩)) (fun row hrow => hok row (List.mem_of_mem_drop (List.mem_of_mem_take hrow)))
                    (fun i' row j av hi hj => by
                      have hm := hok row (List.mem_of_mem_drop (List.mem_of_mem_take (List.mem_of_getElem? hi)))
                      have hj' := (List.getElem?_eq_some_iff.1 hj).1
                      rw [(rowOk_get hm).1] at hj'; omega)
                    (fun i' row j av hi hj => by
                      have hm := hok row (List.mem_of_mem_drop (List.mem_of_mem_take (List.mem_of_getElem? hi)))
                      have hj' := (List.getElem?_eq_some_iff.1 hj).1
                      rw [(rowOk_get hm).1] at hj'; omega)
                  rw [hyl] at this; exact this
                · obtain ⟨cv, hz, hc1, hc2⟩ := hC B rfl hzp
                  have hget : ∀ (i' : Nat) row, ((rows.drop a).take n)[i']? = some row → rows[a + i']? = some row := fun i' row hi => by
                    rw [List.getElem?_take] at hi
                    split at hi
                    · rwa [List.getElem?_drop] at hi
                    · cases hi
                  have := VR.sl (T := T) (E := E) (Z := Z') (w := w) t .any ((rows.drop a).take n) ⟨B.block, B.off + a * E.sz i, none⟩ (c' - a) (fun i' j => cv (a + i') j) (by simp) (by simp) (by rw [hyl]; omega) (fun _ => rfl)
                    (fun _ => hz (by rintro rfl; simp at hb; omega)) (fun row hrow => hok row (List.mem_of_mem_drop (List.mem_of_mem_take hrow)))
                    (fun i' row j av hi hj => by
                      have := hc1 (a + i') row j av (hget i' row hi) hj
                      rw [hsz]
                      simpa [Nat.add_mul, Nat.add_assoc] using this)
                    (fun i' row j av hi hj => hc2 (a + i') row j av (hget i' row hi) hj)
                  rw [hyl] at this; exact this
      case ptr i off B he =>
        simp only [freeze1]
        cases hi : Nat.beq i id with
        | false => exact .ptr _ _ _ he
        | true => exact .undef _
      case ap i k off A' n c' he hk =>
        simp only [freeze1]
        cases hi : Nat.beq i id with
        | false => exact .ap _ _ _ _ _ _ he hk
        | true =>
          obtain rfl := Nat.eq_of_beq_eq_true hi
          rw [he] at hE
          simp only [Option.some.injEq, Value.slice.injEq] at hE
          obtain ⟨hAe, rfl, rfl⟩ := hE
          subst hAe
          have hrow : rows[k]? = some rows[k] := List.getElem?_eq_getElem hk
          have hg : rows.getD k [] = rows[k] := by simp [List.getD, hrow]
          simp only [cond_true, hg]
          have hokr := hok _ (List.getElem_mem hk)
          have hzb : Z' A'.block := by
            refine .inr ((owns_some hst).2 ⟨A', _, _, he, ?_, rfl⟩)
            omega
          rcases Nat.eq_zero_or_pos (cts T t).length with hz0 | hzp
          · have := VR.ep (T := T) (E := E) (Z := Z') (w := w) t rows[k] off ⟨A'.block, A'.off + k * E.sz i, none⟩ (fun _ => .nilFunc) hzb hokr
              (fun j av hj => by have hj' := (List.getElem?_eq_some_iff.1 hj).1; rw [(rowOk_get hokr).1] at hj'; omega)
              (fun j av hj => by have hj' := (List.getElem?_eq_some_iff.1 hj).1; rw [(rowOk_get hokr).1] at hj'; omega)
            simpa [Nat.add_assoc] using this
          · obtain ⟨cv, hz, hc1, hc2⟩ := hC A' rfl hzp
            have := VR.ep (T := T) (E := E) (Z := Z') (w := w) t rows[k] off ⟨A'.block, A'.off + k * E.sz i, none⟩ (cv k) hzb hokr
              (fun j av hj => by have := hc1 k _ j av hrow hj; rw [hsz]; simpa [Nat.add_assoc] using this)
              (fun j av hj => hc2 k _ j av hrow hj)
            simpa [Nat.add_assoc] using this
    have hget : ∀ j o, ((σ.st.set id .dead).map (AObj.onRefs (freeze1 id t kd rows)))[j]? = some o → (j = id ∧ o = .dead) ∨ (j ≠ id ∧ ∃ x, σ.st[j]? = some x ∧ o = x.onRefs (freeze1 id t kd rows)) := fun j o hj => by
      rw [List.getElem?_map, Option.map_eq_some_iff] at hj
      obtain ⟨x, hx, rfl⟩ := hj
      by_cases hji : j = id
      · subst hji
        rw [List.getElem?_set_self hid] at hx
        cases hx
        exact .inl ⟨rfl, rfl⟩
      · rw [List.getElem?_set_ne (Ne.symm hji)] at hx
        exact .inr ⟨hji, x, hx, rfl⟩
    have hown : ∀ j B, owns E ((σ.st.set id .dead).map (AObj.onRefs (freeze1 id t kd rows))) j B → j ≠ id ∧ owns E σ.st j B := fun j B hj => by
      obtain ⟨o, hjo, hB⟩ := owns_get hj
      rcases hget j o hjo with ⟨rfl, rfl⟩ | ⟨hji, x, hx, rfl⟩
      · exact hB.elim
      · exact ⟨hji, (owns_some hx).2 ((ownsO_onRefs _ _ _ _ _).1 hB)⟩
    refine ⟨Z', ⟨⟨fun j o hj => ?_, fun j hj => h.sr.out j (by simpa using hj), fun i j B hi hj => h.sr.inj i j B (hown i B hi).2 (hown j B hj).2, fun B ⟨j, hj⟩ hz => ?_, fun B hz => ?_⟩, ?_⟩,
      ⟨rfl, rfl, rfl, Nat.le_refl _, fun _ _ _ => rfl, fun _ hz => .inl hz, fun b hz => ?_, fun b ⟨j, hj⟩ => .inl ⟨j, (hown j b hj).2⟩⟩⟩
    · rcases hget j o hj with ⟨rfl, rfl⟩ | ⟨hji, x, hx, rfl⟩
      · exact .dead
      · exact (h.sr.obj j x hx).map _ (fun _ hz => .inl hz) (fun _ _ _ => rfl) hleaf rfl rfl (fun _ _ => rfl)
    · obtain ⟨hji, hB⟩ := hown j B hj
      rcases hz with hz | hz
      · exact h.sr.zown B ⟨j, hB⟩ hz
      · exact hji (h.sr.inj j id B hB hz)
    · rcases hz with hz | hz
      · exact h.sr.zlt B hz
      · exact h.sr.owns_lt hz
    · exact h.tm.map _ (fun _ hz => .inl hz) (fun _ _ _ => rfl) hleaf
    · rcases hz with hz | hz
      · exact .inl hz
      · exact .inr (.inl ⟨id, hz⟩)
  · exact ⟨Z, h, Ext.refl _ _ _⟩

theorem freezeId_len (σ : St) (id : Nat) : (σ.freezeId id).st.length = σ.st.length ∧ (σ.freezeId id).moved = σ.moved := by
  unfold St.freezeId
  split <;> simp

/-- what 'weak' keeps -/
def WkRes (T : Tab) (E : Env) (Z : Nat → Prop) (w : World) (vals : List Value) (σ σ' : St) : Prop :=
  ∃ E' Z', StR T E' Z' w σ' vals ∧ Ext (Owned E σ.st) Z w (Owned E' σ'.st) Z' w ∧ SameE σ.st.length E E' ∧ σ'.moved = σ.moved ∧ σ.st.length ≤ σ'.st.length

theorem WkRes.refl (h : StR T E Z w σ vals) : WkRes T E Z w vals σ σ := ⟨E, Z, h, Ext.refl _ _ _, fun _ _ => ⟨rfl, rfl⟩, rfl, Nat.le_refl _⟩

theorem WkRes.trans {σ'' : St} (h : WkRes T E Z w vals σ σ') (k : ∀ E' Z', StR T E' Z' w σ' vals → WkRes T E' Z' w vals σ' σ'') : WkRes T E Z w vals σ σ'' := by
  obtain ⟨E', Z', h1, h2, h3, h4, h5⟩ := h
  obtain ⟨E'', Z'', k1, k2, k3, k4, k5⟩ := k E' Z' h1
  exact ⟨E'', Z'', k1, h2.trans k2, fun i hi => ⟨(k3 i (by omega)).1.trans (h3 i hi).1, (k3 i (by omega)).2.trans (h3 i hi).2⟩, k4.trans h4, Nat.le_trans h5 k5⟩

theorem freezeAll_ok : ∀ (ids : List Nat) {E : Env} {Z : Nat → Prop} {σ : St}, StR T E Z w σ vals → WkRes T E Z w vals σ (σ.freezeAll ids)
  | [], _, _, _, h => WkRes.refl h
  | i :: is, E, Z, σ, h => by
    obtain ⟨Z', h1, h2⟩ := h.freezeId i
    have hl := freezeId_len σ i
    exact WkRes.trans ⟨E, Z', h1, h2, fun _ _ => ⟨rfl, rfl⟩, hl.2, by rw [hl.1]; exact Nat.le_refl _⟩ (fun E' Z' h' => freezeAll_ok is h')

theorem weak_ok (h : StR T E Z w σ vals) (x : Weak) : WkRes T E Z w vals σ (σ.weak x) := by
  cases x with
  | kill ts => exact ⟨E, Z, ⟨h.sr, h.tm.kill ts⟩, Ext.refl _ _ _, fun _ _ => ⟨rfl, rfl⟩, rfl, Nat.le_refl _⟩
  | freeze t => exact freezeAll_ok _ h
  | own t e =>
    simp only [St.weak]
    cases hs : ownAV σ e (σ.tmps.getD t .undef) with
    | none => exact WkRes.refl h
    | some r =>
      obtain ⟨σ1, v⟩ := r
      unfold ownAV at hs
      split at hs
      · rename_i u rows heq
        cases hs
        obtain ⟨E', h1, h2, h3, h4⟩ := h.newArr0 e .any none (by simp) (fun _ => rfl)
        refine ⟨E', Z, ⟨h1.sr, h1.tm.set t fun v hv => ?_⟩, h3, h4, rfl, by simp [St.put, St.new]⟩
        have hlt : t < σ.tmps.length := by
          have := (List.getElem?_eq_some_iff.1 hv).1
          rw [h.tm.1]; exact this
        have hg : σ.tmps[t]? = some (.sl u .nil rows) := by
          rw [List.getElem?_eq_getElem hlt]
          rw [← heq]; simp [List.getD, List.getElem?_eq_getElem hlt]
        have hold := h.tm.2 t _ _ hg hv
        cases hold with
        | slnil _ _ hk => exact h2
        | sl _ _ _ A c cv hn hf hc hsp hz hok hcell hrep => exact absurd rfl hn
      · cases hs
  | ownCell t off e =>
    simp only [St.weak]
    split
    · rename_i id o heq
      split
      · rename_i bt cs hst
        cases hs : ownAV σ e (cs.getD (o + off) .undef) with
        | none => exact WkRes.refl h
        | some r =>
          obtain ⟨σ1, v⟩ := r
          unfold ownAV at hs
          split at hs
          · rename_i u rows heq2
            cases hs
            have hst' := getD_some hst (by simp)
            have hid : id < σ.st.length := (List.getElem?_eq_some_iff.1 hst').1
            obtain ⟨E', h1, h2, h3, h4⟩ := h.newArr0 e .any none (by simp) (fun _ => rfl)
            have hst1 : (σ.new (.arr e .any [])).st[id]? = some (.box bt cs) := by
              simp only [St.new]
              rw [List.getElem?_append_left hid]; exact hst'
            have hor := h1.sr.obj id _ hst1
            have hlen1 : id < (σ.new (.arr e .any [])).st.length := (List.getElem?_eq_some_iff.1 hst1).1
            have hor' : OR T E' Z w id (.box bt (cs.set (o + off) (.sr σ.st.length))) := by
              cases hor with
              | box _ _ B vs ty he hb hr =>
                refine .box bt _ B vs ty he hb (hr.set _ fun v hv => ?_)
                have hlt : o + off < cs.length := by
                  have := (List.getElem?_eq_some_iff.1 hv).1
                  rw [hr.1]; exact this
                have hg : cs[o + off]? = some (.sl u .nil rows) := by
                  rw [List.getElem?_eq_getElem hlt]
                  rw [← heq2]; simp [List.getD, List.getElem?_eq_getElem hlt]
                have hold := hr.2 _ _ _ hg hv
                cases hold with
                | slnil _ _ hk => exact h2
                | sl _ _ _ A c cv hn hf hc hsp hz hok hcell hrep => exact absurd rfl hn
            have hup := h1.sr.update (w' := w) (id := id) (o' := .box bt (cs.set (o + off) (.sr σ.st.length))) hlen1 (fun _ _ _ _ => rfl) (fun _ _ _ => rfl) (Nat.le_refl _) hor'
              (fun B hB => (owns_some hst1).2 hB)
            refine ⟨E', Z, ⟨hup.1, h1.tm⟩, h3.trans ⟨rfl, rfl, rfl, Nat.le_refl _, fun _ _ _ => rfl, fun _ hz => hz, fun _ hz => .inl hz, fun b hb => .inl (hup.2 b hb)⟩, h4, rfl, by simp [St.new]⟩
          · cases hs
      · exact WkRes.refl h
    · exact WkRes.refl h

theorem weaks_ok : ∀ (xs : List Weak) {E : Env} {Z : Nat → Prop} {σ : St}, StR T E Z w σ vals → WkRes T E Z w vals σ (σ.weaks xs)
  | [], _, _, _, h => WkRes.refl h
  | x :: xs, E, Z, σ, h => WkRes.trans (weak_ok h x) (fun E' Z' h' => weaks_ok xs h')

theorem WkRes.kp {E0 : Env} {m : Nat} (hK : Kp E0 m σ.moved E) (hl : m ≤ σ.st.length) (hE : SameE σ.st.length E E') (hm : σ'.moved = σ.moved) : Kp E0 m σ'.moved E' := fun i hi hn => by
  have h1 := hE i (by omega)
  have h2 := hK i hi (hm ▸ hn)
  exact ⟨h1.1.trans h2.1, h1.2.trans h2.2⟩

end
end Go.Fw
