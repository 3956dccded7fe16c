/- The framework, part E: addresses, parts, slices. -/
import Derived.Test.YtgcdiccbehiijaaFwD
set_option linter.all false
set_option linter.unusedSimpArgs false
set_option linter.unusedVariables false
namespace Go.Fw
section
variable {P : Program} {T : Tab} {E : Env} {Z : Nat → Prop} {w : World} {σ : St}
theorem ofConst1_ok (v : Value) : VR T E Z w (ofConst1 v) v := by
  unfold ofConst1
  split
  · exact .slnil _ _ (.inl rfl)
  · rename_i f
    exact .fn f [] [] [] [] rfl rfl (fun j av v h => by simp at h) (fun j av v h => by simp at h)
  · cases h : scalar v with
    | true => exact .k _ h
    | false => exact .undef _
theorem ofConst_ok (v : Value) : VR T E Z w (ofConst v) v := by
  cases v with
  | agg vs =>
    have h := VR.agg (T := T) (E := E) (Z := Z) (w := w) (vs.toList.map ofConst1) vs.toList (by simp) fun j av v hj hv => by
      rw [List.getElem?_map, hv] at hj
      cases hj
      exact ofConst1_ok v
    simpa [ofConst] using h
  | _ => simp only [ofConst]; exact ofConst1_ok _
theorem eval_ok {a : Act} (h : VRs T E Z w σ.tmps a.tmps.toList) (x : Operand) : VR T E Z w (σ.eval x) (a.eval x) := by
  cases x with
  | tmp t =>
    simp only [St.eval, Act.eval, List.getD, Array.getD_eq_getD_getElem?]
    cases h1 : σ.tmps[t]? with
    | none => exact .undef _
    | some av =>
      have hlt : t < σ.tmps.length := (List.getElem?_eq_some_iff.1 h1).1
      have hlt' : t < a.tmps.toList.length := h.1 ▸ hlt
      have h2 : a.tmps.toList[t]? = some (a.tmps.toList[t]'hlt') := List.getElem?_eq_getElem _
      have h3 := h.2 t av _ h1 h2
      rw [Array.getElem?_toList] at h2
      rw [h2]
      exact h3
  | const v => exact ofConst_ok v
  | global g => exact .undef _
  | func f => exact .fn _ [] [] [] [] rfl rfl (fun j av v h => by simp at h) (fun j av v h => by simp at h)
theorem dOk_struct {fs : List (Nat × Nat)} {d : TypeDesc} (h : dOk (.struct fs) d = true) : ∃ fields, d = .struct fields ∧ fields.toList.map (fun f => (f.offset, f.type)) = fs := by
  cases d <;> simp [dOk] at h
  rename_i fields
  exact ⟨fields, rfl, h⟩
theorem dOk_sl {e : Nat} {d : TypeDesc} (h : dOk (.sl e) d = true) : d = .slice e := by
  cases d <;> simp [dOk] at h
  rw [h]
theorem dOk_str {d : TypeDesc} (h : dOk .str d = true) : d = .string := by cases d <;> simp_all [dOk]
theorem dOk_int {k : IntKind} {d : TypeDesc} (h : dOk (.int k) d = true) : d = .int k := by
  cases d <;> simp [dOk] at h
  rw [h]
theorem dOk_arr {n e : Nat} {d : TypeDesc} (h : dOk (.arr n e) d = true) : d = .array n e := by
  cases d <;> simp [dOk] at h
  rw [h.1, h.2]
theorem fieldOff_ok (hT : TabOk P T) {s f off : Nat} {ti : TI} (h : fieldOff T s f = some (off, ti)) :
    ∃ fields fld, P.underlying s = some (.struct fields) ∧ fields[f]? = some fld ∧ fld.offset = off ∧ T fld.type = some ti := by
  unfold fieldOff at h
  split at h
  · rename_i fs cells bytes hs
    obtain ⟨i, d, z, hto⟩ := hT s _ hs
    obtain ⟨fields, rfl, hfs⟩ := dOk_struct hto.desc
    split at h
    · rename_i o t hf
      split at h
      · rename_i ti' hti
        cases h
        rw [← hfs, List.getElem?_map, Option.map_eq_some_iff] at hf
        obtain ⟨fld, hfld, heq⟩ := hf
        cases heq
        exact ⟨fields, fld, hto.und, by rw [← Array.getElem?_toList]; exact hfld, rfl, hti⟩
      · cases h
    · cases h
  · cases h
theorem afieldAddr_ok (hT : TabOk P T) {s f : Nat} {x av : AV} {vx : Value} (hx : VR T E Z w x vx) (h : afieldAddr T s x f = some av) :
    ∃ v, (Instr.fieldAt s vx f).run P w = .ok v w ∧ VR T E Z w av v := by
  unfold afieldAddr at h
  split at h
  · rename_i off ti hfo
    obtain ⟨fields, fld, hu, hf, ho, hti⟩ := fieldOff_ok hT hfo
    obtain ⟨i, d, z, hto⟩ := hT _ _ hti
    split at h
    · cases h
    · rename_i hne
      have hsz : i.size ≠ 0 := by rw [hto.size]; intro h0; exact hne (List.length_eq_zero_iff.1 h0)
      have key : ∀ A : Addr, A.spot = none → (Instr.fieldAt s (.pointer (some A)) f).run P w = .ok (.pointer (some ⟨A.block, A.off + off, none⟩)) w := fun A hA => by
        simp [Instr.fieldAt, run_und hu, hf, Instr.sureAddr, fieldPlace, run_szOf hto.info, hsz, ho, add_none hA]
      cases hx with
      | ptr id o B he => simp at h; subst h; exact ⟨_, key _ rfl, .ptr _ _ _ he⟩
      | ap id i' o A n c he hi =>
        simp at h; subst h
        refine ⟨_, key _ rfl, ?_⟩
        have := VR.ap (T := T) (E := E) (Z := Z) (w := w) id i' (o + off) A n c he hi
        simpa [Nat.add_assoc] using this
      | ep t row o A cv hz hok hcell hrep =>
        simp at h; subst h
        refine ⟨_, key _ rfl, ?_⟩
        have := VR.ep (T := T) (E := E) (Z := Z) (w := w) t row (o + off) A cv hz hok hcell hrep
        simpa [Nat.add_assoc] using this
      | _ => simp at h
  · cases h
theorem part_ok (hT : TabOk P T) {t : Nat} {ti : TI} (hti : T t = some ti) {cs : List AV} {vs : List Value} (hl : cs.length = vs.length)
    (hr : ∀ (j : Nat) (av : AV) (v : Value), cs[j]? = some av → vs[j]? = some v → VR T E Z w av v) {off : Nat} :
    (ti.isAgg = true → ∃ v, (part t vs.toArray off).run P w = .ok v w ∧ VR T E Z w (.agg ((cs.drop off).take ti.cells.length)) v) ∧
    (ti.isAgg = false → ∀ av, cs[off]? = some av → ∃ v, (part t vs.toArray off).run P w = .ok v w ∧ VR T E Z w av v) := by
  obtain ⟨i, d, z, hto⟩ := hT _ _ hti
  refine ⟨fun ha => ⟨.agg ((vs.drop off).take ti.cells.length).toArray, ?_, ?_⟩, fun ha av hav => ?_⟩
  · simp [part, hto.isAgg, ha, run_szOf hto.info, hto.size]
  · refine .agg _ _ (by simp; omega) (fun j x v hj hv => ?_)
    rw [List.getElem?_take] at hj hv
    by_cases hlt : j < ti.cells.length
    · simp only [hlt, if_true, List.getElem?_drop] at hj hv
      exact hr _ _ _ hj hv
    · simp [hlt] at hj
  · have hlt := (List.getElem?_eq_some_iff.1 hav).1
    have hv : vs[off]? = some (vs[off]'(by omega)) := List.getElem?_eq_getElem _
    refine ⟨_, ?_, hr _ _ _ hav hv⟩
    simp [part, hto.isAgg, ha, hv]
theorem afield_ok (hT : TabOk P T) {s f : Nat} {x av : AV} {vx : Value} (hx : VR T E Z w x vx) (h : afield T s x f = some av) :
    ∃ v, (Instr.field s vx f).run P w = .ok v w ∧ VR T E Z w av v := by
  unfold afield at h
  split at h
  · rename_i off ti cs hfo
    obtain ⟨fields, fld, hu, hf, ho, hti⟩ := fieldOff_ok hT hfo
    cases hx with
    | agg _ vs hl hr =>
      have hp := part_ok (P := P) (w := w) hT hti hl hr (off := off)
      have key : (Instr.field s (.agg vs.toArray) f).run P w = (part fld.type vs.toArray off).run P w := by
        simp [Instr.field, run_und hu, hf, asAgg, ho]
      rw [key]
      cases ha : ti.isAgg with
      | true => rw [ha] at h; cases h; exact hp.1 ha
      | false => rw [ha] at h; exact hp.2 ha _ h
  · cases h
theorem asIntOf_int (k : IntKind) (n : Int) : (asIntOf (.int k n)).run P w = .ok (k, n) w := rfl
theorem VR_int {k : IntKind} {n : Int} {v : Value} (h : VR T E Z w (.k (.int k n)) v) : v = .int k n := by cases h; rfl
theorem VR_str {s : ByteArray} {v : Value} (h : VR T E Z w (.k (.string s)) v) : v = .string s := by cases h; rfl
theorem VR_bool {b : Bool} {v : Value} (h : VR T E Z w (.k (.bool b)) v) : v = .bool b := by cases h; rfl
theorem indexAt_run {t e : Nat} {i : TypeInfo} (hu : P.underlying t = some (.slice e)) (hi : P.info? e = some i) (A : Addr) (hA : A.spot = none) (len c : Nat) (k : IntKind) (n : Int)
    (h0 : 0 ≤ n) (h1 : n < (len : Int)) :
    (Instr.indexAt t (.slice (some A) len c) (.int k n)).run P w = .ok (.pointer (some ⟨A.block, A.off + n.toNat * i.size, none⟩)) w := by
  simp [Instr.indexAt, asIntOf, run_und hu, h0, h1, run_szOf hi, add_none hA]
theorem aindexAddr_ok (hT : TabOk P T) (hs : SR T E Z w σ.st) {t : Nat} {x i av : AV} {vx vi : Value} (hx : VR T E Z w x vx) (hi : VR T E Z w i vi)
    (h : aindexAddr T σ t x i = some (true, av)) : ∃ v, (Instr.indexAt t vx vi).run P w = .ok v w ∧ VR T E Z w av v := by
  unfold aindexAddr at h
  split at h
  · rename_i e cells bytes k n hti
    cases VR_int hi
    obtain ⟨ii, d, z, hto⟩ := hT _ _ hti
    have hd := dOk_sl hto.desc
    subst hd
    split at h
    · cases h
    rename_i te hte
    obtain ⟨ie, de, ze, htoe⟩ := hT _ _ hte
    have hsize : ie.size = (cts T e).length := by rw [htoe.size]; simp [cts, hte]
    cases hx with
    | slnil u kd hk =>
      simp only at h
      cases hue : Nat.beq u e with
      | false => rw [hue] at h; cases h
      | true => rw [hue] at h; simp at h; omega
    | sl u kd rows A c cv hn hf hc hsp hz hok hcell hrep =>
      simp only at h
      cases hue : Nat.beq u e with
      | false => rw [hue] at h; cases h
      | true =>
        rw [hue] at h
        obtain rfl := Nat.eq_of_beq_eq_true hue
        simp only [cond_true, Option.some.injEq, Prod.mk.injEq, Bool.and_eq_true, decide_eq_true_eq] at h
        obtain ⟨⟨h0, h1⟩, rfl⟩ := h
        have hlt : n.toNat < rows.length := by omega
        have hrow : rows[n.toNat]? = some rows[n.toNat] := List.getElem?_eq_getElem hlt
        have hg : rows.getD n.toNat [] = rows[n.toNat] := by simp [List.getD, hrow]
        rw [hg]
        have hokr := hok _ (List.getElem_mem hlt)
        · refine ⟨_, indexAt_run hto.und htoe.info A (hsp (by omega)) _ _ k n h0 h1, ?_⟩
          rw [hsize]
          have := VR.ep (T := T) (E := E) (Z := Z) (w := w) u rows[n.toNat] 0 ⟨A.block, A.off + n.toNat * (cts T u).length, none⟩ (cv n.toNat) (hz (by rintro rfl; simp at hlt)) hokr
            (fun j av hj => by simpa [Nat.add_assoc] using hcell n.toNat _ j av hrow hj) (fun j av hj => hrep n.toNat _ j av hrow hj)
          simpa using this
    | sr id A0 n0 c0 he =>
      simp only at h
      split at h
      · rename_i u kd rows hst
        have hor := hs.obj id _ (getD_some hst (by simp))
        cases hue : Nat.beq u e with
        | false => rw [hue] at h; cases h
        | true =>
          rw [hue] at h
          obtain rfl := Nat.eq_of_beq_eq_true hue
          simp only [cond_true, Option.some.injEq, Prod.mk.injEq, Bool.and_eq_true, decide_eq_true_eq] at h
          obtain ⟨⟨h0, h1⟩, rfl⟩ := h
          cases hor with
          | arr0 _ _ A he' hn hk hsz => simp at h1; omega
          | arr _ _ _ B o c vs ty hn he' hc hc0 hf hsz hb ho hok hr =>
            rw [he] at he'; cases he'
            · refine ⟨_, indexAt_run hto.und htoe.info ⟨B, o, none⟩ rfl _ _ k n h0 h1, ?_⟩
              rw [hsize, ← hsz]
              exact .ap id n.toNat 0 ⟨B, o, none⟩ rows.length _ he (by omega)
      · rename_i u rows hst
        have hor := hs.obj id _ (getD_some hst (by simp))
        cases hue : Nat.beq u e with
        | false => rw [hue] at h; cases h
        | true =>
          rw [hue] at h
          obtain rfl := Nat.eq_of_beq_eq_true hue
          simp only [cond_true, Option.some.injEq, Prod.mk.injEq, Bool.and_eq_true, decide_eq_true_eq] at h
          obtain ⟨⟨h0, h1⟩, rfl⟩ := h
          cases hor with
          | arx _ _ B o c vs ty he' hc hc0 hsz hb ho hlen hr =>
            rw [he] at he'; cases he'
            · refine ⟨_, indexAt_run hto.und htoe.info ⟨B, o, none⟩ rfl _ _ k n h0 h1, ?_⟩
              rw [hsize, ← hsz]
              exact .ap id n.toNat 0 ⟨B, o, none⟩ rows.length _ he (by omega)
      · cases h
    | ss id a n' A A' len c he hb hA =>
      simp only at h
      split at h
      · rename_i u kd rows hst
        have hor := hs.obj id _ (getD_some hst (by simp))
        cases hue : Nat.beq u e with
        | false => rw [hue] at h; cases h
        | true =>
          rw [hue] at h
          obtain rfl := Nat.eq_of_beq_eq_true hue
          simp only [cond_true, Option.some.injEq, Prod.mk.injEq, Bool.and_eq_true, decide_eq_true_eq] at h
          obtain ⟨⟨h0, h1⟩, rfl⟩ := h
          cases hor with
          | arr0 _ _ A he' hn hk hsz => rw [he] at he'; simp at he'; omega
          | arr _ _ _ B o c' vs ty hn he' hc hc0 hf hsz hbb ho hok hr =>
            rw [he] at he'
            simp only [Option.some.injEq, Value.slice.injEq] at he'
            obtain ⟨rfl, rfl, rfl⟩ := he'
            have := hA (by omega)
            subst this
            · refine ⟨_, indexAt_run hto.und htoe.info ⟨B, o + a * E.sz id, none⟩ rfl _ _ k n h0 h1, ?_⟩
              rw [hsize, ← hsz]
              have := VR.ap (T := T) (E := E) (Z := Z) (w := w) id (a + n.toNat) 0 ⟨B, o, none⟩ rows.length c he (by omega)
              simp only [Nat.add_mul, Nat.add_zero] at this
              simpa [Nat.add_assoc] using this
      · cases h
    | _ => simp at h
  · rename_i len e cells bytes k n hti
    cases VR_int hi
    obtain ⟨ii, d, z, hto⟩ := hT _ _ hti
    have hd := dOk_arr hto.desc
    subst hd
    split at h
    · cases h
    rename_i te hte
    obtain ⟨ie, de, ze, htoe⟩ := hT _ _ hte
    have key : ∀ A : Addr, A.spot = none → 0 ≤ n → n < (len : Int) → (Instr.indexAt t (.pointer (some A)) (.int k n)).run P w = .ok (.pointer (some ⟨A.block, A.off + n.toNat * te.cells.length, none⟩)) w := fun A hA h0 h1 => by
      simp [Instr.indexAt, asIntOf, run_und hto.und, Instr.sureAddr, h0, h1, run_szOf htoe.info, htoe.size, add_none hA]
    cases hx with
    | ptr id o B he =>
      simp only [Option.some.injEq, Prod.mk.injEq, Bool.and_eq_true, decide_eq_true_eq] at h
      obtain ⟨⟨h0, h1⟩, rfl⟩ := h
      exact ⟨_, key ⟨B, o, none⟩ rfl h0 h1, .ptr id _ B he⟩
    | ap id i' o A n' c' he hi' =>
      simp only [Option.some.injEq, Prod.mk.injEq, Bool.and_eq_true, decide_eq_true_eq] at h
      obtain ⟨⟨h0, h1⟩, rfl⟩ := h
      refine ⟨_, key _ rfl h0 h1, ?_⟩
      have := VR.ap (T := T) (E := E) (Z := Z) (w := w) id i' (o + n.toNat * te.cells.length) A n' c' he hi'
      simpa [Nat.add_assoc] using this
    | ep u row o A cv hz hok hcell hrep =>
      simp only [Option.some.injEq, Prod.mk.injEq, Bool.and_eq_true, decide_eq_true_eq] at h
      obtain ⟨⟨h0, h1⟩, rfl⟩ := h
      refine ⟨_, key _ rfl h0 h1, ?_⟩
      have := VR.ep (T := T) (E := E) (Z := Z) (w := w) u row (o + n.toNat * te.cells.length) A cv hz hok hcell hrep
      simpa [Nat.add_assoc] using this
    | _ => simp at h
  · cases h
end
end Go.Fw
