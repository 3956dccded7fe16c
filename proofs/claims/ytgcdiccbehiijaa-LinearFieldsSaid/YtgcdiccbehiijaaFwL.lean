/- The framework, part L: what makes memory. -/
import Derived.Test.YtgcdiccbehiijaaFwK
import Derived.Laws.Tables
import Derived.Great.BuildSlice
import Derived.Laws.MakeOwn
set_option linter.all false
set_option linter.unusedSimpArgs false
set_option linter.unusedVariables false
namespace Go.Fw
section
variable {P : Program} {T : Tab} {E : Env} {Z : Nat → Prop} {w w' : World} {σ σ' : St} {vals : List Value}

/-- the result of 'newVar' -/
theorem newBox_ok (h : StR T E Z w σ vals) (t : Nat) {cs : List AV} {v : Value} (hr : VRs T E Z w cs v.cells.toList) :
    OpRes P T E Z w vals σ (do let a ← newVar t v; Pure.pure (.pointer (some a)) : Sem Value) (σ.new (.box t cs)) (.ptr σ.st.length 0) := by
  obtain ⟨E', h1, h2, h3, h4⟩ := h.newBox t hr t
  rw [Array.toArray_toList] at h1 h2 h3
  exact ⟨E', Z, w.alloc (.cells v.cells t), _, rfl, h1, h2, h3, Mv.of rfl h4⟩

theorem aalloc_ok (hT : TabOk P T) (h : StR T E Z w σ vals) {t : Nat} {ti : TI} (hti : T t = some ti) :
    OpRes P T E Z w vals σ (Instr.alloc t true (.tuple #[])) (σ.new (.box t (ti.cells.map CT.zero))) (.ptr σ.st.length 0) := by
  obtain ⟨i, d, z, hto⟩ := hT _ _ hti
  have := newBox_ok (P := P) h t (cs := ti.cells.map CT.zero) (v := z) (by rw [hto.cells]; exact zeros_ok _)
  obtain ⟨E', Z', w', v, hrun, rest⟩ := this
  refine ⟨E', Z', w', v, ?_, rest⟩
  simp only [Instr.alloc, Sem.run_bind, run_zero hto.info hto.zero, Result.andThen_ok]
  simpa using hrun

theorem abox_ok (h : StR T E Z w σ vals) {t : Nat} {x : AV} {vx : Value} (hx : VR T E Z w x vx) (hc : x.cells.all isCell = true) :
    OpRes P T E Z w vals σ (Instr.box t vx) (σ.new (.box t x.cells)) (.ptr σ.st.length 0) := by
  have hne : x ≠ .undef := by rintro rfl; simp [AV.cells, isCell] at hc
  have := newBox_ok (P := P) h t (cells_ok hx hne)
  simpa [Instr.box] using this

/-! ### Literals -/
/-- one part laid over cells -/
theorem foldl_put : ∀ (vs : List Value) (cs : List Value) (off k : Nat), off + k + vs.length ≤ cs.length →
    ((vs.zipIdx k).foldl (fun (cs : Array Value) (p : Value × Nat) => cs.setIfInBounds (off + p.2) p.1) cs.toArray) = (cs.take (off + k) ++ vs ++ cs.drop (off + k + vs.length)).toArray
  | [], cs, off, k, _ => by simp
  | v :: vs, cs, off, k, h => by
    simp only [List.zipIdx_cons, List.foldl_cons]
    have e : cs.toArray.setIfInBounds (off + k) v = (cs.set (off + k) v).toArray := by simp
    rw [e, foldl_put vs (cs.set (off + k) v) off (k + 1) (by simp at h ⊢; omega)]
    congr 1
    have hlt : off + k < cs.length := by simp at h; omega
    rw [show off + (k + 1) = (off + k) + 1 by omega, List.take_succ_eq_append_getElem (by simpa using hlt)]
    rw [List.take_set_of_le (Nat.le_refl _), List.getElem_set_self]
    rw [List.drop_set_of_lt (by omega)]
    simp only [List.append_assoc, List.singleton_append, List.length_cons, List.cons_append, List.nil_append]
    rw [show off + k + 1 + vs.length = off + k + (vs.length + 1) by omega]

theorem fillAV_ok {place : Nat → Option (Nat × Nat)} : ∀ {parts : List (Nat × AV)} {vparts : List (Nat × Value)} {cs cs' : List AV} {vs : List Value},
    parts.length = vparts.length → (∀ (j : Nat) (p : Nat × AV) (q : Nat × Value), parts[j]? = some p → vparts[j]? = some q → p.1 = q.1 ∧ VR T E Z w p.2 q.2) →
    VRs T E Z w cs vs → fillAV place cs parts = some cs' → ∃ vs', Instr.fill place vs.toArray vparts = some vs'.toArray ∧ VRs T E Z w cs' vs'
  | [], [], cs, cs', vs, _, _, hr, hf => by simp [fillAV] at hf; subst hf; exact ⟨vs, by simp [Instr.fill], hr⟩
  | [], _ :: _, _, _, _, hl, _, _, _ => by simp at hl
  | _ :: _, [], _, _, _, hl, _, _, _ => by simp at hl
  | (i, x) :: parts, (i', v) :: vparts, cs, cs', vs, hl, hp, hr, hf => by
    obtain ⟨h1, h3⟩ := hp 0 _ _ rfl rfl
    simp only at h1 h3; subst h1
    simp only [fillAV] at hf
    split at hf
    · cases hf
    · rename_i off size hpl
      cases hc : (Nat.beq x.cells.length size && (Nat.ble (off + size) cs.length && x.cells.all isCell)) with
      | false => rw [hc] at hf; cases hf
      | true =>
        rw [hc] at hf
        simp only [cond_true] at hf
        simp only [Bool.and_eq_true] at hc
        have e1 := Nat.eq_of_beq_eq_true hc.1
        have e2 := Nat.le_of_ble_eq_true hc.2.1
        have h2 : x ≠ .undef := by rintro rfl; simp [AV.cells, isCell] at hc
        have hcr := cells_ok h3 h2
        have hvl : v.cells.toList.length = size := by rw [← hcr.1, e1]
        have hfold := foldl_put v.cells.toList vs off 0 (by rw [hvl, ← hr.1]; exact e2)
        obtain ⟨vs', hv', hrr⟩ := fillAV_ok (vs := vs.take off ++ v.cells.toList ++ vs.drop (off + v.cells.toList.length)) (by simpa using hl)
          (fun j p q hj hq => hp (j + 1) p q (by simpa using hj) (by simpa using hq))
          (by unfold putAt; rw [← hcr.1]; exact ((hr.take off).append hcr).append (hr.drop _)) hf
        refine ⟨vs', ?_, hrr⟩
        rw [← hv']
        conv => lhs; unfold Instr.fill
        simp only [hpl]
        have n1 : ¬ (v.cells.size ≠ size ∨ off + v.cells.size > vs.toArray.size) := by
          have e3 : v.cells.size = size := by rw [← hvl]; simp
          have e4 := hr.1
          simp only [List.size_toArray]
          omega
        have n1' : (v.cells.size ≠ size || off + v.cells.size > vs.toArray.size : Bool) = false := by
          have e3 : v.cells.size = size := by rw [← hvl]; simp
          have e4 := hr.1
          simp only [List.size_toArray]
          simp; omega
        simp only [n1', Bool.false_eq_true, if_false]
        congr 1
        have hz : v.cells.zipIdx.foldl (fun (cs : Array Value) (x : Value × Nat) => cs.setIfInBounds (off + x.2) x.1) vs.toArray = (vs.take (off + 0) ++ v.cells.toList ++ vs.drop (off + 0 + v.cells.toList.length)).toArray := by
          rw [← hfold, ← Array.foldl_toList, Array.toList_zipIdx]
        simpa using hz

theorem parts_ok {a : Act} (h : VRs T E Z w σ.tmps a.tmps.toList) (parts : Array (Nat × Operand)) (j : Nat) (p : Nat × AV) (q : Nat × Value)
    (hp : (parts.toList.map fun p => (p.1, σ.eval p.2))[j]? = some p) (hq : (parts.map fun (i, x) => (i, a.eval x)).toList[j]? = some q) : p.1 = q.1 ∧ VR T E Z w p.2 q.2 := by
  rw [Array.toList_map, List.getElem?_map, Option.map_eq_some_iff] at hq
  rw [List.getElem?_map, Option.map_eq_some_iff] at hp
  obtain ⟨x, hx, rfl⟩ := hp
  obtain ⟨y, hy, rfl⟩ := hq
  rw [hx] at hy; cases hy
  exact ⟨rfl, eval_ok h _⟩

theorem abuild_ok (hT : TabOk P T) {t : Nat} {parts : Array (Nat × Operand)} {a : Act} {av : AV} (h : VRs T E Z w σ.tmps a.tmps.toList)
    (hs : abuild T t (parts.toList.map fun p => (p.1, σ.eval p.2)) = some av) : ∃ v, (Instr.build t (parts.map fun (i, x) => (i, a.eval x))).run P w = .ok v w ∧ VR T E Z w av v := by
  unfold abuild at hs
  split at hs
  · rename_i fs cells bytes hti
    obtain ⟨i, d, z, hto⟩ := hT _ _ hti
    obtain ⟨fields, rfl, hfs⟩ := dOk_struct hto.desc
    cases hall : (fs.all fun f => (T f.2).isSome) with
    | false => rw [hall] at hs; cases hs
    | true =>
      rw [hall] at hs
      simp only [Bool.not_true, cond_false] at hs
      split at hs
      · rename_i cs hf
        cases hs
        -- the places
        let pl : List (Nat × Nat) := fields.toList.map fun f => (f.offset, ((T f.type).map fun ti => ti.cells.length).getD 0)
        have hpl : fields.toList.mapM (fun f => (P.info? f.type).map fun i => (f.offset, i.size)) = some pl := by
          have hall' : ∀ f ∈ fields.toList, (T f.type).isSome = true := fun f hf => by
            have := List.all_eq_true.1 hall (f.offset, f.type) (by rw [← hfs]; exact List.mem_map_of_mem hf)
            simpa using this
          clear hf hfs hall hto
          simp only [pl]
          generalize fields.toList = fl at hall' ⊢
          induction fl with
          | nil => simp
          | cons f fl ih =>
            obtain ⟨tf, htf⟩ := Option.isSome_iff_exists.1 (hall' f List.mem_cons_self)
            obtain ⟨i', d', z', hto'⟩ := hT _ _ htf
            simp only [List.mapM_cons, hto'.info, Option.map_some, Option.bind_eq_bind, Option.bind_some, ih (fun g hg => hall' g (List.mem_cons_of_mem _ hg)), Option.pure_def, List.map_cons, htf, Option.getD_some, hto'.size]
        have hplace : placeOf T fs = fun i => pl[i]? := by
          funext i
          simp only [placeOf, pl, ← hfs, List.getElem?_map]
          cases hfi : fields.toList[i]? with
          | none => rfl
          | some f =>
            have hm : f ∈ fields.toList := List.mem_of_getElem? hfi
            have := List.all_eq_true.1 hall (f.offset, f.type) (by rw [← hfs]; exact List.mem_map_of_mem hm)
            obtain ⟨tf, htf⟩ := Option.isSome_iff_exists.1 (show (T f.type).isSome = true by simpa using this)
            simp [htf]
        rw [hplace] at hf
        obtain ⟨vs', hv', hrr⟩ := fillAV_ok (vs := z.cells.toList) (by simp) (fun j p q => parts_ok h parts j p q) (by rw [hto.cells]; exact zeros_ok _) hf
        refine ⟨.agg vs'.toArray, run_build w t _ _ ?_, .agg _ _ hrr.1 hrr.2⟩
        unfold Program.built
        simp only [hto.info, hto.und, hto.zero, hpl]
        have e1 : (fun i : Nat => pl.toArray[i]?) = fun i : Nat => pl[i]? := by funext i; simp
        rw [e1]
        simpa using hv'
      · cases hs
  · rename_i n e cells bytes hti
    obtain ⟨i, d, z, hto⟩ := hT _ _ hti
    have hd := dOk_arr hto.desc
    subst hd
    split at hs
    · rename_i te hte
      obtain ⟨ie, de, ze, htoe⟩ := hT _ _ hte
      simp only [Option.map_eq_some_iff] at hs
      obtain ⟨cs, hf, rfl⟩ := hs
      obtain ⟨vs', hv', hrr⟩ := fillAV_ok (vs := z.cells.toList) (by simp) (fun j p q => parts_ok h parts j p q) (by rw [hto.cells]; exact zeros_ok _) hf
      refine ⟨.agg vs'.toArray, run_build w t _ _ ?_, .agg _ _ hrr.1 hrr.2⟩
      unfold Program.built
      simp only [hto.info, hto.und, hto.zero, htoe.info, htoe.size]
      simpa using hv'
    · cases hs
  · cases hs

theorem putAt_all {row vs : List AV} (h : vs.length = row.length) : putAt row 0 vs = vs := by
  simp [putAt, h]

theorem fillRows_ok {e : Nat} {zero : List AV} : ∀ {parts : List (Nat × AV)} {vparts : List (Nat × Value)} {rows rows' : List (List AV)} {vs : List Value},
    parts.length = vparts.length → (∀ (j : Nat) (p : Nat × AV) (q : Nat × Value), parts[j]? = some p → vparts[j]? = some q → p.1 = q.1 ∧ VR T E Z w p.2 q.2) →
    RowsR T E Z w e rows vs → fillRows zero (cts T e) rows parts = some rows' →
    ∃ vs', Instr.fill (fun i => some (i * (cts T e).length, (cts T e).length)) vs.toArray vparts = some vs'.toArray ∧ RowsR T E Z w e rows' vs' ∧ rows'.length = rows.length
  | [], [], rows, rows', vs, _, _, hr, hf => by simp [fillRows] at hf; subst hf; exact ⟨vs, by simp [Instr.fill], hr, rfl⟩
  | [], _ :: _, _, _, _, hl, _, _, _ => by simp at hl
  | _ :: _, [], _, _, _, hl, _, _, _ => by simp at hl
  | (i, x) :: parts, (i', v) :: vparts, rows, rows', vs, hl, hp, hr, hf => by
    obtain ⟨h1, h3⟩ := hp 0 _ _ rfl rfl
    simp only at h1 h3; subst h1
    simp only [fillRows] at hf
    cases hc : (rowOk (cts T e) x.cells && Nat.blt i rows.length) with
    | false => rw [hc] at hf; cases hf
    | true =>
      rw [hc] at hf
      simp only [cond_true] at hf
      simp only [Bool.and_eq_true] at hc
      have hrow := hc.1
      have hi : i < rows.length := by have := hc.2; simp [Nat.blt] at this; exact this
      have h2 : x ≠ .undef := by
        rintro rfl
        have := rowOk_cells hrow
        simp [AV.cells, isCell] at this
      have hcr := cells_ok h3 h2
      have hxl : x.cells.length = (cts T e).length := (rowOk_get hrow).1
      have hvl : v.cells.toList.length = (cts T e).length := by rw [← hcr.1, hxl]
      have hlen := hr.length
      have hle : (i + 1) * (cts T e).length ≤ rows.length * (cts T e).length := Nat.mul_le_mul_right _ hi
      rw [Nat.succ_mul] at hle
      have hfold := foldl_put v.cells.toList vs (i * (cts T e).length) 0 (by rw [hvl, hlen]; omega)
      have hri : rows.getD i [] = rows[i] := by simp [List.getD, List.getElem?_eq_getElem hi]
      have hrl : rows[i].length = (cts T e).length := RowsR.len hr.1 _ (List.getElem_mem hi)
      have hflat := flatten_put (off := 0) (vs := x.cells) (RowsR.len hr.1) hi (by rw [hxl]; omega)
      rw [hri, putAt_all (by rw [hxl, hrl])] at hflat
      have hr' : RowsR T E Z w e (rows.set i x.cells) (vs.take (i * (cts T e).length) ++ v.cells.toList ++ vs.drop (i * (cts T e).length + v.cells.toList.length)) := by
        refine ⟨fun row hrow' => (List.mem_or_eq_of_mem_set hrow').elim (hr.1 row) (fun e => e ▸ hrow), ?_⟩
        rw [hflat, Nat.add_zero, hcr.1]
        exact ((hr.2.take _).append hcr).append (hr.2.drop _)
      obtain ⟨vs', hv', hrr, hll⟩ := fillRows_ok (zero := zero) (by simpa using hl)
        (fun j p q hj hq => hp (j + 1) p q (by simpa using hj) (by simpa using hq)) hr' hf
      refine ⟨vs', ?_, hrr, by rw [hll]; simp⟩
      rw [← hv']
      conv => lhs; unfold Instr.fill
      simp only
      have n1' : (v.cells.size ≠ (cts T e).length || i * (cts T e).length + v.cells.size > vs.toArray.size : Bool) = false := by
        have e3 : v.cells.size = (cts T e).length := by rw [← hvl]; simp
        simp only [List.size_toArray]
        simp; omega
      simp only [n1', Bool.false_eq_true, if_false]
      congr 1
      have hz : v.cells.zipIdx.foldl (fun (cs : Array Value) (y : Value × Nat) => cs.setIfInBounds (i * (cts T e).length + y.2) y.1) vs.toArray = (vs.take (i * (cts T e).length + 0) ++ v.cells.toList ++ vs.drop (i * (cts T e).length + 0 + v.cells.toList.length)).toArray := by
        rw [← hfold, ← Array.foldl_toList, Array.toList_zipIdx]
      simpa using hz

theorem zeros_row (cs : List CT) : rowOk cs (cs.map CT.zero) = true := by
  induction cs with
  | nil => rfl
  | cons c cs ih =>
    simp only [List.map_cons, rowOk, Bool.and_eq_true]
    refine ⟨?_, ih⟩
    cases c <;> simp [CT.zero, CT.ok, SK.tag]

/-- rows of zeros -/
theorem zeroRows_ok {e : Nat} {te : TI} {ie d ze} (hte : T e = some te) (hto : TOk P e te ie d ze) (n : Nat) (hsz : 0 < te.cells.length) :
    RowsR T E Z w e (List.replicate n (te.cells.map CT.zero)) (madeCells ze.cells (n * te.cells.length)).toList := by
  have hc := elem_cts hte
  have hzl : ze.cells.size = te.cells.length := by rw [← Array.length_toList, hto.cells]; simp
  refine RowsR.of (fun row hrow => ?_) (by simp [madeCells, hc]) (by rw [hc]; exact hsz) (fun i row j av v hi hj hv => ?_)
  · obtain ⟨_, rfl⟩ := List.mem_replicate.1 hrow
    rw [hc]; exact zeros_row _
  · rw [List.getElem?_replicate] at hi
    split at hi
    · cases hi
      rename_i hin
      have hjl : j < te.cells.length := by have := (List.getElem?_eq_some_iff.1 hj).1; simpa using this
      rw [hc] at hv
      have hlt : i * te.cells.length + j < n * te.cells.length := by
        have : (i + 1) * te.cells.length ≤ n * te.cells.length := Nat.mul_le_mul_right _ hin
        rw [Nat.succ_mul] at this; omega
      simp only [madeCells, Array.toList_map, Array.toList_range, List.getElem?_map, List.getElem?_range hlt, Option.map_some, Option.some.injEq] at hv
      have hmod : (i * te.cells.length + j) % ze.cells.size = j := by rw [hzl, Nat.mul_comm, Nat.mul_add_mod, Nat.mod_eq_of_lt hjl]
      rw [hmod] at hv
      have hz : ze.cells[j]! = ze.cells.toList[j]'(by rw [hto.cells]; simpa using hjl) := by
        rw [getElem!_pos ze.cells j (by rw [hzl]; exact hjl)]
        simp
      rw [hz] at hv
      subst hv
      have hzz := zeros_ok (T := T) (E := E) (Z := Z) (w := w) te.cells
      rw [← hto.cells] at hzz
      exact hzz.2 j av _ hj (List.getElem?_eq_getElem _)
    · cases hi

end
end Go.Fw
