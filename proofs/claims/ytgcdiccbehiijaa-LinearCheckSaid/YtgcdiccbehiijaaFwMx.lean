/- The framework, part Mx: arrays whose cells may be references: literals, append. -/
import Derived.Test.YtgcdiccbehiijaaFwM
set_option linter.all false
set_option linter.unusedSimpArgs false
set_option linter.unusedVariables false
namespace Go.Fw
section
variable {P : Program} {T : Tab} {E : Env} {Z : Nat → Prop} {w w' : World} {σ σ' : St} {vals : List Value}
def RowsX (T : Tab) (E : Env) (Z : Nat → Prop) (w : World) (n : Nat) (rows : List (List AV)) (vs : List Value) : Prop :=
  (∀ row ∈ rows, row.length = n) ∧ VRs T E Z w rows.flatten vs
theorem RowsX.length {n : Nat} {rows : List (List AV)} {vs : List Value} (h : RowsX T E Z w n rows vs) : vs.length = rows.length * n := by
  rw [← h.2.1, flatten_length h.1]
theorem RowsX.get {n : Nat} {rows : List (List AV)} {vs : List Value} (h : RowsX T E Z w n rows vs) {i j : Nat} {row : List AV} {av : AV} (hi : rows[i]? = some row) (hj : row[j]? = some av) :
    ∃ v, vs[i * n + j]? = some v ∧ VR T E Z w av v := by
  have h1 := flatten_get h.1 hi hj
  have hlt := (List.getElem?_eq_some_iff.1 h1).1
  have hv := List.getElem?_eq_getElem (l := vs) (i := i * n + j) (by rw [← h.2.1]; exact hlt)
  exact ⟨_, hv, h.2.2 _ _ _ h1 hv⟩
theorem RowsX.of {n : Nat} {rows : List (List AV)} {vs : List Value} (hok : ∀ row ∈ rows, row.length = n) (hl : vs.length = rows.length * n) (hsz : 0 < n)
    (hr : ∀ (i : Nat) (row : List AV) (j : Nat) (av : AV) (v : Value), rows[i]? = some row → row[j]? = some av → vs[i * n + j]? = some v → VR T E Z w av v) : RowsX T E Z w n rows vs := by
  refine ⟨hok, by rw [flatten_length hok, hl], fun m av v hm hv => ?_⟩
  obtain ⟨row, hi, hj⟩ := flatten_get_inv hsz hok hm
  exact hr _ row _ av v hi hj (by rw [Nat.div_add_mod']; exact hv)
theorem RowsX.append {n : Nat} {rows rows' : List (List AV)} {vs vs' : List Value} (h : RowsX T E Z w n rows vs) (h' : RowsX T E Z w n rows' vs') : RowsX T E Z w n (rows ++ rows') (vs ++ vs') := by
  refine ⟨fun row hr => (List.mem_append.1 hr).elim (h.1 row) (h'.1 row), by simp only [List.flatten_append, List.length_append, h.2.1, h'.2.1], fun m av v hm hv => ?_⟩
  rw [List.flatten_append] at hm
  rcases Nat.lt_or_ge m rows.flatten.length with hlt | hge
  · rw [List.getElem?_append_left hlt] at hm
    rw [List.getElem?_append_left (by rw [← h.2.1]; exact hlt)] at hv
    exact h.2.2 _ _ _ hm hv
  · rw [List.getElem?_append_right hge] at hm
    rw [List.getElem?_append_right (by rw [← h.2.1]; exact hge), ← h.2.1] at hv
    exact h'.2.2 _ _ _ hm hv
theorem RowsX.mono {E' : Env} {Z' : Nat → Prop} {w' : World} {n : Nat} {rows : List (List AV)} {vs : List Value} (h : RowsX T E Z w n rows vs)
    (hE : ∀ i v, E.ρ i = some v → E'.ρ i = some v ∧ E'.sz i = E.sz i) (hZ : ∀ b, Z b → Z' b) (hw : ∀ b o, Z b → w'.cell? ⟨b, o, none⟩ = w.cell? ⟨b, o, none⟩) : RowsX T E' Z' w' n rows vs :=
  ⟨h.1, h.2.mono hE hZ hw⟩
theorem RowsX.one {n : Nat} {rows : List (List AV)} {vs : List Value} (h : RowsX T E Z w n rows vs) (hc : ∀ row ∈ rows, row.all isCell = true) : ∀ v ∈ vs, v.oneCell' = true := fun v hv => by
  obtain ⟨m, hm, rfl⟩ := List.getElem_of_mem hv
  have hm' : m < rows.flatten.length := by rw [h.2.1]; exact hm
  have h1 := List.getElem?_eq_getElem hm'
  have hr := h.2.2 m _ _ h1 (List.getElem?_eq_getElem hm)
  obtain ⟨row, hrow, hin⟩ := List.mem_flatten.1 (List.getElem_mem hm')
  have h2 := List.all_eq_true.1 (hc row hrow) _ hin
  revert hr h2
  generalize rows.flatten[m] = x
  generalize vs[m] = u
  intro h1 h2
  cases h1 with
  | undef v => simp [isCell] at h2
  | k _ hs => cases u <;> simp [scalar] at hs <;> rfl
  | ku => simp [isCell, scalar, Go.undef] at h2
  | agg cs vs hl hr => simp [isCell] at h2
  | tup cs vs hl hr => simp [isCell] at h2
  | _ => rfl
theorem StR.newArx (h : StR T E Z w σ vals) {e : Nat} {rows : List (List AV)} {vs rest : List Value} (hr : RowsX T E Z w (cts T e).length rows vs) {c : Nat} (hc : rows.length ≤ c) (h0 : c ≠ 0)
    (hl : (vs ++ rest).length = c * (cts T e).length) (ty : TypeId) (hg : Grew w w' (.cells (vs ++ rest).toArray ty)) :
    ∃ E', StR T E' Z w' (σ.new (.arx e rows)) vals ∧ VR T E' Z w' (.sr σ.st.length) (.slice (some ⟨w.heap.size, 0, none⟩) rows.length c) ∧
      Ext (Owned E σ.st) Z w (Owned E' (σ.st ++ [.arx e rows])) Z w' ∧ SameE σ.st.length E E' := by
  have hm := hr.mono (E' := E.snoc σ.st.length (.slice (some ⟨w.heap.size, 0, none⟩) rows.length c) (cts T e).length) (w' := w') (h.sr.snoc_le _ _) (fun _ hz => hz) (h.sr.zcell fun b hb _ => hg.old b hb)
  have := h.new (w' := w') (.arx e rows) (.slice (some ⟨w.heap.size, 0, none⟩) rows.length c) (cts T e).length hg.old (by rw [hg.size]; omega) hg.os hg.tape hg.output
    (.arx e rows w.heap.size 0 c (vs ++ rest) ty (snoc_ρ _ _ _ _) hc h0 (snoc_sz _ _ _ _) hg.new (by rw [Nat.zero_add, hl]; exact Nat.le_refl _) hr.1 (fun i row j av v hi hj hv => by
      obtain ⟨v', hv', hr'⟩ := hm.get hi hj
      rw [Nat.zero_add, List.getElem?_append_left (List.getElem?_eq_some_iff.1 hv').1, hv'] at hv
      cases hv; exact hr'))
    (fun B hB => by obtain ⟨A, n, c', hA, _, rfl⟩ := hB; rw [snoc_ρ] at hA; cases hA; exact Nat.le_refl _)
  exact ⟨_, this.1, .sr _ _ _ _ (snoc_ρ _ _ _ _), this.2, SameE.snoc _ _ _ _⟩
theorem fillX_ok {e : Nat} : ∀ {parts : List (Nat × AV)} {vparts : List (Nat × Value)} {rows rows' : List (List AV)} {vs : List Value},
    parts.length = vparts.length → (∀ (j : Nat) (p : Nat × AV) (q : Nat × Value), parts[j]? = some p → vparts[j]? = some q → p.1 = q.1 ∧ VR T E Z w p.2 q.2) →
    RowsX T E Z w (cts T e).length rows vs → fillX (cts T e).length rows parts = some rows' →
    ∃ vs', Instr.fill (fun i => some (i * (cts T e).length, (cts T e).length)) vs.toArray vparts = some vs'.toArray ∧ RowsX T E Z w (cts T e).length rows' vs' ∧ rows'.length = rows.length
  | [], [], rows, rows', vs, _, _, hr, hf => by simp [fillX] at hf; subst hf; exact ⟨vs, by simp [Instr.fill], hr, rfl⟩
  | [], _ :: _, _, _, _, hl, _, _, _ => by simp at hl
  | _ :: _, [], _, _, _, hl, _, _, _ => by simp at hl
  | (i, x) :: parts, (i', v) :: vparts, rows, rows', vs, hl, hp, hr, hf => by
    obtain ⟨h1, h3⟩ := hp 0 _ _ rfl rfl
    simp only at h1 h3; subst h1
    simp only [fillX] at hf
    cases hc : (Nat.beq x.cells.length (cts T e).length && (x.cells.all isCell && Nat.blt i rows.length)) with
    | false => rw [hc] at hf; cases hf
    | true =>
      rw [hc] at hf
      simp only [cond_true] at hf
      simp only [Bool.and_eq_true] at hc
      obtain ⟨hxl, hcell, hi⟩ := hc
      have hxl := Nat.eq_of_beq_eq_true hxl
      have hi : i < rows.length := by simp [Nat.blt] at hi; exact hi
      have h2 : x ≠ .undef := by rintro rfl; simp [AV.cells, isCell] at hcell
      have hcr := cells_ok h3 h2
      have hvl : v.cells.toList.length = (cts T e).length := by rw [← hcr.1, hxl]
      have hlen := hr.length
      have hle : (i + 1) * (cts T e).length ≤ rows.length * (cts T e).length := Nat.mul_le_mul_right _ hi
      rw [Nat.succ_mul] at hle
      have hfold := foldl_put v.cells.toList vs (i * (cts T e).length) 0 (by rw [hvl, hlen]; omega)
      have hri : rows.getD i [] = rows[i] := by simp [List.getD, List.getElem?_eq_getElem hi]
      have hrl : rows[i].length = (cts T e).length := hr.1 _ (List.getElem_mem hi)
      have hflat := flatten_put (off := 0) (vs := x.cells) hr.1 hi (by rw [hxl]; omega)
      rw [hri, putAt_all (by rw [hxl, hrl])] at hflat
      have hr' : RowsX T E Z w (cts T e).length (rows.set i x.cells) (vs.take (i * (cts T e).length) ++ v.cells.toList ++ vs.drop (i * (cts T e).length + v.cells.toList.length)) := by
        refine ⟨fun row hrow' => (List.mem_or_eq_of_mem_set hrow').elim (hr.1 row) (fun e => e ▸ hxl), ?_⟩
        rw [hflat, Nat.add_zero, hcr.1]
        exact ((hr.2.take _).append hcr).append (hr.2.drop _)
      obtain ⟨vs', hv', hrr, hll⟩ := fillX_ok (by simpa using hl)
        (fun j p q hj hq => hp (j + 1) p q (by simpa using hj) (by simpa using hq)) hr' hf
      refine ⟨vs', ?_, hrr, by rw [hll]; simp⟩
      rw [← hv']
      conv => lhs; unfold Instr.fill
      simp only
      have n1' : (v.cells.size ≠ (cts T e).length || i * (cts T e).length + v.cells.size > vs.toArray.size : Bool) = false := by
        have e3 : v.cells.size = (cts T e).length := by rw [← hvl]; simp
        simp only [List.size_toArray]
        simp; omega
      simp only [n1', Bool.false_eq_true, if_false]
      congr 1
      have hz : v.cells.zipIdx.foldl (fun (cs : Array Value) (y : Value × Nat) => cs.setIfInBounds (i * (cts T e).length + y.2) y.1) vs.toArray = (vs.take (i * (cts T e).length + 0) ++ v.cells.toList ++ vs.drop (i * (cts T e).length + 0 + v.cells.toList.length)).toArray := by
        rw [← hfold, ← Array.foldl_toList, Array.toList_zipIdx]
      simpa using hz
theorem abuildX_ok (hT : TabOk P T) (h : StR T E Z w σ vals) {t len : Nat} {parts : Array (Nat × Operand)} {a : Act} {av : AV} (ht : VRs T E Z w σ.tmps a.tmps.toList)
    (hs : abuildX T σ t len (parts.toList.map fun p => (p.1, σ.eval p.2)) = some (σ', av)) :
    OpRes P T E Z w vals σ (Instr.buildSlice t len (parts.map fun (i, x) => (i, a.eval x))) σ' av := by
  unfold abuildX at hs
  split at hs
  · rename_i e cells bytes hti
    obtain ⟨i, d, z, hto⟩ := hT _ _ hti
    have hd := dOk_sl hto.desc
    subst hd
    split at hs
    · rename_i te hte
      obtain ⟨ie, de, ze, htoe⟩ := hT _ _ hte
      have hcte := elem_cts hte
      cases hb : (Nat.blt 0 len && (Nat.blt 0 te.cells.length && Nat.ble (len * te.cells.length) (2 ^ 24))) with
      | false => rw [hb] at hs; cases hs
      | true =>
        rw [hb] at hs
        simp only [Bool.and_eq_true, Nat.blt_eq, Nat.ble_eq] at hb
        obtain ⟨h0, hpos, hb⟩ := hb
        simp only [cond_true] at hs
        split at hs
        · rename_i rows hf
          cases hs
          rw [← hcte] at hf
          have hz := zeroRows_ok (P := P) (E := E) (Z := Z) (w := w) hte htoe len hpos
          rw [← hcte] at hz
          have hzx : RowsX T E Z w (cts T e).length (List.replicate len ((cts T e).map CT.zeroR)) (madeCells ze.cells (len * (cts T e).length)).toList := ⟨RowsR.len hz.1, hz.2⟩
          obtain ⟨vs', hv', hrr, hll⟩ := fillX_ok (by simp) (fun j p q => parts_ok ht parts j p q) hzx hf
          have hlen : rows.length = len := by rw [hll]; simp
          have hvl : vs'.length = len * (cts T e).length := by rw [hrr.length, hlen]
          have hg := Grew.alloc w (.cells vs'.toArray e)
          have hrun : (Instr.buildSlice t len (parts.map fun (i, x) => (i, a.eval x))).run P w = .ok (.slice (some ⟨w.heap.size, 0, none⟩) len len) (w.alloc (.cells vs'.toArray e)) := by
            refine run_buildSlice w t e len _ _ ie ze hto.und htoe.info htoe.zero (by rw [htoe.size]; omega) (by rw [htoe.size]; have := Nat.mul_pos h0 hpos; omega) ?_
            rw [htoe.size, ← hcte]
            have : (Array.range (len * (cts T e).length)).map (fun x => ze.cells[x % ze.cells.size]!) = (madeCells ze.cells (len * (cts T e).length)) := rfl
            rw [this]
            simpa using hv'
          obtain ⟨E', h1, h2, h3, h4⟩ := h.newArx (w' := w.alloc (.cells vs'.toArray e)) (rest := []) (c := len) (ty := e) hrr (by omega) (by omega) (by simpa using hvl) (by simpa using hg)
          rw [hlen] at h2
          exact ⟨E', Z, _, _, hrun, h1, h2, h3, Mv.of rfl h4⟩
        · cases hs
    · cases hs
  · cases hs
theorem arx_get (h : StR T E Z w σ vals) {id e : Nat} {rows : List (List AV)} {A : Option Addr} {n c : Nat} (hst : σ.st[id]? = some (.arx e rows)) (hE : E.ρ id = some (.slice A n c)) (hsz : 0 < (cts T e).length) :
    ∃ (B o : Nat) (vs : List Value) (ty : TypeId), A = some ⟨B, o, none⟩ ∧ n = rows.length ∧ rows.length ≤ c ∧ c ≠ 0 ∧ E.sz id = (cts T e).length ∧ w.heap[B]? = some (.cells vs.toArray ty (0, 0)) ∧ o + c * (cts T e).length ≤ vs.length ∧
      RowsX T E Z w (cts T e).length rows ((vs.drop o).take (rows.length * (cts T e).length)) ∧
      (∀ w' : World, w'.heap = w.heap → (Builtin.firstCells (cts T e).length rows.length (.slice A n c)).run P w' = .ok ((vs.drop o).take (rows.length * (cts T e).length)).toArray w') := by
  have hor := h.sr.obj id _ hst
  cases hor with
  | arx _ _ B o c' vs ty he' hc h0 hs hb ho hlen hr =>
    rw [hE] at he'
    simp only [Option.some.injEq, Value.slice.injEq] at he'
    obtain ⟨rfl, rfl, rfl⟩ := he'
    have hle : o + rows.length * (cts T e).length ≤ vs.length := Nat.le_trans (Nat.add_le_add_left (Nat.mul_le_mul_right _ hc) _) ho
    refine ⟨B, o, vs, ty, rfl, rfl, hc, h0, hs, hb, ho, RowsX.of hlen (by simp; omega) hsz (fun i row j av v hi hj hv => ?_), fun w' hw => ?_⟩
    · rw [List.getElem?_take] at hv
      split at hv
      · rw [List.getElem?_drop] at hv; exact hr i row j av v hi hj hv
      · cases hv
    · refine run_firstCells_some (P := P) w' (cts T e).length rows.length ⟨B, o, none⟩ _ _ _ ?_ fun j v hj => ?_
      · rw [List.length_take, List.length_drop]; omega
      · rw [List.getElem?_take] at hj
        split at hj
        · rw [List.getElem?_drop] at hj
          rw [add_none rfl, World.cell?, hw]
          have := cell_of hb (o + j)
          rw [World.cell?] at this
          rw [this]; exact hj
        · cases hj
theorem scrub_leaf {id : Nat} {v0 : Value} (r : AV) (u : Value) (hr : isRef r = true) (hv : VR T E Z w r u) : VR T (E.setρ id v0) Z w' (scrub1 id r) u := by
  have hρ : ∀ i, i ≠ id → (E.setρ id v0).ρ i = E.ρ i := fun i hi => by simp [Env.setρ, hi]
  cases hv <;> simp [isRef] at hr
  case sr i A n c he =>
    simp only [scrub1]
    cases hi : Nat.beq i id with
    | true => exact .undef _
    | false => exact .sr _ _ _ _ (by rw [hρ i (Nat.ne_of_beq_eq_false hi)]; exact he)
  case ss i a n A A' len c he hb hA =>
    simp only [scrub1]
    cases hi : Nat.beq i id with
    | true => exact .undef _
    | false => exact .ss _ _ _ _ _ _ _ (by rw [hρ i (Nat.ne_of_beq_eq_false hi)]; exact he) hb hA
  case ptr i off B he =>
    simp only [scrub1]
    cases hi : Nat.beq i id with
    | true => exact .undef _
    | false => exact .ptr _ _ _ (by rw [hρ i (Nat.ne_of_beq_eq_false hi)]; exact he)
  case ap i k off A n c he hk =>
    simp only [scrub1]
    cases hi : Nat.beq i id with
    | true => exact .undef _
    | false => exact .ap i k off A n c (by rw [hρ i (Nat.ne_of_beq_eq_false hi)]; exact he) hk
  case yl i l he =>
    simp only [scrub1]
    cases hi : Nat.beq i id with
    | true => exact .undef _
    | false => exact .yl _ _ (by rw [hρ i (Nat.ne_of_beq_eq_false hi)]; exact he)
  case mp i r he =>
    simp only [scrub1]
    cases hi : Nat.beq i id with
    | true => exact .undef _
    | false => exact .mp _ _ (by rw [hρ i (Nat.ne_of_beq_eq_false hi)]; exact he)
theorem moveArx (h : StR T E Z w σ vals) {id e : Nat} {rows : List (List AV)} (hst : σ.st[id]? = some (.arx e rows)) (hsz : E.sz id = (cts T e).length) {B o cap : Nat} {all : List Value} {ty : TypeId} {rows' : List (List AV)}
    (hother : ∀ b, b < w.heap.size → ¬ owns E σ.st id b → w'.heap[b]? = w.heap[b]?) (hgr : w.heap.size ≤ w'.heap.size) (hos : w'.os = w.os) (htape : w'.tape = w.tape) (hout : w'.output = w.output)
    (hb : w'.heap[B]? = some (.cells all.toArray ty (0, 0))) (ho : o + cap * (cts T e).length ≤ all.length) (hc : rows'.length ≤ cap) (h0 : cap ≠ 0)
    (hR : RowsX T E Z w (cts T e).length rows' ((all.drop o).take (rows'.length * (cts T e).length))) (hown : owns E σ.st id B ∨ w.heap.size ≤ B) :
    ∃ E', StR T E' Z w' { σ.scrub id with st := (σ.scrub id).st.set id ((AObj.arx e rows').onRefs (scrub1 id)), moved := bif σ.moved.elem id then σ.moved else id :: σ.moved } vals ∧
      VR T E' Z w' (.sr id) (.slice (some ⟨B, o, none⟩) rows'.length cap) ∧
      Ext (Owned E σ.st) Z w (Owned E' ((σ.scrub id).st.set id ((AObj.arx e rows').onRefs (scrub1 id)))) Z w' ∧
      Mv σ E { σ.scrub id with st := (σ.scrub id).st.set id ((AObj.arx e rows').onRefs (scrub1 id)), moved := bif σ.moved.elem id then σ.moved else id :: σ.moved } E' := by
  have hid : id < σ.st.length := (List.getElem?_eq_some_iff.1 hst).1
  have hun : ∀ b, b < w.heap.size → ¬ Owned E σ.st b → w'.heap[b]? = w.heap[b]? := fun b hb hno => hother b hb (fun hB => hno ⟨id, hB⟩)
  have hzc := h.sr.zcell hun
  have hlR := hR.length
  have hobj : OR T (E.setρ id (.slice (some ⟨B, o, none⟩) rows'.length cap)) Z w' id ((AObj.arx e rows').onRefs (scrub1 id)) := by
    refine .arx e _ B o cap all ty (by simp [Env.setρ]) (by simpa using hc) h0 (by simpa [Env.setρ] using hsz) hb ho (fun row hrow => ?_) (fun i row j av v hi hj hv => ?_)
    · obtain ⟨x, hx, rfl⟩ := List.mem_map.1 hrow
      rw [length_onRefsL]; exact hR.1 x hx
    · rw [List.getElem?_map, Option.map_eq_some_iff] at hi
      obtain ⟨x, hx, rfl⟩ := hi
      rw [getElem?_onRefsL, Option.map_eq_some_iff] at hj
      obtain ⟨y, hy, rfl⟩ := hj
      obtain ⟨v', hv', hr'⟩ := hR.get hx hy
      rw [List.getElem?_take] at hv'
      split at hv'
      · rw [List.getElem?_drop, hv] at hv'
        cases hv'
        exact hr'.map (scrub1 id) (fun _ hz => hz) hzc (fun r u hr hv => scrub_leaf r u hr hv)
      · cases hv'
  have := h.move (w' := w') (id := id) (.slice (some ⟨B, o, none⟩) rows'.length cap) hid hother hgr hos htape hout hobj
    (fun C hC => by obtain ⟨A', n', c', hA, _, rfl⟩ := hC; simp [Env.setρ] at hA; obtain ⟨rfl, _⟩ := hA; exact hown)
  exact ⟨_, ⟨this.1.sr, this.1.tm⟩, .sr _ _ _ _ (by simp [Env.setρ]), this.2, Mv.moved _ _ _ _⟩
theorem aappendX_ok (hT : TabOk P T) (h : StR T E Z w σ vals) {t u ty : Nat} {s x av : AV} {vs vx : Value} (hsv : VR T E Z w s vs) (hx : VR T E Z w x vx) (hu : srcType T u = true)
    (hs : aappendX T σ t s x = some (true, σ', av)) : OpRes P T E Z w vals σ (Builtin.append_ #[t, u] ty #[vs, vx]) σ' av := by
  obtain ⟨du, hdu, hdk⟩ := srcType_ok (P := P) hT hu
  unfold aappendX at hs
  split at hs
  · rename_i e cells bytes jd hti
    obtain ⟨i, d, z, hto⟩ := hT _ _ hti
    have hd := dOk_sl hto.desc
    subst hd
    split at hs
    · rename_i te v ys hte hys
      obtain ⟨ie, de, ze, htoe⟩ := hT _ _ hte
      have hcte := elem_cts hte
      cases hcc : (Nat.beq v e && (Nat.blt 0 te.cells.length && (!(Nat.beq te.bytes 0) && (Nat.blt 0 ys.length && ys.all fun r => r.all isCell)))) with
      | false => rw [hcc] at hs; cases hs
      | true =>
        rw [hcc] at hs
        simp only [cond_true] at hs
        simp only [Bool.and_eq_true, Bool.not_eq_true', Nat.blt_eq] at hcc
        obtain ⟨hve, hpos', hbz, hy0, hcell⟩ := hcc
        obtain rfl := Nat.eq_of_beq_eq_true hve
        have hb1 : 1 ≤ te.bytes := by have := Nat.ne_of_beq_eq_false hbz; omega
        have hpos : 0 < (cts T v).length := by rw [hcte]; exact hpos'
        have hisz : ie.size = (cts T v).length := by rw [htoe.size, hcte]
        have hzl : ze.cells.size = (cts T v).length := by rw [← Array.length_toList, htoe.cells, hcte]; simp
        cases hx with
        | sr _ A n c hE =>
          obtain ⟨By, oy, vy, tyy, rfl, rfl, hcy, _, _, hby, hoy, hRn, hfirst⟩ := arx_get (P := P) h (getD_some hys (by simp)) hE hpos
          generalize hnews : (vy.drop oy).take (ys.length * (cts T v).length) = news at hRn hfirst
          have hnl : news.length = ys.length * (cts T v).length := hRn.length
          have hlenx : ∀ w' : World, (Builtin.lenOf (.slice (some ⟨By, oy, none⟩) ys.length c)).run P w' = .ok ys.length w' := fun w' => by simp [Builtin.lenOf]
          have hone : ∀ v ∈ news, v.oneCell' = true := hRn.one fun row hrow => List.all_eq_true.1 hcell row hrow
          have grow : ∀ (base : Option Addr) (rows : List (List AV)) (olds : List Value) (sLen sCap : Nat), rows.length = sLen → RowsX T E Z w (cts T v).length rows olds → sCap < sLen + ys.length →
              (∀ w' : World, w'.heap = w.heap → (Builtin.firstCells (cts T v).length sLen (.slice base sLen sCap)).run P w' = .ok olds.toArray w') → (sLen + ys.length) * te.bytes ≤ 140737488355328 →
              ∃ w' rest cap, (Builtin.append_ #[t, u] ty #[.slice base sLen sCap, .slice (some ⟨By, oy, none⟩) ys.length c]).run P w = .ok (.slice (some ⟨w.heap.size, 0, none⟩) (rows ++ ys).length cap) w' ∧ Grew w w' (.cells ((olds ++ news) ++ rest).toArray v) ∧
                RowsX T E Z w (cts T v).length (rows ++ ys) (olds ++ news) ∧ (rows ++ ys).length ≤ cap ∧ cap ≠ 0 ∧ ((olds ++ news) ++ rest).length = cap * (cts T v).length := fun base rows olds sLen sCap hrl hRo hroom hfo hfit => by
            have hrun := append_grow (P := P) (w := w) (t := t) (u := u) (ty := ty) (base := base) hto.und htoe.info hisz htoe.zero hdu hdk (hlenx w) (hfo w.drew rfl) (hfirst w.drew rfl) hroom (by rw [htoe.bytes]; exact hb1) (by rw [htoe.bytes]; exact hfit)
            have hge := grownCap_ge w (sLen + ys.length) sCap v
            refine ⟨_, (Builtin.zeroCells ze.cells (grownCap w (sLen + ys.length) sCap v - (sLen + ys.length))).toList, grownCap w (sLen + ys.length) sCap v, ?_, Grew.drewAlloc w _, hRo.append hRn, by rw [List.length_append, hrl]; exact hge, by omega, ?_⟩
            · rw [List.length_append, hrl]; exact hrun
            · have hzc : (Builtin.zeroCells ze.cells (grownCap w (sLen + ys.length) sCap v - (sLen + ys.length))).toList.length = (grownCap w (sLen + ys.length) sCap v - (sLen + ys.length)) * (cts T v).length := by
                rw [Array.length_toList, size_zeroCells, hzl]
              rw [List.length_append, List.length_append, hRo.length, hnl, hrl, hzc, ← Nat.add_mul, ← Nat.add_mul]
              congr 1; omega
          split at hs
          · -- nil
            rename_i u' rows
            simp only [Option.some.injEq, Prod.mk.injEq] at hs
            obtain ⟨hroomB, rfl, rfl⟩ := hs
            have hfit := roomFor_ok hroomB
            cases hsv with
            | slnil _ _ hk =>
              have fc0 : ∀ (w' : World), (Builtin.firstCells (cts T v).length 0 (.slice none 0 0)).run P w' = .ok (([] : List Value)).toArray w' := fun w' => by simp [Builtin.firstCells]
              obtain ⟨w', rest, cap, hrun, hg, hR, h1, h2, h3⟩ := grow none [] [] 0 0 rfl ⟨fun _ h => by simp at h, ⟨rfl, fun j av v h => by simp at h⟩⟩ (by omega) (fun w' _ => fc0 w') (by simpa using hfit)
              rw [List.nil_append] at hR hrun h1
              obtain ⟨E', h4, h5, h6, h7⟩ := h.newArx (w' := w') hR h1 h2 h3 v hg
              exact ⟨E', Z, w', _, hrun, h4, h5, h6, Mv.of rfl h7⟩
            | sl _ _ _ A c cv hn hf hc hsp hz hok hcell hrep => exact absurd rfl hn
          · -- owned
            rename_i id
            split at hs
            · rename_i u' rows hst
              cases hue : Nat.beq u' v with
              | false => rw [hue] at hs; cases hs
              | true =>
                rw [hue] at hs
                obtain rfl := Nat.eq_of_beq_eq_true hue
                simp only [cond_true, Option.some.injEq, Prod.mk.injEq] at hs
                obtain ⟨hroomB, rfl, rfl⟩ := hs
                have hfit := roomFor_ok hroomB
                have hst' := getD_some hst (by simp)
                cases hsv with
                | sr _ A0 n0 c0 hE0 =>
                  obtain ⟨B, o, vo, tyo, rfl, rfl, hc0, h00, hszE, hbo, hoo, hRo, hfo⟩ := arx_get (P := P) h hst' hE0 hpos
                  have hBo : owns E σ.st id B := (owns_some hst').2 ⟨_, _, _, hE0, h00, rfl⟩
                  by_cases hroom : rows.length + ys.length ≤ c0
                  · -- in its place
                    have hle : o + (rows.length + ys.length) * (cts T u').length ≤ vo.length := Nat.le_trans (Nat.add_le_add_left (Nat.mul_le_mul_right _ hroom) _) hoo
                    rw [Nat.add_mul] at hle
                    have hst1 := run_storeCells_at P B (o + rows.length * (cts T u').length) tyo news 0 vo.toArray w hbo (by simp; rw [hnl]; omega) hone
                    simp only [Nat.add_zero] at hst1
                    have hrun := append_room (P := P) (w := w) (t := t) (u := u) (ty := ty) (base := some ⟨B, o, none⟩) (sLen := rows.length) (sCap := c0) hto.und htoe.info hisz hdu hdk (hlenx w) (hfirst w rfl) hroom
                      (fun a ha => by cases ha; rw [add_none rfl]; exact hst1) (fun hh => by cases hh)
                    have hon := OnlyAt.setRow w B (vo.take (o + rows.length * (cts T u').length) ++ news ++ vo.drop (o + rows.length * (cts T u').length + news.length)).toArray
                    have hheap := setRow_heap w B vo.toArray (vo.take (o + rows.length * (cts T u').length) ++ news ++ vo.drop (o + rows.length * (cts T u').length + news.length)).toArray tyo (0, 0) hbo
                    have hRR : RowsX T E Z w (cts T u').length (rows ++ ys) (((vo.take (o + rows.length * (cts T u').length) ++ news ++ vo.drop (o + rows.length * (cts T u').length + news.length)).drop o).take ((rows ++ ys).length * (cts T u').length)) := by
                      have e1 : ((vo.take (o + rows.length * (cts T u').length) ++ news ++ vo.drop (o + rows.length * (cts T u').length + news.length)).drop o).take ((rows ++ ys).length * (cts T u').length) = (vo.drop o).take (rows.length * (cts T u').length) ++ news := by
                        rw [List.length_append, Nat.add_mul, ← hnl]
                        apply List.ext_getElem?
                        intro j
                        simp only [List.getElem?_take, List.getElem?_drop, List.getElem?_append, List.length_append, List.length_take, List.length_drop, Nat.min_def]
                        repeat' split
                        all_goals first | omega | rfl | (congr 1; omega) | (rw [List.getElem?_eq_none (by omega)]; done) | skip
                        all_goals (symm; rw [List.getElem?_eq_none (by omega)])
                      rw [e1]
                      exact hRo.append hRn
                    obtain ⟨E', k1, k2, k3, k4⟩ := moveArx (w' := w.setRow B (vo.take (o + rows.length * (cts T u').length) ++ news ++ vo.drop (o + rows.length * (cts T u').length + news.length)).toArray) h hst' hszE (cap := c0)
                      (fun b _ hno => hon.other b (fun e => hno (e ▸ hBo))) (by rw [hon.size]; exact Nat.le_refl _) rfl rfl rfl hheap (by simp; rw [hnl]; omega) (by simpa using hroom) h00 hRR (.inl hBo)
                    refine ⟨E', Z, _, _, hrun, k1, ?_, k3, k4⟩
                    have e2 : rows.length + ys.length = (rows ++ ys).length := by simp
                    rw [e2]; exact k2
                  · obtain ⟨w', rest, cap, hrun, hg, hR, h1, h2, h3⟩ := grow (some ⟨B, o, none⟩) rows _ rows.length c0 rfl hRo (by omega) hfo hfit
                    have hseg : ((((vo.drop o).take (rows.length * (cts T u').length) ++ news) ++ rest).drop 0).take ((rows ++ ys).length * (cts T u').length) = (vo.drop o).take (rows.length * (cts T u').length) ++ news := by
                      rw [List.drop_zero, List.take_append_of_le_length (by rw [hR.length]; exact Nat.le_refl _), List.take_of_length_le (by rw [hR.length]; exact Nat.le_refl _)]
                    obtain ⟨E', k1, k2, k3, k4⟩ := moveArx (w' := w') h hst' hszE (o := 0) (fun b hb _ => hg.old b hb) (by rw [hg.size]; omega) hg.os hg.tape hg.output hg.new (by rw [Nat.zero_add, h3]; exact Nat.le_refl _) h1 h2 (by rw [hseg]; exact hR) (.inr (Nat.le_refl _))
                    exact ⟨E', Z, w', _, hrun, k1, k2, k3, k4⟩
            · cases hs
          · cases hs
    · cases hs
  · cases hs
end
end Go.Fw
