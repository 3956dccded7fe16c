/- The framework, part I: rows of cells. -/
import Derived.Test.YtgcdiccbehiijaaFwH
import Derived.Laws.MakeOwn
set_option linter.all false
set_option linter.unusedSimpArgs false
set_option linter.unusedVariables false
namespace Go.Fw
section
variable {P : Program} {T : Tab} {E : Env} {Z : Nat → Prop} {w : World} {σ : St}

/-! ### Rows laid behind each other -/
theorem flatten_get : ∀ {rows : List (List AV)} {sz i j : Nat} {row : List AV} {av : AV}, (∀ r ∈ rows, r.length = sz) → rows[i]? = some row → row[j]? = some av → rows.flatten[i * sz + j]? = some av
  | [], _, _, _, _, _, _, h, _ => by simp at h
  | r :: rs, sz, 0, j, row, av, hl, hi, hj => by
    simp at hi; subst hi
    have hlt := (List.getElem?_eq_some_iff.1 hj).1
    simp only [List.flatten_cons, Nat.zero_mul, Nat.zero_add]
    rw [List.getElem?_append_left hlt]; exact hj
  | r :: rs, sz, i + 1, j, row, av, hl, hi, hj => by
    have h1 := hl r List.mem_cons_self
    simp only [List.getElem?_cons_succ] at hi
    have := flatten_get (fun r' hr' => hl r' (List.mem_cons_of_mem _ hr')) hi hj
    simp only [List.flatten_cons]
    rw [List.getElem?_append_right (by rw [h1, Nat.succ_mul]; omega)]
    rw [show (i + 1) * sz + j - r.length = i * sz + j by rw [h1, Nat.succ_mul]; omega]
    exact this

theorem flatten_length : ∀ {rows : List (List AV)} {sz : Nat}, (∀ r ∈ rows, r.length = sz) → rows.flatten.length = rows.length * sz
  | [], _, _ => by simp
  | r :: rs, sz, hl => by
    simp only [List.flatten_cons, List.length_append, List.length_cons]
    rw [flatten_length (fun r' hr' => hl r' (List.mem_cons_of_mem _ hr')), hl r List.mem_cons_self, Nat.succ_mul]
    omega

theorem flatten_get_inv {rows : List (List AV)} {sz m : Nat} {av : AV} (hsz : 0 < sz) (hl : ∀ r ∈ rows, r.length = sz) (h : rows.flatten[m]? = some av) :
    ∃ row, rows[m / sz]? = some row ∧ row[m % sz]? = some av := by
  have hm := (List.getElem?_eq_some_iff.1 h).1
  rw [flatten_length hl] at hm
  have hi : m / sz < rows.length := Nat.div_lt_of_lt_mul (by rwa [Nat.mul_comm] at hm)
  have hrow := List.getElem?_eq_getElem hi
  have hlr := hl _ (List.getElem_mem hi)
  have hj : m % sz < rows[m / sz].length := by rw [hlr]; exact Nat.mod_lt _ hsz
  refine ⟨_, hrow, ?_⟩
  have h2 := flatten_get hl hrow (List.getElem?_eq_getElem hj)
  rw [Nat.div_add_mod' m sz] at h2
  rw [List.getElem?_eq_getElem hj]
  rw [h2] at h; exact h

/-- cells that stand for rows, one behind another -/
def RowsR (T : Tab) (E : Env) (Z : Nat → Prop) (w : World) (e : Nat) (rows : List (List AV)) (vs : List Value) : Prop :=
  (∀ row ∈ rows, rowOk (cts T e) row = true) ∧ VRs T E Z w rows.flatten vs

theorem RowsR.len {e : Nat} {rows : List (List AV)} (h : ∀ row ∈ rows, rowOk (cts T e) row = true) : ∀ r ∈ rows, r.length = (cts T e).length := fun r hr => (rowOk_get (h r hr)).1

theorem RowsR.length {e : Nat} {rows : List (List AV)} {vs : List Value} (h : RowsR T E Z w e rows vs) : vs.length = rows.length * (cts T e).length := by
  rw [← h.2.1, flatten_length (RowsR.len h.1)]

theorem RowsR.get {e : Nat} {rows : List (List AV)} {vs : List Value} (h : RowsR T E Z w e rows vs) {i j : Nat} {row : List AV} {av : AV} (hi : rows[i]? = some row) (hj : row[j]? = some av) :
    ∃ v, vs[i * (cts T e).length + j]? = some v ∧ VR T E Z w av v := by
  have h1 := flatten_get (RowsR.len h.1) hi hj
  have hlt := (List.getElem?_eq_some_iff.1 h1).1
  have hv := List.getElem?_eq_getElem (l := vs) (i := i * (cts T e).length + j) (by rw [← h.2.1]; exact hlt)
  exact ⟨_, hv, h.2.2 _ _ _ h1 hv⟩

theorem RowsR.of {e : Nat} {rows : List (List AV)} {vs : List Value} (hok : ∀ row ∈ rows, rowOk (cts T e) row = true) (hl : vs.length = rows.length * (cts T e).length) (hsz : 0 < (cts T e).length)
    (hr : ∀ (i : Nat) (row : List AV) (j : Nat) (av : AV) (v : Value), rows[i]? = some row → row[j]? = some av → vs[i * (cts T e).length + j]? = some v → VR T E Z w av v) : RowsR T E Z w e rows vs := by
  refine ⟨hok, by rw [flatten_length (RowsR.len hok), hl], fun m av v hm hv => ?_⟩
  obtain ⟨row, hi, hj⟩ := flatten_get_inv hsz (RowsR.len hok) hm
  exact hr _ row _ av v hi hj (by rw [Nat.div_add_mod']; exact hv)

theorem ok_cell {c : CT} {av : AV} {v : Value} (hc : c.ok av = true) (h : VR T E Z w av v) : v.oneCell' = true := by
  cases h with
  | undef v => cases c <;> simp [CT.ok] at hc
  | k v hs => cases v <;> simp [scalar] at hs <;> rfl
  | ku => cases c <;> simp [CT.ok, Go.undef] at hc
  | agg cs vs hl hr => cases c <;> simp [CT.ok] at hc
  | tup cs vs hl hr => cases c <;> simp [CT.ok] at hc
  | _ => rfl

theorem RowsR.one {e : Nat} {rows : List (List AV)} {vs : List Value} (h : RowsR T E Z w e rows vs) : ∀ v ∈ vs, v.oneCell' = true := fun v hv => by
  obtain ⟨m, hm, rfl⟩ := List.getElem_of_mem hv
  have hm' : m < rows.flatten.length := by rw [h.2.1]; exact hm
  have h1 := List.getElem?_eq_getElem hm'
  have hr := h.2.2 m _ _ h1 (List.getElem?_eq_getElem hm)
  have hmem := List.getElem_mem hm'
  obtain ⟨row, hrow, hin⟩ := List.mem_flatten.1 hmem
  obtain ⟨j, hj, hjx⟩ := List.getElem_of_mem hin
  obtain ⟨hl, hk⟩ := rowOk_get (h.1 row hrow)
  exact ok_cell (hk j _ _ (List.getElem?_eq_getElem (hl ▸ hj)) (by rw [List.getElem?_eq_getElem hj, hjx])) hr

theorem RowsR.append {e : Nat} {rows rows' : List (List AV)} {vs vs' : List Value} (h : RowsR T E Z w e rows vs) (h' : RowsR T E Z w e rows' vs') : RowsR T E Z w e (rows ++ rows') (vs ++ vs') := by
  refine ⟨fun row hr => (List.mem_append.1 hr).elim (h.1 row) (h'.1 row), by simp only [List.flatten_append, List.length_append, h.2.1, h'.2.1], fun m av v hm hv => ?_⟩
  rw [List.flatten_append] at hm
  rcases Nat.lt_or_ge m rows.flatten.length with hlt | hge
  · rw [List.getElem?_append_left hlt] at hm
    rw [List.getElem?_append_left (by rw [← h.2.1]; exact hlt)] at hv
    exact h.2.2 _ _ _ hm hv
  · rw [List.getElem?_append_right hge] at hm
    rw [List.getElem?_append_right (by rw [← h.2.1]; exact hge), ← h.2.1] at hv
    exact h'.2.2 _ _ _ hm hv

theorem flatten_take : ∀ {rows : List (List AV)} {sz : Nat} (n : Nat), (∀ r ∈ rows, r.length = sz) → (rows.take n).flatten = rows.flatten.take (n * sz)
  | rows, sz, 0, _ => by simp
  | [], sz, n + 1, _ => by simp
  | r :: rs, sz, n + 1, hl => by
    have h1 := hl r List.mem_cons_self
    simp only [List.take_succ_cons, List.flatten_cons]
    have e1 : List.take (n * sz + sz) r = r := List.take_of_length_le (by rw [h1]; omega)
    have e2 : n * sz + sz - sz = n * sz := by omega
    rw [flatten_take n (fun r' hr' => hl r' (List.mem_cons_of_mem _ hr')), List.take_append, h1, Nat.succ_mul, e1, e2]

theorem flatten_drop : ∀ {rows : List (List AV)} {sz : Nat} (n : Nat), (∀ r ∈ rows, r.length = sz) → (rows.drop n).flatten = rows.flatten.drop (n * sz)
  | rows, sz, 0, _ => by simp
  | [], sz, n + 1, _ => by simp
  | r :: rs, sz, n + 1, hl => by
    have h1 := hl r List.mem_cons_self
    simp only [List.drop_succ_cons, List.flatten_cons]
    have e1 : List.drop (n * sz + sz) r = [] := List.drop_of_length_le (by rw [h1]; omega)
    have e2 : n * sz + sz - sz = n * sz := by omega
    rw [flatten_drop n (fun r' hr' => hl r' (List.mem_cons_of_mem _ hr')), List.drop_append, h1, Nat.succ_mul, e1, e2, List.nil_append]

theorem VRs.take {l : List AV} {vs : List Value} (h : VRs T E Z w l vs) (n : Nat) : VRs T E Z w (l.take n) (vs.take n) := by
  refine ⟨by simp [h.1], fun j av v hj hv => ?_⟩
  rw [List.getElem?_take] at hj hv
  by_cases hlt : j < n
  · simp only [hlt, if_true] at hj hv; exact h.2 _ _ _ hj hv
  · simp [hlt] at hj

theorem VRs.drop {l : List AV} {vs : List Value} (h : VRs T E Z w l vs) (n : Nat) : VRs T E Z w (l.drop n) (vs.drop n) := by
  refine ⟨by simp [h.1], fun j av v hj hv => ?_⟩
  rw [List.getElem?_drop] at hj hv
  exact h.2 _ _ _ hj hv

theorem VRs.append {l l' : List AV} {vs vs' : List Value} (h : VRs T E Z w l vs) (h' : VRs T E Z w l' vs') : VRs T E Z w (l ++ l') (vs ++ vs') := by
  refine ⟨by simp [h.1, h'.1], fun m av v hm hv => ?_⟩
  rcases Nat.lt_or_ge m l.length with hlt | hge
  · rw [List.getElem?_append_left hlt] at hm
    rw [List.getElem?_append_left (by rw [← h.1]; exact hlt)] at hv
    exact h.2 _ _ _ hm hv
  · rw [List.getElem?_append_right hge] at hm
    rw [List.getElem?_append_right (by rw [← h.1]; exact hge), ← h.1] at hv
    exact h'.2 _ _ _ hm hv

theorem RowsR.take {e : Nat} {rows : List (List AV)} {vs : List Value} (h : RowsR T E Z w e rows vs) (n : Nat) : RowsR T E Z w e (rows.take n) (vs.take (n * (cts T e).length)) := by
  refine ⟨fun row hr => h.1 row (List.mem_of_mem_take hr), ?_⟩
  rw [flatten_take n (RowsR.len h.1)]; exact h.2.take _

theorem RowsR.drop {e : Nat} {rows : List (List AV)} {vs : List Value} (h : RowsR T E Z w e rows vs) (n : Nat) : RowsR T E Z w e (rows.drop n) (vs.drop (n * (cts T e).length)) := by
  refine ⟨fun row hr => h.1 row (List.mem_of_mem_drop hr), ?_⟩
  rw [flatten_drop n (RowsR.len h.1)]; exact h.2.drop _

theorem RowsR.mono {E' : Env} {Z' : Nat → Prop} {w' : World} {e : Nat} {rows : List (List AV)} {vs : List Value} (h : RowsR T E Z w e rows vs)
    (hE : ∀ i v, E.ρ i = some v → E'.ρ i = some v ∧ E'.sz i = E.sz i) (hZ : ∀ b, Z b → Z' b) (hw : ∀ b o, Z b → w'.cell? ⟨b, o, none⟩ = w.cell? ⟨b, o, none⟩) : RowsR T E' Z' w' e rows vs :=
  ⟨h.1, h.2.mono hE hZ hw⟩

/-- rows without references stand in any environment -/
theorem onRefs_row {e : Nat} {rows : List (List AV)} (hok : ∀ row ∈ rows, rowOk (cts T e) row = true) (h : AV → AV) : AV.onRefsL h rows.flatten = rows.flatten := by
  rw [onRefsL_eq]
  conv => rhs; rw [← List.map_id rows.flatten]
  refine List.map_congr_left fun x hx => ?_
  obtain ⟨row, hrow, hin⟩ := List.mem_flatten.1 hx
  obtain ⟨j, hj, hjx⟩ := List.getElem_of_mem hin
  exact rowOk_onRefs h (hok row hrow) (by rw [List.getElem?_eq_getElem hj, hjx])

theorem RowsR.env {E' : Env} {e : Nat} {rows : List (List AV)} {vs : List Value} (h : RowsR T E Z w e rows vs) : RowsR T E' Z w e rows vs := by
  refine ⟨h.1, ?_⟩
  have := h.2.map (E' := E') (Z' := Z) (w' := w) (fun _ => .undef) (fun _ hz => hz) (fun _ _ _ => rfl) (fun r v hr _ => .undef v)
  rwa [onRefs_row h.1] at this

/-! ### What is read of a slice -/
theorem bytesRows_len (s : ByteArray) : (bytesRows s).length = s.size := by simp [bytesRows]

theorem elem_cts {e : Nat} {te : TI} (h : T e = some te) : cts T e = te.cells := by simp [cts, h]

/-- **The rows of a slice or a string, as append and copy read them.** -/
theorem src_ok (hs : SR T E Z w σ.st) {e : Nat} {x : AV} {vx : Value} {ys : List (List AV)} (hx : VR T E Z w x vx) (hr : rowsOf σ x = some ys) (he : elemOk σ e x = true)
    (hstr : (∃ s, x = .k (.string s)) → cts T e = [.int .u8]) (hsz : 0 < (cts T e).length) :
    ∃ news : List Value, RowsR T E Z w e ys news ∧ (∀ w' : World, (Builtin.lenOf vx).run P w' = .ok ys.length w') ∧
      (∀ (w' : World) (m : Nat), w'.heap = w.heap → m ≤ ys.length → (Builtin.firstCells (cts T e).length m vx).run P w' = .ok (news.take (m * (cts T e).length)).toArray w') := by
  have fc : ∀ (A : Addr) (l c : Nat) (news : List Value), news.length = ys.length * (cts T e).length → (∀ j v, news[j]? = some v → w.cell? (A.add j) = some v) →
      ∀ (w' : World) (m : Nat), w'.heap = w.heap → m ≤ ys.length → (Builtin.firstCells (cts T e).length m (.slice (some A) l c)).run P w' = .ok (news.take (m * (cts T e).length)).toArray w' := fun A l c news hl hc w' m hw hm => by
    refine run_firstCells_some (P := P) w' (cts T e).length m A l c (news.take (m * (cts T e).length)) ?_ fun j v hj => ?_
    · rw [List.length_take, hl, Nat.min_eq_left (Nat.mul_le_mul_right _ hm)]
    · rw [List.getElem?_take] at hj
      by_cases hlt : j < m * (cts T e).length
      · simp only [hlt, if_true] at hj
        have := hc j v hj
        simpa [World.cell?, hw] using this
      · simp [hlt] at hj
  cases hx with
  | slnil t kd hk =>
    simp [rowsOf] at hr; subst hr
    exact ⟨[], ⟨fun _ h => by simp at h, ⟨rfl, fun j av v h => by simp at h⟩⟩, fun w' => by simp [Builtin.lenOf], fun w' m hw hm => by simp [Builtin.firstCells]⟩
  | sl t kd rows A c cv hn hf hc hsp hz hok hcell hrep =>
    simp [rowsOf] at hr; subst hr
    have hte : t = e := by
      unfold elemOk at he
      cases kd <;> first | exact absurd rfl hn | exact Nat.eq_of_beq_eq_true he
    subst hte
    let news : List Value := (List.range (rows.length * (cts T t).length)).map fun m => cv (m / (cts T t).length) (m % (cts T t).length)
    have hnl : news.length = rows.length * (cts T t).length := by simp [news]
    have hng : ∀ m v, news[m]? = some v → m < rows.length * (cts T t).length ∧ v = cv (m / (cts T t).length) (m % (cts T t).length) := fun m v hm => by
      simp only [news, List.getElem?_map] at hm
      by_cases hlt : m < rows.length * (cts T t).length
      · rw [List.getElem?_range hlt] at hm; simp at hm; exact ⟨hlt, hm.symm⟩
      · rw [List.getElem?_eq_none (by simpa using hlt)] at hm; simp at hm
    have hat : ∀ m, m < rows.length * (cts T t).length → ∃ row av, rows[m / (cts T t).length]? = some row ∧ row[m % (cts T t).length]? = some av := fun m hm => by
      have hi : m / (cts T t).length < rows.length := Nat.div_lt_of_lt_mul (by rwa [Nat.mul_comm] at hm)
      have hrow := List.getElem?_eq_getElem hi
      have hlr := (rowOk_get (hok _ (List.getElem_mem hi))).1
      exact ⟨_, _, hrow, List.getElem?_eq_getElem (by rw [hlr]; exact Nat.mod_lt _ hsz)⟩
    have hdm : ∀ i j, j < (cts T t).length → (i * (cts T t).length + j) / (cts T t).length = i ∧ (i * (cts T t).length + j) % (cts T t).length = j := fun i j hj => by
      rw [Nat.mul_comm, Nat.mul_add_div hsz, Nat.mul_add_mod]
      exact ⟨by rw [Nat.div_eq_of_lt hj]; omega, Nat.mod_eq_of_lt hj⟩
    refine ⟨news, RowsR.of hok hnl hsz (fun i row j av v hi hj hv => ?_), fun w' => by simp [Builtin.lenOf], fc A _ _ news hnl fun m v hm => ?_⟩
    · obtain ⟨hlt, rfl⟩ := hng _ _ hv
      have hjl : j < (cts T t).length := by
        have := (List.getElem?_eq_some_iff.1 hj).1
        rw [(rowOk_get (hok row (List.mem_of_getElem? hi))).1] at this; exact this
      rw [(hdm i j hjl).1, (hdm i j hjl).2]
      exact hrep i row j av hi hj
    · obtain ⟨hlt, rfl⟩ := hng _ _ hm
      obtain ⟨row, av, hi, hj⟩ := hat m hlt
      have := hcell _ _ _ _ hi hj
      rw [Nat.div_add_mod'] at this
      have hcz : c ≠ 0 := by have hlr := (List.getElem?_eq_some_iff.1 hi).1; exact Nat.ne_of_gt (Nat.lt_of_lt_of_le (Nat.lt_of_le_of_lt (Nat.zero_le _) hlr) hc)
      rw [add_none (hsp hcz)]; exact this
  | sr id A n c hE =>
    simp only [rowsOf] at hr
    split at hr
    · rename_i u kd rows hst
      have hr := Option.some.inj hr
      subst hr
      simp only [elemOk, hst] at he
      obtain rfl := Nat.eq_of_beq_eq_true he
      have hor := hs.obj id _ (getD_some hst (by simp))
      cases hor with
      | arr0 _ _ A' he' hn hk hsz' =>
        rw [hE] at he'; cases he'
        refine ⟨[], ⟨fun _ h => by simp at h, ⟨rfl, fun j av v h => by simp at h⟩⟩, fun w' => by simp [Builtin.lenOf], fun w' m hw hm => ?_⟩
        have : m = 0 := by simpa using hm
        subst this
        cases A <;> simp [Builtin.firstCells, loadCells, loadCellsFrom]
      | arr _ _ _ B o c' vs ty hn he' hc h0 hf hsz' hb ho hok hrr =>
        rw [hE] at he'; cases he'
        have hle : o + rows.length * (cts T u).length ≤ vs.length := Nat.le_trans (Nat.add_le_add_left (Nat.mul_le_mul_right _ hc) _) ho
        refine ⟨(vs.drop o).take (rows.length * (cts T u).length), RowsR.of hok (by simp; omega) hsz (fun i row j av v hi hj hv => ?_), fun w' => by simp [Builtin.lenOf], fc ⟨B, o, none⟩ _ _ _ (by simp; omega) fun m v hm => ?_⟩
        · rw [List.getElem?_take] at hv
          split at hv
          · rw [List.getElem?_drop] at hv; exact hrr i row j av v hi hj hv
          · cases hv
        · rw [List.getElem?_take] at hm
          split at hm
          · rw [List.getElem?_drop] at hm
            rw [add_none rfl, cell_of hb]; exact hm
          · cases hm
    · cases hr
  | ss id a n A A' len c hE hb' hA =>
    simp only [rowsOf] at hr
    split at hr
    · rename_i u kd rows hst
      have hr := Option.some.inj hr
      subst hr
      simp only [elemOk, hst] at he
      obtain rfl := Nat.eq_of_beq_eq_true he
      have hor := hs.obj id _ (getD_some hst (by simp))
      cases hor with
      | arr0 _ _ A'' he' hn hk hsz' =>
        rw [hE] at he'; cases he'
        have : n = 0 := by omega
        subst this
        refine ⟨[], ⟨fun _ h => by simp at h, ⟨by simp, fun j av v h => by simp at h⟩⟩, fun w' => by simp [Builtin.lenOf], fun w' m hw hm => ?_⟩
        have : m = 0 := by simpa using hm
        subst this
        cases A' <;> simp [Builtin.firstCells, loadCells, loadCellsFrom]
      | arr _ _ _ B o c' vs ty hn he' hc h0 hf hsz' hb ho hok hrr =>
        rw [hE] at he'
        simp only [Option.some.injEq, Value.slice.injEq] at he'
        obtain ⟨rfl, rfl, rfl⟩ := he'
        have hyl : ((rows.drop a).take n).length = n := by simp; omega
        have hle : o + rows.length * (cts T u).length ≤ vs.length := Nat.le_trans (Nat.add_le_add_left (Nat.mul_le_mul_right _ hc) _) ho
        have han : (a + n) * (cts T u).length ≤ rows.length * (cts T u).length := Nat.mul_le_mul_right _ hb'
        rw [Nat.add_mul] at han
        have hokp : ∀ row ∈ (rows.drop a).take n, rowOk (cts T u) row = true := fun row hrow => hok row (List.mem_of_mem_drop (List.mem_of_mem_take hrow))
        have hnl : ((vs.drop (o + a * (cts T u).length)).take (n * (cts T u).length)).length = n * (cts T u).length := by simp; omega
        have hRR : RowsR T E Z w u ((rows.drop a).take n) ((vs.drop (o + a * (cts T u).length)).take (n * (cts T u).length)) := by
          refine RowsR.of hokp (by rw [hyl]; exact hnl) hsz (fun i row j av v hi hj hv => ?_)
          rw [List.getElem?_take] at hi hv
          split at hi
          · rw [List.getElem?_drop] at hi
            split at hv
            · rw [List.getElem?_drop] at hv
              refine hrr (a + i) row j av v hi hj ?_
              rw [Nat.add_mul]; simpa [Nat.add_assoc] using hv
            · cases hv
          · cases hi
        by_cases hac : a < c
        · have := hA hac
          subst this
          refine ⟨_, hRR, fun w' => by simp [Builtin.lenOf, hyl], fc ⟨B, o + a * E.sz id, none⟩ _ _ _ (by rw [hyl]; exact hnl) fun m v hm => ?_⟩
          rw [List.getElem?_take] at hm
          split at hm
          · rw [List.getElem?_drop] at hm
            rw [add_none rfl, cell_of hb, hsz']; exact hm
          · cases hm
        · have hn0 : n = 0 := by omega
          subst hn0
          refine ⟨[], ⟨fun _ h => by simp at h, ⟨by simp, fun j av v h => by simp at h⟩⟩, fun w' => by simp [Builtin.lenOf], fun w' m hw hm => ?_⟩
          have : m = 0 := by simpa using hm
          subst this
          cases A' <;> simp [Builtin.firstCells, loadCells, loadCellsFrom]
    · cases hr
  | k _ hs' =>
    cases vx <;> simp [rowsOf] at hr
    rename_i s
    subst hr
    have h8 := hstr ⟨s, rfl⟩
    refine ⟨s.data.toList.map fun b => .int .u8 (b.toNat : Int), RowsR.of ?_ ?_ hsz ?_, fun w' => by simp [Builtin.lenOf, bytesRows], fun w' m hw hm => ?_⟩
    · intro row hrow
      simp only [bytesRows, List.mem_map] at hrow
      obtain ⟨b, _, rfl⟩ := hrow
      rw [h8]; rfl
    · rw [h8]; simp [bytesRows]
    · intro i row j av v hi hj hv
      rw [h8] at hv
      simp only [bytesRows, List.getElem?_map, Option.map_eq_some_iff] at hi
      obtain ⟨b, hb, rfl⟩ := hi
      have hj0 : j = 0 := by
        have := (List.getElem?_eq_some_iff.1 hj).1
        simp at this; exact this
      subst hj0
      simp at hj; subst hj
      simp at hv
      obtain ⟨b', hb', rfl⟩ := hv
      rw [Array.getElem?_toList] at hb
      rw [hb] at hb'; cases hb'
      exact .k _ rfl
    · rw [h8]
      simp only [Builtin.firstCells, Sem.run_pure, List.length_cons, List.length_nil, Nat.zero_add, Nat.mul_one]
      congr 1
      apply Array.ext'
      simp [List.map_take]
  | ku => simp [rowsOf, Go.undef] at hr
  | _ => simp [rowsOf] at hr

end
end Go.Fw
