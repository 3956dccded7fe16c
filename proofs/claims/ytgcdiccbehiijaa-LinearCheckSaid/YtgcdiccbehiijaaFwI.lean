/- The framework, part I: rows of cells. -/
import Derived.Test.YtgcdiccbehiijaaFwH
import Derived.Laws.MakeOwn
import Derived.Laws.Tables
import Derived.Great.BuildSlice
set_option linter.all false
set_option linter.unusedSimpArgs false
set_option linter.unusedVariables false
namespace Go.Fw
section
variable {P : Program} {T : Tab} {E : Env} {Z : Nat → Prop} {w : World} {σ : St}
theorem flatten_get : ∀ {rows : List (List AV)} {sz i j : Nat} {row : List AV} {av : AV}, (∀ r ∈ rows, r.length = sz) → rows[i]? = some row → row[j]? = some av → rows.flatten[i * sz + j]? = some av
  | [], _, _, _, _, _, _, h, _ => by simp at h
  | r :: rs, sz, 0, j, row, av, hl, hi, hj => by
    simp at hi; subst hi
    have hlt := (List.getElem?_eq_some_iff.1 hj).1
    simp only [List.flatten_cons, Nat.zero_mul, Nat.zero_add]
    rw [List.getElem?_append_left hlt]; exact hj
  | r :: rs, sz, i + 1, j, row, av, hl, hi, hj => by
    have h1 := hl r List.mem_cons_self
    simp only [List.getElem?_cons_succ] at hi
    have := flatten_get (fun r' hr' => hl r' (List.mem_cons_of_mem _ hr')) hi hj
    simp only [List.flatten_cons]
    rw [List.getElem?_append_right (by rw [h1, Nat.succ_mul]; omega)]
    rw [show (i + 1) * sz + j - r.length = i * sz + j by rw [h1, Nat.succ_mul]; omega]
    exact this
theorem flatten_length : ∀ {rows : List (List AV)} {sz : Nat}, (∀ r ∈ rows, r.length = sz) → rows.flatten.length = rows.length * sz
  | [], _, _ => by simp
  | r :: rs, sz, hl => by
    simp only [List.flatten_cons, List.length_append, List.length_cons]
    rw [flatten_length (fun r' hr' => hl r' (List.mem_cons_of_mem _ hr')), hl r List.mem_cons_self, Nat.succ_mul]
    omega
theorem flatten_get_inv {rows : List (List AV)} {sz m : Nat} {av : AV} (hsz : 0 < sz) (hl : ∀ r ∈ rows, r.length = sz) (h : rows.flatten[m]? = some av) :
    ∃ row, rows[m / sz]? = some row ∧ row[m % sz]? = some av := by
  have hm := (List.getElem?_eq_some_iff.1 h).1
  rw [flatten_length hl] at hm
  have hi : m / sz < rows.length := Nat.div_lt_of_lt_mul (by rwa [Nat.mul_comm] at hm)
  have hrow := List.getElem?_eq_getElem hi
  have hlr := hl _ (List.getElem_mem hi)
  have hj : m % sz < rows[m / sz].length := by rw [hlr]; exact Nat.mod_lt _ hsz
  refine ⟨_, hrow, ?_⟩
  have h2 := flatten_get hl hrow (List.getElem?_eq_getElem hj)
  rw [Nat.div_add_mod' m sz] at h2
  rw [List.getElem?_eq_getElem hj]
  rw [h2] at h; exact h
def RowsR (T : Tab) (E : Env) (Z : Nat → Prop) (w : World) (e : Nat) (rows : List (List AV)) (vs : List Value) : Prop :=
  (∀ row ∈ rows, rowOk (cts T e) row = true) ∧ VRs T E Z w rows.flatten vs
theorem RowsR.len {e : Nat} {rows : List (List AV)} (h : ∀ row ∈ rows, rowOk (cts T e) row = true) : ∀ r ∈ rows, r.length = (cts T e).length := fun r hr => (rowOk_get (h r hr)).1
theorem RowsR.length {e : Nat} {rows : List (List AV)} {vs : List Value} (h : RowsR T E Z w e rows vs) : vs.length = rows.length * (cts T e).length := by
  rw [← h.2.1, flatten_length (RowsR.len h.1)]
theorem RowsR.get {e : Nat} {rows : List (List AV)} {vs : List Value} (h : RowsR T E Z w e rows vs) {i j : Nat} {row : List AV} {av : AV} (hi : rows[i]? = some row) (hj : row[j]? = some av) :
    ∃ v, vs[i * (cts T e).length + j]? = some v ∧ VR T E Z w av v := by
  have h1 := flatten_get (RowsR.len h.1) hi hj
  have hlt := (List.getElem?_eq_some_iff.1 h1).1
  have hv := List.getElem?_eq_getElem (l := vs) (i := i * (cts T e).length + j) (by rw [← h.2.1]; exact hlt)
  exact ⟨_, hv, h.2.2 _ _ _ h1 hv⟩
theorem RowsR.of {e : Nat} {rows : List (List AV)} {vs : List Value} (hok : ∀ row ∈ rows, rowOk (cts T e) row = true) (hl : vs.length = rows.length * (cts T e).length) (hsz : 0 < (cts T e).length)
    (hr : ∀ (i : Nat) (row : List AV) (j : Nat) (av : AV) (v : Value), rows[i]? = some row → row[j]? = some av → vs[i * (cts T e).length + j]? = some v → VR T E Z w av v) : RowsR T E Z w e rows vs := by
  refine ⟨hok, by rw [flatten_length (RowsR.len hok), hl], fun m av v hm hv => ?_⟩
  obtain ⟨row, hi, hj⟩ := flatten_get_inv hsz (RowsR.len hok) hm
  exact hr _ row _ av v hi hj (by rw [Nat.div_add_mod']; exact hv)
theorem ok_cell {c : CT} {av : AV} {v : Value} (hc : c.ok av = true) (h : VR T E Z w av v) : v.oneCell' = true := by
  cases h with
  | undef v => cases c <;> simp [CT.ok] at hc
  | k v hs => cases v <;> simp [scalar] at hs <;> rfl
  | ku => cases c <;> simp [CT.ok, Go.undef] at hc
  | agg cs vs hl hr => cases c <;> simp [CT.ok] at hc
  | tup cs vs hl hr => cases c <;> simp [CT.ok] at hc
  | _ => rfl
theorem RowsR.one {e : Nat} {rows : List (List AV)} {vs : List Value} (h : RowsR T E Z w e rows vs) : ∀ v ∈ vs, v.oneCell' = true := fun v hv => by
  obtain ⟨m, hm, rfl⟩ := List.getElem_of_mem hv
  have hm' : m < rows.flatten.length := by rw [h.2.1]; exact hm
  have h1 := List.getElem?_eq_getElem hm'
  have hr := h.2.2 m _ _ h1 (List.getElem?_eq_getElem hm)
  have hmem := List.getElem_mem hm'
  obtain ⟨row, hrow, hin⟩ := List.mem_flatten.1 hmem
  obtain ⟨j, hj, hjx⟩ := List.getElem_of_mem hin
  obtain ⟨hl, hk⟩ := rowOk_get (h.1 row hrow)
  exact ok_cell (hk j _ _ (List.getElem?_eq_getElem (hl ▸ hj)) (by rw [List.getElem?_eq_getElem hj, hjx])) hr
theorem RowsR.append {e : Nat} {rows rows' : List (List AV)} {vs vs' : List Value} (h : RowsR T E Z w e rows vs) (h' : RowsR T E Z w e rows' vs') : RowsR T E Z w e (rows ++ rows') (vs ++ vs') := by
  refine ⟨fun row hr => (List.mem_append.1 hr).elim (h.1 row) (h'.1 row), by simp only [List.flatten_append, List.length_append, h.2.1, h'.2.1], fun m av v hm hv => ?_⟩
  rw [List.flatten_append] at hm
  rcases Nat.lt_or_ge m rows.flatten.length with hlt | hge
  · rw [List.getElem?_append_left hlt] at hm
    rw [List.getElem?_append_left (by rw [← h.2.1]; exact hlt)] at hv
    exact h.2.2 _ _ _ hm hv
  · rw [List.getElem?_append_right hge] at hm
    rw [List.getElem?_append_right (by rw [← h.2.1]; exact hge), ← h.2.1] at hv
    exact h'.2.2 _ _ _ hm hv
theorem flatten_take : ∀ {rows : List (List AV)} {sz : Nat} (n : Nat), (∀ r ∈ rows, r.length = sz) → (rows.take n).flatten = rows.flatten.take (n * sz)
  | rows, sz, 0, _ => by simp
  | [], sz, n + 1, _ => by simp
  | r :: rs, sz, n + 1, hl => by
    have h1 := hl r List.mem_cons_self
    simp only [List.take_succ_cons, List.flatten_cons]
    have e1 : List.take (n * sz + sz) r = r := List.take_of_length_le (by rw [h1]; omega)
    have e2 : n * sz + sz - sz = n * sz := by omega
    rw [flatten_take n (fun r' hr' => hl r' (List.mem_cons_of_mem _ hr')), List.take_append, h1, Nat.succ_mul, e1, e2]
theorem flatten_drop : ∀ {rows : List (List AV)} {sz : Nat} (n : Nat), (∀ r ∈ rows, r.length = sz) → (rows.drop n).flatten = rows.flatten.drop (n * sz)
  | rows, sz, 0, _ => by simp
  | [], sz, n + 1, _ => by simp
  | r :: rs, sz, n + 1, hl => by
    have h1 := hl r List.mem_cons_self
    simp only [List.drop_succ_cons, List.flatten_cons]
    have e1 : List.drop (n * sz + sz) r = [] := List.drop_of_length_le (by rw [h1]; omega)
    have e2 : n * sz + sz - sz = n * sz := by omega
    rw [flatten_drop n (fun r' hr' => hl r' (List.mem_cons_of_mem _ hr')), List.drop_append, h1, Nat.succ_mul, e1, e2, List.nil_append]
theorem VRs.take {l : List AV} {vs : List Value} (h : VRs T E Z w l vs) (n : Nat) : VRs T E Z w (l.take n) (vs.take n) := by
  refine ⟨by simp [h.1], fun j av v hj hv => ?_⟩
  rw [List.getElem?_take] at hj hv
  by_cases hlt : j < n
  · simp only [hlt, if_true] at hj hv; exact h.2 _ _ _ hj hv
  · simp [hlt] at hj
theorem VRs.drop {l : List AV} {vs : List Value} (h : VRs T E Z w l vs) (n : Nat) : VRs T E Z w (l.drop n) (vs.drop n) := by
  refine ⟨by simp [h.1], fun j av v hj hv => ?_⟩
  rw [List.getElem?_drop] at hj hv
  exact h.2 _ _ _ hj hv
theorem VRs.append {l l' : List AV} {vs vs' : List Value} (h : VRs T E Z w l vs) (h' : VRs T E Z w l' vs') : VRs T E Z w (l ++ l') (vs ++ vs') := by
  refine ⟨by simp [h.1, h'.1], fun m av v hm hv => ?_⟩
  rcases Nat.lt_or_ge m l.length with hlt | hge
  · rw [List.getElem?_append_left hlt] at hm
    rw [List.getElem?_append_left (by rw [← h.1]; exact hlt)] at hv
    exact h.2 _ _ _ hm hv
  · rw [List.getElem?_append_right hge] at hm
    rw [List.getElem?_append_right (by rw [← h.1]; exact hge), ← h.1] at hv
    exact h'.2 _ _ _ hm hv
theorem RowsR.take {e : Nat} {rows : List (List AV)} {vs : List Value} (h : RowsR T E Z w e rows vs) (n : Nat) : RowsR T E Z w e (rows.take n) (vs.take (n * (cts T e).length)) := by
  refine ⟨fun row hr => h.1 row (List.mem_of_mem_take hr), ?_⟩
  rw [flatten_take n (RowsR.len h.1)]; exact h.2.take _
theorem RowsR.drop {e : Nat} {rows : List (List AV)} {vs : List Value} (h : RowsR T E Z w e rows vs) (n : Nat) : RowsR T E Z w e (rows.drop n) (vs.drop (n * (cts T e).length)) := by
  refine ⟨fun row hr => h.1 row (List.mem_of_mem_drop hr), ?_⟩
  rw [flatten_drop n (RowsR.len h.1)]; exact h.2.drop _
theorem RowsR.mono {E' : Env} {Z' : Nat → Prop} {w' : World} {e : Nat} {rows : List (List AV)} {vs : List Value} (h : RowsR T E Z w e rows vs)
    (hE : ∀ i v, E.ρ i = some v → E'.ρ i = some v ∧ E'.sz i = E.sz i) (hZ : ∀ b, Z b → Z' b) (hw : ∀ b o, Z b → w'.cell? ⟨b, o, none⟩ = w.cell? ⟨b, o, none⟩) : RowsR T E' Z' w' e rows vs :=
  ⟨h.1, h.2.mono hE hZ hw⟩
theorem onRefs_row {e : Nat} {rows : List (List AV)} (hok : ∀ row ∈ rows, rowOk (cts T e) row = true) (h : AV → AV) : AV.onRefsL h rows.flatten = rows.flatten := by
  rw [onRefsL_eq]
  conv => rhs; rw [← List.map_id rows.flatten]
  refine List.map_congr_left fun x hx => ?_
  obtain ⟨row, hrow, hin⟩ := List.mem_flatten.1 hx
  obtain ⟨j, hj, hjx⟩ := List.getElem_of_mem hin
  exact rowOk_onRefs h (hok row hrow) (by rw [List.getElem?_eq_getElem hj, hjx])
theorem RowsR.env {E' : Env} {e : Nat} {rows : List (List AV)} {vs : List Value} (h : RowsR T E Z w e rows vs) : RowsR T E' Z w e rows vs := by
  refine ⟨h.1, ?_⟩
  have := h.2.map (E' := E') (Z' := Z) (w' := w) (fun _ => .undef) (fun _ hz => hz) (fun _ _ _ => rfl) (fun r v hr _ => .undef v)
  rwa [onRefs_row h.1] at this
theorem bytesRows_len (s : ByteArray) : (bytesRows s).length = s.size := by simp [bytesRows]
theorem elem_cts {e : Nat} {te : TI} (h : T e = some te) : cts T e = te.cells := by simp [cts, h]
theorem src_ok (hs : SR T E Z w σ.st) {e : Nat} {x : AV} {vx : Value} {ys : List (List AV)} (hx : VR T E Z w x vx) (hr : rowsOf σ x = some ys) (he : elemOk σ e x = true)
    (hstr : (∃ s, x = .k (.string s)) → cts T e = [.int .u8]) (hsz : 0 < (cts T e).length) :
    ∃ news : List Value, RowsR T E Z w e ys news ∧ (∀ w' : World, (Builtin.lenOf vx).run P w' = .ok ys.length w') ∧
      (∀ (w' : World) (m : Nat), w'.heap = w.heap → m ≤ ys.length → (Builtin.firstCells (cts T e).length m vx).run P w' = .ok (news.take (m * (cts T e).length)).toArray w') := by
  have fc : ∀ (A : Addr) (l c : Nat) (news : List Value), news.length = ys.length * (cts T e).length → (∀ j v, news[j]? = some v → w.cell? (A.add j) = some v) →
      ∀ (w' : World) (m : Nat), w'.heap = w.heap → m ≤ ys.length → (Builtin.firstCells (cts T e).length m (.slice (some A) l c)).run P w' = .ok (news.take (m * (cts T e).length)).toArray w' := fun A l c news hl hc w' m hw hm => by
    refine run_firstCells_some (P := P) w' (cts T e).length m A l c (news.take (m * (cts T e).length)) ?_ fun j v hj => ?_
    · rw [List.length_take, hl, Nat.min_eq_left (Nat.mul_le_mul_right _ hm)]
    · rw [List.getElem?_take] at hj
      by_cases hlt : j < m * (cts T e).length
      · simp only [hlt, if_true] at hj
        have := hc j v hj
        simpa [World.cell?, hw] using this
      · simp [hlt] at hj
  cases hx with
  | slnil t kd hk =>
    simp [rowsOf] at hr; subst hr
    exact ⟨[], ⟨fun _ h => by simp at h, ⟨rfl, fun j av v h => by simp at h⟩⟩, fun w' => by simp [Builtin.lenOf], fun w' m hw hm => by simp [Builtin.firstCells]⟩
  | sl t kd rows A c cv hn hf hc hsp hz hok hcell hrep =>
    simp [rowsOf] at hr; subst hr
    have hte : t = e := by
      unfold elemOk at he
      cases kd <;> first | exact absurd rfl hn | exact Nat.eq_of_beq_eq_true he
    subst hte
    let news : List Value := (List.range (rows.length * (cts T t).length)).map fun m => cv (m / (cts T t).length) (m % (cts T t).length)
    have hnl : news.length = rows.length * (cts T t).length := by simp [news]
    have hng : ∀ m v, news[m]? = some v → m < rows.length * (cts T t).length ∧ v = cv (m / (cts T t).length) (m % (cts T t).length) := fun m v hm => by
      simp only [news, List.getElem?_map] at hm
      by_cases hlt : m < rows.length * (cts T t).length
      · rw [List.getElem?_range hlt] at hm; simp at hm; exact ⟨hlt, hm.symm⟩
      · rw [List.getElem?_eq_none (by simpa using hlt)] at hm; simp at hm
    have hat : ∀ m, m < rows.length * (cts T t).length → ∃ row av, rows[m / (cts T t).length]? = some row ∧ row[m % (cts T t).length]? = some av := fun m hm => by
      have hi : m / (cts T t).length < rows.length := Nat.div_lt_of_lt_mul (by rwa [Nat.mul_comm] at hm)
      have hrow := List.getElem?_eq_getElem hi
      have hlr := (rowOk_get (hok _ (List.getElem_mem hi))).1
      exact ⟨_, _, hrow, List.getElem?_eq_getElem (by rw [hlr]; exact Nat.mod_lt _ hsz)⟩
    have hdm : ∀ i j, j < (cts T t).length → (i * (cts T t).length + j) / (cts T t).length = i ∧ (i * (cts T t).length + j) % (cts T t).length = j := fun i j hj => by
      rw [Nat.mul_comm, Nat.mul_add_div hsz, Nat.mul_add_mod]
      exact ⟨by rw [Nat.div_eq_of_lt hj]; omega, Nat.mod_eq_of_lt hj⟩
    refine ⟨news, RowsR.of hok hnl hsz (fun i row j av v hi hj hv => ?_), fun w' => by simp [Builtin.lenOf], fc A _ _ news hnl fun m v hm => ?_⟩
    · obtain ⟨hlt, rfl⟩ := hng _ _ hv
      have hjl : j < (cts T t).length := by
        have := (List.getElem?_eq_some_iff.1 hj).1
        rw [(rowOk_get (hok row (List.mem_of_getElem? hi))).1] at this; exact this
      rw [(hdm i j hjl).1, (hdm i j hjl).2]
      exact hrep i row j av hi hj
    · obtain ⟨hlt, rfl⟩ := hng _ _ hm
      obtain ⟨row, av, hi, hj⟩ := hat m hlt
      have := hcell _ _ _ _ hi hj
      rw [Nat.div_add_mod'] at this
      have hcz : c ≠ 0 := by have hlr := (List.getElem?_eq_some_iff.1 hi).1; exact Nat.ne_of_gt (Nat.lt_of_lt_of_le (Nat.lt_of_le_of_lt (Nat.zero_le _) hlr) hc)
      rw [add_none (hsp hcz)]; exact this
  | sr id A n c hE =>
    simp only [rowsOf] at hr
    split at hr
    · rename_i u kd rows hst
      have hr := Option.some.inj hr
      subst hr
      simp only [elemOk, hst] at he
      obtain rfl := Nat.eq_of_beq_eq_true he
      have hor := hs.obj id _ (getD_some hst (by simp))
      cases hor with
      | arr0 _ _ A' he' hn hk hsz' =>
        rw [hE] at he'; cases he'
        refine ⟨[], ⟨fun _ h => by simp at h, ⟨rfl, fun j av v h => by simp at h⟩⟩, fun w' => by simp [Builtin.lenOf], fun w' m hw hm => ?_⟩
        have : m = 0 := by simpa using hm
        subst this
        cases A <;> simp [Builtin.firstCells, loadCells, loadCellsFrom]
      | arr _ _ _ B o c' vs ty hn he' hc h0 hf hsz' hb ho hok hrr =>
        rw [hE] at he'; cases he'
        have hle : o + rows.length * (cts T u).length ≤ vs.length := Nat.le_trans (Nat.add_le_add_left (Nat.mul_le_mul_right _ hc) _) ho
        refine ⟨(vs.drop o).take (rows.length * (cts T u).length), RowsR.of hok (by simp; omega) hsz (fun i row j av v hi hj hv => ?_), fun w' => by simp [Builtin.lenOf], fc ⟨B, o, none⟩ _ _ _ (by simp; omega) fun m v hm => ?_⟩
        · rw [List.getElem?_take] at hv
          split at hv
          · rw [List.getElem?_drop] at hv; exact hrr i row j av v hi hj hv
          · cases hv
        · rw [List.getElem?_take] at hm
          split at hm
          · rw [List.getElem?_drop] at hm
            rw [add_none rfl, cell_of hb]; exact hm
          · cases hm
    · cases hr
  | ss id a n A A' len c hE hb' hA =>
    simp only [rowsOf] at hr
    split at hr
    · rename_i u kd rows hst
      have hr := Option.some.inj hr
      subst hr
      simp only [elemOk, hst] at he
      obtain rfl := Nat.eq_of_beq_eq_true he
      have hor := hs.obj id _ (getD_some hst (by simp))
      cases hor with
      | arr0 _ _ A'' he' hn hk hsz' =>
        rw [hE] at he'; cases he'
        have : n = 0 := by omega
        subst this
        refine ⟨[], ⟨fun _ h => by simp at h, ⟨by simp, fun j av v h => by simp at h⟩⟩, fun w' => by simp [Builtin.lenOf], fun w' m hw hm => ?_⟩
        have : m = 0 := by simpa using hm
        subst this
        cases A' <;> simp [Builtin.firstCells, loadCells, loadCellsFrom]
      | arr _ _ _ B o c' vs ty hn he' hc h0 hf hsz' hb ho hok hrr =>
        rw [hE] at he'
        simp only [Option.some.injEq, Value.slice.injEq] at he'
        obtain ⟨rfl, rfl, rfl⟩ := he'
        have hyl : ((rows.drop a).take n).length = n := by simp; omega
        have hle : o + rows.length * (cts T u).length ≤ vs.length := Nat.le_trans (Nat.add_le_add_left (Nat.mul_le_mul_right _ hc) _) ho
        have han : (a + n) * (cts T u).length ≤ rows.length * (cts T u).length := Nat.mul_le_mul_right _ hb'
        rw [Nat.add_mul] at han
        have hokp : ∀ row ∈ (rows.drop a).take n, rowOk (cts T u) row = true := fun row hrow => hok row (List.mem_of_mem_drop (List.mem_of_mem_take hrow))
        have hnl : ((vs.drop (o + a * (cts T u).length)).take (n * (cts T u).length)).length = n * (cts T u).length := by simp; omega
        have hRR : RowsR T E Z w u ((rows.drop a).take n) ((vs.drop (o + a * (cts T u).length)).take (n * (cts T u).length)) := by
          refine RowsR.of hokp (by rw [hyl]; exact hnl) hsz (fun i row j av v hi hj hv => ?_)
          rw [List.getElem?_take] at hi hv
          split at hi
          · rw [List.getElem?_drop] at hi
            split at hv
            · rw [List.getElem?_drop] at hv
              refine hrr (a + i) row j av v hi hj ?_
              rw [Nat.add_mul]; simpa [Nat.add_assoc] using hv
            · cases hv
          · cases hi
        by_cases hac : a < c
        · have := hA hac
          subst this
          refine ⟨_, hRR, fun w' => by simp [Builtin.lenOf, hyl], fc ⟨B, o + a * E.sz id, none⟩ _ _ _ (by rw [hyl]; exact hnl) fun m v hm => ?_⟩
          rw [List.getElem?_take] at hm
          split at hm
          · rw [List.getElem?_drop] at hm
            rw [add_none rfl, cell_of hb, hsz']; exact hm
          · cases hm
        · have hn0 : n = 0 := by omega
          subst hn0
          refine ⟨[], ⟨fun _ h => by simp at h, ⟨by simp, fun j av v h => by simp at h⟩⟩, fun w' => by simp [Builtin.lenOf], fun w' m hw hm => ?_⟩
          have : m = 0 := by simpa using hm
          subst this
          cases A' <;> simp [Builtin.firstCells, loadCells, loadCellsFrom]
    · cases hr
  | k _ hs' =>
    cases vx <;> simp [rowsOf] at hr
    rename_i s
    subst hr
    have h8 := hstr ⟨s, rfl⟩
    refine ⟨s.data.toList.map fun b => .int .u8 (b.toNat : Int), RowsR.of ?_ ?_ hsz ?_, fun w' => by simp [Builtin.lenOf, bytesRows], fun w' m hw hm => ?_⟩
    · intro row hrow
      simp only [bytesRows, List.mem_map] at hrow
      obtain ⟨b, _, rfl⟩ := hrow
      rw [h8]; rfl
    · rw [h8]; simp [bytesRows]
    · intro i row j av v hi hj hv
      rw [h8] at hv
      simp only [bytesRows, List.getElem?_map, Option.map_eq_some_iff] at hi
      obtain ⟨b, hb, rfl⟩ := hi
      have hj0 : j = 0 := by
        have := (List.getElem?_eq_some_iff.1 hj).1
        simp at this; exact this
      subst hj0
      simp at hj; subst hj
      simp at hv
      obtain ⟨b', hb', rfl⟩ := hv
      rw [Array.getElem?_toList] at hb
      rw [hb] at hb'; cases hb'
      exact .k _ rfl
    · rw [h8]
      simp only [Builtin.firstCells, Sem.run_pure, List.length_cons, List.length_nil, Nat.zero_add, Nat.mul_one]
      congr 1
      apply Array.ext'
      simp [List.map_take]
  | ku => simp [rowsOf, Go.undef] at hr
  | _ => simp [rowsOf] at hr
end
end Go.Fw
set_option linter.unusedSimpArgs false
set_option linter.unusedVariables false
namespace Go.Fw
section
variable {P : Program} {T : Tab} {E : Env} {Z : Nat → Prop} {w w' : World} {σ : St} {vals : List Value}
structure Grew (w w' : World) (o : Obj) : Prop where
  heap : w'.heap = w.heap.push o
  os : w'.os = w.os
  tape : w'.tape = w.tape
  output : w'.output = w.output
theorem Grew.old {o : Obj} (h : Grew w w' o) (b : Nat) (hb : b < w.heap.size) : w'.heap[b]? = w.heap[b]? := by
  rw [h.heap, Array.getElem?_push, if_neg (by omega)]
theorem Grew.new {o : Obj} (h : Grew w w' o) : w'.heap[w.heap.size]? = some o := by rw [h.heap]; simp
theorem Grew.size {o : Obj} (h : Grew w w' o) : w'.heap.size = w.heap.size + 1 := by rw [h.heap]; simp
theorem Grew.alloc (w : World) (o : Obj) : Grew w (w.alloc o) o := ⟨rfl, rfl, rfl, rfl⟩
theorem Grew.drewAlloc (w : World) (o : Obj) : Grew w (w.drew.alloc o) o := ⟨rfl, rfl, rfl, rfl⟩
theorem StR.new (h : StR T E Z w σ vals) (o : AObj) (v : Value) (s : Nat) (hold : ∀ b, b < w.heap.size → w'.heap[b]? = w.heap[b]?) (hsz : w.heap.size ≤ w'.heap.size)
    (hos : w'.os = w.os) (htape : w'.tape = w.tape) (hout : w'.output = w.output)
    (ho : OR T (E.snoc σ.st.length v s) Z w' σ.st.length o) (hnew : ∀ B, ownsO (E.snoc σ.st.length v s) σ.st.length o B → w.heap.size ≤ B) :
    StR T (E.snoc σ.st.length v s) Z w' (σ.new o) vals ∧ Ext (Owned E σ.st) Z w (Owned (E.snoc σ.st.length v s) (σ.st ++ [o])) Z w' := by
  obtain ⟨h1, h2⟩ := h.sr.new o v s hold hsz ho hnew
  refine ⟨⟨h1, h.tm.mono (h.sr.snoc_le v s) (fun _ hz => hz) (h.sr.zcell fun b hb _ => hold b hb)⟩, ⟨hos, htape, hout, hsz, fun b hb _ => hold b hb, fun _ hz => hz, fun _ hz => .inl hz, h2⟩⟩
def SameE (n : Nat) (E E' : Env) : Prop := ∀ i, i < n → E'.ρ i = E.ρ i ∧ E'.sz i = E.sz i
theorem SameE.snoc (E : Env) (n : Nat) (v : Value) (s : Nat) : SameE n E (E.snoc n v s) := fun i hi => by
  have : i ≠ n := by omega
  simp [Env.snoc, this]
theorem snoc_ρ (E : Env) (n : Nat) (v : Value) (s : Nat) : (E.snoc n v s).ρ n = some v := by simp [Env.snoc]
theorem snoc_sz (E : Env) (n : Nat) (v : Value) (s : Nat) : (E.snoc n v s).sz n = s := by simp [Env.snoc]
theorem StR.newBox (h : StR T E Z w σ vals) (t : Nat) {cs : List AV} {vs : List Value} (hr : VRs T E Z w cs vs) (ty : TypeId) :
    ∃ E', StR T E' Z (w.alloc (.cells vs.toArray ty)) (σ.new (.box t cs)) vals ∧ VR T E' Z (w.alloc (.cells vs.toArray ty)) (.ptr σ.st.length 0) (.pointer (some ⟨w.heap.size, 0, none⟩)) ∧
      Ext (Owned E σ.st) Z w (Owned E' (σ.st ++ [.box t cs])) Z (w.alloc (.cells vs.toArray ty)) ∧ SameE σ.st.length E E' := by
  have hg := Grew.alloc w (.cells vs.toArray ty)
  have := h.new (w' := w.alloc (.cells vs.toArray ty)) (.box t cs) (.pointer (some ⟨w.heap.size, 0, none⟩)) 0 hg.old (by rw [hg.size]; omega) rfl rfl rfl
    (.box t cs w.heap.size vs ty (snoc_ρ _ _ _ _) hg.new (hr.mono (h.sr.snoc_le _ _) (fun _ hz => hz) (h.sr.zcell fun b hb _ => hg.old b hb)))
    (fun B hB => by obtain ⟨A, hA, rfl⟩ := hB; rw [snoc_ρ] at hA; cases hA; exact Nat.le_refl _)
  exact ⟨_, this.1, .ptr _ _ _ (snoc_ρ _ _ _ _), this.2, SameE.snoc _ _ _ _⟩
theorem StR.newArr (h : StR T E Z w σ vals) {e : Nat} {rows : List (List AV)} {vs rest : List Value} (hr : RowsR T E Z w e rows vs) (hsz : 0 < (cts T e).length) {c : Nat} (hc : rows.length ≤ c) (h0 : c ≠ 0)
    (hl : (vs ++ rest).length = c * (cts T e).length) (kd : SK) (hn : kd ≠ .nil) (hf : (kd = .full ∨ kd = .anyf → c = rows.length) ∧ (kd = .fresh → Spare T e (vs ++ rest) 0 rows.length c)) (ty : TypeId) (hg : Grew w w' (.cells (vs ++ rest).toArray ty)) :
    ∃ E', StR T E' Z w' (σ.new (.arr e kd rows)) vals ∧ VR T E' Z w' (.sr σ.st.length) (.slice (some ⟨w.heap.size, 0, none⟩) rows.length c) ∧
      Ext (Owned E σ.st) Z w (Owned E' (σ.st ++ [.arr e kd rows])) Z w' ∧ SameE σ.st.length E E' := by
  have hm := hr.mono (E' := E.snoc σ.st.length (.slice (some ⟨w.heap.size, 0, none⟩) rows.length c) (cts T e).length) (w' := w') (h.sr.snoc_le _ _) (fun _ hz => hz) (h.sr.zcell fun b hb _ => hg.old b hb)
  have := h.new (w' := w') (.arr e kd rows) (.slice (some ⟨w.heap.size, 0, none⟩) rows.length c) (cts T e).length hg.old (by rw [hg.size]; omega) hg.os hg.tape hg.output
    (.arr e kd rows w.heap.size 0 c (vs ++ rest) ty hn (snoc_ρ _ _ _ _) hc h0 hf (snoc_sz _ _ _ _) hg.new (by rw [Nat.zero_add, hl]; exact Nat.le_refl _) hr.1 (fun i row j av v hi hj hv => by
      obtain ⟨v', hv', hr'⟩ := hm.get hi hj
      rw [Nat.zero_add, List.getElem?_append_left (List.getElem?_eq_some_iff.1 hv').1, hv'] at hv
      cases hv; exact hr'))
    (fun B hB => by obtain ⟨A, n, c', hA, _, rfl⟩ := hB; rw [snoc_ρ] at hA; cases hA; exact Nat.le_refl _)
  exact ⟨_, this.1, .sr _ _ _ _ (snoc_ρ _ _ _ _), this.2, SameE.snoc _ _ _ _⟩
theorem StR.newArr0 (h : StR T E Z w σ vals) (e : Nat) (kd : SK) (A : Option Addr) (hn : kd ≠ .nil) (hk : A = none → kd = .any) :
    ∃ E', StR T E' Z w (σ.new (.arr e kd [])) vals ∧ VR T E' Z w (.sr σ.st.length) (.slice A 0 0) ∧ Ext (Owned E σ.st) Z w (Owned E' (σ.st ++ [.arr e kd []])) Z w ∧ SameE σ.st.length E E' := by
  have := h.new (w' := w) (.arr e kd []) (.slice A 0 0) (cts T e).length (fun _ _ => rfl) (Nat.le_refl _) rfl rfl rfl
    (.arr0 e kd A (snoc_ρ _ _ _ _) hn hk (snoc_sz _ _ _ _))
    (fun B hB => by obtain ⟨A', n, c', hA, h0, _⟩ := hB; rw [snoc_ρ] at hA; cases hA; exact absurd rfl h0)
  exact ⟨_, this.1, .sr _ _ _ _ (snoc_ρ _ _ _ _), this.2, SameE.snoc _ _ _ _⟩
structure OnlyAt (B : Nat) (w w' : World) : Prop where
  other : ∀ b, b ≠ B → w'.heap[b]? = w.heap[b]?
  size : w'.heap.size = w.heap.size
  os : w'.os = w.os
  tape : w'.tape = w.tape
  output : w'.output = w.output
theorem OnlyAt.setRow (w : World) (B : Nat) (cs : Array Value) : OnlyAt B w (w.setRow B cs) :=
  ⟨fun b hb => setRow_other w B b cs hb, by simp, rfl, rfl, rfl⟩
theorem StR.write (h : StR T E Z w σ vals) {id B : Nat} {o' : AObj} (hid : id < σ.st.length) (hB : owns E σ.st id B) (hw : OnlyAt B w w') (ho : OR T E Z w' id o') (hown : ∀ C, ownsO E id o' C → C = B) :
    StR T E Z w' { σ with st := σ.st.set id o' } vals ∧ Ext (Owned E σ.st) Z w (Owned E (σ.st.set id o')) Z w' := by
  have hun : ∀ b, b < w.heap.size → ¬ Owned E σ.st b → w'.heap[b]? = w.heap[b]? := fun b _ hno => hw.other b (fun e => hno (e ▸ ⟨id, hB⟩))
  obtain ⟨h1, h2⟩ := h.sr.update (w' := w') hid (fun j C hj hC => hw.other C (fun e => hj (h.sr.inj j id B (e ▸ hC) hB))) hun (by rw [hw.size]; exact Nat.le_refl _) ho (fun C hC => by rw [hown C hC]; exact hB)
  exact ⟨⟨h1, h.tm.mono (fun i v hv => ⟨hv, rfl⟩) (fun _ hz => hz) (h.sr.zcell hun)⟩,
    ⟨hw.os, hw.tape, hw.output, by rw [hw.size]; exact Nat.le_refl _, hun, fun _ hz => hz, fun _ hz => .inl hz, fun b hb => .inl (h2 b hb)⟩⟩
def Env.setρ (E : Env) (id : Nat) (v : Value) : Env := { E with ρ := fun i => if i = id then some v else E.ρ i }
theorem StR.move (h : StR T E Z w σ vals) {id : Nat} {o' : AObj} (v : Value) (hid : id < σ.st.length)
    (hother : ∀ b, b < w.heap.size → ¬ owns E σ.st id b → w'.heap[b]? = w.heap[b]?) (hsz : w.heap.size ≤ w'.heap.size) (hos : w'.os = w.os) (htape : w'.tape = w.tape) (hout : w'.output = w.output)
    (ho : OR T (E.setρ id v) Z w' id o') (hown : ∀ C, ownsO (E.setρ id v) id o' C → owns E σ.st id C ∨ w.heap.size ≤ C) :
    StR T (E.setρ id v) Z w' { σ.scrub id with st := (σ.scrub id).st.set id o' } vals ∧ Ext (Owned E σ.st) Z w (Owned (E.setρ id v) ((σ.scrub id).st.set id o')) Z w' := by
  have hρ : ∀ i, i ≠ id → (E.setρ id v).ρ i = E.ρ i := fun i hi => by simp [Env.setρ, hi]
  have hun : ∀ b, b < w.heap.size → ¬ Owned E σ.st b → w'.heap[b]? = w.heap[b]? := fun b hb hno => hother b hb (fun hB => hno ⟨id, hB⟩)
  have hleaf : ∀ r u, isRef r = true → VR T E Z w r u → VR T (E.setρ id v) Z w' (scrub1 id r) u := fun r u hr hv => by
    cases hv <;> simp [isRef] at hr
    case sr i A n c he =>
      simp only [scrub1]
      cases hi : Nat.beq i id with
      | true => exact .undef _
      | false => exact .sr _ _ _ _ (by rw [hρ i (Nat.ne_of_beq_eq_false hi)]; exact he)
    case ss i a n A A' len c he hb hA =>
      simp only [scrub1]
      cases hi : Nat.beq i id with
      | true => exact .undef _
      | false => exact .ss _ _ _ _ _ _ _ (by rw [hρ i (Nat.ne_of_beq_eq_false hi)]; exact he) hb hA
    case ptr i off B he =>
      simp only [scrub1]
      cases hi : Nat.beq i id with
      | true => exact .undef _
      | false => exact .ptr _ _ _ (by rw [hρ i (Nat.ne_of_beq_eq_false hi)]; exact he)
    case ap i k off A n c he hk =>
      simp only [scrub1]
      cases hi : Nat.beq i id with
      | true => exact .undef _
      | false => exact .ap i k off A n c (by rw [hρ i (Nat.ne_of_beq_eq_false hi)]; exact he) hk
    case yl i l he =>
      simp only [scrub1]
      cases hi : Nat.beq i id with
      | true => exact .undef _
      | false => exact .yl _ _ (by rw [hρ i (Nat.ne_of_beq_eq_false hi)]; exact he)
    case mp i r he =>
      simp only [scrub1]
      cases hi : Nat.beq i id with
      | true => exact .undef _
      | false => exact .mp _ _ (by rw [hρ i (Nat.ne_of_beq_eq_false hi)]; exact he)
  have hst : ∀ j o, ((σ.scrub id).st.set id o')[j]? = some o → (j = id ∧ o = o') ∨ (j ≠ id ∧ ∃ x, σ.st[j]? = some x ∧ o = x.onRefs (scrub1 id)) := fun j o hj => by
    by_cases hji : j = id
    · subst hji
      rw [List.getElem?_set_self (by simpa [St.scrub] using hid)] at hj
      exact .inl ⟨rfl, (Option.some.inj hj).symm⟩
    · rw [List.getElem?_set_ne (Ne.symm hji)] at hj
      simp only [St.scrub, List.getElem?_map, Option.map_eq_some_iff] at hj
      obtain ⟨x, hx, rfl⟩ := hj
      exact .inr ⟨hji, x, hx, rfl⟩
  have hown' : ∀ j C, owns (E.setρ id v) ((σ.scrub id).st.set id o') j C → (j = id ∧ (owns E σ.st id C ∨ w.heap.size ≤ C)) ∨ (j ≠ id ∧ owns E σ.st j C) := fun j C hj => by
    obtain ⟨o, hjo, hC⟩ := owns_get hj
    rcases hst j o hjo with ⟨rfl, rfl⟩ | ⟨hji, x, hx, rfl⟩
    · exact .inl ⟨rfl, hown C hC⟩
    · refine .inr ⟨hji, (owns_some hx).2 ?_⟩
      cases x <;> simp [ownsO, AObj.onRefs, hρ j hji] at hC ⊢ <;> exact hC
  have hzc := h.sr.zcell hun
  refine ⟨⟨⟨fun j o hj => ?_, fun j hj => ?_, fun i j B hi hj => ?_, fun B hB => ?_, fun B hz => Nat.lt_of_lt_of_le (h.sr.zlt B hz) hsz⟩, ?_⟩,
    ⟨hos, htape, hout, hsz, hun, fun _ hz => hz, fun _ hz => .inl hz, fun b hb => ?_⟩⟩
  · rcases hst j o hj with ⟨rfl, rfl⟩ | ⟨hji, x, hx, rfl⟩
    · exact ho
    · have hor := h.sr.obj j x hx
      exact hor.map (scrub1 id) (fun _ hz => hz) hzc hleaf (hρ j hji) rfl
        (fun B hB => hother B (hor.owns_heap hB) (fun hb => hji (h.sr.inj j id B ((owns_some hx).2 hB) hb)))
  · have hj' : σ.st.length ≤ j := by simpa [St.scrub] using hj
    rw [hρ j (by omega)]; exact h.sr.out j hj'
  · rcases hown' i B hi with ⟨hie, hi2⟩ | ⟨hii, hi2⟩ <;> rcases hown' j B hj with ⟨hje, hj2⟩ | ⟨hjj, hj2⟩
    · rw [hie, hje]
    · rcases hi2 with hi2 | hi2
      · exact hie.trans (h.sr.inj _ _ B hi2 hj2)
      · exact absurd (h.sr.owns_lt hj2) (by omega)
    · rcases hj2 with hj2 | hj2
      · exact (h.sr.inj _ _ B hi2 hj2).trans hje.symm
      · exact absurd (h.sr.owns_lt hi2) (by omega)
    · exact h.sr.inj _ _ B hi2 hj2
  · obtain ⟨j, hj⟩ := hB
    rcases hown' j B hj with ⟨rfl, hj | hj⟩ | ⟨_, hj⟩
    · exact h.sr.zown B ⟨_, hj⟩
    · exact fun hz => absurd (h.sr.zlt B hz) (by omega)
    · exact h.sr.zown B ⟨_, hj⟩
  · exact h.tm.map (scrub1 id) (fun _ hz => hz) hzc hleaf
  · obtain ⟨j, hj⟩ := hb
    rcases hown' j b hj with ⟨rfl, hj | hj⟩ | ⟨_, hj⟩
    · exact .inl ⟨_, hj⟩
    · exact .inr hj
    · exact .inl ⟨_, hj⟩
end
end Go.Fw
set_option linter.unusedSimpArgs false
set_option linter.unusedVariables false
namespace Go.Fw
section
variable {P : Program} {T : Tab} {E : Env} {Z : Nat → Prop} {w w' : World} {σ σ' : St} {vals : List Value}
theorem set_self {l : List AObj} {i : Nat} {o : AObj} (h : l[i]? = some o) : l.set i o = l := by
  obtain ⟨hi, rfl⟩ := List.getElem?_eq_some_iff.1 h
  exact List.set_getElem_self hi
structure Mv (σ : St) (E : Env) (σ' : St) (E' : Env) : Prop where
  sub : ∀ i ∈ σ.moved, i ∈ σ'.moved
  same : ∀ i, i < σ.st.length → i ∉ σ'.moved → E'.ρ i = E.ρ i ∧ E'.sz i = E.sz i
theorem Mv.refl {E : Env} (σ σ' : St) (h : σ'.moved = σ.moved) : Mv σ E σ' E := ⟨fun i hi => h ▸ hi, fun _ _ _ => ⟨rfl, rfl⟩⟩
theorem Mv.of {E E' : Env} {σ σ' : St} (h : σ'.moved = σ.moved) (hE : SameE σ.st.length E E') : Mv σ E σ' E' := ⟨fun i hi => h ▸ hi, fun i hi _ => hE i hi⟩
def OpRes (P : Program) (T : Tab) (E : Env) (Z : Nat → Prop) (w : World) (vals : List Value) (σ : St) (s : Sem Value) (σ' : St) (av : AV) : Prop :=
  ∃ E' Z' w' v, s.run P w = .ok v w' ∧ StR T E' Z' w' σ' vals ∧ VR T E' Z' w' av v ∧ Ext (Owned E σ.st) Z w (Owned E' σ'.st) Z' w' ∧ Mv σ E σ' E'
theorem OpRes.pure (h : StR T E Z w σ vals) {s : Sem Value} {av : AV} (hs : ∃ v, s.run P w = .ok v w ∧ VR T E Z w av v) : OpRes P T E Z w vals σ s σ av := by
  obtain ⟨v, hr, hv⟩ := hs
  exact ⟨E, Z, w, v, hr, h, hv, Ext.refl _ _ _, Mv.refl _ _ rfl⟩
theorem arr_rows {e : Nat} {rows : List (List AV)} {o c : Nat} {vs : List Value} (hc : rows.length ≤ c) (ho : o + c * (cts T e).length ≤ vs.length) (hok : ∀ row ∈ rows, rowOk (cts T e) row = true)
    (hsz : 0 < (cts T e).length)
    (hr : ∀ (i : Nat) (row : List AV) (j : Nat) (av : AV) (v : Value), rows[i]? = some row → row[j]? = some av → vs[o + (i * (cts T e).length + j)]? = some v → VR T E Z w av v) :
    RowsR T E Z w e rows ((vs.drop o).take (rows.length * (cts T e).length)) := by
  have hle : o + rows.length * (cts T e).length ≤ vs.length := Nat.le_trans (Nat.add_le_add_left (Nat.mul_le_mul_right _ hc) _) ho
  refine RowsR.of hok (by simp; omega) hsz (fun i row j av v hi hj hv => ?_)
  rw [List.getElem?_take] at hv
  split at hv
  · rw [List.getElem?_drop] at hv; exact hr i row j av v hi hj hv
  · cases hv
theorem arr_of {e : Nat} {rows : List (List AV)} {o : Nat} {vs : List Value} (h : RowsR T E Z w e rows ((vs.drop o).take (rows.length * (cts T e).length)))
    (i : Nat) (row : List AV) (j : Nat) (av : AV) (v : Value) (hi : rows[i]? = some row) (hj : row[j]? = some av) (hv : vs[o + (i * (cts T e).length + j)]? = some v) : VR T E Z w av v := by
  obtain ⟨v', hv', hr⟩ := h.get hi hj
  rw [List.getElem?_take] at hv'
  split at hv'
  · rw [List.getElem?_drop, hv] at hv'; cases hv'; exact hr
  · cases hv'
theorem seg_eq (vs news : List Value) (o m N : Nat) (h : o + N ≤ vs.length) (hm : m + news.length ≤ N) :
    ((vs.take (o + m) ++ news ++ vs.drop (o + m + news.length)).drop o).take N = ((vs.drop o).take N).take m ++ news ++ ((vs.drop o).take N).drop (m + news.length) := by
  apply List.ext_getElem?
  intro j
  simp only [List.getElem?_take, List.getElem?_drop, List.getElem?_append, List.length_append, List.length_take, List.length_drop, Nat.min_def]
  repeat' split
  all_goals first | omega | rfl | (congr 1; omega) | (simp_all; done) | skip
  all_goals (try (exfalso; omega))
theorem Spare.store {T : Tab} {t : Nat} {vs : List Value} {o n c m : Nat} {news : List Value} (h : Spare T t vs o n c) (hm : m + news.length ≤ n * (cts T t).length) (hle : o + n * (cts T t).length ≤ vs.length) :
    Spare T t (vs.take (o + m) ++ news ++ vs.drop (o + m + news.length)) o n c := fun j hj hjc => by
  obtain ⟨ct, h1, h2⟩ := h j hj hjc
  refine ⟨ct, h1, ?_⟩
  rw [List.append_assoc, List.getElem?_append_right (by simp; omega), List.getElem?_append_right (by simp; omega), List.getElem?_drop]
  rw [← h2]
  congr 1
  simp
  omega
theorem StR.storeArr (h : StR T E Z w σ vals) {id e : Nat} {kd : SK} {rows rows' : List (List AV)} {A : Option Addr} {n c : Nat} (hst : σ.st[id]? = some (.arr e kd rows)) (hE : E.ρ id = some (.slice A n c))
    (hsz : 0 < (cts T e).length) (m : Nat) {avs : List AV} {news : List Value} (hav : VRs T E Z w avs news) (hone : ∀ v ∈ news, v.oneCell' = true) (hm : m + news.length ≤ rows.length * (cts T e).length)
    (hl : rows'.length = rows.length) (hok : ∀ row ∈ rows', rowOk (cts T e) row = true) (hflat : rows'.flatten = rows.flatten.take m ++ avs ++ rows.flatten.drop (m + avs.length)) :
    n = rows.length ∧ (rows ≠ [] → ∃ B o, A = some ⟨B, o, none⟩) ∧
    ∀ B o, A = some ⟨B, o, none⟩ → ∃ w', (storeCells ⟨B, o + m, none⟩ news).run P w = .ok () w' ∧ StR T E Z w' { σ with st := σ.st.set id (.arr e kd rows') } vals ∧
      Ext (Owned E σ.st) Z w (Owned E (σ.st.set id (.arr e kd rows'))) Z w' := by
  have hor := h.sr.obj id _ hst
  cases hor with
  | arr0 _ _ A' he' hn hk hsz' =>
    rw [hE] at he'; cases he'
    refine ⟨rfl, fun hne => absurd rfl hne, fun B o hA => ?_⟩
    have hn0 : news = [] := List.length_eq_zero_iff.1 (by simp only [List.length_nil, Nat.zero_mul] at hm; omega)
    subst hn0
    have hr' : rows' = [] := List.length_eq_zero_iff.1 (by simpa using hl)
    subst hr'
    refine ⟨w, by simp [storeCells], ?_⟩
    have hset : σ.st.set id (.arr e kd []) = σ.st := set_self hst
    rw [hset]
    exact ⟨h, Ext.refl _ _ _⟩
  | arr _ _ _ B o c' vs ty hn he' hc h0 hf hsz' hb ho hokr hr =>
    rw [hE] at he'
    simp only [Option.some.injEq, Value.slice.injEq] at he'
    obtain ⟨rfl, rfl, rfl⟩ := he'
    refine ⟨rfl, fun _ => ⟨_, _, rfl⟩, fun B' o' hA => ?_⟩
    cases hA
    have hle : o + rows.length * (cts T e).length ≤ vs.length := Nat.le_trans (Nat.add_le_add_left (Nat.mul_le_mul_right _ hc) _) ho
    have hR := arr_rows hc ho hokr hsz hr
    have hid : id < σ.st.length := (List.getElem?_eq_some_iff.1 hst).1
    have hrun := run_storeCells_at P B (o + m) ty news 0 vs.toArray w hb (by simp; omega) hone
    simp only [Nat.add_zero] at hrun
    refine ⟨_, hrun, ?_⟩
    have hon := OnlyAt.setRow w B (vs.take (o + m) ++ news ++ vs.drop (o + m + news.length)).toArray
    have hheap := setRow_heap w B vs.toArray (vs.take (o + m) ++ news ++ vs.drop (o + m + news.length)).toArray ty (0, 0) hb
    have hB : owns E σ.st id B := (owns_some hst).2 ⟨_, _, _, hE, h0, rfl⟩
    have hun : ∀ b, b < w.heap.size → ¬ Owned E σ.st b → (w.setRow B (vs.take (o + m) ++ news ++ vs.drop (o + m + news.length)).toArray).heap[b]? = w.heap[b]? :=
      fun b _ hno => hon.other b (fun e => hno (e ▸ ⟨id, hB⟩))
    have hR' : RowsR T E Z (w.setRow B (vs.take (o + m) ++ news ++ vs.drop (o + m + news.length)).toArray) e rows' (((vs.take (o + m) ++ news ++ vs.drop (o + m + news.length)).drop o).take (rows'.length * (cts T e).length)) := by
      refine ⟨hok, ?_⟩
      rw [hflat, hl, seg_eq vs news o m _ hle hm, hav.1]
      exact VRs.mono (w := w) (fun i v hv => ⟨hv, rfl⟩) (fun _ hz => hz) (h.sr.zcell hun) (((hR.2.take m).append hav).append (hR.2.drop _))
    have := h.write (w' := w.setRow B (vs.take (o + m) ++ news ++ vs.drop (o + m + news.length)).toArray) (o' := .arr e kd rows') hid hB hon
      (.arr e kd rows' B o c _ ty hn (by rw [hl]; exact hE) (by rw [hl]; exact hc) h0 ⟨by rw [hl]; exact hf.1, fun hk => by rw [hl]; exact (hf.2 hk).store hm (by omega)⟩ hsz' hheap (by simp; omega) hok (arr_of hR'))
      (fun C hC => by obtain ⟨A, n, c', hA, _, rfl⟩ := hC; rw [hE] at hA; cases hA; rfl)
    exact ⟨this.1, this.2⟩
theorem cells_one {av : AV} {v : Value} (h : VR T E Z w av v) (hc : av.cells.all isCell = true) : ∀ u ∈ v.cells.toList, u.oneCell' = true := by
  have hne : av ≠ .undef := by rintro rfl; simp [AV.cells, isCell] at hc
  have hr := cells_ok h hne
  intro u hu
  obtain ⟨j, hj, rfl⟩ := List.getElem_of_mem hu
  have hja : j < av.cells.length := by rw [hr.1]; exact hj
  have h1 := hr.2 j _ _ (List.getElem?_eq_getElem hja) (List.getElem?_eq_getElem hj)
  have h2 := List.all_eq_true.1 hc _ (List.getElem_mem hja)
  revert h1 h2
  generalize av.cells[j] = x
  generalize v.cells.toList[j] = u
  intro h1 h2
  cases h1 with
  | undef v => simp [isCell] at h2
  | k _ hs => cases u <;> simp [scalar] at hs <;> rfl
  | ku => simp [isCell, scalar, Go.undef] at h2
  | agg cs vs hl hr => simp [isCell] at h2
  | tup cs vs hl hr => simp [isCell] at h2
  | _ => rfl
theorem ok_isCell {c : CT} {v : AV} (h : c.ok v = true) : isCell v = true := by
  unfold CT.ok at h
  split at h <;> first | rfl | (cases h; done)
theorem isCell_co (c : CT) (v : AV) : isCell (c.co v) = isCell v := by
  unfold CT.co
  split
  · rename_i t u kd rows
    cases kd.fits u t <;> rfl
  · rfl
theorem all_coL : ∀ (cs : List CT) (l : List AV), (coL cs l).all isCell = l.all isCell
  | [], l => by unfold coL; rfl
  | _ :: _, [] => by unfold coL; rfl
  | c :: cs, v :: l => by simp only [coL, List.all_cons, isCell_co, all_coL cs l]
theorem rowOk_cells {cs : List CT} {vs : List AV} (h : rowOk cs vs = true) : vs.all isCell = true := by
  obtain ⟨hl, hk⟩ := rowOk_get h
  refine List.all_eq_true.2 fun x hx => ?_
  obtain ⟨j, hj, rfl⟩ := List.getElem_of_mem hx
  exact ok_isCell (hk j _ _ (List.getElem?_eq_getElem (hl ▸ hj)) (List.getElem?_eq_getElem hj))
theorem putAt_length {l vs : List AV} {off : Nat} (h : off + vs.length ≤ l.length) : (putAt l off vs).length = l.length := by
  simp [putAt]; omega
theorem rowOk_append : ∀ {cs ds : List CT} {as bs : List AV}, rowOk cs as = true → rowOk ds bs = true → rowOk (cs ++ ds) (as ++ bs) = true
  | [], _, [], _, _, h => h
  | [], _, _ :: _, _, h, _ => by simp [rowOk] at h
  | _ :: _, _, [], _, h, _ => by simp [rowOk] at h
  | c :: cs, ds, a :: as, bs, h, h' => by
    simp only [rowOk, Bool.and_eq_true, List.cons_append] at h ⊢
    exact ⟨h.1, rowOk_append h.2 h'⟩
theorem rowOk_take : ∀ {cs : List CT} {as : List AV} (n : Nat), rowOk cs as = true → rowOk (cs.take n) (as.take n) = true
  | [], [], n, _ => by simp [rowOk]
  | [], _ :: _, _, h => by simp [rowOk] at h
  | _ :: _, [], _, h => by simp [rowOk] at h
  | c :: cs, a :: as, 0, _ => rfl
  | c :: cs, a :: as, n + 1, h => by
    simp only [rowOk, Bool.and_eq_true, List.take_succ_cons] at h ⊢
    exact ⟨h.1, rowOk_take n h.2⟩
theorem rowOk_drop : ∀ {cs : List CT} {as : List AV} (n : Nat), rowOk cs as = true → rowOk (cs.drop n) (as.drop n) = true
  | [], [], n, _ => by simp [rowOk]
  | [], _ :: _, _, h => by simp [rowOk] at h
  | _ :: _, [], _, h => by simp [rowOk] at h
  | c :: cs, a :: as, 0, h => h
  | c :: cs, a :: as, n + 1, h => by
    simp only [rowOk, Bool.and_eq_true, List.drop_succ_cons] at h ⊢
    exact rowOk_drop n h.2
theorem rowOk_put {cs ds : List CT} {row vs : List AV} {off : Nat} (hr : rowOk cs row = true) (hv : rowOk ds vs = true) (hd : (cs.drop off).take ds.length = ds) : rowOk cs (putAt row off vs) = true := by
  have hl := (rowOk_get hv).1
  have h1 := rowOk_append (rowOk_append (rowOk_take off hr) hv) (rowOk_drop (off + vs.length) hr)
  have e : cs.take off ++ ds ++ cs.drop (off + vs.length) = cs := by
    conv => lhs; rw [← hd, hl]
    rw [List.append_assoc, ← List.drop_drop]
    conv => lhs; rhs; rw [show (cs.drop off).drop ds.length = (cs.drop off).drop ds.length from rfl]
    rw [List.take_append_drop, List.take_append_drop]
  rw [e] at h1
  exact h1
theorem flatten_put : ∀ {rows : List (List AV)} {sz i off : Nat} {vs : List AV}, (∀ x ∈ rows, x.length = sz) → i < rows.length → off + vs.length ≤ sz →
    (rows.set i (putAt (rows.getD i []) off vs)).flatten = rows.flatten.take (i * sz + off) ++ vs ++ rows.flatten.drop (i * sz + off + vs.length)
  | [], _, _, _, _, _, h, _ => by simp at h
  | x :: xs, sz, 0, off, vs, hl, _, ho => by
    have h1 := hl x List.mem_cons_self
    have e1 : List.take off (x ++ xs.flatten) = x.take off := List.take_append_of_le_length (by omega)
    have e2 : List.drop (off + vs.length) (x ++ xs.flatten) = x.drop (off + vs.length) ++ xs.flatten := List.drop_append_of_le_length (by omega)
    simp only [List.set_cons_zero, List.flatten_cons, List.getD_cons_zero, putAt, Nat.zero_mul, Nat.zero_add, e1, e2, List.append_assoc]
  | x :: xs, sz, i + 1, off, vs, hl, h, ho => by
    have h1 := hl x List.mem_cons_self
    have ih := flatten_put (off := off) (vs := vs) (fun y hy => hl y (List.mem_cons_of_mem _ hy)) (by simpa using h : i < xs.length) ho
    simp only [List.set_cons_succ, List.flatten_cons, List.getD_cons_succ]
    rw [ih]
    have e1 : List.take ((i + 1) * sz + off) (x ++ xs.flatten) = x ++ xs.flatten.take (i * sz + off) := by
      rw [List.take_append, List.take_of_length_le (by rw [h1, Nat.succ_mul]; omega), h1, show (i + 1) * sz + off - sz = i * sz + off by rw [Nat.succ_mul]; omega]
    have e2 : List.drop ((i + 1) * sz + off + vs.length) (x ++ xs.flatten) = xs.flatten.drop (i * sz + off + vs.length) := by
      rw [List.drop_append, List.drop_of_length_le (by rw [h1, Nat.succ_mul]; omega), List.nil_append, h1, show (i + 1) * sz + off + vs.length - sz = i * sz + off + vs.length by rw [Nat.succ_mul]; omega]
    rw [e1, e2]
    simp only [List.append_assoc]
theorem seg_get {α : Type} (vs news : List α) (p : Nat) (h : p + news.length ≤ vs.length) (k : Nat) :
    (vs.take p ++ news ++ vs.drop (p + news.length))[k]? = if k < p then vs[k]? else if k < p + news.length then news[k - p]? else vs[k]? := by
  rw [List.append_assoc]
  by_cases h1 : k < p
  · rw [if_pos h1, List.getElem?_append_left (by simp; omega), List.getElem?_take, if_pos h1]
  · rw [if_neg h1, List.getElem?_append_right (by simp; omega)]
    have e : (vs.take p).length = p := by simp; omega
    rw [e]
    by_cases h2 : k < p + news.length
    · rw [if_pos h2, List.getElem?_append_left (by omega)]
    · rw [if_neg h2, List.getElem?_append_right (by omega), List.getElem?_drop]
      congr 1; omega
theorem StR.storeArx (h : StR T E Z w σ vals) {id e : Nat} {rows : List (List AV)} {A : Addr} {n c i off : Nat} (hst : σ.st[id]? = some (.arx e rows)) (hE : E.ρ id = some (.slice (some A) n c)) (hi : i < n)
    {avs : List AV} {news : List Value} (hav : VRs T E Z w avs news) (hone : ∀ v ∈ news, v.oneCell' = true) (hoff : off + news.length ≤ (cts T e).length) :
    ∃ w', (storeCells ⟨A.block, A.off + (i * E.sz id + off), none⟩ news).run P w = .ok () w' ∧ StR T E Z w' { σ with st := σ.st.set id (.arx e (rows.set i (putAt (rows.getD i []) off avs))) } vals ∧
      Ext (Owned E σ.st) Z w (Owned E (σ.st.set id (.arx e (rows.set i (putAt (rows.getD i []) off avs))))) Z w' := by
  have hor := h.sr.obj id _ hst
  cases hor with
  | arx _ _ B o c' vs ty he' hc h0 hsz hb ho hlen hr =>
    rw [hE] at he'
    simp only [Option.some.injEq, Value.slice.injEq] at he'
    obtain ⟨rfl, rfl, rfl⟩ := he'
    have hid : id < σ.st.length := (List.getElem?_eq_some_iff.1 hst).1
    have hle : (i + 1) * (cts T e).length ≤ c * (cts T e).length := Nat.mul_le_mul_right _ (by omega)
    rw [Nat.succ_mul] at hle
    have hgi : rows.getD i [] = rows[i] := by simp [List.getD, List.getElem?_eq_getElem hi]
    have hli : rows[i].length = (cts T e).length := hlen _ (List.getElem_mem hi)
    have hrun := run_storeCells_at P B (o + (i * E.sz id + off)) ty news 0 vs.toArray w hb (by simp; rw [hsz]; omega) hone
    simp only [Nat.add_zero] at hrun
    refine ⟨_, hrun, ?_⟩
    rw [hsz]
    generalize hm : o + (i * (cts T e).length + off) = m
    have hon := OnlyAt.setRow w B (vs.take m ++ news ++ vs.drop (m + news.length)).toArray
    have hheap := setRow_heap w B vs.toArray (vs.take m ++ news ++ vs.drop (m + news.length)).toArray ty (0, 0) hb
    have hB : owns E σ.st id B := (owns_some hst).2 ⟨_, _, _, hE, h0, rfl⟩
    have hun : ∀ b, b < w.heap.size → ¬ Owned E σ.st b → (w.setRow B (vs.take m ++ news ++ vs.drop (m + news.length)).toArray).heap[b]? = w.heap[b]? :=
      fun b _ hno => hon.other b (fun e => hno (e ▸ ⟨id, hB⟩))
    have hmv : ∀ {x v}, VR T E Z w x v → VR T E Z (w.setRow B (vs.take m ++ news ++ vs.drop (m + news.length)).toArray) x v := fun hx => hx.mono (fun i v hv => ⟨hv, rfl⟩) (fun _ hz => hz) (h.sr.zcell hun)
    have hvl : m + news.length ≤ vs.length := by omega
    rw [hgi]
    have := h.write (w' := w.setRow B (vs.take m ++ news ++ vs.drop (m + news.length)).toArray) (o' := .arx e (rows.set i (putAt rows[i] off avs))) hid hB hon
      (.arx e _ B o c _ ty (by rw [List.length_set]; exact hE) (by rw [List.length_set]; exact hc) h0 hsz hheap (by simp; omega) (fun row hrow => by
        rcases List.mem_or_eq_of_mem_set hrow with h1 | h1
        · exact hlen row h1
        · rw [h1, putAt_length (by rw [hav.1, hli]; exact hoff), hli])
       (fun i' row j av v hi' hj hv => by
        rw [seg_get vs news m hvl] at hv
        by_cases hii : i' = i
        · subst hii
          rw [List.getElem?_set_self (by omega)] at hi'
          cases hi'
          unfold putAt at hj
          rw [seg_get rows[i'] avs off (by rw [hav.1, hli]; exact hoff), hav.1] at hj
          have e1 : (o + (i' * (cts T e).length + j) < m) ↔ j < off := by omega
          have e2 : (o + (i' * (cts T e).length + j) < m + news.length) ↔ j < off + news.length := by omega
          simp only [e1, e2] at hv
          split at hj
          · rename_i h1
            rw [if_pos h1] at hv
            exact hmv (hr i' _ j av v (List.getElem?_eq_getElem hi) hj hv)
          · rename_i h1
            rw [if_neg h1] at hv
            split at hj
            · rename_i h2
              rw [if_pos h2] at hv
              have e3 : o + (i' * (cts T e).length + j) - m = j - off := by omega
              rw [e3] at hv
              exact hmv (hav.2 _ _ _ hj hv)
            · rename_i h2
              rw [if_neg h2] at hv
              exact hmv (hr i' _ j av v (List.getElem?_eq_getElem hi) hj hv)
        · rw [List.getElem?_set_ne (fun e => hii e.symm)] at hi'
          have hjl : j < (cts T e).length := by
            have := (List.getElem?_eq_some_iff.1 hj).1
            rwa [hlen _ (List.mem_of_getElem? hi')] at this
          have hout : ¬ (m ≤ o + (i' * (cts T e).length + j) ∧ o + (i' * (cts T e).length + j) < m + news.length) := by
            rcases Nat.lt_or_gt_of_ne hii with h1 | h1
            · have := Nat.mul_le_mul_right (cts T e).length h1
              rw [Nat.succ_mul] at this
              omega
            · have := Nat.mul_le_mul_right (cts T e).length h1
              rw [Nat.succ_mul] at this
              omega
          have hv' : vs[o + (i' * (cts T e).length + j)]? = some v := by
            split at hv
            · exact hv
            · split at hv
              · omega
              · exact hv
          exact hmv (hr i' row j av v hi' hj hv')))
      (fun C hC => by obtain ⟨A, n, c', hA, _, rfl⟩ := hC; rw [hE] at hA; cases hA; rfl)
    exact ⟨this.1, this.2⟩
set_option maxHeartbeats 1000000 in
theorem astore_ok (hT : TabOk P T) (h : StR T E Z w σ vals) {t : Nat} {v x : AV} {vv vx : Value} (hv : VR T E Z w v vv) (hx : VR T E Z w x vx) (hs : astore T σ t v x = some σ') :
    ∃ w', (Instr.storeAt t vx vv).run P w = .ok () w' ∧ StR T E Z w' σ' vals ∧ Ext (Owned E σ.st) Z w (Owned E σ'.st) Z w' := by
  cases hx with
  | ptr id off B he =>
    simp only [astore] at hs
    split at hs
    · rename_i bt cs ti hst hti
      have hst := getD_some hst (by simp)
      obtain ⟨i, d, z, hto⟩ := hT t ti hti
      have hor := h.sr.obj id _ hst
      cases hor with
      | box _ _ B' vs ty he' hb hr =>
        rw [he] at he'; simp at he'; subst he'
        cases hc : (Nat.beq v.cells.length ti.cells.length && (Nat.ble (off + ti.cells.length) cs.length && v.cells.all isCell)) with
        | false => rw [hc] at hs; cases hs
        | true =>
          rw [hc] at hs
          simp only [cond_true, Option.some.injEq] at hs
          subst hs
          simp only [Bool.and_eq_true] at hc
          obtain ⟨h1, h2, h3⟩ := hc
          have h1 := Nat.eq_of_beq_eq_true h1
          have h2 := Nat.le_of_ble_eq_true h2
          have hne : v ≠ .undef := by rintro rfl; simp [AV.cells, isCell] at h3
          have hcr := cells_ok hv hne
          have hone := cells_one hv h3
          have hlv : vv.cells.toList.length = ti.cells.length := by rw [← hcr.1, h1]
          have hid : id < σ.st.length := (List.getElem?_eq_some_iff.1 hst).1
          have hrun := run_storeCells_at P B off ty vv.cells.toList 0 vs.toArray w hb (by simp only [List.size_toArray, Nat.add_zero, hlv]; rw [← hr.1]; exact h2) hone
          simp only [Nat.add_zero] at hrun
          refine ⟨w.setRow B (vs.take off ++ vv.cells.toList ++ vs.drop (off + vv.cells.toList.length)).toArray, ?_, ?_⟩
          · have hsize : ¬ (vv.cells.size ≠ i.size) := by rw [hto.size, ← hlv]; simp
            simp only [Instr.storeAt, Instr.sureAddr, Sem.run_bind, Sem.run_pure, Result.andThen_ok, storeVar, run_szOf hto.info, hsize, if_false]
            exact hrun
          · have hB : owns E σ.st id B := (owns_some hst).2 ⟨_, he, rfl⟩
            have hon := OnlyAt.setRow w B (vs.take off ++ vv.cells.toList ++ vs.drop (off + vv.cells.toList.length)).toArray
            have hheap := setRow_heap w B vs.toArray (vs.take off ++ vv.cells.toList ++ vs.drop (off + vv.cells.toList.length)).toArray ty (0, 0) hb
            have hun : ∀ b, b < w.heap.size → ¬ Owned E σ.st b → (w.setRow B (vs.take off ++ vv.cells.toList ++ vs.drop (off + vv.cells.toList.length)).toArray).heap[b]? = w.heap[b]? :=
              fun b _ hno => hon.other b (fun e => hno (e ▸ ⟨id, hB⟩))
            have hrr : VRs T E Z w (putAt cs off v.cells) (vs.take off ++ vv.cells.toList ++ vs.drop (off + vv.cells.toList.length)) := by
              unfold putAt
              rw [← hcr.1]
              exact ((hr.take off).append hcr).append (hr.drop _)
            have := h.write (o' := .box bt (putAt cs off v.cells)) hid hB hon
              (.box bt _ B _ ty he hheap (hrr.mono (fun i v hv => ⟨hv, rfl⟩) (fun _ hz => hz) (h.sr.zcell hun)))
              (fun C hC => by obtain ⟨A, hA, rfl⟩ := hC; rw [he] at hA; cases hA; rfl)
            exact ⟨this.1, this.2⟩
    · cases hs
  | ap id i off A n c he hi =>
    simp only [astore] at hs
    split at hs
    · rename_i e kd rows ti hst hti
      have hst := getD_some hst (by simp)
      obtain ⟨ii, d, z, hto⟩ := hT t ti hti
      split at hs
      · rename_i te hte
        cases hc : (decide ((te.cells.drop off).take ti.cells.length = ti.cells) && rowOk ti.cells (coL ti.cells v.cells)) with
        | false => rw [hc] at hs; cases hs
        | true =>
          rw [hc] at hs
          simp only [cond_true, Option.some.injEq] at hs
          subst hs
          simp only [Bool.and_eq_true, decide_eq_true_eq] at hc
          obtain ⟨h1, h2⟩ := hc
          have hor := h.sr.obj id _ hst
          have hcte := elem_cts hte
          cases hor with
          | arr0 _ _ A' he' hn hk hsz => rw [he] at he'; cases he'; omega
          | arr _ _ _ B o c' vs ty hn he' hcc h0 hf hsz hb ho hok hr =>
            rw [he] at he'
            simp only [Option.some.injEq, Value.slice.injEq] at he'
            obtain ⟨rfl, rfl, rfl⟩ := he'
            have h3 := rowOk_cells h2
            have h3' : v.cells.all isCell = true := by rw [← all_coL ti.cells]; exact h3
            have hne : v ≠ .undef := by rintro rfl; simp [AV.cells, isCell] at h3'
            have hcr := (cells_ok hv hne).coL (cs := ti.cells)
            have hone := cells_one hv h3'
            generalize hcs : coL ti.cells v.cells = vcs at *
            have hlv : vv.cells.toList.length = ti.cells.length := by rw [← hcr.1, (rowOk_get h2).1]
            have hrow : rows[i]? = some rows[i] := List.getElem?_eq_getElem hi
            have hg : rows.getD i [] = rows[i] := by simp [List.getD, hrow]
            have hokr := hok _ (List.getElem_mem hi)
            have hlr := (rowOk_get hokr).1
            have hsize : ¬ (vv.cells.size ≠ ii.size) := by rw [hto.size, ← hlv]; simp
            rcases Nat.eq_zero_or_pos ti.cells.length with hz0 | hpos
            · -- nothing is stored
              have hn0 : vv.cells.toList = [] := List.length_eq_zero_iff.1 (by rw [hlv, hz0])
              have ha0 : vcs = [] := List.length_eq_zero_iff.1 (by rw [(rowOk_get h2).1, hz0])
              refine ⟨w, ?_, ?_⟩
              · simp only [Instr.storeAt, Instr.sureAddr, Sem.run_bind, Sem.run_pure, Result.andThen_ok, storeVar, run_szOf hto.info, hsize, if_false, hn0]
                simp [storeCells]
              · have e1 : rows.set i (putAt (rows.getD i []) off vcs) = rows := by
                  rw [hg, ha0]
                  have : putAt rows[i] off [] = rows[i] := by simp [putAt]
                  rw [this]; exact List.set_getElem_self hi
                rw [e1]
                have hset : σ.st.set id (.arr e kd rows) = σ.st := set_self hst
                rw [hset]
                exact ⟨h, Ext.refl _ _ _⟩
            · have hoff : off + ti.cells.length ≤ te.cells.length := by
                have := congrArg List.length h1
                simp at this; omega
              have hszp : 0 < (cts T e).length := by rw [hcte]; omega
              have hput : (putAt rows[i] off vcs).length = (cts T e).length := by
                rw [putAt_length (by rw [(rowOk_get h2).1, hlr, hcte]; exact hoff), hlr]
              have hokp : rowOk (cts T e) (putAt rows[i] off vcs) = true := rowOk_put hokr h2 (by rw [hcte]; exact h1)
              have hle : (i + 1) * (cts T e).length ≤ rows.length * (cts T e).length := Nat.mul_le_mul_right _ hi
              rw [Nat.succ_mul] at hle
              have hcl : vcs.length = ti.cells.length := (rowOk_get h2).1
              have hflat := flatten_put (off := off) (vs := vcs) (RowsR.len hok) hi (by rw [hcl, hcte]; exact hoff)
              rw [hg] at hflat
              have hstore := h.storeArr (P := P) (rows' := rows.set i (putAt rows[i] off vcs)) hst he hszp (i * (cts T e).length + off) hcr hone (by rw [hlv, hcte]; rw [hcte] at hle; omega) (by simp)
                (fun row hrow => (List.mem_or_eq_of_mem_set hrow).elim (hok row) (fun e => e ▸ hokp)) hflat
              obtain ⟨_, _, hw⟩ := hstore
              obtain ⟨w', hrun, hS, hX⟩ := hw B o rfl
              refine ⟨w', ?_, by rw [hg]; exact ⟨hS, hX⟩⟩
              simp only [Instr.storeAt, Instr.sureAddr, Sem.run_bind, Sem.run_pure, Result.andThen_ok, storeVar, run_szOf hto.info, hsize, if_false]
              rw [hsz]
              exact hrun
      · cases hs
    · rename_i e rows ti hst hti
      have hst := getD_some hst (by simp)
      obtain ⟨ii, d, z, hto⟩ := hT t ti hti
      split at hs
      · rename_i te hte
        cases hc : (decide ((te.cells.drop off).take ti.cells.length = ti.cells) && (Nat.beq v.cells.length ti.cells.length && v.cells.all isCell)) with
        | false => rw [hc] at hs; cases hs
        | true =>
          rw [hc] at hs
          simp only [cond_true, Option.some.injEq] at hs
          subst hs
          simp only [Bool.and_eq_true, decide_eq_true_eq] at hc
          obtain ⟨h1, h2, h3⟩ := hc
          have h2 := Nat.eq_of_beq_eq_true h2
          have hcte := elem_cts hte
          have hne : v ≠ .undef := by rintro rfl; simp [AV.cells, isCell] at h3
          have hcr := cells_ok hv hne
          have hone := cells_one hv h3
          have hlv : vv.cells.toList.length = ti.cells.length := by rw [← hcr.1, h2]
          have hsize : ¬ (vv.cells.size ≠ ii.size) := by rw [hto.size, ← hlv]; simp
          rcases Nat.eq_zero_or_pos ti.cells.length with hz0 | hpos
          · -- nothing is stored
            have hn0 : vv.cells.toList = [] := List.length_eq_zero_iff.1 (by rw [hlv, hz0])
            have ha0 : v.cells = [] := List.length_eq_zero_iff.1 (by rw [h2, hz0])
            refine ⟨w, ?_, ?_⟩
            · simp only [Instr.storeAt, Instr.sureAddr, Sem.run_bind, Sem.run_pure, Result.andThen_ok, storeVar, run_szOf hto.info, hsize, if_false, hn0]
              simp [storeCells]
            · have e1 : rows.set i (putAt (rows.getD i []) off v.cells) = rows := by
                rw [ha0]
                have : putAt (rows.getD i []) off [] = rows.getD i [] := by simp [putAt]
                rw [this]
                rcases Nat.lt_or_ge i rows.length with hlt | hge
                · have hg : rows.getD i [] = rows[i] := by simp [List.getD, List.getElem?_eq_getElem hlt]
                  rw [hg]; exact List.set_getElem_self hlt
                · exact List.set_eq_of_length_le hge
              rw [e1]
              have hset : σ.st.set id (.arx e rows) = σ.st := set_self hst
              rw [hset]
              exact ⟨h, Ext.refl _ _ _⟩
          · have hoff : off + vv.cells.toList.length ≤ (cts T e).length := by
              have := congrArg List.length h1
              simp at this
              rw [hlv, hcte]; omega
            obtain ⟨w', hrun, hS, hX⟩ := h.storeArx (P := P) hst he hi hcr hone hoff
            refine ⟨w', ?_, hS, hX⟩
            simp only [Instr.storeAt, Instr.sureAddr, Sem.run_bind, Sem.run_pure, Result.andThen_ok, storeVar, run_szOf hto.info, hsize, if_false]
            exact hrun
      · cases hs
    · cases hs
  | _ => simp [astore] at hs
end
end Go.Fw
set_option linter.unusedSimpArgs false
set_option linter.unusedVariables false
namespace Go.Fw
section
variable {P : Program} {T : Tab} {E : Env} {Z : Nat → Prop} {w w' : World} {σ σ' : St} {vals : List Value}
theorem newBox_ok (h : StR T E Z w σ vals) (t : Nat) {cs : List AV} {v : Value} (hr : VRs T E Z w cs v.cells.toList) :
    OpRes P T E Z w vals σ (do let a ← newVar t v; Pure.pure (.pointer (some a)) : Sem Value) (σ.new (.box t cs)) (.ptr σ.st.length 0) := by
  obtain ⟨E', h1, h2, h3, h4⟩ := h.newBox t hr t
  rw [Array.toArray_toList] at h1 h2 h3
  exact ⟨E', Z, w.alloc (.cells v.cells t), _, rfl, h1, h2, h3, Mv.of rfl h4⟩
theorem aalloc_ok (hT : TabOk P T) (h : StR T E Z w σ vals) {t : Nat} {ti : TI} (hti : T t = some ti) :
    OpRes P T E Z w vals σ (Instr.alloc t true (.tuple #[])) (σ.new (.box t (ti.cells.map CT.zero))) (.ptr σ.st.length 0) := by
  obtain ⟨i, d, z, hto⟩ := hT _ _ hti
  have := newBox_ok (P := P) h t (cs := ti.cells.map CT.zero) (v := z) (by rw [hto.cells]; exact zeros_ok _)
  obtain ⟨E', Z', w', v, hrun, rest⟩ := this
  refine ⟨E', Z', w', v, ?_, rest⟩
  simp only [Instr.alloc, Sem.run_bind, run_zero hto.info hto.zero, Result.andThen_ok]
  simpa using hrun
theorem abox_ok (h : StR T E Z w σ vals) {t : Nat} {x : AV} {vx : Value} (hx : VR T E Z w x vx) (hc : x.cells.all isCell = true) :
    OpRes P T E Z w vals σ (Instr.box t vx) (σ.new (.box t x.cells)) (.ptr σ.st.length 0) := by
  have hne : x ≠ .undef := by rintro rfl; simp [AV.cells, isCell] at hc
  have := newBox_ok (P := P) h t (cells_ok hx hne)
  simpa [Instr.box] using this
theorem foldl_put : ∀ (vs : List Value) (cs : List Value) (off k : Nat), off + k + vs.length ≤ cs.length →
    ((vs.zipIdx k).foldl (fun (cs : Array Value) (p : Value × Nat) => cs.setIfInBounds (off + p.2) p.1) cs.toArray) = (cs.take (off + k) ++ vs ++ cs.drop (off + k + vs.length)).toArray
  | [], cs, off, k, _ => by simp
  | v :: vs, cs, off, k, h => by
    simp only [List.zipIdx_cons, List.foldl_cons]
    have e : cs.toArray.setIfInBounds (off + k) v = (cs.set (off + k) v).toArray := by simp
    rw [e, foldl_put vs (cs.set (off + k) v) off (k + 1) (by simp at h ⊢; omega)]
    congr 1
    have hlt : off + k < cs.length := by simp at h; omega
    rw [show off + (k + 1) = (off + k) + 1 by omega, List.take_succ_eq_append_getElem (by simpa using hlt)]
    rw [List.take_set_of_le (Nat.le_refl _), List.getElem_set_self]
    rw [List.drop_set_of_lt (by omega)]
    simp only [List.append_assoc, List.singleton_append, List.length_cons, List.cons_append, List.nil_append]
    rw [show off + k + 1 + vs.length = off + k + (vs.length + 1) by omega]
theorem fillAV_ok {place : Nat → Option (Nat × Nat)} : ∀ {parts : List (Nat × AV)} {vparts : List (Nat × Value)} {cs cs' : List AV} {vs : List Value},
    parts.length = vparts.length → (∀ (j : Nat) (p : Nat × AV) (q : Nat × Value), parts[j]? = some p → vparts[j]? = some q → p.1 = q.1 ∧ VR T E Z w p.2 q.2) →
    VRs T E Z w cs vs → fillAV place cs parts = some cs' → ∃ vs', Instr.fill place vs.toArray vparts = some vs'.toArray ∧ VRs T E Z w cs' vs'
  | [], [], cs, cs', vs, _, _, hr, hf => by simp [fillAV] at hf; subst hf; exact ⟨vs, by simp [Instr.fill], hr⟩
  | [], _ :: _, _, _, _, hl, _, _, _ => by simp at hl
  | _ :: _, [], _, _, _, hl, _, _, _ => by simp at hl
  | (i, x) :: parts, (i', v) :: vparts, cs, cs', vs, hl, hp, hr, hf => by
    obtain ⟨h1, h3⟩ := hp 0 _ _ rfl rfl
    simp only at h1 h3; subst h1
    simp only [fillAV] at hf
    split at hf
    · cases hf
    · rename_i off size hpl
      cases hc : (Nat.beq x.cells.length size && (Nat.ble (off + size) cs.length && x.cells.all isCell)) with
      | false => rw [hc] at hf; cases hf
      | true =>
        rw [hc] at hf
        simp only [cond_true] at hf
        simp only [Bool.and_eq_true] at hc
        have e1 := Nat.eq_of_beq_eq_true hc.1
        have e2 := Nat.le_of_ble_eq_true hc.2.1
        have h2 : x ≠ .undef := by rintro rfl; simp [AV.cells, isCell] at hc
        have hcr := cells_ok h3 h2
        have hvl : v.cells.toList.length = size := by rw [← hcr.1, e1]
        have hfold := foldl_put v.cells.toList vs off 0 (by rw [hvl, ← hr.1]; exact e2)
        obtain ⟨vs', hv', hrr⟩ := fillAV_ok (vs := vs.take off ++ v.cells.toList ++ vs.drop (off + v.cells.toList.length)) (by simpa using hl)
          (fun j p q hj hq => hp (j + 1) p q (by simpa using hj) (by simpa using hq))
          (by unfold putAt; rw [← hcr.1]; exact ((hr.take off).append hcr).append (hr.drop _)) hf
        refine ⟨vs', ?_, hrr⟩
        rw [← hv']
        conv => lhs; unfold Instr.fill
        simp only [hpl]
        have n1 : ¬ (v.cells.size ≠ size ∨ off + v.cells.size > vs.toArray.size) := by
          have e3 : v.cells.size = size := by rw [← hvl]; simp
          have e4 := hr.1
          simp only [List.size_toArray]
          omega
        have n1' : (v.cells.size ≠ size || off + v.cells.size > vs.toArray.size : Bool) = false := by
          have e3 : v.cells.size = size := by rw [← hvl]; simp
          have e4 := hr.1
          simp only [List.size_toArray]
          simp; omega
        simp only [n1', Bool.false_eq_true, if_false]
        congr 1
        have hz : v.cells.zipIdx.foldl (fun (cs : Array Value) (x : Value × Nat) => cs.setIfInBounds (off + x.2) x.1) vs.toArray = (vs.take (off + 0) ++ v.cells.toList ++ vs.drop (off + 0 + v.cells.toList.length)).toArray := by
          rw [← hfold, ← Array.foldl_toList, Array.toList_zipIdx]
        simpa using hz
theorem parts_ok {a : Act} (h : VRs T E Z w σ.tmps a.tmps.toList) (parts : Array (Nat × Operand)) (j : Nat) (p : Nat × AV) (q : Nat × Value)
    (hp : (parts.toList.map fun p => (p.1, σ.eval p.2))[j]? = some p) (hq : (parts.map fun (i, x) => (i, a.eval x)).toList[j]? = some q) : p.1 = q.1 ∧ VR T E Z w p.2 q.2 := by
  rw [Array.toList_map, List.getElem?_map, Option.map_eq_some_iff] at hq
  rw [List.getElem?_map, Option.map_eq_some_iff] at hp
  obtain ⟨x, hx, rfl⟩ := hp
  obtain ⟨y, hy, rfl⟩ := hq
  rw [hx] at hy; cases hy
  exact ⟨rfl, eval_ok h _⟩
theorem abuild_ok (hT : TabOk P T) {t : Nat} {parts : Array (Nat × Operand)} {a : Act} {av : AV} (h : VRs T E Z w σ.tmps a.tmps.toList)
    (hs : abuild T t (parts.toList.map fun p => (p.1, σ.eval p.2)) = some av) : ∃ v, (Instr.build t (parts.map fun (i, x) => (i, a.eval x))).run P w = .ok v w ∧ VR T E Z w av v := by
  unfold abuild at hs
  split at hs
  · rename_i fs cells bytes hti
    obtain ⟨i, d, z, hto⟩ := hT _ _ hti
    obtain ⟨fields, rfl, hfs⟩ := dOk_struct hto.desc
    cases hall : (fs.all fun f => (T f.2).isSome) with
    | false => rw [hall] at hs; cases hs
    | true =>
      rw [hall] at hs
      simp only [Bool.not_true, cond_false] at hs
      split at hs
      · rename_i cs hf
        cases hs
        let pl : List (Nat × Nat) := fields.toList.map fun f => (f.offset, ((T f.type).map fun ti => ti.cells.length).getD 0)
        have hpl : fields.toList.mapM (fun f => (P.info? f.type).map fun i => (f.offset, i.size)) = some pl := by
          have hall' : ∀ f ∈ fields.toList, (T f.type).isSome = true := fun f hf => by
            have := List.all_eq_true.1 hall (f.offset, f.type) (by rw [← hfs]; exact List.mem_map_of_mem hf)
            simpa using this
          clear hf hfs hall hto
          simp only [pl]
          generalize fields.toList = fl at hall' ⊢
          induction fl with
          | nil => simp
          | cons f fl ih =>
            obtain ⟨tf, htf⟩ := Option.isSome_iff_exists.1 (hall' f List.mem_cons_self)
            obtain ⟨i', d', z', hto'⟩ := hT _ _ htf
            simp only [List.mapM_cons, hto'.info, Option.map_some, Option.bind_eq_bind, Option.bind_some, ih (fun g hg => hall' g (List.mem_cons_of_mem _ hg)), Option.pure_def, List.map_cons, htf, Option.getD_some, hto'.size]
        have hplace : placeOf T fs = fun i => pl[i]? := by
          funext i
          simp only [placeOf, pl, ← hfs, List.getElem?_map]
          cases hfi : fields.toList[i]? with
          | none => rfl
          | some f =>
            have hm : f ∈ fields.toList := List.mem_of_getElem? hfi
            have := List.all_eq_true.1 hall (f.offset, f.type) (by rw [← hfs]; exact List.mem_map_of_mem hm)
            obtain ⟨tf, htf⟩ := Option.isSome_iff_exists.1 (show (T f.type).isSome = true by simpa using this)
            simp [htf]
        rw [hplace] at hf
        obtain ⟨vs', hv', hrr⟩ := fillAV_ok (vs := z.cells.toList) (by simp) (fun j p q => parts_ok h parts j p q) (by rw [hto.cells]; exact zeros_ok _) hf
        refine ⟨.agg vs'.toArray, run_build w t _ _ ?_, .agg _ _ hrr.1 hrr.2⟩
        unfold Program.built
        simp only [hto.info, hto.und, hto.zero, hpl]
        have e1 : (fun i : Nat => pl.toArray[i]?) = fun i : Nat => pl[i]? := by funext i; simp
        rw [e1]
        simpa using hv'
      · cases hs
  · rename_i n e cells bytes hti
    obtain ⟨i, d, z, hto⟩ := hT _ _ hti
    have hd := dOk_arr hto.desc
    subst hd
    split at hs
    · rename_i te hte
      obtain ⟨ie, de, ze, htoe⟩ := hT _ _ hte
      simp only [Option.map_eq_some_iff] at hs
      obtain ⟨cs, hf, rfl⟩ := hs
      obtain ⟨vs', hv', hrr⟩ := fillAV_ok (vs := z.cells.toList) (by simp) (fun j p q => parts_ok h parts j p q) (by rw [hto.cells]; exact zeros_ok _) hf
      refine ⟨.agg vs'.toArray, run_build w t _ _ ?_, .agg _ _ hrr.1 hrr.2⟩
      unfold Program.built
      simp only [hto.info, hto.und, hto.zero, htoe.info, htoe.size]
      simpa using hv'
    · cases hs
  · cases hs
theorem putAt_all {row vs : List AV} (h : vs.length = row.length) : putAt row 0 vs = vs := by
  simp [putAt, h]
theorem fillRows_ok {e : Nat} {zero : List AV} : ∀ {parts : List (Nat × AV)} {vparts : List (Nat × Value)} {rows rows' : List (List AV)} {vs : List Value},
    parts.length = vparts.length → (∀ (j : Nat) (p : Nat × AV) (q : Nat × Value), parts[j]? = some p → vparts[j]? = some q → p.1 = q.1 ∧ VR T E Z w p.2 q.2) →
    RowsR T E Z w e rows vs → fillRows zero (cts T e) rows parts = some rows' →
    ∃ vs', Instr.fill (fun i => some (i * (cts T e).length, (cts T e).length)) vs.toArray vparts = some vs'.toArray ∧ RowsR T E Z w e rows' vs' ∧ rows'.length = rows.length
  | [], [], rows, rows', vs, _, _, hr, hf => by simp [fillRows] at hf; subst hf; exact ⟨vs, by simp [Instr.fill], hr, rfl⟩
  | [], _ :: _, _, _, _, hl, _, _, _ => by simp at hl
  | _ :: _, [], _, _, _, hl, _, _, _ => by simp at hl
  | (i, x) :: parts, (i', v) :: vparts, rows, rows', vs, hl, hp, hr, hf => by
    obtain ⟨h1, h3⟩ := hp 0 _ _ rfl rfl
    simp only at h1 h3; subst h1
    simp only [fillRows] at hf
    cases hc : (rowOk (cts T e) (coL (cts T e) x.cells) && Nat.blt i rows.length) with
    | false => rw [hc] at hf; cases hf
    | true =>
      rw [hc] at hf
      simp only [cond_true] at hf
      simp only [Bool.and_eq_true] at hc
      have hrow := hc.1
      have hi : i < rows.length := by have := hc.2; simp [Nat.blt] at this; exact this
      have h2 : x ≠ .undef := by
        rintro rfl
        have := rowOk_cells hrow
        rw [all_coL] at this
        simp [AV.cells, isCell] at this
      have hcr := (cells_ok h3 h2).coL (cs := cts T e)
      generalize coL (cts T e) x.cells = xcs at *
      have hxl : xcs.length = (cts T e).length := (rowOk_get hrow).1
      have hvl : v.cells.toList.length = (cts T e).length := by rw [← hcr.1, hxl]
      have hlen := hr.length
      have hle : (i + 1) * (cts T e).length ≤ rows.length * (cts T e).length := Nat.mul_le_mul_right _ hi
      rw [Nat.succ_mul] at hle
      have hfold := foldl_put v.cells.toList vs (i * (cts T e).length) 0 (by rw [hvl, hlen]; omega)
      have hri : rows.getD i [] = rows[i] := by simp [List.getD, List.getElem?_eq_getElem hi]
      have hrl : rows[i].length = (cts T e).length := RowsR.len hr.1 _ (List.getElem_mem hi)
      have hflat := flatten_put (off := 0) (vs := xcs) (RowsR.len hr.1) hi (by rw [hxl]; omega)
      rw [hri, putAt_all (by rw [hxl, hrl])] at hflat
      have hr' : RowsR T E Z w e (rows.set i xcs) (vs.take (i * (cts T e).length) ++ v.cells.toList ++ vs.drop (i * (cts T e).length + v.cells.toList.length)) := by
        refine ⟨fun row hrow' => (List.mem_or_eq_of_mem_set hrow').elim (hr.1 row) (fun e => e ▸ hrow), ?_⟩
        rw [hflat, Nat.add_zero, hcr.1]
        exact ((hr.2.take _).append hcr).append (hr.2.drop _)
      obtain ⟨vs', hv', hrr, hll⟩ := fillRows_ok (zero := zero) (by simpa using hl)
        (fun j p q hj hq => hp (j + 1) p q (by simpa using hj) (by simpa using hq)) hr' hf
      refine ⟨vs', ?_, hrr, by rw [hll]; simp⟩
      rw [← hv']
      conv => lhs; unfold Instr.fill
      simp only
      have n1' : (v.cells.size ≠ (cts T e).length || i * (cts T e).length + v.cells.size > vs.toArray.size : Bool) = false := by
        have e3 : v.cells.size = (cts T e).length := by rw [← hvl]; simp
        simp only [List.size_toArray]
        simp; omega
      simp only [n1', Bool.false_eq_true, if_false]
      congr 1
      have hz : v.cells.zipIdx.foldl (fun (cs : Array Value) (y : Value × Nat) => cs.setIfInBounds (i * (cts T e).length + y.2) y.1) vs.toArray = (vs.take (i * (cts T e).length + 0) ++ v.cells.toList ++ vs.drop (i * (cts T e).length + 0 + v.cells.toList.length)).toArray := by
        rw [← hfold, ← Array.foldl_toList, Array.toList_zipIdx]
      simpa using hz
theorem zerosR_row (cs : List CT) : rowOk cs (cs.map CT.zeroR) = true := by
  induction cs with
  | nil => rfl
  | cons c cs ih =>
    simp only [List.map_cons, rowOk, Bool.and_eq_true]
    refine ⟨?_, ih⟩
    cases c <;> simp [CT.zeroR, CT.zero, CT.ok, SK.isAny]
theorem zeroRows_ok {e : Nat} {te : TI} {ie d ze} (hte : T e = some te) (hto : TOk P e te ie d ze) (n : Nat) (hsz : 0 < te.cells.length) :
    RowsR T E Z w e (List.replicate n (te.cells.map CT.zeroR)) (madeCells ze.cells (n * te.cells.length)).toList := by
  have hc := elem_cts hte
  have hzl : ze.cells.size = te.cells.length := by rw [← Array.length_toList, hto.cells]; simp
  refine RowsR.of (fun row hrow => ?_) (by simp [madeCells, hc]) (by rw [hc]; exact hsz) (fun i row j av v hi hj hv => ?_)
  · obtain ⟨_, rfl⟩ := List.mem_replicate.1 hrow
    rw [hc]; exact zerosR_row _
  · rw [List.getElem?_replicate] at hi
    split at hi
    · cases hi
      rename_i hin
      have hjl : j < te.cells.length := by have := (List.getElem?_eq_some_iff.1 hj).1; simpa using this
      rw [hc] at hv
      have hlt : i * te.cells.length + j < n * te.cells.length := by
        have : (i + 1) * te.cells.length ≤ n * te.cells.length := Nat.mul_le_mul_right _ hin
        rw [Nat.succ_mul] at this; omega
      simp only [madeCells, Array.toList_map, Array.toList_range, List.getElem?_map, List.getElem?_range hlt, Option.map_some, Option.some.injEq] at hv
      have hmod : (i * te.cells.length + j) % ze.cells.size = j := by rw [hzl, Nat.mul_comm, Nat.mul_add_mod, Nat.mod_eq_of_lt hjl]
      rw [hmod] at hv
      have hz : ze.cells[j]! = ze.cells.toList[j]'(by rw [hto.cells]; simpa using hjl) := by
        rw [getElem!_pos ze.cells j (by rw [hzl]; exact hjl)]
        simp
      rw [hz] at hv
      subst hv
      have hzz := zerosR_ok (T := T) (E := E) (Z := Z) (w := w) te.cells
      rw [← hto.cells] at hzz
      exact hzz.2 j av _ hj (List.getElem?_eq_getElem _)
    · cases hi
end
end Go.Fw
