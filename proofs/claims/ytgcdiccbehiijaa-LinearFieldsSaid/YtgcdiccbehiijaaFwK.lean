/- The framework, part K: stores, new variables, arrays that are made, grown and written. -/
import Derived.Test.YtgcdiccbehiijaaFwJ
set_option linter.all false
set_option linter.unusedSimpArgs false
set_option linter.unusedVariables false
namespace Go.Fw
section
variable {P : Program} {T : Tab} {E : Env} {Z : Nat → Prop} {w w' : World} {σ σ' : St} {vals : List Value}

theorem set_self {l : List AObj} {i : Nat} {o : AObj} (h : l[i]? = some o) : l.set i o = l := by
  obtain ⟨hi, rfl⟩ := List.getElem?_eq_some_iff.1 h
  exact List.set_getElem_self hi

/-- objects lie where they lay, but for those that are told to have moved -/
structure Mv (σ : St) (E : Env) (σ' : St) (E' : Env) : Prop where
  sub : ∀ i ∈ σ.moved, i ∈ σ'.moved
  same : ∀ i, i < σ.st.length → i ∉ σ'.moved → E'.ρ i = E.ρ i ∧ E'.sz i = E.sz i

theorem Mv.refl {E : Env} (σ σ' : St) (h : σ'.moved = σ.moved) : Mv σ E σ' E := ⟨fun i hi => h ▸ hi, fun _ _ _ => ⟨rfl, rfl⟩⟩
theorem Mv.of {E E' : Env} {σ σ' : St} (h : σ'.moved = σ.moved) (hE : SameE σ.st.length E E') : Mv σ E σ' E' := ⟨fun i hi => h ▸ hi, fun i hi _ => hE i hi⟩

/-- what an operation yields, and the state behind it -/
def OpRes (P : Program) (T : Tab) (E : Env) (Z : Nat → Prop) (w : World) (vals : List Value) (σ : St) (s : Sem Value) (σ' : St) (av : AV) : Prop :=
  ∃ E' Z' w' v, s.run P w = .ok v w' ∧ StR T E' Z' w' σ' vals ∧ VR T E' Z' w' av v ∧ Ext (Owned E σ.st) Z w (Owned E' σ'.st) Z' w' ∧ Mv σ E σ' E'

theorem OpRes.pure (h : StR T E Z w σ vals) {s : Sem Value} {av : AV} (hs : ∃ v, s.run P w = .ok v w ∧ VR T E Z w av v) : OpRes P T E Z w vals σ s σ av := by
  obtain ⟨v, hr, hv⟩ := hs
  exact ⟨E, Z, w, v, hr, h, hv, Ext.refl _ _ _, Mv.refl _ _ rfl⟩

/-! ### The rows of an owned array -/
theorem arr_rows {e : Nat} {rows : List (List AV)} {o c : Nat} {vs : List Value} (hc : rows.length ≤ c) (ho : o + c * (cts T e).length ≤ vs.length) (hok : ∀ row ∈ rows, rowOk (cts T e) row = true)
    (hsz : 0 < (cts T e).length)
    (hr : ∀ (i : Nat) (row : List AV) (j : Nat) (av : AV) (v : Value), rows[i]? = some row → row[j]? = some av → vs[o + (i * (cts T e).length + j)]? = some v → VR T E Z w av v) :
    RowsR T E Z w e rows ((vs.drop o).take (rows.length * (cts T e).length)) := by
  have hle : o + rows.length * (cts T e).length ≤ vs.length := Nat.le_trans (Nat.add_le_add_left (Nat.mul_le_mul_right _ hc) _) ho
  refine RowsR.of hok (by simp; omega) hsz (fun i row j av v hi hj hv => ?_)
  rw [List.getElem?_take] at hv
  split at hv
  · rw [List.getElem?_drop] at hv; exact hr i row j av v hi hj hv
  · cases hv

theorem arr_of {e : Nat} {rows : List (List AV)} {o : Nat} {vs : List Value} (h : RowsR T E Z w e rows ((vs.drop o).take (rows.length * (cts T e).length)))
    (i : Nat) (row : List AV) (j : Nat) (av : AV) (v : Value) (hi : rows[i]? = some row) (hj : row[j]? = some av) (hv : vs[o + (i * (cts T e).length + j)]? = some v) : VR T E Z w av v := by
  obtain ⟨v', hv', hr⟩ := h.get hi hj
  rw [List.getElem?_take] at hv'
  split at hv'
  · rw [List.getElem?_drop, hv] at hv'; cases hv'; exact hr
  · cases hv'

theorem seg_eq (vs news : List Value) (o m N : Nat) (h : o + N ≤ vs.length) (hm : m + news.length ≤ N) :
    ((vs.take (o + m) ++ news ++ vs.drop (o + m + news.length)).drop o).take N = ((vs.drop o).take N).take m ++ news ++ ((vs.drop o).take N).drop (m + news.length) := by
  apply List.ext_getElem?
  intro j
  simp only [List.getElem?_take, List.getElem?_drop, List.getElem?_append, List.length_append, List.length_take, List.length_drop, Nat.min_def]
  repeat' split
  all_goals first | omega | rfl | (congr 1; omega) | (simp_all; done) | skip
  all_goals (try (exfalso; omega))

theorem Spare.store {T : Tab} {t : Nat} {vs : List Value} {o n c m : Nat} {news : List Value} (h : Spare T t vs o n c) (hm : m + news.length ≤ n * (cts T t).length) (hle : o + n * (cts T t).length ≤ vs.length) :
    Spare T t (vs.take (o + m) ++ news ++ vs.drop (o + m + news.length)) o n c := fun j hj hjc => by
  obtain ⟨ct, h1, h2⟩ := h j hj hjc
  refine ⟨ct, h1, ?_⟩
  rw [List.append_assoc, List.getElem?_append_right (by simp; omega), List.getElem?_append_right (by simp; omega), List.getElem?_drop]
  rw [← h2]
  congr 1
  simp
  omega

/-- cells stored into an owned array -/
theorem StR.storeArr (h : StR T E Z w σ vals) {id e : Nat} {kd : SK} {rows rows' : List (List AV)} {A : Option Addr} {n c : Nat} (hst : σ.st[id]? = some (.arr e kd rows)) (hE : E.ρ id = some (.slice A n c))
    (hsz : 0 < (cts T e).length) (m : Nat) {avs : List AV} {news : List Value} (hav : VRs T E Z w avs news) (hone : ∀ v ∈ news, v.oneCell' = true) (hm : m + news.length ≤ rows.length * (cts T e).length)
    (hl : rows'.length = rows.length) (hok : ∀ row ∈ rows', rowOk (cts T e) row = true) (hflat : rows'.flatten = rows.flatten.take m ++ avs ++ rows.flatten.drop (m + avs.length)) :
    n = rows.length ∧ (rows ≠ [] → ∃ B o, A = some ⟨B, o, none⟩) ∧
    ∀ B o, A = some ⟨B, o, none⟩ → ∃ w', (storeCells ⟨B, o + m, none⟩ news).run P w = .ok () w' ∧ StR T E Z w' { σ with st := σ.st.set id (.arr e kd rows') } vals ∧
      Ext (Owned E σ.st) Z w (Owned E (σ.st.set id (.arr e kd rows'))) Z w' := by
  have hor := h.sr.obj id _ hst
  cases hor with
  | arr0 _ _ A' he' hn hk hsz' =>
    rw [hE] at he'; cases he'
    refine ⟨rfl, fun hne => absurd rfl hne, fun B o hA => ?_⟩
    have hn0 : news = [] := List.length_eq_zero_iff.1 (by simp only [List.length_nil, Nat.zero_mul] at hm; omega)
    subst hn0
    have hr' : rows' = [] := List.length_eq_zero_iff.1 (by simpa using hl)
    subst hr'
    refine ⟨w, by simp [storeCells], ?_⟩
    have hset : σ.st.set id (.arr e kd []) = σ.st := set_self hst
    rw [hset]
    exact ⟨h, Ext.refl _ _ _⟩
  | arr _ _ _ B o c' vs ty hn he' hc h0 hf hsz' hb ho hokr hr =>
    rw [hE] at he'
    simp only [Option.some.injEq, Value.slice.injEq] at he'
    obtain ⟨rfl, rfl, rfl⟩ := he'
    refine ⟨rfl, fun _ => ⟨_, _, rfl⟩, fun B' o' hA => ?_⟩
    cases hA
    have hle : o + rows.length * (cts T e).length ≤ vs.length := Nat.le_trans (Nat.add_le_add_left (Nat.mul_le_mul_right _ hc) _) ho
    have hR := arr_rows hc ho hokr hsz hr
    have hid : id < σ.st.length := (List.getElem?_eq_some_iff.1 hst).1
    have hrun := run_storeCells_at P B (o + m) ty news 0 vs.toArray w hb (by simp; omega) hone
    simp only [Nat.add_zero] at hrun
    refine ⟨_, hrun, ?_⟩
    have hon := OnlyAt.setRow w B (vs.take (o + m) ++ news ++ vs.drop (o + m + news.length)).toArray
    have hheap := setRow_heap w B vs.toArray (vs.take (o + m) ++ news ++ vs.drop (o + m + news.length)).toArray ty (0, 0) hb
    have hB : owns E σ.st id B := (owns_some hst).2 ⟨_, _, _, hE, h0, rfl⟩
    have hun : ∀ b, b < w.heap.size → ¬ Owned E σ.st b → (w.setRow B (vs.take (o + m) ++ news ++ vs.drop (o + m + news.length)).toArray).heap[b]? = w.heap[b]? :=
      fun b _ hno => hon.other b (fun e => hno (e ▸ ⟨id, hB⟩))
    have hR' : RowsR T E Z (w.setRow B (vs.take (o + m) ++ news ++ vs.drop (o + m + news.length)).toArray) e rows' (((vs.take (o + m) ++ news ++ vs.drop (o + m + news.length)).drop o).take (rows'.length * (cts T e).length)) := by
      refine ⟨hok, ?_⟩
      rw [hflat, hl, seg_eq vs news o m _ hle hm, hav.1]
      exact VRs.mono (w := w) (fun i v hv => ⟨hv, rfl⟩) (fun _ hz => hz) (h.sr.zcell hun) (((hR.2.take m).append hav).append (hR.2.drop _))
    have := h.write (w' := w.setRow B (vs.take (o + m) ++ news ++ vs.drop (o + m + news.length)).toArray) (o' := .arr e kd rows') hid hB hon
      (.arr e kd rows' B o c _ ty hn (by rw [hl]; exact hE) (by rw [hl]; exact hc) h0 ⟨by rw [hl]; exact hf.1, fun hk => by rw [hl]; exact (hf.2 hk).store hm (by omega)⟩ hsz' hheap (by simp; omega) hok (arr_of hR'))
      (fun C hC => by obtain ⟨A, n, c', hA, _, rfl⟩ := hC; rw [hE] at hA; cases hA; rfl)
    exact ⟨this.1, this.2⟩

/-! ### Stores -/
theorem cells_one {av : AV} {v : Value} (h : VR T E Z w av v) (hc : av.cells.all isCell = true) : ∀ u ∈ v.cells.toList, u.oneCell' = true := by
  have hne : av ≠ .undef := by rintro rfl; simp [AV.cells, isCell] at hc
  have hr := cells_ok h hne
  intro u hu
  obtain ⟨j, hj, rfl⟩ := List.getElem_of_mem hu
  have hja : j < av.cells.length := by rw [hr.1]; exact hj
  have h1 := hr.2 j _ _ (List.getElem?_eq_getElem hja) (List.getElem?_eq_getElem hj)
  have h2 := List.all_eq_true.1 hc _ (List.getElem_mem hja)
  revert h1 h2
  generalize av.cells[j] = x
  generalize v.cells.toList[j] = u
  intro h1 h2
  cases h1 with
  | undef v => simp [isCell] at h2
  | k _ hs => cases u <;> simp [scalar] at hs <;> rfl
  | ku => simp [isCell, scalar, Go.undef] at h2
  | agg cs vs hl hr => simp [isCell] at h2
  | tup cs vs hl hr => simp [isCell] at h2
  | _ => rfl

theorem ok_isCell {c : CT} {v : AV} (h : c.ok v = true) : isCell v = true := by
  unfold CT.ok at h
  split at h <;> first | rfl | (cases h; done)

theorem rowOk_cells {cs : List CT} {vs : List AV} (h : rowOk cs vs = true) : vs.all isCell = true := by
  obtain ⟨hl, hk⟩ := rowOk_get h
  refine List.all_eq_true.2 fun x hx => ?_
  obtain ⟨j, hj, rfl⟩ := List.getElem_of_mem hx
  exact ok_isCell (hk j _ _ (List.getElem?_eq_getElem (hl ▸ hj)) (List.getElem?_eq_getElem hj))

theorem putAt_length {l vs : List AV} {off : Nat} (h : off + vs.length ≤ l.length) : (putAt l off vs).length = l.length := by
  simp [putAt]; omega

theorem rowOk_append : ∀ {cs ds : List CT} {as bs : List AV}, rowOk cs as = true → rowOk ds bs = true → rowOk (cs ++ ds) (as ++ bs) = true
  | [], _, [], _, _, h => h
  | [], _, _ :: _, _, h, _ => by simp [rowOk] at h
  | _ :: _, _, [], _, h, _ => by simp [rowOk] at h
  | c :: cs, ds, a :: as, bs, h, h' => by
    simp only [rowOk, Bool.and_eq_true, List.cons_append] at h ⊢
    exact ⟨h.1, rowOk_append h.2 h'⟩

theorem rowOk_take : ∀ {cs : List CT} {as : List AV} (n : Nat), rowOk cs as = true → rowOk (cs.take n) (as.take n) = true
  | [], [], n, _ => by simp [rowOk]
  | [], _ :: _, _, h => by simp [rowOk] at h
  | _ :: _, [], _, h => by simp [rowOk] at h
  | c :: cs, a :: as, 0, _ => rfl
  | c :: cs, a :: as, n + 1, h => by
    simp only [rowOk, Bool.and_eq_true, List.take_succ_cons] at h ⊢
    exact ⟨h.1, rowOk_take n h.2⟩

theorem rowOk_drop : ∀ {cs : List CT} {as : List AV} (n : Nat), rowOk cs as = true → rowOk (cs.drop n) (as.drop n) = true
  | [], [], n, _ => by simp [rowOk]
  | [], _ :: _, _, h => by simp [rowOk] at h
  | _ :: _, [], _, h => by simp [rowOk] at h
  | c :: cs, a :: as, 0, h => h
  | c :: cs, a :: as, n + 1, h => by
    simp only [rowOk, Bool.and_eq_true, List.drop_succ_cons] at h ⊢
    exact rowOk_drop n h.2

theorem rowOk_put {cs ds : List CT} {row vs : List AV} {off : Nat} (hr : rowOk cs row = true) (hv : rowOk ds vs = true) (hd : (cs.drop off).take ds.length = ds) : rowOk cs (putAt row off vs) = true := by
  have hl := (rowOk_get hv).1
  have h1 := rowOk_append (rowOk_append (rowOk_take off hr) hv) (rowOk_drop (off + vs.length) hr)
  have e : cs.take off ++ ds ++ cs.drop (off + vs.length) = cs := by
    conv => lhs; rw [← hd, hl]
    rw [List.append_assoc, ← List.drop_drop]
    conv => lhs; rhs; rw [show (cs.drop off).drop ds.length = (cs.drop off).drop ds.length from rfl]
    rw [List.take_append_drop, List.take_append_drop]
  rw [e] at h1
  exact h1

theorem flatten_put : ∀ {rows : List (List AV)} {sz i off : Nat} {vs : List AV}, (∀ x ∈ rows, x.length = sz) → i < rows.length → off + vs.length ≤ sz →
    (rows.set i (putAt (rows.getD i []) off vs)).flatten = rows.flatten.take (i * sz + off) ++ vs ++ rows.flatten.drop (i * sz + off + vs.length)
  | [], _, _, _, _, _, h, _ => by simp at h
  | x :: xs, sz, 0, off, vs, hl, _, ho => by
    have h1 := hl x List.mem_cons_self
    have e1 : List.take off (x ++ xs.flatten) = x.take off := List.take_append_of_le_length (by omega)
    have e2 : List.drop (off + vs.length) (x ++ xs.flatten) = x.drop (off + vs.length) ++ xs.flatten := List.drop_append_of_le_length (by omega)
    simp only [List.set_cons_zero, List.flatten_cons, List.getD_cons_zero, putAt, Nat.zero_mul, Nat.zero_add, e1, e2, List.append_assoc]
  | x :: xs, sz, i + 1, off, vs, hl, h, ho => by
    have h1 := hl x List.mem_cons_self
    have ih := flatten_put (off := off) (vs := vs) (fun y hy => hl y (List.mem_cons_of_mem _ hy)) (by simpa using h : i < xs.length) ho
    simp only [List.set_cons_succ, List.flatten_cons, List.getD_cons_succ]
    rw [ih]
    have e1 : List.take ((i + 1) * sz + off) (x ++ xs.flatten) = x ++ xs.flatten.take (i * sz + off) := by
      rw [List.take_append, List.take_of_length_le (by rw [h1, Nat.succ_mul]; omega), h1, show (i + 1) * sz + off - sz = i * sz + off by rw [Nat.succ_mul]; omega]
    have e2 : List.drop ((i + 1) * sz + off + vs.length) (x ++ xs.flatten) = xs.flatten.drop (i * sz + off + vs.length) := by
      rw [List.drop_append, List.drop_of_length_le (by rw [h1, Nat.succ_mul]; omega), List.nil_append, h1, show (i + 1) * sz + off + vs.length - sz = i * sz + off + vs.length by rw [Nat.succ_mul]; omega]
    rw [e1, e2]
    simp only [List.append_assoc]

theorem seg_get {α : Type} (vs news : List α) (p : Nat) (h : p + news.length ≤ vs.length) (k : Nat) :
    (vs.take p ++ news ++ vs.drop (p + news.length))[k]? = if k < p then vs[k]? else if k < p + news.length then news[k - p]? else vs[k]? := by
  rw [List.append_assoc]
  by_cases h1 : k < p
  · rw [if_pos h1, List.getElem?_append_left (by simp; omega), List.getElem?_take, if_pos h1]
  · rw [if_neg h1, List.getElem?_append_right (by simp; omega)]
    have e : (vs.take p).length = p := by simp; omega
    rw [e]
    by_cases h2 : k < p + news.length
    · rw [if_pos h2, List.getElem?_append_left (by omega)]
    · rw [if_neg h2, List.getElem?_append_right (by omega), List.getElem?_drop]
      congr 1; omega

/-- cells stored into an array whose cells may be references -/
theorem StR.storeArx (h : StR T E Z w σ vals) {id e : Nat} {rows : List (List AV)} {A : Addr} {n c i off : Nat} (hst : σ.st[id]? = some (.arx e rows)) (hE : E.ρ id = some (.slice (some A) n c)) (hi : i < n)
    {avs : List AV} {news : List Value} (hav : VRs T E Z w avs news) (hone : ∀ v ∈ news, v.oneCell' = true) (hoff : off + news.length ≤ (cts T e).length) :
    ∃ w', (storeCells ⟨A.block, A.off + (i * E.sz id + off), none⟩ news).run P w = .ok () w' ∧ StR T E Z w' { σ with st := σ.st.set id (.arx e (rows.set i (putAt (rows.getD i []) off avs))) } vals ∧
      Ext (Owned E σ.st) Z w (Owned E (σ.st.set id (.arx e (rows.set i (putAt (rows.getD i []) off avs))))) Z w' := by
  have hor := h.sr.obj id _ hst
  cases hor with
  | arx _ _ B o c' vs ty he' hc h0 hsz hb ho hlen hr =>
    rw [hE] at he'
    simp only [Option.some.injEq, Value.slice.injEq] at he'
    obtain ⟨rfl, rfl, rfl⟩ := he'
    have hid : id < σ.st.length := (List.getElem?_eq_some_iff.1 hst).1
    have hle : (i + 1) * (cts T e).length ≤ c * (cts T e).length := Nat.mul_le_mul_right _ (by omega)
    rw [Nat.succ_mul] at hle
    have hgi : rows.getD i [] = rows[i] := by simp [List.getD, List.getElem?_eq_getElem hi]
    have hli : rows[i].length = (cts T e).length := hlen _ (List.getElem_mem hi)
    have hrun := run_storeCells_at P B (o + (i * E.sz id + off)) ty news 0 vs.toArray w hb (by simp; rw [hsz]; omega) hone
    simp only [Nat.add_zero] at hrun
    refine ⟨_, hrun, ?_⟩
    rw [hsz]
    generalize hm : o + (i * (cts T e).length + off) = m
    have hon := OnlyAt.setRow w B (vs.take m ++ news ++ vs.drop (m + news.length)).toArray
    have hheap := setRow_heap w B vs.toArray (vs.take m ++ news ++ vs.drop (m + news.length)).toArray ty (0, 0) hb
    have hB : owns E σ.st id B := (owns_some hst).2 ⟨_, _, _, hE, h0, rfl⟩
    have hun : ∀ b, b < w.heap.size → ¬ Owned E σ.st b → (w.setRow B (vs.take m ++ news ++ vs.drop (m + news.length)).toArray).heap[b]? = w.heap[b]? :=
      fun b _ hno => hon.other b (fun e => hno (e ▸ ⟨id, hB⟩))
    have hmv : ∀ {x v}, VR T E Z w x v → VR T E Z (w.setRow B (vs.take m ++ news ++ vs.drop (m + news.length)).toArray) x v := fun hx => hx.mono (fun i v hv => ⟨hv, rfl⟩) (fun _ hz => hz) (h.sr.zcell hun)
    have hvl : m + news.length ≤ vs.length := by omega
    rw [hgi]
    have := h.write (w' := w.setRow B (vs.take m ++ news ++ vs.drop (m + news.length)).toArray) (o' := .arx e (rows.set i (putAt rows[i] off avs))) hid hB hon
      (.arx e _ B o c _ ty (by rw [List.length_set]; exact hE) (by rw [List.length_set]; exact hc) h0 hsz hheap (by simp; omega) (fun row hrow => by
        rcases List.mem_or_eq_of_mem_set hrow with h1 | h1
        · exact hlen row h1
        · rw [h1, putAt_length (by rw [hav.1, hli]; exact hoff), hli])
       (fun i' row j av v hi' hj hv => by
        rw [seg_get vs news m hvl] at hv
        by_cases hii : i' = i
        · subst hii
          rw [List.getElem?_set_self (by omega)] at hi'
          cases hi'
          unfold putAt at hj
          rw [seg_get rows[i'] avs off (by rw [hav.1, hli]; exact hoff), hav.1] at hj
          have e1 : (o + (i' * (cts T e).length + j) < m) ↔ j < off := by omega
          have e2 : (o + (i' * (cts T e).length + j) < m + news.length) ↔ j < off + news.length := by omega
          simp only [e1, e2] at hv
          split at hj
          · rename_i h1
            rw [if_pos h1] at hv
            exact hmv (hr i' _ j av v (List.getElem?_eq_getElem hi) hj hv)
          · rename_i h1
            rw [if_neg h1] at hv
            split at hj
            · rename_i h2
              rw [if_pos h2] at hv
              have e3 : o + (i' * (cts T e).length + j) - m = j - off := by omega
              rw [e3] at hv
              exact hmv (hav.2 _ _ _ hj hv)
            · rename_i h2
              rw [if_neg h2] at hv
              exact hmv (hr i' _ j av v (List.getElem?_eq_getElem hi) hj hv)
        · rw [List.getElem?_set_ne (fun e => hii e.symm)] at hi'
          have hjl : j < (cts T e).length := by
            have := (List.getElem?_eq_some_iff.1 hj).1
            rwa [hlen _ (List.mem_of_getElem? hi')] at this
          have hout : ¬ (m ≤ o + (i' * (cts T e).length + j) ∧ o + (i' * (cts T e).length + j) < m + news.length) := by
            rcases Nat.lt_or_gt_of_ne hii with h1 | h1
            · have := Nat.mul_le_mul_right (cts T e).length h1
              rw [Nat.succ_mul] at this
              omega
            · have := Nat.mul_le_mul_right (cts T e).length h1
              rw [Nat.succ_mul] at this
              omega
          have hv' : vs[o + (i' * (cts T e).length + j)]? = some v := by
            split at hv
            · exact hv
            · split at hv
              · omega
              · exact hv
          exact hmv (hr i' row j av v hi' hj hv')))
      (fun C hC => by obtain ⟨A, n, c', hA, _, rfl⟩ := hC; rw [hE] at hA; cases hA; rfl)
    exact ⟨this.1, this.2⟩

set_option maxHeartbeats 1000000 in
theorem astore_ok (hT : TabOk P T) (h : StR T E Z w σ vals) {t : Nat} {v x : AV} {vv vx : Value} (hv : VR T E Z w v vv) (hx : VR T E Z w x vx) (hs : astore T σ t v x = some σ') :
    ∃ w', (Instr.storeAt t vx vv).run P w = .ok () w' ∧ StR T E Z w' σ' vals ∧ Ext (Owned E σ.st) Z w (Owned E σ'.st) Z w' := by
  cases hx with
  | ptr id off B he =>
    simp only [astore] at hs
    split at hs
    · rename_i bt cs ti hst hti
      have hst := getD_some hst (by simp)
      obtain ⟨i, d, z, hto⟩ := hT t ti hti
      have hor := h.sr.obj id _ hst
      cases hor with
      | box _ _ B' vs ty he' hb hr =>
        rw [he] at he'; simp at he'; subst he'
        cases hc : (Nat.beq v.cells.length ti.cells.length && (Nat.ble (off + ti.cells.length) cs.length && v.cells.all isCell)) with
        | false => rw [hc] at hs; cases hs
        | true =>
          rw [hc] at hs
          simp only [cond_true, Option.some.injEq] at hs
          subst hs
          simp only [Bool.and_eq_true] at hc
          obtain ⟨h1, h2, h3⟩ := hc
          have h1 := Nat.eq_of_beq_eq_true h1
          have h2 := Nat.le_of_ble_eq_true h2
          have hne : v ≠ .undef := by rintro rfl; simp [AV.cells, isCell] at h3
          have hcr := cells_ok hv hne
          have hone := cells_one hv h3
          have hlv : vv.cells.toList.length = ti.cells.length := by rw [← hcr.1, h1]
          have hid : id < σ.st.length := (List.getElem?_eq_some_iff.1 hst).1
          have hrun := run_storeCells_at P B off ty vv.cells.toList 0 vs.toArray w hb (by simp only [List.size_toArray, Nat.add_zero, hlv]; rw [← hr.1]; exact h2) hone
          simp only [Nat.add_zero] at hrun
          refine ⟨w.setRow B (vs.take off ++ vv.cells.toList ++ vs.drop (off + vv.cells.toList.length)).toArray, ?_, ?_⟩
          · have hsize : ¬ (vv.cells.size ≠ i.size) := by rw [hto.size, ← hlv]; simp
            simp only [Instr.storeAt, Instr.sureAddr, Sem.run_bind, Sem.run_pure, Result.andThen_ok, storeVar, run_szOf hto.info, hsize, if_false]
            exact hrun
          · have hB : owns E σ.st id B := (owns_some hst).2 ⟨_, he, rfl⟩
            have hon := OnlyAt.setRow w B (vs.take off ++ vv.cells.toList ++ vs.drop (off + vv.cells.toList.length)).toArray
            have hheap := setRow_heap w B vs.toArray (vs.take off ++ vv.cells.toList ++ vs.drop (off + vv.cells.toList.length)).toArray ty (0, 0) hb
            have hun : ∀ b, b < w.heap.size → ¬ Owned E σ.st b → (w.setRow B (vs.take off ++ vv.cells.toList ++ vs.drop (off + vv.cells.toList.length)).toArray).heap[b]? = w.heap[b]? :=
              fun b _ hno => hon.other b (fun e => hno (e ▸ ⟨id, hB⟩))
            have hrr : VRs T E Z w (putAt cs off v.cells) (vs.take off ++ vv.cells.toList ++ vs.drop (off + vv.cells.toList.length)) := by
              unfold putAt
              rw [← hcr.1]
              exact ((hr.take off).append hcr).append (hr.drop _)
            have := h.write (o' := .box bt (putAt cs off v.cells)) hid hB hon
              (.box bt _ B _ ty he hheap (hrr.mono (fun i v hv => ⟨hv, rfl⟩) (fun _ hz => hz) (h.sr.zcell hun)))
              (fun C hC => by obtain ⟨A, hA, rfl⟩ := hC; rw [he] at hA; cases hA; rfl)
            exact ⟨this.1, this.2⟩
    · cases hs
  | ap id i off A n c he hi =>
    simp only [astore] at hs
    split at hs
    · rename_i e kd rows ti hst hti
      have hst := getD_some hst (by simp)
      obtain ⟨ii, d, z, hto⟩ := hT t ti hti
      split at hs
      · rename_i te hte
        cases hc : (decide ((te.cells.drop off).take ti.cells.length = ti.cells) && rowOk ti.cells v.cells) with
        | false => rw [hc] at hs; cases hs
        | true =>
          rw [hc] at hs
          simp only [cond_true, Option.some.injEq] at hs
          subst hs
          simp only [Bool.and_eq_true, decide_eq_true_eq] at hc
          obtain ⟨h1, h2⟩ := hc
          have hor := h.sr.obj id _ hst
          have hcte := elem_cts hte
          cases hor with
          | arr0 _ _ A' he' hn hk hsz => rw [he] at he'; cases he'; omega
          | arr _ _ _ B o c' vs ty hn he' hcc h0 hf hsz hb ho hok hr =>
            rw [he] at he'
            simp only [Option.some.injEq, Value.slice.injEq] at he'
            obtain ⟨rfl, rfl, rfl⟩ := he'
            have h3 := rowOk_cells h2
            have hne : v ≠ .undef := by rintro rfl; simp [AV.cells, isCell] at h3
            have hcr := cells_ok hv hne
            have hone := cells_one hv h3
            have hlv : vv.cells.toList.length = ti.cells.length := by rw [← hcr.1, (rowOk_get h2).1]
            have hrow : rows[i]? = some rows[i] := List.getElem?_eq_getElem hi
            have hg : rows.getD i [] = rows[i] := by simp [List.getD, hrow]
            have hokr := hok _ (List.getElem_mem hi)
            have hlr := (rowOk_get hokr).1
            have hsize : ¬ (vv.cells.size ≠ ii.size) := by rw [hto.size, ← hlv]; simp
            rcases Nat.eq_zero_or_pos ti.cells.length with hz0 | hpos
            · -- nothing is stored
              have hn0 : vv.cells.toList = [] := List.length_eq_zero_iff.1 (by rw [hlv, hz0])
              have ha0 : v.cells = [] := List.length_eq_zero_iff.1 (by rw [(rowOk_get h2).1, hz0])
              refine ⟨w, ?_, ?_⟩
              · simp only [Instr.storeAt, Instr.sureAddr, Sem.run_bind, Sem.run_pure, Result.andThen_ok, storeVar, run_szOf hto.info, hsize, if_false, hn0]
                simp [storeCells]
              · have e1 : rows.set i (putAt (rows.getD i []) off v.cells) = rows := by
                  rw [hg, ha0]
                  have : putAt rows[i] off [] = rows[i] := by simp [putAt]
                  rw [this]; exact List.set_getElem_self hi
                rw [e1]
                have hset : σ.st.set id (.arr e kd rows) = σ.st := set_self hst
                rw [hset]
                exact ⟨h, Ext.refl _ _ _⟩
            · have hoff : off + ti.cells.length ≤ te.cells.length := by
                have := congrArg List.length h1
                simp at this; omega
              have hszp : 0 < (cts T e).length := by rw [hcte]; omega
              have hput : (putAt rows[i] off v.cells).length = (cts T e).length := by
                rw [putAt_length (by rw [(rowOk_get h2).1, hlr, hcte]; exact hoff), hlr]
              have hokp : rowOk (cts T e) (putAt rows[i] off v.cells) = true := rowOk_put hokr h2 (by rw [hcte]; exact h1)
              have hle : (i + 1) * (cts T e).length ≤ rows.length * (cts T e).length := Nat.mul_le_mul_right _ hi
              rw [Nat.succ_mul] at hle
              have hcl : v.cells.length = ti.cells.length := (rowOk_get h2).1
              have hflat := flatten_put (off := off) (vs := v.cells) (RowsR.len hok) hi (by rw [hcl, hcte]; exact hoff)
              rw [hg] at hflat
              have hstore := h.storeArr (P := P) (rows' := rows.set i (putAt rows[i] off v.cells)) hst he hszp (i * (cts T e).length + off) hcr hone (by rw [hlv, hcte]; rw [hcte] at hle; omega) (by simp)
                (fun row hrow => (List.mem_or_eq_of_mem_set hrow).elim (hok row) (fun e => e ▸ hokp)) hflat
              obtain ⟨_, _, hw⟩ := hstore
              obtain ⟨w', hrun, hS, hX⟩ := hw B o rfl
              refine ⟨w', ?_, by rw [hg]; exact ⟨hS, hX⟩⟩
              simp only [Instr.storeAt, Instr.sureAddr, Sem.run_bind, Sem.run_pure, Result.andThen_ok, storeVar, run_szOf hto.info, hsize, if_false]
              rw [hsz]
              exact hrun
      · cases hs
    · rename_i e rows ti hst hti
      have hst := getD_some hst (by simp)
      obtain ⟨ii, d, z, hto⟩ := hT t ti hti
      split at hs
      · rename_i te hte
        cases hc : (decide ((te.cells.drop off).take ti.cells.length = ti.cells) && (Nat.beq v.cells.length ti.cells.length && v.cells.all isCell)) with
        | false => rw [hc] at hs; cases hs
        | true =>
          rw [hc] at hs
          simp only [cond_true, Option.some.injEq] at hs
          subst hs
          simp only [Bool.and_eq_true, decide_eq_true_eq] at hc
          obtain ⟨h1, h2, h3⟩ := hc
          have h2 := Nat.eq_of_beq_eq_true h2
          have hcte := elem_cts hte
          have hne : v ≠ .undef := by rintro rfl; simp [AV.cells, isCell] at h3
          have hcr := cells_ok hv hne
          have hone := cells_one hv h3
          have hlv : vv.cells.toList.length = ti.cells.length := by rw [← hcr.1, h2]
          have hsize : ¬ (vv.cells.size ≠ ii.size) := by rw [hto.size, ← hlv]; simp
          rcases Nat.eq_zero_or_pos ti.cells.length with hz0 | hpos
          · -- nothing is stored
            have hn0 : vv.cells.toList = [] := List.length_eq_zero_iff.1 (by rw [hlv, hz0])
            have ha0 : v.cells = [] := List.length_eq_zero_iff.1 (by rw [h2, hz0])
            refine ⟨w, ?_, ?_⟩
            · simp only [Instr.storeAt, Instr.sureAddr, Sem.run_bind, Sem.run_pure, Result.andThen_ok, storeVar, run_szOf hto.info, hsize, if_false, hn0]
              simp [storeCells]
            · have e1 : rows.set i (putAt (rows.getD i []) off v.cells) = rows := by
                rw [ha0]
                have : putAt (rows.getD i []) off [] = rows.getD i [] := by simp [putAt]
                rw [this]
                rcases Nat.lt_or_ge i rows.length with hlt | hge
                · have hg : rows.getD i [] = rows[i] := by simp [List.getD, List.getElem?_eq_getElem hlt]
                  rw [hg]; exact List.set_getElem_self hlt
                · exact List.set_eq_of_length_le hge
              rw [e1]
              have hset : σ.st.set id (.arx e rows) = σ.st := set_self hst
              rw [hset]
              exact ⟨h, Ext.refl _ _ _⟩
          · have hoff : off + vv.cells.toList.length ≤ (cts T e).length := by
              have := congrArg List.length h1
              simp at this
              rw [hlv, hcte]; omega
            obtain ⟨w', hrun, hS, hX⟩ := h.storeArx (P := P) hst he hi hcr hone hoff
            refine ⟨w', ?_, hS, hX⟩
            simp only [Instr.storeAt, Instr.sureAddr, Sem.run_bind, Sem.run_pure, Result.andThen_ok, storeVar, run_szOf hto.info, hsize, if_false]
            exact hrun
      · cases hs
    · cases hs
  | _ => simp [astore] at hs

end
end Go.Fw
