/- The framework, part D: the tables, and the operations that turn nothing. -/
import Derived.Test.YtgcdiccbehiijaaFwC
import Derived.Laws.StructEq
set_option linter.all false
set_option linter.unusedSimpArgs false
set_option linter.unusedVariables false
namespace Go.Fw
def dOk : TD → TypeDesc → Bool
  | .int k, .int j => decide (j = k)
  | .bool, .bool => true
  | .str, .string => true
  | .sl e, .slice e' => Nat.beq e e'
  | .struct fs, .struct fields => decide (fields.toList.map (fun f => (f.offset, f.type)) = fs)
  | .arr n e, .array n' e' => Nat.beq n n' && Nat.beq e e'
  | .ptr e, .pointer e' => Nat.beq e e'
  | .map k e, .map k' e' => Nat.beq k k' && Nat.beq e e'
  | .func, .func _ _ _ => true
  | .iface, .interface _ => true
  | _, _ => false
structure TOk (P : Program) (t : TypeId) (ti : TI) (i : TypeInfo) (d : TypeDesc) (z : Value) : Prop where
  info : P.info? t = some i
  und : P.underlying t = some d
  desc : dOk ti.d d = true
  size : i.size = ti.cells.length
  bytes : i.bytes = ti.bytes
  zero : i.zero = some z
  cells : z.cells.toList = ti.cells.map CT.zeroV
  agg : ti.isAgg = true → ∃ cs, z = .agg cs
  eqs : ti.eqable = true → P.stoodInHeld t = false ∧ P.eqGuardType P.depth t = false ∧ ∀ f ∈ (P.fieldsOf t).toList, (f.name == "_") = false
  nagg : ti.isAgg = false → z.cells = #[z]
def TabOk (P : Program) (T : Tab) : Prop := ∀ t ti, T t = some ti → ∃ i d z, TOk P t ti i d z
section
variable {P : Program} {T : Tab} {E : Env} {Z : Nat → Prop} {w : World} {σ : St}
theorem run_und {t : TypeId} {d : TypeDesc} (h : P.underlying t = some d) : (underlying t).run P w = .ok d w := by simp [underlying, h]
theorem run_info {t : TypeId} {i : TypeInfo} (h : P.info? t = some i) : (typeInfo t).run P w = .ok i w := by simp [typeInfo, h]
theorem run_szOf {t : TypeId} {i : TypeInfo} (h : P.info? t = some i) : (sizeOf t).run P w = .ok i.size w := by simp [sizeOf, run_info h]
theorem run_zero {t : TypeId} {i : TypeInfo} {z : Value} (h : P.info? t = some i) (hz : i.zero = some z) : (zeroValue t).run P w = .ok z w := by simp [zeroValue, run_info h, hz]
theorem TOk.isAgg {t : TypeId} {ti : TI} {i d z} (h : TOk P t ti i d z) : (Go.isAgg t).run P w = .ok ti.isAgg w := by
  have hd := h.desc
  simp only [Go.isAgg, Sem.run_bind, run_und h.und, Result.andThen_ok]
  cases hh : ti.d <;> cases d <;> simp_all [dOk, TI.isAgg]
theorem add_none {A : Addr} (h : A.spot = none) (j : Nat) : A.add j = ⟨A.block, A.off + j, none⟩ := by
  unfold Addr.add
  split
  · subst_vars; cases A; simp_all
  · rfl
theorem loadAt_cells {t : TypeId} {ti : TI} {i d z} (h : TOk P t ti i d z) (A : Addr) (hs : A.spot = none) (cvs : List Value) (hl : cvs.length = ti.cells.length)
    (hc : ∀ j v, cvs[j]? = some v → w.cell? ⟨A.block, A.off + j, none⟩ = some v) :
    (ti.isAgg = true → (Instr.loadAt t (.pointer (some A))).run P w = .ok (.agg cvs.toArray) w) ∧
    (ti.isAgg = false → ∀ v, cvs = [v] → (Instr.loadAt t (.pointer (some A))).run P w = .ok v w) := by
  refine ⟨fun ha => ?_, fun ha v hv => ?_⟩
  · have hcs : (loadCells A ti.cells.length).run P w = .ok cvs.toArray w := by
      rw [← hl]; exact run_loadCells_list w A cvs fun j v hj => by rw [add_none hs]; exact hc j v hj
    simp [Instr.loadAt, Instr.sureAddr, loadVar, h.isAgg, ha, run_szOf h.info, h.size, hcs]
  · subst hv
    have h0 := hc 0 v rfl
    have hA : (⟨A.block, A.off + 0, none⟩ : Addr) = A := by cases A; simp_all
    rw [hA] at h0
    simp [Instr.loadAt, Instr.sureAddr, loadVar, h.isAgg, ha, h0]
theorem expand_ok {c : CT} {v : AV} (h : c.ok v = true) : c.expand v = v := by
  have hs : ∀ (t u : Nat) (kd : SK) (rows : List (List AV)), CT.ok (.sl t) (.sl u kd rows) = true → CT.expand (.sl t) (.sl u kd rows) = .sl u kd rows := fun t u kd rows h => by
    simp only [CT.ok, Bool.and_eq_true] at h
    obtain rfl := Nat.eq_of_beq_eq_true h.1
    cases kd <;> first | rfl | (have := h.2; cases this)
  cases c <;> cases v <;> first | exact hs _ _ _ _ h | (simp_all [CT.ok, CT.expand, AV.toI, AV.toB, AV.toS, AV.kind, AV.rows]; done) | skip
  all_goals (rename_i x; cases x <;> simp_all [CT.ok, CT.expand, AV.toI, AV.toB, AV.toS])
theorem rowAt_eq : ∀ (cs cts : List CT) (row : List AV) (off : Nat), rowOk cts row = true → (cts.drop off).take cs.length = cs → rowAt row off cs = (row.drop off).take cs.length
  | [], _, _, _, _, _ => by simp [rowAt]
  | c :: cs, cts, row, off, hr, hc => by
    obtain ⟨hl, hk⟩ := rowOk_get hr
    have hlt : off < cts.length := by
      rcases Nat.lt_or_ge off cts.length with h | h
      · exact h
      · rw [List.drop_eq_nil_of_le h] at hc; simp at hc
    have hlr : off < row.length := by omega
    rw [List.drop_eq_getElem_cons hlt] at hc
    simp only [List.length_cons, List.take_succ_cons, List.cons.injEq] at hc
    obtain ⟨h1, h2⟩ := hc
    rw [List.drop_eq_getElem_cons hlr]
    simp only [rowAt, List.length_cons, List.take_succ_cons]
    rw [rowAt_eq cs cts row (off + 1) hr h2]
    congr 1
    have hg : row.getD off .undef = row[off] := by simp [List.getD, List.getElem?_eq_getElem hlr]
    rw [hg]
    exact expand_ok (hk off c _ (by rw [List.getElem?_eq_getElem hlt, h1]) (List.getElem?_eq_getElem hlr))
theorem elemLoad_ok (hT : TabOk P T) {t e : Nat} {row : List AV} {off : Nat} {av : AV} (h : elemLoad T t e row off = some av) (hok : rowOk (cts T e) row = true)
    (A : Addr) (hs : A.spot = none) (cv : Nat → Value) (hc : ∀ j x, row[j]? = some x → w.cell? ⟨A.block, A.off + j, none⟩ = some (cv j))
    (hr : ∀ j x, row[j]? = some x → VR T E Z w x (cv j)) :
    ∃ v, (Instr.loadAt t (.pointer (some ⟨A.block, A.off + off, none⟩))).run P w = .ok v w ∧ VR T E Z w av v := by
  unfold elemLoad at h
  split at h
  · rename_i ti te hti hte
    have hcts : cts T e = te.cells := by simp [cts, hte]
    rw [hcts] at hok
    cases hcond : decide ((te.cells.drop off).take ti.cells.length = ti.cells) with
    | false => rw [hcond] at h; cases h
    | true =>
      rw [hcond] at h
      have hcond := of_decide_eq_true hcond
      obtain ⟨i, d, z, hto⟩ := hT t ti hti
      obtain ⟨hl, hk⟩ := rowOk_get hok
      have hlen : off + ti.cells.length ≤ row.length ∨ ti.cells = [] := by
        have := congrArg List.length hcond
        simp at this
        rcases Nat.eq_zero_or_pos ti.cells.length with h0 | h0
        · exact .inr (List.length_eq_zero_iff.1 h0)
        · left; omega
      have hrow : rowAt row off ti.cells = (row.drop off).take ti.cells.length := rowAt_eq _ _ _ _ hok hcond
      let cvs : List Value := (List.range ti.cells.length).map fun j => cv (off + j)
      have hcvs : ∀ j v, cvs[j]? = some v → j < ti.cells.length ∧ v = cv (off + j) := fun j v hj => by
        simp only [cvs, List.getElem?_map, List.getElem?_range] at hj
        by_cases hlt : j < ti.cells.length
        · simp [hlt] at hj; exact ⟨hlt, hj.symm⟩
        · simp [hlt] at hj
      have hget : ∀ j, j < ti.cells.length → ∃ x, row[off + j]? = some x := fun j hj => by
        rcases hlen with h1 | h1
        · exact ⟨_, List.getElem?_eq_getElem (by omega)⟩
        · rw [h1] at hj; simp at hj
      have hload := loadAt_cells (w := w) hto ⟨A.block, A.off + off, none⟩ rfl cvs (by simp [cvs]) (fun j v hj => by
        obtain ⟨hlt, rfl⟩ := hcvs j v hj
        obtain ⟨x, hx⟩ := hget j hlt
        have := hc (off + j) x hx
        rwa [← Nat.add_assoc] at this)
      cases ha : ti.isAgg with
      | true =>
        simp only [ha, cond_true, Option.some.injEq] at h
        subst h
        refine ⟨_, hload.1 ha, ?_⟩
        rw [hrow]
        refine .agg _ cvs ?_ (fun j x v hj hv => ?_)
        · simp only [cvs, List.length_take, List.length_drop, List.length_map, List.length_range]
          rcases hlen with h1 | h1
          · omega
          · simp [h1]
        · obtain ⟨hlt, rfl⟩ := hcvs j v hv
          rw [List.getElem?_take] at hj
          simp only [hlt, if_true, List.getElem?_drop] at hj
          exact hr _ _ hj
      | false =>
        simp only [ha, cond_false, cond_true] at h
        split at h
        · rename_i c hcell
          cases h
          have h0 : 0 < ti.cells.length := by simp [hcell]
          obtain ⟨x, hx⟩ := hget 0 h0
          refine ⟨cv off, hload.2 ha _ (by simp [cvs, hcell, List.range_succ]), ?_⟩
          have hx' : row[off]? = some x := by simpa using hx
          have hg : row.getD off .undef = x := by simp [List.getD, hx']
          rw [hg, expand_ok]
          · exact hr _ _ hx'
          · rw [hcell] at hcond
            have := congrArg (fun l : List CT => l[0]?) hcond
            simp only [List.length_cons, List.length_nil, Nat.zero_add, List.getElem?_take, List.getElem?_drop, Nat.lt_one_iff, if_true, Nat.add_zero, List.getElem?_cons_zero] at this
            exact hk off c x this hx'
        · cases h
  · cases h
theorem getD_some {l : List AObj} {id : Nat} {o : AObj} (h : l.getD id .dead = o) (hd : o ≠ .dead) : l[id]? = some o := by
  simp only [List.getD] at h
  cases hh : l[id]? with
  | none => rw [hh] at h; exact absurd h.symm hd
  | some x => rw [hh] at h; simp at h; rw [h]
theorem cell_of {B : Nat} {vs : List Value} {ty : TypeId} {fr : Nat × Nat} (hb : w.heap[B]? = some (.cells vs.toArray ty fr)) (o : Nat) : w.cell? ⟨B, o, none⟩ = vs[o]? := by
  simp [World.cell?, hb]
theorem aload_ok (hT : TabOk P T) (hs : SR T E Z w σ.st) {t : Nat} {x av : AV} {vx : Value} (hx : VR T E Z w x vx) (h : aload T σ t x = some av) :
    ∃ v, (Instr.loadAt t vx).run P w = .ok v w ∧ VR T E Z w av v := by
  cases hx with
  | ptr id off B he =>
    simp only [aload] at h
    · split at h
      · rename_i bt cs ti hst hti
        obtain ⟨i, d, z, hto⟩ := hT t ti hti
        have hor := hs.obj id _ (getD_some hst (by simp))
        cases hor with
        | box _ _ B' vs ty he' hb hr =>
          rw [he] at he'; simp at he'; subst he'
          cases hle : Nat.ble (off + ti.cells.length) cs.length with
          | false => rw [hle] at h; cases h
          | true =>
            rw [hle] at h
            have hle := Nat.le_of_ble_eq_true hle
            have hlv := hr.1
            have hload := loadAt_cells (w := w) hto ⟨B, off, none⟩ rfl ((vs.drop off).take ti.cells.length) (by simp; omega) (fun j v hj => by
              rw [List.getElem?_take] at hj
              by_cases hlt : j < ti.cells.length
              · simp only [hlt, if_true, List.getElem?_drop] at hj
                rw [cell_of hb]; exact hj
              · simp [hlt] at hj)
            cases ha : ti.isAgg with
            | true =>
              simp only [ha, cond_true, Option.some.injEq] at h
              subst h
              refine ⟨_, hload.1 ha, .agg _ _ (by simp; omega) (fun j x v hj hv => ?_)⟩
              rw [List.getElem?_take] at hj hv
              by_cases hlt : j < ti.cells.length
              · simp only [hlt, if_true, List.getElem?_drop] at hj hv
                exact hr.2 _ _ _ hj hv
              · simp [hlt] at hj
            | false =>
              simp only [ha, cond_false, cond_true] at h
              split at h
              · rename_i c hcell1
                have hlt : off < vs.length := by rw [hcell1] at hle; simp at hle; omega
                have hv := List.getElem?_eq_getElem hlt
                refine ⟨vs[off], hload.2 ha _ ?_, hr.2 _ _ _ h hv⟩
                rw [hcell1, List.drop_eq_getElem_cons hlt]; rfl
              · cases h
      · cases h
  | ap id i off A n c he hi =>
    simp only [aload] at h
    · split at h
      · rename_i e kd rows hst
        have hor := hs.obj id _ (getD_some hst (by simp))
        cases hor with
        | arr0 _ _ A' he' hn hk hsz => rw [he] at he'; simp at he'; omega
        | arr _ _ _ B o c' vs ty hn he' hc h0 hf hsz hb ho hok hr =>
          rw [he] at he'
          simp only [Option.some.injEq, Value.slice.injEq] at he'
          obtain ⟨rfl, rfl, rfl⟩ := he'
          have hrow : rows[i]? = some rows[i] := List.getElem?_eq_getElem hi
          have hg : rows.getD i [] = rows[i] := by simp [List.getD, hrow]
          rw [hg] at h
          have hokr := hok _ (List.getElem_mem hi)
          obtain ⟨hl, _⟩ := rowOk_get hokr
          have hin : ∀ j x, rows[i][j]? = some x → o + (i * (cts T e).length + j) < vs.length := fun j x hj => by
            have hj' := (List.getElem?_eq_some_iff.1 hj).1
            rw [hl] at hj'
            have : (i + 1) * (cts T e).length ≤ c * (cts T e).length := Nat.mul_le_mul_right _ (by omega)
            rw [Nat.succ_mul] at this
            omega
          have := elemLoad_ok (w := w) (E := E) (Z := Z) hT h hokr ⟨B, o + i * (cts T e).length, none⟩ rfl (fun j => vs.getD (o + (i * (cts T e).length + j)) Go.undef)
            (fun j x hj => by
              rw [cell_of hb, Nat.add_assoc]
              simp [List.getD, List.getElem?_eq_getElem (hin j x hj)])
            (fun j x hj => hr i _ j x _ hrow hj (by simp [List.getD, List.getElem?_eq_getElem (hin j x hj)]))
          simp only [Nat.add_assoc] at this
          rw [hsz]
          exact this
      · rename_i e rows hst
        have hor := hs.obj id _ (getD_some hst (by simp))
        cases hor with
        | arx _ _ B o c' vs ty he' hc h0 hsz hb ho hlen hr =>
          rw [he] at he'
          simp only [Option.some.injEq, Value.slice.injEq] at he'
          obtain ⟨rfl, rfl, rfl⟩ := he'
          have hrow : rows[i]? = some rows[i] := List.getElem?_eq_getElem hi
          have hg : rows.getD i [] = rows[i] := by simp [List.getD, hrow]
          rw [hg] at h
          have hl := hlen _ (List.getElem_mem hi)
          unfold elemLoadX at h
          split at h
          · rename_i ti te hti hte
            obtain ⟨ii, d, z, hto⟩ := hT t ti hti
            have hcte : cts T e = te.cells := by unfold cts; rw [hte]
            cases hcond : decide ((te.cells.drop off).take ti.cells.length = ti.cells) with
            | false => rw [hcond] at h; cases h
            | true =>
              rw [hcond] at h
              rw [decide_eq_true_eq] at hcond
              have hn : ti.cells.length ≤ te.cells.length - off := by
                have := congrArg List.length hcond
                simp only [List.length_take, List.length_drop] at this; omega
              have hend : o + (i * (cts T e).length + off) + ti.cells.length ≤ vs.length ∨ ti.cells.length = 0 := by
                rcases Nat.eq_zero_or_pos ti.cells.length with hz | hz
                · exact .inr hz
                · left
                  have : (i + 1) * (cts T e).length ≤ c * (cts T e).length := Nat.mul_le_mul_right _ (by omega)
                  rw [Nat.succ_mul] at this
                  have hL : (cts T e).length = te.cells.length := by rw [hcte]
                  omega
              have hL : (cts T e).length = te.cells.length := by rw [hcte]
              rw [hsz]
              have hrel : ∀ (j : Nat) (x : AV) (v : Value), j < ti.cells.length → rows[i][off + j]? = some x → vs[o + (i * (cts T e).length + off) + j]? = some v → VR T E Z w x v := fun j x v hj hx hv =>
                hr i _ (off + j) x v hrow hx (by rw [← hv]; congr 1; omega)
              have hload := loadAt_cells (w := w) hto ⟨B, o + (i * (cts T e).length + off), none⟩ rfl ((vs.drop (o + (i * (cts T e).length + off))).take ti.cells.length) (by simp only [List.length_take, List.length_drop]; omega) (fun j v hj => by
                rw [List.getElem?_take] at hj
                by_cases hlt : j < ti.cells.length
                · simp only [hlt, if_true, List.getElem?_drop] at hj
                  rw [cell_of hb]; exact hj
                · simp [hlt] at hj)
              cases ha : ti.isAgg with
              | true =>
                simp only [ha, cond_true, Option.some.injEq] at h
                subst h
                refine ⟨_, hload.1 ha, .agg _ _ (by simp only [List.length_take, List.length_drop]; omega) (fun j x v hj hv => ?_)⟩
                rw [List.getElem?_take] at hj hv
                by_cases hlt : j < ti.cells.length
                · simp only [hlt, if_true, List.getElem?_drop] at hj hv
                  exact hrel j x v hlt hj hv
                · simp [hlt] at hj
              | false =>
                simp only [ha, cond_false, cond_true] at h
                split at h
                · rename_i cc hcell1
                  have hlt : o + (i * (cts T e).length + off) < vs.length := by
                    rw [hcell1] at hend; simp at hend; omega
                  have hv := List.getElem?_eq_getElem hlt
                  refine ⟨vs[o + (i * (cts T e).length + off)], hload.2 ha _ ?_, hrel 0 _ _ (by rw [hcell1]; simp) (by simpa using h) (by simpa using hv)⟩
                  rw [hcell1, List.drop_eq_getElem_cons hlt]; rfl
                · cases h
          · cases h
      · cases h
  | ep e row off A cv hz hok hcell hrep =>
    simp only [aload] at h
    · exact elemLoad_ok (w := w) hT h hok ⟨A.block, A.off, none⟩ rfl cv hcell hrep
  | _ => simp [aload] at h
end
end Go.Fw
