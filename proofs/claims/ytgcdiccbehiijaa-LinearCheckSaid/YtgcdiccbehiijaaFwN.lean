/- The framework, part N: copy, clear, conversions; all operations together. -/
import Derived.Test.YtgcdiccbehiijaaFwMx
set_option linter.all false
set_option linter.unusedSimpArgs false
set_option linter.unusedVariables false
namespace Go.Fw
section
variable {P : Program} {T : Tab} {E : Env} {Z : Nat → Prop} {w w' : World} {σ σ' : St} {vals : List Value}
theorem writeRows_ok (hT : TabOk P T) (h : StR T E Z w σ vals) {e : Nat} {d : AV} {vd : Value} {ys : List (List AV)} {news : List Value} (hd : VR T E Z w d vd) (hR : RowsR T E Z w e ys news)
    (hs : writeRows T σ e d ys = some (true, σ')) :
    ∃ base n c w', vd = .slice base n c ∧ (∀ A, base = some A → (storeCells A news).run P w = .ok () w') ∧ (base = none → w' = w) ∧ StR T E Z w' σ' vals ∧ Ext (Owned E σ.st) Z w (Owned E σ'.st) Z w' ∧ ys.length ≤ n ∧ σ'.moved = σ.moved := by
  unfold writeRows at hs
  split at hs
  · cases hs
  rename_i te hte
  have hcte := elem_cts hte
  cases hem : te.cells.isEmpty with
  | true => rw [hem] at hs; cases hs
  | false =>
    rw [hem] at hs
    simp only [cond_false] at hs
    have hpos : 0 < (cts T e).length := by
      rw [hcte]
      rcases Nat.eq_zero_or_pos te.cells.length with h0 | h0
      · rw [List.length_eq_zero_iff] at h0; rw [h0] at hem; simp at hem
      · exact h0
    have hnl := hR.length
    have hall : ∀ {id kd rows}, σ.st[id]? = some (.arr e kd rows) → (∀ row ∈ rows, rowOk (cts T e) row = true) ∧ ∃ A c, E.ρ id = some (.slice A rows.length c) ∧ rows.length ≤ c ∧ E.sz id = (cts T e).length := fun hst => by
      have hor := h.sr.obj _ _ hst
      cases hor with
      | arr0 _ _ A he hn hk hsz => exact ⟨fun row hr => by simp at hr, A, 0, he, Nat.le_refl _, hsz⟩
      | arr _ _ _ B o c' vs' ty' hn he hc h0 hf hsz hb ho hok hr => exact ⟨hok, _, c', he, hc, hsz⟩
    have nothing : ∀ {id kd rows rows'}, σ.st[id]? = some (.arr e kd rows) → ys.length = 0 → rows' = rows → σ' = { σ with st := σ.st.set id (.arr e kd rows') } →
        ∀ base n c, vd = .slice base n c → ∃ base n c w', vd = .slice base n c ∧ (∀ A, base = some A → (storeCells A news).run P w = .ok () w') ∧ (base = none → w' = w) ∧ StR T E Z w' σ' vals ∧ Ext (Owned E σ.st) Z w (Owned E σ'.st) Z w' ∧ ys.length ≤ n ∧ σ'.moved = σ.moved := fun {id kd rows rows'} hst h0 hrr hσ base n c hv => by
      have hn0 : news = [] := List.length_eq_zero_iff.1 (by rw [hnl, h0, Nat.zero_mul])
      have hset : σ.st.set id (.arr e kd rows') = σ.st := by rw [hrr]; exact set_self hst
      rw [hset] at hσ
      subst hσ
      exact ⟨base, n, c, w, hv, fun A _ => by rw [hn0]; simp [storeCells], fun _ => rfl, h, Ext.refl _ _ _, by omega, rfl⟩
    split at hs
    · rename_i id
      split at hs
      · rename_i u kd rows hst
        cases hue : Nat.beq u e with
        | false => rw [hue] at hs; cases hs
        | true =>
          rw [hue] at hs
          obtain rfl := Nat.eq_of_beq_eq_true hue
          simp only [cond_true, Option.some.injEq, Prod.mk.injEq] at hs
          obtain ⟨hble, hσ⟩ := hs
          have hble := Nat.le_of_ble_eq_true hble
          have hst' := getD_some hst (by simp)
          obtain ⟨hok, A, c, hE, hlc, hsz⟩ := hall hst'
          cases hd with
          | sr _ A' n' c' hE' =>
            rw [hE] at hE'; cases hE'
            rcases Nat.eq_zero_or_pos ys.length with h0 | h0
            · have hy0 : ys = [] := List.length_eq_zero_iff.1 h0
              exact nothing hst' h0 (by rw [hy0]; simp) hσ.symm A rows.length c rfl
            · have hlr := RowsR.len hok
              have hstore := h.storeArr (P := P) (rows' := ys ++ rows.drop ys.length) hst' hE hpos 0 (avs := ys.flatten) (news := news) hR.2 hR.one
                (by rw [hnl, Nat.zero_add]; exact Nat.mul_le_mul_right _ hble) (by simp; omega)
                (fun row hrow => (List.mem_append.1 hrow).elim (hR.1 row) (fun hr => hok row (List.mem_of_mem_drop hr)))
                (by rw [List.flatten_append, flatten_drop _ hlr, flatten_length (RowsR.len hR.1), List.take_zero, List.nil_append, Nat.zero_add])
              obtain ⟨_, hsome, hw⟩ := hstore
              obtain ⟨B, o, hAB⟩ := hsome (by rintro rfl; rw [List.length_nil] at hble; omega)
              subst hAB
              obtain ⟨w', hrun, hS, hX⟩ := hw B o rfl
              subst hσ
              exact ⟨_, _, _, w', rfl, fun A hA => by cases hA; exact hrun, fun hh => (by cases hh), hS, hX, hble, rfl⟩
      · cases hs
    · rename_i id a n
      split at hs
      · rename_i u kd rows hst
        cases hue : Nat.beq u e with
        | false => rw [hue] at hs; cases hs
        | true =>
          rw [hue] at hs
          obtain rfl := Nat.eq_of_beq_eq_true hue
          simp only [cond_true, Option.some.injEq, Prod.mk.injEq, Bool.and_eq_true] at hs
          obtain ⟨⟨hble, hble2⟩, hσ⟩ := hs
          have hble := Nat.le_of_ble_eq_true hble
          have hble2 := Nat.le_of_ble_eq_true hble2
          have hst' := getD_some hst (by simp)
          obtain ⟨hok, A, c, hE, hlc, hsz⟩ := hall hst'
          cases hd with
          | ss _ _ _ A0 A' len c' hE' hb hA =>
            rw [hE] at hE'
            simp only [Option.some.injEq, Value.slice.injEq] at hE'
            obtain ⟨rfl, rfl, rfl⟩ := hE'
            rcases Nat.eq_zero_or_pos ys.length with h0 | h0
            · have hy0 : ys = [] := List.length_eq_zero_iff.1 h0
              exact nothing hst' h0 (by rw [hy0]; simp) hσ.symm A' n (c - a) rfl
            · have hlr := RowsR.len hok
              have hm : a * (cts T u).length + ys.length * (cts T u).length ≤ rows.length * (cts T u).length := by rw [← Nat.add_mul]; exact Nat.mul_le_mul_right _ hble2
              have hstore := h.storeArr (P := P) (rows' := rows.take a ++ ys ++ rows.drop (a + ys.length)) hst' hE hpos (a * (cts T u).length) (avs := ys.flatten) (news := news) hR.2 hR.one
                (by rw [hnl]; exact hm) (by simp; omega)
                (fun row hrow => by
                  rcases List.mem_append.1 hrow with hrow | hrow
                  · rcases List.mem_append.1 hrow with hrow | hrow
                    · exact hok row (List.mem_of_mem_take hrow)
                    · exact hR.1 row hrow
                  · exact hok row (List.mem_of_mem_drop hrow))
                (by rw [List.flatten_append, List.flatten_append, flatten_take _ hlr, flatten_drop _ hlr, flatten_length (RowsR.len hR.1), Nat.add_mul])
              obtain ⟨_, hsome, hw⟩ := hstore
              obtain ⟨B, o, hAB⟩ := hsome (by rintro rfl; rw [List.length_nil] at hble2; omega)
              subst hAB
              obtain ⟨w', hrun, hS, hX⟩ := hw B o rfl
              subst hσ
              have hA' := hA (by omega)
              subst hA'
              refine ⟨_, _, _, w', rfl, fun A hA => ?_, fun hh => (by cases hh), hS, hX, hble, rfl⟩
              cases hA
              rw [hsz]; exact hrun
      · cases hs
    · cases hs
theorem acopy_ok (hT : TabOk P T) (h : StR T E Z w σ vals) {t u ty : Nat} {d x av : AV} {vd vx : Value} (hd : VR T E Z w d vd) (hx : VR T E Z w x vx)
    (hs : acopy T σ t d x = some (true, σ', av)) : OpRes P T E Z w vals σ (Builtin.copy_ #[t, u] ty #[vd, vx]) σ' av := by
  unfold acopy at hs
  split at hs
  · rename_i e cells bytes hti
    obtain ⟨i, dd, z, hto⟩ := hT _ _ hti
    have hdd := dOk_sl hto.desc
    subst hdd
    split at hs
    · rename_i ds xs te hds hxs hte
      obtain ⟨ie, de, ze, htoe⟩ := hT _ _ hte
      have hcte := elem_cts hte
      cases hcc : (elemOk σ e x && strOk te x) with
      | false => rw [hcc] at hs; cases hs
      | true =>
        rw [hcc] at hs
        simp only [cond_true] at hs
        simp only [Bool.and_eq_true] at hcc
        cases hw : writeRows T σ e d (xs.take ds.length) with
        | none => rw [hw] at hs; cases hs
        | some r =>
          obtain ⟨c0, σ1⟩ := r
          rw [hw] at hs
          simp only [Ab.map, Option.some.injEq, Prod.mk.injEq] at hs
          obtain ⟨rfl, rfl, rfl⟩ := hs
          have hpos : 0 < (cts T e).length := by
            unfold writeRows at hw
            rw [hte] at hw
            simp only at hw
            rcases Nat.eq_zero_or_pos te.cells.length with h0 | h0
            · rw [List.length_eq_zero_iff] at h0; rw [h0] at hw; simp at hw
            · rw [hcte]; exact h0
          obtain ⟨news, hRn, hlenx, hfirst⟩ := src_ok (P := P) h.sr hx hxs hcc.1 (fun ⟨s', hs'⟩ => by
            subst hs'; have := hcc.2; simp only [strOk, decide_eq_true_eq] at this; rw [hcte]; exact this) hpos
          obtain ⟨base, n, c, w', rfl, hst, hst0, hS, hX, hle, hmv⟩ := writeRows_ok (P := P) hT h hd (hRn.take ds.length) hw
          have hdl : ds.length = n := by
            cases hd with
            | undef _ => simp [rowsOf] at hds
            | k _ hs' => simp [scalar] at hs'
            | slnil t' kd hk => simp [rowsOf] at hds; subst hds; rfl
            | sl t' kd rows A c cv hn hf hc hsp hz hok hcell hrep => simp [rowsOf] at hds; subst hds; rfl
            | sr id A n c hE =>
              simp only [rowsOf] at hds
              split at hds
              · rename_i u' kd rows hstt
                cases hds
                have hor := h.sr.obj _ _ (getD_some hstt (by simp))
                cases hor with
                | arr0 _ _ A he hn hk hsz => rw [hE] at he; cases he; rfl
                | arr _ _ _ B o c' vs' ty' hn he hc h0 hf hsz hb ho hok hr => rw [hE] at he; cases he; rfl
              · cases hds
            | ss id a n A A' len c hE hb hA =>
              simp only [rowsOf] at hds
              split at hds
              · rename_i u' kd rows hstt
                cases hds
                have hor := h.sr.obj _ _ (getD_some hstt (by simp))
                have : len = rows.length := by
                  cases hor with
                  | arr0 _ _ A he hn hk hsz => rw [hE] at he; cases he; rfl
                  | arr _ _ _ B o c' vs' ty' hn he hc h0 hf hsz hb ho hok hr => rw [hE] at he; cases he; rfl
                simp only [List.length_take, List.length_drop]; omega
              · cases hds
          have hmin : Nat.min xs.length n = min xs.length ds.length := by rw [hdl]
          have hcells := hfirst w (Nat.min xs.length n) rfl (Nat.min_le_left _ _)
          have htake : news.take (Nat.min xs.length n * (cts T e).length) = news.take (ds.length * (cts T e).length) := by
            rw [hmin, Nat.min_def]
            split
            · rename_i hxl
              rw [List.take_of_length_le (by rw [hRn.length]; exact Nat.le_refl _), List.take_of_length_le (by rw [hRn.length]; exact Nat.mul_le_mul_right _ hxl)]
            · rfl
          rw [htake] at hcells
          have hisz : ie.size = (cts T e).length := by rw [htoe.size, hcte]
          refine ⟨E, Z, w', .int .i64 (min xs.length ds.length : Nat), ?_, hS, .k _ rfl, hX, Mv.refl _ _ hmv⟩
          have hgoal : goInt (Nat.min xs.length n : Nat) = .int .i64 ((min xs.length ds.length : Nat) : Int) := by rw [hmin]; rfl
          cases base with
          | none =>
            cases hst0 rfl
            rw [← hgoal]
            simp [Builtin.copy_, run_und hto.und, run_szOf htoe.info, hisz, hlenx, hcells]
          | some A =>
            have := hst A rfl
            rw [← hgoal]
            simp [Builtin.copy_, run_und hto.und, run_szOf htoe.info, hisz, hlenx, hcells, this]
    · cases hs
  · cases hs
theorem StR.value (h : StR T E Z w σ vals) (hold : ∀ b, b < w.heap.size → w'.heap[b]? = w.heap[b]?) (hsz : w.heap.size ≤ w'.heap.size) (hos : w'.os = w.os) (htape : w'.tape = w.tape) (hout : w'.output = w.output) :
    StR T E (fun b => Z b ∨ (w.heap.size ≤ b ∧ b < w'.heap.size)) w' σ vals ∧ Ext (Owned E σ.st) Z w (Owned E σ.st) (fun b => Z b ∨ (w.heap.size ≤ b ∧ b < w'.heap.size)) w' := by
  have hzc := h.sr.zcell (w' := w') fun b hb _ => hold b hb
  refine ⟨⟨⟨fun j o hj => ?_, h.sr.out, h.sr.inj, fun B hB hz => ?_, fun B hz => ?_⟩, h.tm.mono (fun i v hv => ⟨hv, rfl⟩) (fun _ hz => .inl hz) hzc⟩,
    ⟨hos, htape, hout, hsz, fun b hb _ => hold b hb, fun _ hz => .inl hz, fun b hz => ?_, fun b hb => .inl hb⟩⟩
  · have hor := h.sr.obj j o hj
    exact hor.mono (fun i v hv => ⟨hv, rfl⟩) (fun _ hz => .inl hz) hzc hor.has (fun B hB => hold B (hor.owns_heap hB))
  · rcases hz with hz | hz
    · exact h.sr.zown B hB hz
    · exact absurd (h.sr.owned_lt hB) (by omega)
  · rcases hz with hz | hz
    · exact Nat.lt_of_lt_of_le (h.sr.zlt B hz) hsz
    · exact hz.2
  · rcases hz with hz | hz
    · exact .inl hz
    · exact .inr (.inr hz.1)
theorem freeze_heap (w : World) (a : Addr) (n b : Nat) (h : b ≠ a.block) : (w.freeze a n).heap[b]? = w.heap[b]? := by
  unfold World.freeze
  split
  · rfl
  · simp only [Array.getElem?_modify]
    rw [if_neg (fun e => h e.symm)]
theorem freeze_size (w : World) (a : Addr) (n : Nat) : (w.freeze a n).heap.size = w.heap.size := by
  unfold World.freeze
  split <;> simp
theorem freeze_cell (w : World) (a : Addr) (n b o : Nat) : (w.freeze a n).cell? ⟨b, o, none⟩ = w.cell? ⟨b, o, none⟩ := by
  by_cases hn : n = 0
  · simp [World.freeze, hn]
  · by_cases h : b = a.block
    · subst h
      simp only [World.freeze, hn, if_false, World.cell?, Array.getElem?_modify, if_true]
      cases hh : w.heap[a.block]? with
      | none => simp
      | some x => cases x <;> simp
    · simp [World.cell?, freeze_heap w a n b h]
theorem aconvert_ok (hT : TabOk P T) (h : StR T E Z w σ vals) {src dst : Nat} {x av : AV} {vx : Value} (hx : VR T E Z w x vx) (hs : aconvert T src dst x = some av) :
    OpRes P T E Z w vals σ (convert src dst vx) σ av := by
  unfold aconvert at hs
  split at hs
  · rename_i tis k cells bytes j n hsrc hdst
    cases hs
    obtain ⟨i, d, z, hto⟩ := hT _ _ hsrc
    obtain ⟨i', d', z', hto'⟩ := hT _ _ hdst
    have := dOk_int hto'.desc
    subst this
    cases VR_int hx
    exact OpRes.pure h ⟨_, by simp [convert, run_und hto.und, run_und hto'.und, Conv.intToInt], .k _ rfl⟩
  · rename_i tis cells bytes s hsrc hdst
    cases hs
    obtain ⟨i, d, z, hto⟩ := hT _ _ hsrc
    obtain ⟨i', d', z', hto'⟩ := hT _ _ hdst
    have := dOk_str hto'.desc
    subst this
    cases VR_str hx
    exact OpRes.pure h ⟨_, by simp [convert, run_und hto.und, run_und hto'.und], .k _ rfl⟩
  · rename_i tis e cells bytes s hsrc hdst
    split at hs
    · rename_i bytes' hte
      cases hs
      obtain ⟨i, d, z, hto⟩ := hT _ _ hsrc
      obtain ⟨i', d', z', hto'⟩ := hT _ _ hdst
      obtain ⟨ie, de, ze, htoe⟩ := hT _ _ hte
      have := dOk_sl hto'.desc
      subst this
      have := dOk_int htoe.desc
      subst this
      cases VR_str hx
      let C : Array Value := s.data.map (fun b => Value.int .u8 (b.toNat : Int)) ++ Array.replicate (grownCap w s.size 0 e - s.size) (.int .u8 0)
      let w1 := (w.drew.alloc (.cells C e)).freeze ⟨w.heap.size, C.size, none⟩ 1
      have hrun : (convert src dst (.string s)).run P w = .ok (.slice (some ⟨w.heap.size, 0, none⟩) s.size (grownCap w s.size 0 e)) w1 := by
        have hshape : (w.drew.alloc (.cells C e)).shape? w.heap.size = some (e, C.size) := by
          simp only [World.shape?, (Grew.drewAlloc w (.cells C e)).new]
        have hs1 : (Conv.stringToBytes e s).run P w = .ok (.slice (some ⟨w.heap.size, 0, none⟩) s.size (grownCap w s.size 0 e)) w1 := by
          have hn : (newRow e C).run P w.drew = .ok ⟨w.heap.size, 0, none⟩ (w.drew.alloc (.cells C e)) := rfl
          have hm : (markStringish ⟨w.heap.size, 0, none⟩).run P (w.drew.alloc (.cells C e)) = .ok () w1 := by
            simp only [markStringish, Sem.run_bind, run_shape, hshape, Result.andThen_ok, run_freeze]
            rfl
          have hc : (choose (.appendCap s.size 0 e)).run P w = .ok (grownCap w s.size 0 e) w.drew := rfl
          simp only [Conv.stringToBytes, Sem.run_bind, hc, Result.andThen_ok]
          show ((newRow e C).run P w.drew).andThen _ = _
          rw [hn]
          simp only [Result.andThen_ok, Sem.run_bind, hm, Sem.run_pure]
        simp only [convert, Sem.run_bind, run_und hto.und, run_und hto'.und, run_und htoe.und, Result.andThen_ok]
        exact hs1
      have hold : ∀ b, b < w.heap.size → w1.heap[b]? = w.heap[b]? := fun b hb => by
        rw [freeze_heap _ _ _ _ (by show b ≠ w.heap.size; omega)]
        exact (Grew.drewAlloc w (.cells C e)).old b hb
      have hsz : w1.heap.size = w.heap.size + 1 := by rw [freeze_size]; exact (Grew.drewAlloc w (.cells C e)).size
      have hos : w1.os = w.os := by simp only [w1, World.freeze]; rfl
      have htape : w1.tape = w.tape := by simp only [w1, World.freeze]; rfl
      have hout : w1.output = w.output := by simp only [w1, World.freeze]; rfl
      obtain ⟨h1, h2⟩ := h.value (w' := w1) hold (by omega) hos htape hout
      have hcell : ∀ o, w1.cell? ⟨w.heap.size, o, none⟩ = C[o]? := fun o => by
        rw [freeze_cell]
        exact cell_of (vs := C.toList) (by simpa using (Grew.drewAlloc w (.cells C e)).new) o |>.trans (by simp)
      refine ⟨E, _, w1, _, hrun, h1, ?_, h2, Mv.refl _ _ rfl⟩
      have hge := grownCap_ge w s.size 0 e
      have := VR.sl (T := T) (E := E) (Z := fun b => Z b ∨ (w.heap.size ≤ b ∧ b < w1.heap.size)) (w := w1) e .wide (bytesRows s) ⟨w.heap.size, 0, none⟩ (grownCap w s.size 0 e) (fun i _ => .int .u8 ((s.data.toList.getD i 0).toNat : Int))
        (by simp) (by simp) (by rw [bytesRows_len]; exact hge) (fun _ => rfl) (fun _ => .inr ⟨Nat.le_refl _, by rw [hsz]; exact Nat.lt_succ_self _⟩)
        (fun row hrow => by
          simp only [bytesRows, List.mem_map] at hrow
          obtain ⟨b, _, rfl⟩ := hrow
          rw [elem_cts hte]; rfl)
        (fun i row j av hi hj => by
          simp only [bytesRows, List.getElem?_map, Option.map_eq_some_iff] at hi
          obtain ⟨b, hb, rfl⟩ := hi
          have hj0 : j = 0 := by have := (List.getElem?_eq_some_iff.1 hj).1; simpa using this
          subst hj0
          rw [hcell, elem_cts hte]
          have hlt : i < s.data.size := by have := (List.getElem?_eq_some_iff.1 hb).1; simpa using this
          have hget : s.data.toList.getD i 0 = b := by simp only [List.getD, hb, Option.getD_some]
          simp only [List.length_cons, List.length_nil, Nat.zero_add, Nat.mul_one, Nat.add_zero, C]
          rw [Array.getElem?_append_left (by simpa using hlt)]
          rw [Array.getElem?_map, hget]
          rw [Array.getElem?_toList] at hb
          rw [hb]; rfl)
        (fun i row j av hi hj => by
          simp only [bytesRows, List.getElem?_map, Option.map_eq_some_iff] at hi
          obtain ⟨b, hb, rfl⟩ := hi
          have hj0 : j = 0 := by have := (List.getElem?_eq_some_iff.1 hj).1; simpa using this
          subst hj0
          simp at hj; subst hj
          have hget : s.data.toList.getD i 0 = b := by simp only [List.getD, hb, Option.getD_some]
          rw [hget]
          exact .k _ rfl)
      rw [bytesRows_len] at this
      exact this
    · cases hs
  · cases hs
theorem aclear_ok (hT : TabOk P T) (h : StR T E Z w σ vals) {t ty : Nat} {d av : AV} {vd : Value} (hd : VR T E Z w d vd)
    (hs : aclear T σ t d = some (true, σ', av)) : OpRes P T E Z w vals σ (Builtin.clear_ #[t] ty #[vd]) σ' av := by
  unfold aclear at hs
  split at hs
  · rename_i e cells bytes hti
    obtain ⟨i, dd, z, hto⟩ := hT _ _ hti
    have hdd := dOk_sl hto.desc
    subst hdd
    split at hs
    · rename_i te ds hte hds
      obtain ⟨ie, de, ze, htoe⟩ := hT _ _ hte
      have hcte := elem_cts hte
      cases hw : writeRows T σ e d (List.replicate ds.length (te.cells.map CT.zeroR)) with
      | none => rw [hw] at hs; cases hs
      | some r =>
        obtain ⟨c0, σ1⟩ := r
        rw [hw] at hs
        simp only [Ab.map, Option.some.injEq, Prod.mk.injEq] at hs
        obtain ⟨rfl, rfl, rfl⟩ := hs
        have hpos : 0 < te.cells.length := by
          unfold writeRows at hw
          rw [hte] at hw
          simp only at hw
          rcases Nat.eq_zero_or_pos te.cells.length with h0 | h0
          · rw [List.length_eq_zero_iff] at h0; rw [h0] at hw; simp at hw
          · exact h0
        have hz := zeroRows_ok (P := P) (E := E) (Z := Z) (w := w) hte htoe ds.length hpos
        obtain ⟨base, n, c, w', rfl, hst, hst0, hS, hX, hle, hmv⟩ := writeRows_ok (P := P) hT h hd hz hw
        have hzl : ze.cells.size = te.cells.length := by rw [← Array.length_toList, htoe.cells]; simp
        have hdl : ds.length = n := by
          cases hd with
          | undef _ => simp [rowsOf] at hds
          | k _ hs' => simp [scalar] at hs'
          | slnil t' kd hk => simp [rowsOf] at hds; subst hds; rfl
          | sl t' kd rows A c cv hn hf hc hsp hz hok hcell hrep => simp [rowsOf] at hds; subst hds; rfl
          | sr id A n c hE =>
            simp only [rowsOf] at hds
            split at hds
            · rename_i u' kd rows hstt
              cases hds
              have hor := h.sr.obj _ _ (getD_some hstt (by simp))
              cases hor with
              | arr0 _ _ A he hn hk hsz => rw [hE] at he; cases he; rfl
              | arr _ _ _ B o c' vs' ty' hn he hc h0 hf hsz hb ho hok hr => rw [hE] at he; cases he; rfl
            · cases hds
          | ss id a n A A' len c hE hb hA =>
            simp only [rowsOf] at hds
            split at hds
            · rename_i u' kd rows hstt
              cases hds
              have hor := h.sr.obj _ _ (getD_some hstt (by simp))
              have : len = rows.length := by
                cases hor with
                | arr0 _ _ A he hn hk hsz => rw [hE] at he; cases he; rfl
                | arr _ _ _ B o c' vs' ty' hn he hc h0 hf hsz hb ho hok hr => rw [hE] at he; cases he; rfl
              simp only [List.length_take, List.length_drop]; omega
            · cases hds
        have hzz : (Builtin.zeroCells ze.cells n).toList = (madeCells ze.cells (ds.length * te.cells.length)).toList := by
          rw [hdl]; simp [Builtin.zeroCells, madeCells, hzl]
        refine ⟨E, Z, w', .tuple #[], ?_, hS, .undef _, hX, Mv.refl _ _ hmv⟩
        cases n with
        | zero =>
          have hw0 : w' = w := by
            cases base with
            | none => exact hst0 rfl
            | some A =>
              have := hst A rfl
              rw [hdl, Nat.zero_mul] at this
              have e0 : (madeCells ze.cells 0).toList = [] := by simp [madeCells]
              rw [e0] at this
              simp [storeCells] at this
              exact this.symm
          subst hw0
          cases base <;> simp [Builtin.clear_, run_und hto.und]
        | succ n =>
          cases base with
          | none =>
            cases hd with
            | sr id A n c hE =>
              simp only [rowsOf] at hds
              split at hds
              · rename_i u' kd rows hstt
                cases hds
                have hor := h.sr.obj _ _ (getD_some hstt (by simp))
                cases hor with
                | arr0 _ _ A he hn hk hsz => rw [hE] at he; cases he
                | arr _ _ _ B o c' vs' ty' hn he hc h0 hf hsz hb ho hok hr => rw [hE] at he; cases he
              · cases hds
            | ss id a n A A' len c hE hb hA =>
              simp only [rowsOf] at hds
              split at hds
              · rename_i u' kd rows hstt
                have hor := h.sr.obj _ _ (getD_some hstt (by simp))
                cases hor with
                | arr0 _ _ A he hn hk hsz => rw [hE] at he; cases he; omega
                | arr _ _ _ B o c' vs' ty' hn he hc h0 hf hsz hb' ho hok hr =>
                  rw [hE] at he
                  simp only [Option.some.injEq, Value.slice.injEq] at he
                  obtain ⟨rfl, rfl, rfl⟩ := he
                  have := hA (by omega)
                  simp at this
              · cases hds
            | undef _ => simp [rowsOf] at hds
            | k _ hs' => simp [scalar] at hs'
          | some A =>
            have := hst A rfl
            rw [← hzz] at this
            simp [Builtin.clear_, run_und hto.und, run_zero htoe.info htoe.zero, this]
    · cases hs
  · cases hs
end
end Go.Fw
