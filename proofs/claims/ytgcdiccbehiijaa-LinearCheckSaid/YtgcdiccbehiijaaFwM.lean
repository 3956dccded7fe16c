/- The framework, part M: slices that are made, grown, copied onto. -/
import Derived.Test.YtgcdiccbehiijaaFwI
import Derived.Lib.AppendZerosOnto
set_option linter.all false
set_option linter.unusedSimpArgs false
set_option linter.unusedVariables false
namespace Go.Fw
section
variable {P : Program} {T : Tab} {E : Env} {Z : Nat → Prop} {w w' : World} {σ σ' : St} {vals : List Value}
theorem abuildSlice_ok (hT : TabOk P T) (h : StR T E Z w σ vals) {t len : Nat} {parts : Array (Nat × Operand)} {a : Act} {av : AV} (ht : VRs T E Z w σ.tmps a.tmps.toList)
    (hs : abuildSlice T σ t len (parts.toList.map fun p => (p.1, σ.eval p.2)) = some (σ', av)) :
    OpRes P T E Z w vals σ (Instr.buildSlice t len (parts.map fun (i, x) => (i, a.eval x))) σ' av := by
  unfold abuildSlice at hs
  split at hs
  · rename_i e cells bytes hti
    obtain ⟨i, d, z, hto⟩ := hT _ _ hti
    have hd := dOk_sl hto.desc
    subst hd
    split at hs
    · rename_i te hte
      obtain ⟨ie, de, ze, htoe⟩ := hT _ _ hte
      have hcte := elem_cts hte
      split at hs
      · cases hs
      · rename_i hne
        have hpos : 0 < te.cells.length := by
          rcases Nat.eq_zero_or_pos te.cells.length with h0 | h0
          · exact absurd (List.length_eq_zero_iff.1 h0) hne
          · exact h0
        cases hb : Nat.ble (len * te.cells.length) (2 ^ 24) with
        | false => rw [hb] at hs; cases hs
        | true =>
          rw [hb] at hs
          have hb := Nat.le_of_ble_eq_true hb
          simp only [cond_true] at hs
          split at hs
          · rename_i rows hf
            cases hs
            rw [← hcte] at hf
            have hz := zeroRows_ok (P := P) (E := E) (Z := Z) (w := w) hte htoe len hpos
            rw [← hcte] at hz
            obtain ⟨vs', hv', hrr, hll⟩ := fillRows_ok (by simp) (fun j p q => parts_ok ht parts j p q) hz hf
            have hlen : rows.length = len := by rw [hll]; simp
            rcases Nat.eq_zero_or_pos len with h0 | h0
            · -- an empty literal
              subst h0
              have hr0 : rows = [] := List.length_eq_zero_iff.1 hlen
              subst hr0
              have hp0 : (parts.map fun (i, x) => (i, a.eval x)).toList = [] := by
                cases hpp : (parts.map fun (i, x) => (i, a.eval x)).toList with
                | nil => rfl
                | cons p ps =>
                  exfalso
                  have hpl : (parts.toList.map fun p => (p.1, σ.eval p.2)).length = (parts.map fun (i, x) => (i, a.eval x)).toList.length := by simp
                  rw [hpp] at hpl
                  cases hq : (parts.toList.map fun p => (p.1, σ.eval p.2)) with
                  | nil => rw [hq] at hpl; simp at hpl
                  | cons q qs =>
                    rw [hq] at hf
                    simp only [List.replicate_zero, fillRows, Nat.blt, List.length_nil] at hf
                    have hbl : Nat.ble (q.1 + 1) 0 = false := rfl
                    rw [hbl, Bool.and_false] at hf
                    cases hf
              have hg := Grew.alloc w (.cells #[] e)
              have hrun : (Instr.buildSlice t 0 (parts.map fun (i, x) => (i, a.eval x))).run P w = .ok (.slice (some ⟨w.heap.size, 0, none⟩) 0 0) (w.alloc (.cells #[] e)) := by
                simp only [Instr.buildSlice, Sem.run_bind, run_und hto.und, Result.andThen_ok, run_szOf htoe.info, Nat.zero_mul]
                rw [if_neg (by decide)]
                simp only [Sem.run_pure, Result.andThen_ok, if_true, hp0, Sem.run_bind]
                simp [Instr.fill, newRow, Array.range_zero']
              have := h.new (w' := w.alloc (.cells #[] e)) (.arr e .full []) (.slice (some ⟨w.heap.size, 0, none⟩) 0 0) (cts T e).length hg.old (by rw [hg.size]; omega) rfl rfl rfl
                (.arr0 e .full _ (snoc_ρ _ _ _ _) (by simp) (fun h => by cases h) (snoc_sz _ _ _ _))
                (fun B hB => by obtain ⟨A', n, c', hA, h0, _⟩ := hB; rw [snoc_ρ] at hA; cases hA; exact absurd rfl h0)
              exact ⟨_, Z, _, _, hrun, this.1, .sr _ _ _ _ (snoc_ρ _ _ _ _), this.2, Mv.of rfl (SameE.snoc _ _ _ _)⟩
            · have hvl : vs'.length = len * (cts T e).length := by rw [hrr.length, hlen]
              have hg := Grew.alloc w (.cells vs'.toArray e)
              have hrun : (Instr.buildSlice t len (parts.map fun (i, x) => (i, a.eval x))).run P w = .ok (.slice (some ⟨w.heap.size, 0, none⟩) len len) (w.alloc (.cells vs'.toArray e)) := by
                refine run_buildSlice w t e len _ _ ie ze hto.und htoe.info htoe.zero (by rw [htoe.size]; omega) (by rw [htoe.size]; have := Nat.mul_pos h0 hpos; omega) ?_
                rw [htoe.size, ← hcte]
                have : (Array.range (len * (cts T e).length)).map (fun x => ze.cells[x % ze.cells.size]!) = (madeCells ze.cells (len * (cts T e).length)) := rfl
                rw [this]
                simpa using hv'
              have hc0 : (cts T e).length = te.cells.length := by rw [hcte]
              obtain ⟨E', h1, h2, h3, h4⟩ := h.newArr (w' := w.alloc (.cells vs'.toArray e)) (rest := []) (c := len) (kd := .full) (ty := e) hrr (by omega) (by omega) (by omega) (by simpa using hvl) (by simp) ⟨fun _ => hlen.symm, fun h => by cases h⟩ (by simpa using hg)
              rw [hlen] at h2
              exact ⟨E', Z, _, _, hrun, h1, h2, h3, Mv.of rfl h4⟩
          · cases hs
    · cases hs
  · cases hs
theorem amakeSlice_ok (hT : TabOk P T) (h : StR T E Z w σ vals) {t : Nat} {l c av : AV} {vl vc : Value} (hl : VR T E Z w l vl) (hc : VR T E Z w c vc)
    (hs : amakeSlice T σ t l c = some (true, σ', av)) : OpRes P T E Z w vals σ (Instr.makeSlice t vl vc) σ' av := by
  unfold amakeSlice at hs
  split at hs
  · rename_i e cells bytes kl n kc m hti
    cases VR_int hl; cases VR_int hc
    obtain ⟨i, d, z, hto⟩ := hT _ _ hti
    have hd := dOk_sl hto.desc
    subst hd
    split at hs
    · rename_i te hte
      obtain ⟨ie, de, ze, htoe⟩ := hT _ _ hte
      have hcte := elem_cts hte
      cases hcc : (te.cells.isEmpty || Nat.beq te.bytes 0) with
      | true => rw [hcc] at hs; cases hs
      | false =>
        rw [hcc] at hs
        simp only [cond_false, Option.some.injEq, Prod.mk.injEq, Bool.and_eq_true, decide_eq_true_eq] at hs
        obtain ⟨⟨h0, h1, h2⟩, rfl, rfl⟩ := hs
        simp only [Bool.or_eq_false_iff] at hcc
        have hpos : 0 < te.cells.length := by
          rcases Nat.eq_zero_or_pos te.cells.length with h0 | h0
          · rw [List.length_eq_zero_iff] at h0; rw [h0] at hcc; simp at hcc
          · exact h0
        have hby : 1 ≤ te.bytes := by
          have := Nat.ne_of_beq_eq_false hcc.2; omega
        have hm1 : m ≤ 2 ^ 47 := by
          have : m * 1 ≤ m * (te.bytes : Int) := Int.mul_le_mul_of_nonneg_left (by omega) (by omega)
          omega
        have hrun := run_make (P := P) w t e ie ze hto.und htoe.info htoe.zero kl kc n m h0 h1 (by rw [htoe.bytes, Int.mul_comm]; omega) (by omega)
        rw [htoe.size] at hrun
        rcases Nat.eq_zero_or_pos m.toNat with hm0 | hm0
        · have hn0 : n.toNat = 0 := by omega
          have hg := Grew.alloc w (.cells (madeCells ze.cells (m.toNat * te.cells.length)) e)
          have e1 : List.replicate n.toNat (te.cells.map CT.zeroR) = [] := by rw [hn0]; rfl
          rw [e1]
          have := h.new (w' := w.alloc (.cells (madeCells ze.cells (m.toNat * te.cells.length)) e)) (.arr e .wide []) (.slice (some ⟨w.heap.size, 0, none⟩) 0 0) (cts T e).length hg.old (by rw [hg.size]; omega) rfl rfl rfl
            (.arr0 e .wide _ (snoc_ρ _ _ _ _) (by simp) (fun h => by cases h) (snoc_sz _ _ _ _))
            (fun B hB => by obtain ⟨A', n, c', hA, h0, _⟩ := hB; rw [snoc_ρ] at hA; cases hA; exact absurd rfl h0)
          rw [hm0, hn0] at hrun
          rw [hm0] at this
          exact ⟨_, Z, _, _, hrun, this.1, .sr _ _ _ _ (snoc_ρ _ _ _ _), this.2, Mv.of rfl (SameE.snoc _ _ _ _)⟩
        · have hz := zeroRows_ok (P := P) (E := E) (Z := Z) (w := w) hte htoe m.toNat hpos
          have hz' := hz.take n.toNat
          have e1 : (List.replicate m.toNat (te.cells.map CT.zeroR)).take n.toNat = List.replicate n.toNat (te.cells.map CT.zeroR) := by rw [List.take_replicate, Nat.min_eq_left (by omega)]
          rw [e1] at hz'
          have hsplit : (madeCells ze.cells (m.toNat * te.cells.length)) = ((madeCells ze.cells (m.toNat * te.cells.length)).toList.take (n.toNat * (cts T e).length) ++ (madeCells ze.cells (m.toNat * te.cells.length)).toList.drop (n.toNat * (cts T e).length)).toArray := by
            rw [List.take_append_drop]
          obtain ⟨E', h3, h4, h5, h6⟩ := h.newArr (w' := w.alloc (.cells (madeCells ze.cells (m.toNat * te.cells.length)) e)) (c := m.toNat) (kd := .wide) (ty := e) hz' (by rw [hcte]; exact hpos) (by simp; omega) (by omega)
            (by rw [List.take_append_drop]; simp [size_madeCells, hcte]) (by simp) (by simp) (by rw [← hsplit]; exact Grew.alloc w _)
          rw [List.length_replicate] at h4
          exact ⟨E', Z, _, _, hrun, h3, h4, h5, Mv.of rfl h6⟩
    · cases hs
  · cases hs
theorem append_room {t u ty e : TypeId} {ie : TypeInfo} {du : TypeDesc} {sz n sLen sCap : Nat} {base : Option Addr} {x : Value} {news : List Value} (ht : P.underlying t = some (.slice e)) (hie : P.info? e = some ie) (hsz : ie.size = sz)
    (hu : P.underlying u = some du) (hdu : (∃ k, du = .slice k) ∨ du = .string) (hlen : (Builtin.lenOf x).run P w = .ok n w) (hnew : (Builtin.firstCells sz n x).run P w = .ok news.toArray w) (hroom : sLen + n ≤ sCap)
    (hst : ∀ a, base = some a → (storeCells (a.add (sLen * sz)) news).run P w = .ok () w') (hst0 : base = none → w' = w) :
    (Builtin.append_ #[t, u] ty #[.slice base sLen sCap, x]).run P w = .ok (.slice base (sLen + n) sCap) w' := by
  subst hsz
  cases base with
  | none => cases hst0 rfl; rcases hdu with ⟨k, rfl⟩ | rfl <;> simp [Builtin.append_, run_und ht, run_und hu, run_szOf hie, hlen, hroom, hnew]
  | some a => have hst := hst a rfl; rcases hdu with ⟨k, rfl⟩ | rfl <;> simp [Builtin.append_, run_und ht, run_und hu, run_szOf hie, hlen, hroom, hnew, hst]
theorem append_grow {t u ty e : TypeId} {ie : TypeInfo} {z : Value} {du : TypeDesc} {sz n sLen sCap : Nat} {base : Option Addr} {x : Value} {olds news : List Value} (ht : P.underlying t = some (.slice e)) (hie : P.info? e = some ie) (hsz : ie.size = sz)
    (hz : ie.zero = some z) (hu : P.underlying u = some du) (hdu : (∃ k, du = .slice k) ∨ du = .string) (hlen : (Builtin.lenOf x).run P w = .ok n w)
    (hold : (Builtin.firstCells sz sLen (.slice base sLen sCap)).run P w.drew = .ok olds.toArray w.drew) (hnew : (Builtin.firstCells sz n x).run P w.drew = .ok news.toArray w.drew) (hroom : sCap < sLen + n)
    (hby : 1 ≤ ie.bytes) (hfit : (sLen + n) * ie.bytes ≤ 140737488355328) :
    (Builtin.append_ #[t, u] ty #[.slice base sLen sCap, x]).run P w = .ok (.slice (some ⟨w.heap.size, 0, none⟩) (sLen + n) (grownCap w (sLen + n) sCap e))
      (w.drew.alloc (.cells (olds ++ news ++ (Builtin.zeroCells z.cells (grownCap w (sLen + n) sCap e - (sLen + n))).toList).toArray e)) := by
  have hnr : ¬ (sLen + n ≤ sCap) := by omega
  have hgf := growslice_fits (bytes := ie.bytes) hroom hfit
  have h48 : ¬ (281474976710656 < Builtin.nextslicecap (sLen + n) sCap * ie.bytes) := by omega
  have h1 : (sLen + n) * 1 ≤ (sLen + n) * ie.bytes := Nat.mul_le_mul_left _ hby
  have h63 : ¬ (9223372036854775807 < ((sLen : Int) + (n : Int))) := by omega
  have hb0 : ie.bytes ≠ 0 := by omega
  subst hsz
  rcases hdu with ⟨k, rfl⟩ | rfl <;>
    (simp [Builtin.append_, run_und ht, run_und hu, run_szOf hie, hlen, hnr, run_info hie, hb0, h48, h63, Question.forced, hold, hnew, run_zero hie hz, newRow, grownCap]
     congr 2
     apply Array.ext'
     simp [List.append_assoc])
theorem srcType_ok (hT : TabOk P T) {u : Nat} (h : srcType T u = true) : ∃ du, P.underlying u = some du ∧ ((∃ k, du = .slice k) ∨ du = .string) := by
  unfold srcType at h
  split at h
  · rename_i e c b hu
    obtain ⟨i, d, z, hto⟩ := hT _ _ hu
    exact ⟨d, hto.und, .inl ⟨_, dOk_sl hto.desc⟩⟩
  · rename_i c b hu
    obtain ⟨i, d, z, hto⟩ := hT _ _ hu
    exact ⟨d, hto.und, .inr (dOk_str hto.desc)⟩
  · cases h
theorem roomFor_ok {te : TI} {n : Nat} (h : roomFor te n = true) : n * te.bytes ≤ 140737488355328 := by
  have := Nat.le_of_ble_eq_true h
  omega
theorem grownCap_ge (w : World) (need old : Nat) (e : TypeId) : need ≤ grownCap w need old e := by
  unfold grownCap Question.cut
  exact Nat.le_add_right _ _
theorem Mv.moved (E : Env) (σ : St) (id : Nat) (v : Value) {l : List AV} {s : List AObj} : Mv σ E { tmps := l, st := s, moved := bif σ.moved.elem id then σ.moved else id :: σ.moved } (E.setρ id v) := by
  refine ⟨fun i hi => ?_, fun i _ hi => ?_⟩
  · show i ∈ (bif σ.moved.elem id then σ.moved else id :: σ.moved)
    cases σ.moved.elem id
    · exact List.mem_cons_of_mem _ hi
    · exact hi
  · have hne : i ≠ id := by
      rintro rfl
      apply hi
      show i ∈ (bif σ.moved.elem i then σ.moved else i :: σ.moved)
      cases hh : σ.moved.elem i
      · exact List.mem_cons_self
      · simpa using hh
    simp [Env.setρ, hne]
theorem Spare.zeros {e : Nat} {z : Array Value} (hz : z.toList = (cts T e).map CT.zeroV) (hpos : 0 < (cts T e).length) {vs : List Value} {n c k : Nat} (hl : vs.length = n * (cts T e).length) (hk : c = n + k) :
    Spare T e (vs ++ (Builtin.zeroCells z k).toList) 0 n c := fun j hj hjc => by
  have hzs : z.size = (cts T e).length := by rw [← Array.length_toList, hz]; simp
  have hmod : j % (cts T e).length < (cts T e).length := Nat.mod_lt _ hpos
  refine ⟨(cts T e)[j % (cts T e).length], List.getElem?_eq_getElem hmod, ?_⟩
  subst hk
  rw [Nat.add_mul] at hjc
  rw [Nat.zero_add, List.getElem?_append_right (by omega), hl]
  have hlt : j - n * (cts T e).length < k * z.size := by rw [hzs]; omega
  simp only [Builtin.zeroCells, Array.toList_map, Array.toList_range, List.getElem?_map, List.getElem?_range hlt, Option.map_some, Option.some.injEq]
  have hm : (j - n * (cts T e).length) % z.size = j % (cts T e).length := by
    rw [hzs]
    obtain ⟨d, rfl⟩ : ∃ d, j = n * (cts T e).length + d := ⟨j - n * (cts T e).length, by omega⟩
    rw [Nat.add_sub_cancel_left, Nat.mul_comm, Nat.mul_add_mod]
  rw [hm, getElem!_pos z _ (by rw [hzs]; exact hmod)]
  have : z[j % (cts T e).length]'(by rw [hzs]; exact hmod) = z.toList[j % (cts T e).length]'(by rw [hz]; simpa using hmod) := by simp
  rw [this]
  simp only [hz, List.getElem_map]
theorem SK.grown_nil (kd : SK) : kd.grown ≠ .nil := by cases kd <;> simp [SK.grown]
theorem SK.grown_full (kd : SK) : ¬ (kd.grown = .full ∨ kd.grown = .anyf) := by cases kd <;> simp [SK.grown]
set_option maxHeartbeats 1000000 in
theorem aappend_ok (hT : TabOk P T) (h : StR T E Z w σ vals) {t u ty : Nat} {s x av : AV} {vs vx : Value} (hsv : VR T E Z w s vs) (hx : VR T E Z w x vx) (hu : srcType T u = true)
    (hs : aappend T σ t s x = some (true, σ', av)) : OpRes P T E Z w vals σ (Builtin.append_ #[t, u] ty #[vs, vx]) σ' av := by
  obtain ⟨du, hdu, hdk⟩ := srcType_ok (P := P) hT hu
  unfold aappend at hs
  split at hs
  · rename_i e cells bytes hti
    obtain ⟨i, d, z, hto⟩ := hT _ _ hti
    have hd := dOk_sl hto.desc
    subst hd
    split at hs
    · rename_i te ys hte hys
      obtain ⟨ie, de, ze, htoe⟩ := hT _ _ hte
      have hcte := elem_cts hte
      cases hcc : (elemOk σ e x && (!(te.cells.isEmpty || Nat.beq te.bytes 0) && strOk te x)) with
      | false => rw [hcc] at hs; cases hs
      | true =>
        rw [hcc] at hs
        simp only [cond_true] at hs
        simp only [Bool.and_eq_true, Bool.not_eq_true', Bool.or_eq_false_iff] at hcc
        obtain ⟨hel, ⟨hne, hbz⟩, hst8⟩ := hcc
        have hb1 : 1 ≤ te.bytes := by have := Nat.ne_of_beq_eq_false hbz; omega
        have hpos : 0 < (cts T e).length := by
          rw [hcte]
          rcases Nat.eq_zero_or_pos te.cells.length with h0 | h0
          · rw [List.length_eq_zero_iff] at h0; rw [h0] at hne; simp at hne
          · exact h0
        have hisz : ie.size = (cts T e).length := by rw [htoe.size, hcte]
        obtain ⟨news, hRn, hlenx, hfirst⟩ := src_ok (P := P) h.sr hx hys hel (fun ⟨s', hs'⟩ => by
          subst hs'; simp only [strOk, decide_eq_true_eq] at hst8; rw [hcte]; exact hst8) hpos
        have hnl : news.length = ys.length * (cts T e).length := hRn.length
        have hfull : ∀ w' : World, w'.heap = w.heap → (Builtin.firstCells (cts T e).length ys.length vx).run P w' = .ok news.toArray w' := fun w' hw => by
          have := hfirst w' ys.length hw (Nat.le_refl _)
          rwa [← hnl, List.take_length] at this
        have hzl : ze.cells.size = (cts T e).length := by rw [← Array.length_toList, htoe.cells, hcte]; simp
        have grow : ∀ (base : Option Addr) (rows : List (List AV)) (olds : List Value) (sLen sCap : Nat) (kd : SK), rows.length = sLen → RowsR T E Z w e rows olds → kd ≠ .nil → ¬ (kd = .full ∨ kd = .anyf) → sCap < sLen + ys.length →
            (∀ w' : World, w'.heap = w.heap → (Builtin.firstCells (cts T e).length sLen (.slice base sLen sCap)).run P w' = .ok olds.toArray w') → (sLen + ys.length) * te.bytes ≤ 140737488355328 →
            ∃ w' rest cap, (Builtin.append_ #[t, u] ty #[.slice base sLen sCap, vx]).run P w = .ok (.slice (some ⟨w.heap.size, 0, none⟩) (rows ++ ys).length cap) w' ∧ Grew w w' (.cells ((olds ++ news) ++ rest).toArray e) ∧
              RowsR T E Z w e (rows ++ ys) (olds ++ news) ∧ (rows ++ ys).length ≤ cap ∧ cap ≠ 0 ∧ ((olds ++ news) ++ rest).length = cap * (cts T e).length ∧ Spare T e ((olds ++ news) ++ rest) 0 (rows ++ ys).length cap := fun base rows olds sLen sCap kd hrl hRo hkn hkf hroom hfo hfit => by
          have hrun := append_grow (P := P) (w := w) (t := t) (u := u) (ty := ty) (base := base) hto.und htoe.info hisz htoe.zero hdu hdk (hlenx w) (hfo w.drew rfl) (hfull w.drew rfl) hroom (by rw [htoe.bytes]; exact hb1) (by rw [htoe.bytes]; exact hfit)
          have hge := grownCap_ge w (sLen + ys.length) sCap e
          refine ⟨_, (Builtin.zeroCells ze.cells (grownCap w (sLen + ys.length) sCap e - (sLen + ys.length))).toList, grownCap w (sLen + ys.length) sCap e, ?_, Grew.drewAlloc w _, hRo.append hRn, by rw [List.length_append, hrl]; exact hge, by omega, ?_, ?_⟩
          · rw [List.length_append, hrl]; exact hrun
          · have hzc : (Builtin.zeroCells ze.cells (grownCap w (sLen + ys.length) sCap e - (sLen + ys.length))).toList.length = (grownCap w (sLen + ys.length) sCap e - (sLen + ys.length)) * (cts T e).length := by
              rw [Array.length_toList, size_zeroCells, hzl]
            rw [List.length_append, List.length_append, hRo.length, hnl, hrl, hzc, ← Nat.add_mul, ← Nat.add_mul]
            congr 1; omega
          · exact Spare.zeros (by rw [htoe.cells, hcte]) hpos (hRo.append hRn).length (by rw [List.length_append, hrl]; omega)
        have newArrOf : ∀ (base : Option Addr) (rows : List (List AV)) (olds : List Value) (sLen sCap : Nat) (kd : SK), rows.length = sLen → RowsR T E Z w e rows olds → kd ≠ .nil → ¬ (kd = .full ∨ kd = .anyf) → sCap < sLen + ys.length →
            (∀ w' : World, w'.heap = w.heap → (Builtin.firstCells (cts T e).length sLen (.slice base sLen sCap)).run P w' = .ok olds.toArray w') → (sLen + ys.length) * te.bytes ≤ 140737488355328 →
            OpRes P T E Z w vals σ (Builtin.append_ #[t, u] ty #[.slice base sLen sCap, vx]) (σ.new (.arr e kd (rows ++ ys))) (.sr σ.st.length) := fun base rows olds sLen sCap kd hrl hRo hkn hkf hroom hfo hfit => by
          obtain ⟨w', rest, cap, hrun, hg, hR, h1, h2, h3, hspr⟩ := grow base rows olds sLen sCap kd hrl hRo hkn hkf hroom hfo hfit
          obtain ⟨E', h4, h5, h6, h7⟩ := h.newArr (w' := w') hR hpos h1 h2 h3 kd hkn ⟨fun hf => absurd hf hkf, fun _ => hspr⟩ e hg
          exact ⟨E', Z, w', _, hrun, h4, h5, h6, Mv.of rfl h7⟩
        have hRnil : RowsR T E Z w e [] [] := ⟨fun _ h => by simp at h, ⟨rfl, fun j av v h => by simp at h⟩⟩
        have fc0 : ∀ (base : Option Addr) (n c : Nat) (w' : World), (Builtin.firstCells (cts T e).length 0 (.slice base n c)).run P w' = .ok (([] : List Value)).toArray w' := fun base n c w' => by
          cases base <;> simp [Builtin.firstCells, loadCells, loadCellsFrom]
        have same0 : ∀ (A : Option Addr), ys.length = 0 →
            OpRes P T E Z w vals σ (Builtin.append_ #[t, u] ty #[.slice A 0 0, vx]) (σ.new (.arr e .any ys)) (.sr σ.st.length) := fun A h0 => by
          have hy0 : ys = [] := List.length_eq_zero_iff.1 h0
          have hn0 : news = [] := List.length_eq_zero_iff.1 (by rw [hnl, h0, Nat.zero_mul])
          have hrun := append_room (P := P) (w := w) (w' := w) (t := t) (u := u) (ty := ty) (base := A) (sLen := 0) (sCap := 0) hto.und htoe.info hisz hdu hdk (hlenx w) (hfull w rfl) (by omega)
            (fun a _ => by rw [hn0]; simp [storeCells]) (fun _ => rfl)
          rw [h0] at hrun
          obtain ⟨E', h1, h2, h3, h4⟩ := h.newArr0 e .any A (by simp) (fun _ => rfl)
          rw [hy0]
          exact ⟨E', Z, w, _, hrun, h1, h2, h3, Mv.of rfl h4⟩
        have same0w : ∀ (A : Addr), ys.length = 0 →
            OpRes P T E Z w vals σ (Builtin.append_ #[t, u] ty #[.slice (some A) 0 0, vx]) (σ.new (.arr e .wide ys)) (.sr σ.st.length) := fun A h0 => by
          have hy0 : ys = [] := List.length_eq_zero_iff.1 h0
          have hn0 : news = [] := List.length_eq_zero_iff.1 (by rw [hnl, h0, Nat.zero_mul])
          have hrun := append_room (P := P) (w := w) (w' := w) (t := t) (u := u) (ty := ty) (base := some A) (sLen := 0) (sCap := 0) hto.und htoe.info hisz hdu hdk (hlenx w) (hfull w rfl) (by omega)
            (fun a _ => by rw [hn0]; simp [storeCells]) (fun _ => rfl)
          rw [h0] at hrun
          obtain ⟨E', h1, h2, h3, h4⟩ := h.newArr0 e .wide (some A) (by simp) (fun h => by cases h)
          rw [hy0]
          exact ⟨E', Z, w, _, hrun, h1, h2, h3, Mv.of rfl h4⟩
        split at hs
        · -- nil
          rename_i u' rows
          simp only [Option.some.injEq, Prod.mk.injEq] at hs
          obtain ⟨hroomB, rfl, rfl⟩ := hs
          have hfit := roomFor_ok hroomB
          cases hsv with
          | slnil _ _ hk =>
            rcases Nat.eq_zero_or_pos ys.length with h0 | h0
            · exact same0 none h0
            · have := newArrOf none [] [] 0 0 .any rfl hRnil (by simp) (by simp) (by omega) (fun w' _ => fc0 none 0 0 w') (by simpa using hfit)
              simpa using this
          | sl _ _ _ A c cv hn hf hc hsp hz hok hcell hrep => exact absurd rfl hn
        · -- full
          rename_i u' rows
          split at hs
          · simp only [Option.some.injEq, Prod.mk.injEq] at hs
            obtain ⟨hroomB, rfl, rfl⟩ := hs
            have hfit := roomFor_ok hroomB
            cases hsv with
            | slnil _ _ hk => rcases hk with h | h | h <;> cases h
            | sl _ _ _ A c cv hn hf hc hsp hz hok hcell hrep =>
              have hc0 : c = 0 := hf (.inl rfl)
              subst hc0
              rcases Nat.eq_zero_or_pos ys.length with h0 | h0
              · exact same0w A h0
              · have := newArrOf (some A) [] [] 0 0 .wide rfl hRnil (by simp) (by simp) (by omega) (fun w' _ => fc0 (some A) 0 0 w') (by simpa using hfit)
                simpa using this
          · rename_i r rs
            cases hue : Nat.beq u' e with
            | false => rw [hue] at hs; cases hs
            | true =>
              rw [hue] at hs
              obtain rfl := Nat.eq_of_beq_eq_true hue
              simp only [cond_true, Option.some.injEq, Prod.mk.injEq, Bool.and_eq_true, Bool.not_eq_true'] at hs
              obtain ⟨⟨hye, hroomB⟩, rfl, rfl⟩ := hs
              have hfit := roomFor_ok hroomB
              have hy1 : 0 < ys.length := by
                rcases Nat.eq_zero_or_pos ys.length with h0 | h0
                · rw [List.length_eq_zero_iff] at h0; rw [h0] at hye; simp at hye
                · exact h0
              have hsv' := hsv
              cases hsv with
              | sl _ _ _ A c cv hn hf hc hsp hz hok hcell hrep =>
                have hc0 : c = (r :: rs).length := hf (.inl rfl)
                subst hc0
                obtain ⟨olds, hRo, _, hfo⟩ := src_ok (P := P) (e := u') h.sr hsv' rfl (by simp [elemOk]) (fun ⟨s', hs'⟩ => by cases hs') hpos
                have hol : olds.length = (r :: rs).length * (cts T u').length := hRo.length
                exact newArrOf (some A) (r :: rs) olds _ _ .wide rfl hRo (by simp) (by simp) (by omega) (fun w' hw => by
                  have := hfo w' (r :: rs).length hw (Nat.le_refl _)
                  rwa [← hol, List.take_length] at this) hfit
        · -- nil, or full
          rename_i u' rows
          split at hs
          · simp only [Option.some.injEq, Prod.mk.injEq] at hs
            obtain ⟨hroomB, rfl, rfl⟩ := hs
            have hfit := roomFor_ok hroomB
            cases hsv with
            | slnil _ _ hk =>
              rcases Nat.eq_zero_or_pos ys.length with h0 | h0
              · exact same0 none h0
              · have := newArrOf none [] [] 0 0 .any rfl hRnil (by simp) (by simp) (by omega) (fun w' _ => fc0 none 0 0 w') (by simpa using hfit)
                simpa using this
            | sl _ _ _ A c cv hn hf hc hsp hz hok hcell hrep =>
              have hc0 : c = 0 := hf (.inr rfl)
              subst hc0
              rcases Nat.eq_zero_or_pos ys.length with h0 | h0
              · exact same0 (some A) h0
              · have := newArrOf (some A) [] [] 0 0 .any rfl hRnil (by simp) (by simp) (by omega) (fun w' _ => fc0 (some A) 0 0 w') (by simpa using hfit)
                simpa using this
          · rename_i r rs
            cases hue : Nat.beq u' e with
            | false => rw [hue] at hs; cases hs
            | true =>
              rw [hue] at hs
              obtain rfl := Nat.eq_of_beq_eq_true hue
              simp only [cond_true, Option.some.injEq, Prod.mk.injEq, Bool.and_eq_true, Bool.not_eq_true'] at hs
              obtain ⟨⟨hye, hroomB⟩, rfl, rfl⟩ := hs
              have hfit := roomFor_ok hroomB
              have hy1 : 0 < ys.length := by
                rcases Nat.eq_zero_or_pos ys.length with h0 | h0
                · rw [List.length_eq_zero_iff] at h0; rw [h0] at hye; simp at hye
                · exact h0
              have hsv' := hsv
              cases hsv with
              | sl _ _ _ A c cv hn hf hc hsp hz hok hcell hrep =>
                have hc0 : c = (r :: rs).length := hf (.inr rfl)
                subst hc0
                obtain ⟨olds, hRo, _, hfo⟩ := src_ok (P := P) (e := u') h.sr hsv' rfl (by simp [elemOk]) (fun ⟨s', hs'⟩ => by cases hs') hpos
                have hol : olds.length = (r :: rs).length * (cts T u').length := hRo.length
                exact newArrOf (some A) (r :: rs) olds _ _ .wide rfl hRo (by simp) (by simp) (by omega) (fun w' hw => by
                  have := hfo w' (r :: rs).length hw (Nat.le_refl _)
                  rwa [← hol, List.take_length] at this) hfit
        · -- owned
          rename_i id
          split at hs
          · rename_i u' kd rows hst
            cases hue : Nat.beq u' e with
            | false => rw [hue] at hs; cases hs
            | true =>
              rw [hue] at hs
              obtain rfl := Nat.eq_of_beq_eq_true hue
              simp only [cond_true, Option.some.injEq, Prod.mk.injEq] at hs
              obtain ⟨hroomB, rfl, rfl⟩ := hs
              have hfit := roomFor_ok hroomB
              have hst' := getD_some hst (by simp)
              have hid : id < σ.st.length := (List.getElem?_eq_some_iff.1 hst').1
              have hor := h.sr.obj id _ hst'
              obtain ⟨olds, hRo, hlo, hfo⟩ := src_ok (P := P) (e := u') (ys := rows) h.sr hsv (by simp only [rowsOf, hst]) (by simp only [elemOk, hst]; simp) (fun ⟨s', hs'⟩ => by cases hs') hpos
              have hol : olds.length = rows.length * (cts T u').length := hRo.length
              have hszE : E.sz id = (cts T u').length := by
                cases hor with
                | arr0 _ _ A he hn hk hsz => exact hsz
                | arr _ _ _ B o c vs' ty' hn he hc h0 hf hsz hb ho hok hr => exact hsz
              cases hsv with
              | sr _ A n c hE =>
                have hn : n = rows.length := by
                  cases hor with
                  | arr0 _ _ A he hn hk hsz => rw [hE] at he; cases he; rfl
                  | arr _ _ _ B o c vs' ty' hn he hc h0 hf hsz hb ho hok hr => rw [hE] at he; cases he; rfl
                subst hn
                have moved : c < rows.length + ys.length → OpRes P T E Z w vals σ (Builtin.append_ #[t, u] ty #[.slice A rows.length c, vx])
                    { σ.scrub id with st := (σ.scrub id).st.set id (.arr u' kd.grown (rows ++ ys)), moved := bif σ.moved.elem id then σ.moved else id :: σ.moved } (.sr id) := fun hroom => by
                  obtain ⟨w', rest, cap, hrun, hg, hR, h1, h2, h3, hspr⟩ := grow A rows olds rows.length c kd.grown rfl hRo kd.grown_nil kd.grown_full hroom (fun w' hw => by
                    have := hfo w' rows.length hw (Nat.le_refl _)
                    rwa [← hol, List.take_length] at this) hfit
                  have hzc := h.sr.zcell (w' := w') fun b hb _ => hg.old b hb
                  have hm : RowsR T (E.setρ id (.slice (some ⟨w.heap.size, 0, none⟩) (rows ++ ys).length cap)) Z w' u' (rows ++ ys) (olds ++ news) :=
                    ⟨hR.1, (RowsR.env (E' := E.setρ id (.slice (some ⟨w.heap.size, 0, none⟩) (rows ++ ys).length cap)) hR).2.mono (fun i v hv => ⟨hv, rfl⟩) (fun _ hz => hz) hzc⟩
                  have := h.move (w' := w') (id := id) (o' := .arr u' kd.grown (rows ++ ys)) (.slice (some ⟨w.heap.size, 0, none⟩) (rows ++ ys).length cap) hid (fun b hb _ => hg.old b hb) (by rw [hg.size]; omega) hg.os hg.tape hg.output
                    (.arr u' kd.grown (rows ++ ys) w.heap.size 0 cap ((olds ++ news) ++ rest) u' kd.grown_nil (by simp [Env.setρ]) h1 h2 ⟨fun hf => absurd hf kd.grown_full, fun _ => hspr⟩ (by simpa [Env.setρ] using hszE) hg.new (by rw [Nat.zero_add, h3]; exact Nat.le_refl _) hR.1 (fun i row j av v hi hj hv => by
                      obtain ⟨v', hv', hr'⟩ := hm.get hi hj
                      rw [Nat.zero_add, List.getElem?_append_left (List.getElem?_eq_some_iff.1 hv').1, hv'] at hv
                      cases hv; exact hr'))
                    (fun C hC => by obtain ⟨A', n', c', hA, _, rfl⟩ := hC; simp [Env.setρ] at hA; obtain ⟨rfl, _⟩ := hA; exact .inr (Nat.le_refl _))
                  exact ⟨_, Z, w', _, hrun, ⟨this.1.sr, this.1.tm⟩, .sr _ _ _ _ (by simp [Env.setρ]), this.2, Mv.moved _ _ _ _⟩
                cases hor with
                | arr0 _ _ A' he hn hk hsz =>
                  rw [hE] at he; cases he
                  rcases Nat.eq_zero_or_pos ys.length with h0 | h0
                  · have hy0 : ys = [] := List.length_eq_zero_iff.1 h0
                    have hn0 : news = [] := List.length_eq_zero_iff.1 (by rw [hnl, h0, Nat.zero_mul])
                    have hrun := append_room (P := P) (w := w) (w' := w) (t := t) (u := u) (ty := ty) (base := A) (sLen := 0) (sCap := 0) hto.und htoe.info hisz hdu hdk (hlenx w) (hfull w rfl) (by omega)
                      (fun a _ => by rw [hn0]; simp [storeCells]) (fun _ => rfl)
                    rw [h0] at hrun
                    rw [hy0]
                    have := h.move (w' := w) (id := id) (o' := .arr u' kd.grown []) (.slice A 0 0) hid (fun _ _ _ => rfl) (Nat.le_refl _) rfl rfl rfl
                      (.arr0 u' kd.grown A (by simp [Env.setρ]) kd.grown_nil (fun ha => by rw [hk ha]; rfl) (by simpa [Env.setρ] using hsz))
                      (fun C hC => by obtain ⟨A', n', c', hA, h0, _⟩ := hC; simp [Env.setρ] at hA; exact absurd hA.2.2.symm h0)
                    exact ⟨_, Z, w, _, hrun, ⟨this.1.sr, this.1.tm⟩, .sr _ _ _ _ (by simp [Env.setρ]), this.2, Mv.moved _ _ _ _⟩
                  · exact moved (by simpa using h0)
                | arr _ _ _ B o c' vs' ty' hn he hc h0 hf hsz hb ho hok hr =>
                  rw [hE] at he
                  simp only [Option.some.injEq, Value.slice.injEq] at he
                  obtain ⟨rfl, _, rfl⟩ := he
                  by_cases hroom : rows.length + ys.length ≤ c
                  · -- in its place
                    have hle : o + (rows.length + ys.length) * (cts T u').length ≤ vs'.length := Nat.le_trans (Nat.add_le_add_left (Nat.mul_le_mul_right _ hroom) _) ho
                    rw [Nat.add_mul] at hle
                    have hst1 := run_storeCells_at P B (o + rows.length * (cts T u').length) ty' news 0 vs'.toArray w hb (by simp; rw [hnl]; omega) hRn.one
                    simp only [Nat.add_zero] at hst1
                    have hrun := append_room (P := P) (w := w) (t := t) (u := u) (ty := ty) (base := some ⟨B, o, none⟩) (sLen := rows.length) (sCap := c) hto.und htoe.info hisz hdu hdk (hlenx w) (hfull w rfl) hroom
                      (fun a ha => by cases ha; rw [add_none rfl]; exact hst1) (fun hh => by cases hh)
                    have hon := OnlyAt.setRow w B (vs'.take (o + rows.length * (cts T u').length) ++ news ++ vs'.drop (o + rows.length * (cts T u').length + news.length)).toArray
                    have hheap := setRow_heap w B vs'.toArray (vs'.take (o + rows.length * (cts T u').length) ++ news ++ vs'.drop (o + rows.length * (cts T u').length + news.length)).toArray ty' (0, 0) hb
                    have hBo : owns E σ.st id B := (owns_some hst').2 ⟨_, _, _, hE, h0, rfl⟩
                    have hun : ∀ b, b < w.heap.size → ¬ Owned E σ.st b → (w.setRow B (vs'.take (o + rows.length * (cts T u').length) ++ news ++ vs'.drop (o + rows.length * (cts T u').length + news.length)).toArray).heap[b]? = w.heap[b]? :=
                      fun b _ hno => hon.other b (fun e => hno (e ▸ ⟨id, hBo⟩))
                    have hR0 := arr_rows hc ho hok hpos hr
                    have hRR : RowsR T (E.setρ id (.slice (some ⟨B, o, none⟩) (rows ++ ys).length c)) Z (w.setRow B (vs'.take (o + rows.length * (cts T u').length) ++ news ++ vs'.drop (o + rows.length * (cts T u').length + news.length)).toArray) u' (rows ++ ys)
                        (((vs'.take (o + rows.length * (cts T u').length) ++ news ++ vs'.drop (o + rows.length * (cts T u').length + news.length)).drop o).take ((rows ++ ys).length * (cts T u').length)) := by
                      have e1 : ((vs'.take (o + rows.length * (cts T u').length) ++ news ++ vs'.drop (o + rows.length * (cts T u').length + news.length)).drop o).take ((rows ++ ys).length * (cts T u').length) = (vs'.drop o).take (rows.length * (cts T u').length) ++ news := by
                        rw [List.length_append, Nat.add_mul, ← hnl]
                        apply List.ext_getElem?
                        intro j
                        simp only [List.getElem?_take, List.getElem?_drop, List.getElem?_append, List.length_append, List.length_take, List.length_drop, Nat.min_def]
                        repeat' split
                        all_goals first | omega | rfl | (congr 1; omega) | (rw [List.getElem?_eq_none (by omega)]; done) | skip
                        all_goals (symm; rw [List.getElem?_eq_none (by omega)])
                      rw [e1]
                      exact ⟨(hR0.append hRn).1, (RowsR.env (E' := E.setρ id (.slice (some ⟨B, o, none⟩) (rows ++ ys).length c)) (hR0.append hRn)).2.mono (fun i v hv => ⟨hv, rfl⟩) (fun _ hz => hz) (h.sr.zcell hun)⟩
                    have hfr : kd.grown = .fresh → Spare T u' (vs'.take (o + rows.length * (cts T u').length) ++ news ++ vs'.drop (o + rows.length * (cts T u').length + news.length)) o (rows ++ ys).length c := fun hk j hj hjc => by
                      have hkf : kd = .full := by cases kd <;> simp_all [SK.grown]
                      have := hf.1 (.inl hkf)
                      rw [List.length_append, Nat.add_mul] at hj
                      rw [this] at hjc
                      omega
                    have := h.move (w' := w.setRow B (vs'.take (o + rows.length * (cts T u').length) ++ news ++ vs'.drop (o + rows.length * (cts T u').length + news.length)).toArray) (id := id) (o' := .arr u' kd.grown (rows ++ ys)) (.slice (some ⟨B, o, none⟩) (rows ++ ys).length c) hid
                      (fun b _ hno => hon.other b (fun e => hno (e ▸ hBo))) (by rw [hon.size]; exact Nat.le_refl _) rfl rfl rfl
                      (.arr u' kd.grown (rows ++ ys) B o c _ ty' kd.grown_nil (by simp [Env.setρ]) (by simpa using hroom) h0 ⟨fun hf => absurd hf kd.grown_full, fun hk => hfr hk⟩ (by simpa [Env.setρ] using hsz) hheap (by simp; rw [hnl]; omega) (hR0.append hRn).1 (arr_of hRR))
                      (fun C hC => by obtain ⟨A', n', c', hA, _, rfl⟩ := hC; simp [Env.setρ] at hA; obtain ⟨rfl, _⟩ := hA; exact .inl hBo)
                    refine ⟨_, Z, _, _, hrun, ⟨this.1.sr, this.1.tm⟩, ?_, this.2, Mv.moved _ _ _ _⟩
                    have e2 : rows.length + ys.length = (rows ++ ys).length := by simp
                    rw [e2]
                    exact .sr _ _ _ _ (by simp [Env.setρ])
                  · exact moved (by omega)
          · cases hs
        · -- a part of an owned one, in its place
          rename_i id a n
          split at hs
          · rename_i u' kd rows hst
            cases hue : Nat.beq u' e with
            | false => rw [hue] at hs; cases hs
            | true =>
              rw [hue] at hs
              obtain rfl := Nat.eq_of_beq_eq_true hue
              simp only [cond_true, Option.some.injEq, Prod.mk.injEq] at hs
              obtain ⟨hble, rfl, rfl⟩ := hs
              have hble := Nat.le_of_ble_eq_true hble
              have hst' := getD_some hst (by simp)
              have hor := h.sr.obj id _ hst'
              cases hsv with
              | ss _ _ _ A A' len c hE hb hA =>
                have hlen : len = rows.length ∧ len ≤ c ∧ E.sz id = (cts T u').length := by
                  cases hor with
                  | arr0 _ _ A he hn hk hsz => rw [hE] at he; cases he; exact ⟨rfl, Nat.le_refl _, hsz⟩
                  | arr _ _ _ B o c' vs' ty' hn he hc h0 hf hsz hb ho hok hr => rw [hE] at he; cases he; exact ⟨rfl, hc, hsz⟩
                obtain ⟨rfl, hlc, hsz⟩ := hlen
                have hokall : ∀ row ∈ rows, rowOk (cts T u') row = true := by
                  cases hor with
                  | arr0 _ _ A he hn hk hsz => intro row hr; simp at hr
                  | arr _ _ _ B o c' vs' ty' hn he hc h0 hf hsz hb ho hok hr => exact hok
                have hlr := RowsR.len hokall
                have hm : (a + n) * (cts T u').length + ys.length * (cts T u').length ≤ rows.length * (cts T u').length := by rw [← Nat.add_mul]; exact Nat.mul_le_mul_right _ hble
                have hstore := h.storeArr (P := P) (rows' := rows.take (a + n) ++ ys ++ rows.drop (a + n + ys.length)) hst' hE hpos ((a + n) * (cts T u').length) (avs := ys.flatten) (news := news) hRn.2 hRn.one
                  (by rw [hnl]; exact hm) (by simp; omega)
                  (fun row hrow => by
                    rcases List.mem_append.1 hrow with hrow | hrow
                    · rcases List.mem_append.1 hrow with hrow | hrow
                      · exact hokall row (List.mem_of_mem_take hrow)
                      · exact hRn.1 row hrow
                    · exact hokall row (List.mem_of_mem_drop hrow))
                  (by rw [List.flatten_append, List.flatten_append, flatten_take _ hlr, flatten_drop _ hlr, flatten_length (RowsR.len hRn.1), Nat.add_mul (a + n) ys.length])
                obtain ⟨_, hsome, hw⟩ := hstore
                rcases Nat.eq_zero_or_pos ys.length with h0 | h0
                · -- nothing
                  have hy0 : ys = [] := List.length_eq_zero_iff.1 h0
                  have hn0 : news = [] := List.length_eq_zero_iff.1 (by rw [hnl, h0, Nat.zero_mul])
                  have hrun := append_room (P := P) (w := w) (w' := w) (t := t) (u := u) (ty := ty) (base := A') (sLen := n) (sCap := c - a) hto.und htoe.info hisz hdu hdk (hlenx w) (hfull w rfl) (by omega)
                    (fun a _ => by rw [hn0]; simp [storeCells]) (fun _ => rfl)
                  have hrows : rows.take (a + n) ++ ys ++ rows.drop (a + n + ys.length) = rows := by rw [hy0]; simp
                  refine ⟨E, Z, w, _, hrun, ?_, .ss id a (n + ys.length) A A' rows.length c hE (by omega) hA, ?_, Mv.refl _ _ rfl⟩
                  · rw [hrows]
                    have hkd : σ.st.set id (.arr u' kd rows) = σ.st := set_self hst'
                    rw [hkd]; exact h
                  · rw [hrows]
                    have hkd : σ.st.set id (.arr u' kd rows) = σ.st := set_self hst'
                    simp only [hkd]; exact Ext.refl _ _ _
                · have hne : rows ≠ [] := by rintro rfl; rw [List.length_nil] at hble; omega
                  obtain ⟨B, o, hAB⟩ := hsome hne
                  subst hAB
                  obtain ⟨w', hrunS, hS, hX⟩ := hw B o rfl
                  have hA' := hA (by omega)
                  subst hA'
                  have hrun := append_room (P := P) (w := w) (w' := w') (t := t) (u := u) (ty := ty) (base := (some ⟨B, o, none⟩ : Option Addr).map fun B => ⟨B.block, B.off + a * E.sz id, none⟩) (sLen := n) (sCap := c - a) hto.und htoe.info hisz hdu hdk (hlenx w) (hfull w rfl) (by omega)
                    (fun a' ha' => by
                      cases ha'
                      rw [add_none rfl, hsz]
                      have e3 : o + a * (cts T u').length + n * (cts T u').length = o + (a + n) * (cts T u').length := by rw [Nat.add_mul]; omega
                      simp only [e3]
                      exact hrunS) (fun hh => by cases hh)
                  exact ⟨E, Z, w', _, hrun, hS, .ss id a (n + ys.length) _ _ rows.length c hE (by omega) hA, hX, Mv.refl _ _ rfl⟩
          · cases hs
        · cases hs
    · cases hs
  · cases hs
theorem aappendZ_ok (hT : TabOk P T) (h : StR T E Z w σ vals) {t u ty : Nat} {s x av : AV} {vs vx : Value} (hsv : VR T E Z w s vs) (hx : VR T E Z w x vx)
    (hs : aappendZ T σ t u s x = some (true, σ', av)) : OpRes P T E Z w vals σ (Builtin.append_ #[t, u] ty #[vs, vx]) σ' av := by
  unfold aappendZ at hs
  split at hs
  · rename_i e cells bytes cells' bytes' k hti htu
    obtain ⟨i, d, z, hto⟩ := hT _ _ hti
    have hd := dOk_sl hto.desc
    subst hd
    obtain ⟨iu, du, zu, htou⟩ := hT _ _ htu
    have hdu := dOk_int htou.desc
    subst hdu
    have hxk := VR_int hx
    subst hxk
    split at hs
    · rename_i te id a n hte
      obtain ⟨ie, de, ze, htoe⟩ := hT _ _ hte
      have hcte := elem_cts hte
      split at hs
      · rename_i v rows hst
        cases hcc : (Nat.beq v e && !(te.cells.isEmpty || Nat.beq te.bytes 0)) with
        | false => rw [hcc] at hs; cases hs
        | true =>
          rw [hcc] at hs
          simp only [Bool.and_eq_true, Bool.not_eq_true', Bool.or_eq_false_iff] at hcc
          obtain ⟨hve, hne, hbz⟩ := hcc
          obtain rfl := Nat.eq_of_beq_eq_true hve
          simp only [cond_true, Option.some.injEq, Prod.mk.injEq, Bool.and_eq_true, decide_eq_true_eq] at hs
          obtain ⟨⟨hk0, hble, hroom⟩, rfl, rfl⟩ := hs
          have hble := Nat.le_of_ble_eq_true hble
          have hfit := roomFor_ok hroom
          have hpos : 0 < (cts T v).length := by
            rw [hcte]
            rcases Nat.eq_zero_or_pos te.cells.length with h0 | h0
            · rw [List.length_eq_zero_iff] at h0; rw [h0] at hne; simp at hne
            · exact h0
          have hisz : ie.size = (cts T v).length := by rw [htoe.size, hcte]
          have hst' := getD_some hst (by simp)
          have hor := h.sr.obj id _ hst'
          obtain ⟨olds, hRo, _, hfo⟩ := src_ok (P := P) (e := v) (ys := (rows.drop a).take n) h.sr hsv (by simp only [rowsOf, hst]) (by simp only [elemOk, hst]; simp) (fun ⟨s', hs'⟩ => by cases hs') hpos
          cases hsv with
          | ss _ _ _ A A' len c he hb hA =>
            obtain ⟨hlr, hcr⟩ : len = rows.length ∧ c = rows.length := by
              cases hor with
              | arr0 _ _ A'' he' hn hk hsz => rw [he] at he'; cases he'; exact ⟨rfl, rfl⟩
              | arr _ _ _ B o c' vs' ty' hn he' hc h0 hf hsz hbb ho hok hr => rw [he] at he'; cases he'; exact ⟨rfl, hf.1 (.inl rfl)⟩
            subst hlr
            subst hcr
            have hpl : ((rows.drop a).take n).length = n := by simp; omega
            obtain ⟨kn, rfl⟩ : ∃ kn : Nat, k = (kn : Int) := ⟨k.toNat, by omega⟩
            have hkn : 0 < kn := by omega
            rw [Int.toNat_natCast] at *
            have hb1 : 1 ≤ te.bytes := by have := Nat.ne_of_beq_eq_false hbz; omega
            have hnk : n + kn ≤ (n + kn) * te.bytes := Nat.le_mul_of_pos_right _ hb1
            have hkk : kn * te.bytes ≤ (n + kn) * te.bytes := Nat.mul_le_mul_right _ (by omega)
            have hnc := nextslicecap_le (need := n + kn) (old := rows.length - a) (by omega)
            have hncb : Builtin.nextslicecap (n + kn) (rows.length - a) * te.bytes ≤ 2 * (n + kn) * te.bytes := Nat.mul_le_mul_right _ hnc
            rw [Nat.mul_assoc] at hncb
            have hold := hfo w.drew n rfl (by rw [hpl]; exact Nat.le_refl _)
            have hol : olds.length = n * (cts T v).length := by rw [hRo.length, hpl]
            rw [← hol, List.take_length] at hold
            have hrun := Go.Lib.run_append_grow_zeros (P := P) w t u ty v ie ze .i64 .i64 hto.und htou.und htoe.info htoe.zero A' n (rows.length - a) olds (by rw [hisz]; exact hold) kn hkn (by rw [hisz]; exact hpos) (by omega)
              (by omega) (by rw [htoe.bytes]; omega) (by rw [htoe.bytes]; omega)
            have hz := zeroRows_ok (E := E) (Z := Z) (w := w) hte htoe kn (by rw [← hcte]; exact hpos)
            have hzc : (madeCells ze.cells (kn * te.cells.length)).toList = (Builtin.zeroCells ze.cells kn).toList := by
              have hzl : ze.cells.size = te.cells.length := by rw [← Array.length_toList, htoe.cells]; simp
              simp only [madeCells, Builtin.zeroCells, hzl]
            rw [hzc] at hz
            have hRR := hRo.append hz
            have hge := grownCap_ge w (n + kn) (rows.length - a) v
            have hll : ((rows.drop a).take n ++ List.replicate kn (te.cells.map CT.zeroR)).length = n + kn := by rw [List.length_append, hpl, List.length_replicate]
            have hcells : (olds.toArray ++ Builtin.zeroCells ze.cells kn ++ Builtin.zeroCells ze.cells (grownCap w (n + kn) (rows.length - a) v - (n + kn))) =
                ((olds ++ (Builtin.zeroCells ze.cells kn).toList) ++ (Builtin.zeroCells ze.cells (grownCap w (n + kn) (rows.length - a) v - (n + kn))).toList).toArray := by simp
            rw [hcells] at hrun
            have hzl : ze.cells.size = (cts T v).length := by rw [← Array.length_toList, htoe.cells, hcte]; simp
            have hzc2 : (Builtin.zeroCells ze.cells (grownCap w (n + kn) (rows.length - a) v - (n + kn))).toList.length = (grownCap w (n + kn) (rows.length - a) v - (n + kn)) * (cts T v).length := by
              rw [Array.length_toList, size_zeroCells, hzl]
            obtain ⟨E', h1, h2, h3, h4⟩ := h.newArr (kd := .fresh) (ty := v) (c := grownCap w (n + kn) (rows.length - a) v) (rest := (Builtin.zeroCells ze.cells (grownCap w (n + kn) (rows.length - a) v - (n + kn))).toList) hRR hpos (by rw [hll]; exact hge) (by omega)
              (by
                rw [List.length_append, hRR.length, hll, hzc2, ← Nat.add_mul]
                congr 1; omega) (by simp)
              ⟨by simp, fun _ => Spare.zeros (by rw [htoe.cells, hcte]) hpos hRR.length (by rw [hll]; omega)⟩ (Grew.drewAlloc w _)
            rw [hll] at h2
            exact ⟨E', Z, _, _, hrun, h1, h2, h3, Mv.of rfl h4⟩
      · cases hs
    · cases hs
  · cases hs
end
end Go.Fw
