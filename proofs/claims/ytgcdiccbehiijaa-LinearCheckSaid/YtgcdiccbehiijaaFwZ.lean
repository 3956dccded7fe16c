/- The framework, part Z: what a claim reads of an argument is a value without addresses. -/
import Derived.Test.YtgcdiccbehiijaaFwY
import Derived.WalkKit
import Derived.ProofKit
import Derived.OpenShut
import Derived.ShutString
import Derived.ChangeOld
import Derived.Below
import Derived.SizedLaws
import Derived.Carry
set_option linter.all false
set_option linter.unusedSimpArgs false
set_option linter.unusedVariables false
namespace Go.Fw
def tile (T : Tab) : Nat → List (Nat × Nat) → List CT → Bool
  | _, [], cells => cells.isEmpty
  | off, (o, t) :: fs, cells =>
    Nat.beq o off && match T t with
      | some ti => decide (cells.take ti.cells.length = ti.cells) && tile T (off + ti.cells.length) fs (cells.drop ti.cells.length)
      | none => false
def plainT (T : Tab) (ts : List Nat) : Bool := ts.all fun t => match T t with
  | some ti => (match ti.d with
    | .int k => decide (ti.cells = [.int k])
    | .bool => decide (ti.cells = [.bool])
    | .str => decide (ti.cells = [.str])
    | .sl e => ts.elem e && (!(cts T e).isEmpty && decide (ti.cells = [.sl e]))
    | .struct fs => fs.all (fun f => ts.elem f.2) && tile T 0 fs ti.cells
    | .arr n e => ts.elem e && decide (ti.cells = (List.replicate n (cts T e)).flatten)
    | _ => false)
  | none => false
def bytesT (T : Tab) (t : Nat) : Nat := match T t with | some ti => ti.bytes | none => 0
inductive Fine (T : Tab) : AV → Prop
  | int (k : IntKind) (n : Int) (h : (Lit.int k n).wf = true) : Fine T (.k (.int k n))
  | bool (b : Bool) : Fine T (.k (.bool b))
  | str (s : ByteArray) (h : s.size ≤ reachBytes) : Fine T (.k (.string s))
  | sl (t : Nat) (rows : List (List AV)) (h : rows.length * bytesT T t ≤ reachBytes) (hm : rows.length ≤ maxLen) (hok : ∀ row ∈ rows, rowOk (cts T t) row = true)
      (hr : ∀ row ∈ rows, ∀ v ∈ row, Fine T v) : Fine T (.sl t .any rows)
section
variable {P : Program} {T : Tab} {E : Env} {Z : Nat → Prop} {w : World} {H : Type} {enc : TypeId × Value → H}
theorem list_choice {α : Type} (Q : Nat → α → Prop) : ∀ n : Nat, (∀ i, i < n → ∃ a, Q i a) → ∃ l : List α, l.length = n ∧ ∀ i a, l[i]? = some a → Q i a
  | 0, _ => ⟨[], rfl, fun i a h => by simp at h⟩
  | n + 1, h => by
    obtain ⟨l, hl, hq⟩ := list_choice Q n fun i hi => h i (by omega)
    obtain ⟨a, ha⟩ := h n (by omega)
    refine ⟨l ++ [a], by simp [hl], fun i b hb => ?_⟩
    rcases Nat.lt_trichotomy i n with h1 | h1 | h1
    · rw [List.getElem?_append_left (by omega)] at hb; exact hq i b hb
    · subst h1
      rw [List.getElem?_append_right (by omega), hl] at hb
      simp at hb; subst hb; exact ha
    · rw [List.getElem?_eq_none (by simp; omega)] at hb; cases hb
def Part (T : Tab) (E : Env) (Z : Nat → Prop) (w : World) (cells : List CT) (cs : List Value) : Prop :=
  ∃ avs, rowOk cells avs = true ∧ VRs T E Z w avs cs ∧ ∀ v ∈ avs, Fine T v
theorem Part.append {c1 c2 : List CT} {v1 v2 : List Value} (h : Part T E Z w c1 v1) (k : Part T E Z w c2 v2) : Part T E Z w (c1 ++ c2) (v1 ++ v2) := by
  obtain ⟨a1, h1, h2, h3⟩ := h
  obtain ⟨a2, k1, k2, k3⟩ := k
  exact ⟨a1 ++ a2, rowOk_append h1 k1, h2.append k2, fun v hv => (List.mem_append.1 hv).elim (h3 v) (k3 v)⟩
theorem tile_ok {cs : List Value} : ∀ (fs : List (Nat × Nat)) (off : Nat) (cells : List CT), tile T off fs cells = true → cs.length = off + cells.length →
    (∀ f ∈ fs, Part T E Z w (cts T f.2) ((cs.drop f.1).take (cts T f.2).length)) → Part T E Z w cells (cs.drop off)
  | [], off, cells, ht, hl, hp => by
    simp only [tile, List.isEmpty_iff] at ht
    subst ht
    refine ⟨[], rfl, ⟨?_, fun j av v hj => by simp at hj⟩, fun v hv => by simp at hv⟩
    simp only [List.length_nil, Nat.add_zero] at hl
    simp [hl]
  | (o, t) :: fs, off, cells, ht, hl, hp => by
    simp only [tile, Bool.and_eq_true] at ht
    obtain ⟨ho, ht⟩ := ht
    obtain rfl := Nat.eq_of_beq_eq_true ho
    split at ht
    · rename_i ti hti
      simp only [Bool.and_eq_true, decide_eq_true_eq] at ht
      have hct : cts T t = ti.cells := by simp [cts, hti]
      have hlen : ti.cells.length ≤ cells.length := by
        have := congrArg List.length ht.1
        rw [List.length_take] at this
        omega
      have h1 := hp (o, t) List.mem_cons_self
      have h2 := tile_ok (cs := cs) fs (o + ti.cells.length) (cells.drop ti.cells.length) ht.2 (by rw [List.length_drop]; omega) (fun f hf => hp f (List.mem_cons_of_mem _ hf))
      simp only [hct] at h1
      have := h1.append h2
      rw [← List.drop_drop, List.take_append_drop] at this
      rw [← List.take_append_drop ti.cells.length cells, ht.1]
      exact this
    · cases ht
theorem arr_part {cells : List CT} : ∀ (n : Nat) (cs : List Value), cs.length = n * cells.length → (∀ i, i < n → Part T E Z w cells ((cs.drop (i * cells.length)).take cells.length)) →
    Part T E Z w (List.replicate n cells).flatten cs
  | 0, cs, hl, hp => by
    simp only [Nat.zero_mul, List.length_eq_zero_iff] at hl
    subst hl
    exact ⟨[], rfl, ⟨rfl, fun j av v hj => by simp at hj⟩, fun v hv => by simp at hv⟩
  | n + 1, cs, hl, hp => by
    have h1 := hp 0 (by omega)
    simp only [Nat.zero_mul, List.drop_zero] at h1
    have h2 := arr_part (cells := cells) n (cs.drop cells.length) (by rw [List.length_drop, hl, Nat.add_mul]; omega) (fun i hi => by
      have := hp (i + 1) (by omega)
      rw [List.drop_drop, Nat.add_comm cells.length, ← Nat.succ_mul]
      exact this)
    have := h1.append h2
    rw [List.take_append_drop] at this
    rw [List.replicate_succ, List.flatten_cons]
    exact this
theorem weightsAll_mem : ∀ {l : List (DataW H)} {d : DataW H} {e : TypeId}, d ∈ l → ∀ n ∈ d.weights P e, n ∈ DataW.weightsAll P e l
  | x :: l, d, e, hd, n, hn => by
    simp only [DataW.weightsAll, List.mem_append]
    rcases List.mem_cons.1 hd with rfl | hd
    · exact .inl hn
    · exact .inr (weightsAll_mem hd n hn)
theorem cts_size (hT : TabOk P T) {t : Nat} {ti : TI} (h : T t = some ti) : P.cellsOf t = (cts T t).length ∧ P.bytesOf t = bytesT T t := by
  obtain ⟨i, d, z, hto⟩ := hT t ti h
  simp [Program.cellsOf, Program.bytesOf, hto.info, cts, bytesT, h, hto.size, hto.bytes]
theorem read_ok (hT : TabOk P T) {ts : List Nat} (hp : plainT T ts = true) (hZ : ∀ b, b < w.heap.size → Z b) : ∀ (fuel : Nat) (t : Nat) (cs : List Value) (x : DataW H × List MemPlace), t ∈ ts →
    DataW.trod enc P w 0 (fun _ => true) true fuel t cs = some x → (∀ n ∈ x.1.weights P t, n ≤ reachBytes) → Part T E Z w (cts T t) cs
  | 0, t, cs, x, ht, h, hw => by simp [DataW.trod] at h
  | fuel + 1, t, cs, x, ht, h, hw => by
    have hpt := List.all_eq_true.1 hp t ht
    split at hpt
    · rename_i ti hti
      obtain ⟨i0, d, z, hto⟩ := hT t ti hti
      have hct : cts T t = ti.cells := by simp [cts, hti]
      have one : ∀ (c : CT) (av : AV) (v : Value), ti.cells = [c] → cs = [v] → c.ok av = true → VR T E Z w av v → Fine T av → Part T E Z w (cts T t) cs := fun c av v hc hcs hok hv hf => by
        rw [hct, hc, hcs]
        exact ⟨[av], by simp [rowOk, hok], ⟨rfl, fun j x y hx hy => by cases j <;> simp at hx hy; subst hx; subst hy; exact hv⟩, fun v hv => by simp at hv; subst hv; exact hf⟩
      split at hpt
      · -- whole numbers
        rename_i k hd
        have hdo := hto.desc
        rw [hd] at hdo
        obtain rfl := dOk_int hdo
        obtain ⟨n, hcs, hx, hwf⟩ := DataW.trod_int hto.und h
        exact one (.int k) (.k (.int k n)) _ (by simpa using hpt) hcs (by simp [CT.ok]) (.k _ rfl) (.int k n hwf)
      · rename_i hd
        have hdo := hto.desc
        rw [hd] at hdo
        have : d = .bool := by cases d <;> simp_all [dOk]
        subst this
        obtain ⟨b, hcs, hx⟩ := DataW.trod_bool hto.und h
        exact one .bool (.k (.bool b)) _ (by simpa using hpt) hcs (by simp [CT.ok]) (.k _ rfl) (.bool b)
      · rename_i hd
        have hdo := hto.desc
        rw [hd] at hdo
        obtain rfl := dOk_str hdo
        obtain ⟨s, hcs, hx, hs⟩ := DataW.trod_string hto.und h
        refine one .str (.k (.string s)) _ (by simpa using hpt) hcs (by simp [CT.ok]) (.k _ rfl) (.str s ?_)
        subst hx
        have := hw s.data.toList.length (by simp [DataW.weights])
        simpa using this
      · -- slices
        rename_i e hd
        have hdo := hto.desc
        rw [hd] at hdo
        obtain rfl := dOk_sl hdo
        simp only [Bool.and_eq_true, decide_eq_true_eq] at hpt
        obtain ⟨he, hne, hcells⟩ := hpt
        have he : e ∈ ts := by simpa using he
        have hte : ∃ te, T e = some te := by
          have := List.all_eq_true.1 hp e he
          cases hh : T e with
          | none => rw [hh] at this; cases this
          | some te => exact ⟨te, rfl⟩
        obtain ⟨te, hte⟩ := hte
        obtain ⟨hsz, hbt⟩ := cts_size hT hte
        have hpos : 0 < (cts T e).length := by
          cases hh : cts T e with
          | nil => rw [hh] at hne; simp at hne
          | cons _ _ => simp
        rcases DataW.trod_slice hto.und h with ⟨hcs, hx⟩ | ⟨a, len, cap, elems, rest, n, hn, hcs, hx, hb, hl, hm, hlen, hel, hsp, hns⟩
        · exact one (.sl e) (.sl e .any []) _ hcells hcs (by simp [CT.ok, SK.isAny]) (.slnil e .any (.inr (.inl rfl))) (.sl e [] (by simp) (Nat.zero_le _) (fun row hr => by cases hr) (fun row hr => by cases hr))
        · obtain rfl : n = fuel := by omega
          subst hx
          have hw1 : (elems.length + rest.length) * P.bytesOf e ≤ reachBytes := by
            have := hw ((elems.length + rest.length) * P.bytesOf e) (by simp [DataW.weights, hto.und])
            exact this
          have hrd : ∀ i, i < len → ∃ p : List AV × List Value, rowOk (cts T e) p.1 = true ∧ VRs T E Z w p.1 p.2 ∧ (∀ v ∈ p.1, Fine T v) ∧ (∀ j, j < (cts T e).length → w.cell? ((a.add (i * (cts T e).length)).add j) = p.2[j]?) := fun i hi => by
            have h1 := hel i hi
            have hi' : i < elems.length := by omega
            rw [List.getElem?_eq_getElem hi', Option.bind_eq_some_iff] at h1
            obtain ⟨ci, hci, htr⟩ := h1
            obtain ⟨_, hcl, hcc⟩ := World.cells?_some hci
            obtain ⟨avs, q1, q2, q3⟩ := read_ok hT hp hZ n e ci _ he htr (fun m hm' => hw m (by
              simp only [DataW.weights, hto.und, List.mem_cons, List.mem_append]
              exact .inr (.inl (weightsAll_mem (List.mem_map.2 ⟨_, List.getElem_mem hi', rfl⟩) m hm'))))
            refine ⟨(avs, ci), q1, q2, q3, fun j hj => ?_⟩
            have := hcc j (by rw [hsz]; exact hj)
            rw [hsz] at this; exact this
          have hspot : cap ≠ 0 → a.spot = none ∧ a.block < w.heap.size := fun hc0 => by
            have h0 : ∃ v, w.cell? a = some v := by
              have key : ∀ y, (w.cells? 0 (a.add (0 * P.cellsOf e)) (P.cellsOf e)).bind (DataW.trod enc P w 0 (fun _ => true) true n e) = some y → ∃ v, w.cell? a = some v := fun y hy => by
                obtain ⟨ci, hci, _⟩ := Option.bind_eq_some_iff.1 hy
                obtain ⟨_, hcl, hcc⟩ := World.cells?_some hci
                have := hcc 0 (by rw [hsz]; exact hpos)
                have e1 : (a.add (0 * P.cellsOf e)).add 0 = a := by simp [Addr.add]
                rw [e1] at this
                have h0 : 0 < ci.length := by rw [hcl, hsz]; exact hpos
                rw [List.getElem?_eq_getElem h0] at this
                exact ⟨_, this⟩
              rcases Nat.eq_zero_or_pos len with hz | hz
              · obtain ⟨hr1, hr2⟩ := hsp rfl
                have := hr2 0 (by omega)
                have hr0 : 0 < rest.length := by omega
                rw [List.getElem?_eq_getElem hr0, hz] at this
                exact key _ this
              · have := hel 0 hz
                have he0 : 0 < elems.length := by omega
                rw [List.getElem?_eq_getElem he0] at this
                exact key _ this
            obtain ⟨v, hv⟩ := h0
            refine ⟨World.cell?_spot hv, ?_⟩
            rcases Nat.lt_or_ge a.block w.heap.size with h1 | h1
            · exact h1
            · simp [World.cell?, Array.getElem?_eq_none h1] at hv
          obtain ⟨ps, hpl, hps⟩ := list_choice _ len hrd
          have hgetr : ∀ (i : Nat) (row : List AV), (ps.map (·.1))[i]? = some row → ∃ p : List AV × List Value, ps[i]? = some p ∧ p.1 = row := fun i row hi => by
            rw [List.getElem?_map, Option.map_eq_some_iff] at hi; exact hi
          have hokr : ∀ row ∈ ps.map (·.1), rowOk (cts T e) row = true := fun row hr => by
            obtain ⟨i, hi⟩ := List.getElem?_of_mem hr
            obtain ⟨p, hp1, rfl⟩ := hgetr i row hi
            exact (hps i p hp1).1
          have hlr : (ps.map (·.1)).length = len := by simp [hpl]
          have hv : VR T E Z w (.sl e .any (ps.map (·.1))) (.slice (some a) len cap) := by
            have := VR.sl (T := T) (E := E) (Z := Z) (w := w) e .any (ps.map (·.1)) a cap (fun i j => ((ps.getD i ([], [])).2).getD j Go.undef) (by simp) (by simp) (by rw [hlr]; exact hl) (fun hc0 => (hspot hc0).1)
              (fun hne => hZ _ (hspot (by
                have : 0 < len := by
                  rcases Nat.eq_zero_or_pos len with h0 | h0
                  · exact absurd (List.length_eq_zero_iff.1 (hlr.trans h0)) hne
                  · exact h0
                omega)).2) hokr
              (fun i row j av hi hj => by
                obtain ⟨p, hp1, rfl⟩ := hgetr i row hi
                obtain ⟨q1, q2, q3, q4⟩ := hps i p hp1
                have hil : i < len := by have := (List.getElem?_eq_some_iff.1 hp1).1; omega
                have hjl : j < p.1.length := (List.getElem?_eq_some_iff.1 hj).1
                have hjc : j < (cts T e).length := by rw [← (rowOk_get q1).1]; exact hjl
                have := q4 j hjc
                have hs := (hspot (by omega)).1
                rw [add_none hs, add_none rfl] at this
                have hj2 : j < p.2.length := by rw [← q2.1]; exact hjl
                have eg : (ps.getD i ([], [])).2 = p.2 := by rw [List.getD_eq_getElem?_getD, hp1]; rfl
                rw [show a.off + (i * (cts T e).length + j) = a.off + i * (cts T e).length + j by omega, this, eg, List.getD_eq_getElem?_getD, List.getElem?_eq_getElem hj2]; rfl)
              (fun i row j av hi hj => by
                obtain ⟨p, hp1, rfl⟩ := hgetr i row hi
                obtain ⟨q1, q2, q3, q4⟩ := hps i p hp1
                have hjl : j < p.1.length := (List.getElem?_eq_some_iff.1 hj).1
                have hj2 : j < p.2.length := by rw [← q2.1]; exact hjl
                have eg : (ps.getD i ([], [])).2 = p.2 := by rw [List.getD_eq_getElem?_getD, hp1]; rfl
                have e2 : ((ps.getD i ([], [])).2).getD j Go.undef = p.2[j] := by rw [eg, List.getD_eq_getElem?_getD, List.getElem?_eq_getElem hj2]; rfl
                rw [e2]
                exact q2.2 j av _ hj (List.getElem?_eq_getElem hj2))
            rwa [hlr] at this
          refine one (.sl e) (.sl e .any (ps.map (·.1))) _ hcells hcs (by simp [CT.ok, SK.isAny]) hv (.sl e _ ?_ (by rw [hlr]; omega) hokr (fun row hr v hv => ?_))
          · rw [hlr, ← hbt]
            refine Nat.le_trans (Nat.mul_le_mul_right _ ?_) hw1
            omega
          · obtain ⟨i, hi⟩ := List.getElem?_of_mem hr
            obtain ⟨p, hp1, rfl⟩ := hgetr i row hi
            exact (hps i p hp1).2.2.1 v hv
      · -- structs
        rename_i fs hd
        have hdo := hto.desc
        rw [hd] at hdo
        obtain ⟨fields, rfl, hfs⟩ := dOk_struct hdo
        simp only [Bool.and_eq_true] at hpt
        obtain ⟨hall, htile⟩ := hpt
        obtain ⟨xs, n, hn, hx, hl, hxl, hf⟩ := DataW.trod_struct hto.und h
        obtain rfl : n = fuel := by omega
        subst hx
        have hsz := (cts_size hT hti).1
        have := tile_ok (E := E) (Z := Z) (w := w) (cs := cs) fs 0 ti.cells htile (by rw [hl, hsz, hct]; omega) (fun f hfm => by
          obtain ⟨i, hi⟩ := List.getElem?_of_mem hfm
          rw [← hfs, List.getElem?_map, Option.map_eq_some_iff] at hi
          obtain ⟨fld, hfld, rfl⟩ := hi
          have hmem : fld.type ∈ ts := by simpa using List.all_eq_true.1 hall _ hfm
          have hfld' : fields[i]? = some fld := by simpa using hfld
          have h1 := hf i fld hfld'
          have hil : i < xs.length := by rw [hxl]; exact (Array.getElem?_eq_some_iff.1 hfld').1
          rw [List.getElem?_eq_getElem hil] at h1
          have htf : ∃ tf, T fld.type = some tf := by
            have := List.all_eq_true.1 hp fld.type hmem
            cases hh : T fld.type with
            | none => rw [hh] at this; cases this
            | some te => exact ⟨te, rfl⟩
          obtain ⟨tf, htf⟩ := htf
          rw [(cts_size hT htf).1] at h1
          refine read_ok hT hp hZ n fld.type _ _ hmem h1 (fun m hm => hw m ?_)
          simp only [DataW.weights, hto.und]
          exact DataW.weights_mem_each (j := i) (t := fld.type) (d := xs[i].1) (by rw [List.getElem?_map, hfld]; rfl) (by rw [List.getElem?_map, List.getElem?_eq_getElem hil]; rfl) m hm)
        rw [hct]; simpa using this
      · -- arrays
        rename_i len e hd
        have hdo := hto.desc
        rw [hd] at hdo
        obtain rfl := dOk_arr hdo
        simp only [Bool.and_eq_true, decide_eq_true_eq] at hpt
        obtain ⟨he, hcells⟩ := hpt
        have he : e ∈ ts := by simpa using he
        have hte : ∃ te, T e = some te := by
          have := List.all_eq_true.1 hp e he
          cases hh : T e with
          | none => rw [hh] at this; cases this
          | some te => exact ⟨te, rfl⟩
        obtain ⟨te, hte⟩ := hte
        have hsz := (cts_size hT hti).1
        have hse := (cts_size hT hte).1
        unfold DataW.trod at h
        rw [hto.und] at h
        simp only at h
        split at h
        · rename_i hl
          obtain ⟨xs, hxs, hx⟩ := Option.map_eq_some_iff.1 h
          subst hx
          have hlen : cs.length = len * (cts T e).length := by
            rw [hl, hsz, hct, hcells]; simp
          rw [hct, hcells]
          refine arr_part len cs hlen fun i hi => ?_
          have h1 := mapM_some_get hxs i i (by simp [hi])
          have hil : i < xs.length := by rw [mapM_some_length hxs]; simpa using hi
          rw [List.getElem?_eq_getElem hil, hse] at h1
          refine read_ok hT hp hZ fuel e _ _ he h1 (fun m hm => hw m ?_)
          simp only [DataW.weights, hto.und]
          exact weightsAll_mem (List.mem_map.2 ⟨_, List.getElem_mem hil, rfl⟩) m hm
        · cases h
      · cases hpt
    · cases hpt
end
end Go.Fw
