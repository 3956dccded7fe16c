/- The framework, part F: slices of slices, indexes. -/
import Derived.Test.YtgcdiccbehiijaaFwE
set_option linter.all false
set_option linter.unusedSimpArgs false
set_option linter.unusedVariables false
namespace Go.Fw
section
variable {P : Program} {T : Tab} {E : Env} {Z : Nat → Prop} {w : World} {σ : St}
inductive OV (T : Tab) (E : Env) (Z : Nat → Prop) (w : World) : Option AV → Option Value → Prop
  | none : OV T E Z w none none
  | some (x : AV) (v : Value) (h : VR T E Z w x v) : OV T E Z w (some x) (some v)
theorem bound_some {x : AV} {v : Value} (hx : VR T E Z w x v) {d most : Nat} {c : Bool} {r : Nat} (h : bound? (some x) d most = some (c, r)) :
    ∃ k n, v = .int k n ∧ c = (decide (0 ≤ n) && decide (n ≤ (most : Int))) ∧ r = n.toNat := by
  unfold bound? at h
  split at h
  · rename_i heq; cases heq
  · rename_i k n heq
    cases heq
    cases h
    exact ⟨k, n, VR_int hx, rfl, rfl⟩
  · cases h
theorem sliceBound_run (k : IntKind) {n : Int} {y : Nat} (code : BoundsCode) (h0 : 0 ≤ n) (h1 : n ≤ (y : Int)) : (Instr.sliceBound (.int k n) y code).run P w = .ok n.toNat w := by
  simp [Instr.sliceBound, asIntOf, h0, h1]
theorem bounds2m_run {lo hi : Option AV} {vlo vhi : Option Value} (hlo : OV T E Z w lo vlo) (hhi : OV T E Z w hi vhi) {isSlice : Bool} {len mst cap : Nat} (hlm : len ≤ mst) (hlc : mst ≤ cap)
    {c d : Bool} {h l : Nat} (hh : bound? hi len mst = some (c, h)) (hl : bound? lo 0 h = some (d, l)) (hc : c = true) (hd : d = true) :
    (Instr.sliceBounds isSlice len cap vlo vhi none).run P w = .ok (l, h, cap) w ∧ l ≤ h ∧ h ≤ mst := by
  subst hc; subst hd
  have h1 : h ≤ mst ∧ (match vhi with | none => h = len | some v => ∃ k n, v = .int k n ∧ 0 ≤ n ∧ n ≤ (mst : Int) ∧ h = n.toNat) := by
    cases hhi with
    | none => simp [bound?] at hh; subst hh; exact ⟨hlm, rfl⟩
    | some x v hv =>
      obtain ⟨k, n, rfl, hc, rfl⟩ := bound_some hv hh
      have := hc.symm
      simp only [Bool.and_eq_true, decide_eq_true_eq] at this
      exact ⟨by omega, k, n, rfl, this.1, this.2, rfl⟩
  have h2 : l ≤ h ∧ (match vlo with | none => l = 0 | some v => ∃ k n, v = .int k n ∧ 0 ≤ n ∧ n ≤ (h : Int) ∧ l = n.toNat) := by
    cases hlo with
    | none => simp [bound?] at hl; subst hl; exact ⟨Nat.zero_le _, rfl⟩
    | some x v hv =>
      obtain ⟨k, n, rfl, hc, rfl⟩ := bound_some hv hl
      have := hc.symm
      simp only [Bool.and_eq_true, decide_eq_true_eq] at this
      exact ⟨by omega, k, n, rfl, this.1, this.2, rfl⟩
  obtain ⟨hle, h1⟩ := h1
  obtain ⟨hle2, h2⟩ := h2
  refine ⟨?_, hle2, hle⟩
  cases vhi with
  | none =>
    simp only at h1; subst h1
    cases vlo with
    | none => simp only at h2; subst h2; simp [Instr.sliceBounds]
    | some v => obtain ⟨k, n, rfl, h0, h1, rfl⟩ := h2; simp [Instr.sliceBounds, sliceBound_run k _ h0 h1]
  | some v =>
    obtain ⟨k, n, rfl, h0, h1, rfl⟩ := h1
    have h1' : n ≤ (cap : Int) := by omega
    cases vlo with
    | none => simp only at h2; subst h2; simp [Instr.sliceBounds, sliceBound_run k _ h0 h1']
    | some v => obtain ⟨k', n', rfl, h0', h1'', rfl⟩ := h2; simp [Instr.sliceBounds, sliceBound_run k _ h0 h1', sliceBound_run k' _ h0' h1'']
theorem bounds2_run {lo hi : Option AV} {vlo vhi : Option Value} (hlo : OV T E Z w lo vlo) (hhi : OV T E Z w hi vhi) {isSlice : Bool} {len cap : Nat} (hlc : len ≤ cap)
    {c d : Bool} {h l : Nat} (hh : bound? hi len len = some (c, h)) (hl : bound? lo 0 h = some (d, l)) (hc : c = true) (hd : d = true) :
    (Instr.sliceBounds isSlice len cap vlo vhi none).run P w = .ok (l, h, cap) w ∧ l ≤ h ∧ h ≤ len := bounds2m_run hlo hhi (Nat.le_refl _) hlc hh hl hc hd
theorem bounds3_run {lo hi : Option AV} {m : AV} {vlo vhi : Option Value} {vm : Value} (hlo : OV T E Z w lo vlo) (hhi : OV T E Z w hi vhi) (hm : VR T E Z w m vm) {len cap : Nat} {len' : Nat} (hlc : len ≤ cap)
    {b c d : Bool} {mm h l : Nat} (hmm : bound? (some m) 0 len = some (b, mm)) (hh : bound? hi 0 mm = some (c, h)) (hl : bound? lo 0 h = some (d, l)) (hb : b = true) (hc : c = true) (hd : d = true) (hhm : h = mm)
    (hhi' : hi ≠ none ∨ mm = 0) (hvhi : vhi ≠ none) :
    (Instr.sliceBounds true len' cap vlo vhi (some vm)).run P w = .ok (l, h, mm) w ∧ l ≤ h ∧ mm ≤ len := by
  subst hb; subst hc; subst hd
  obtain ⟨km, nm, rfl, hb, rfl⟩ := bound_some hm hmm
  have hb := hb.symm
  simp only [Bool.and_eq_true, decide_eq_true_eq] at hb
  have hbc : nm ≤ (cap : Int) := by omega
  cases hhi with
  | none => exact absurd rfl hvhi
  | some x v hv =>
    obtain ⟨kh, nh, rfl, hc, rfl⟩ := bound_some hv hh
    have hc := hc.symm
    simp only [Bool.and_eq_true, decide_eq_true_eq] at hc
    cases hlo with
    | none =>
      simp [bound?] at hl; subst hl
      exact ⟨by simp [Instr.sliceBounds, sliceBound_run km _ hb.1 hbc, sliceBound_run kh _ hc.1 hc.2], Nat.zero_le _, by omega⟩
    | some y v' hv' =>
      obtain ⟨kl, nl, rfl, hd, rfl⟩ := bound_some hv' hl
      have hd := hd.symm
      simp only [Bool.and_eq_true, decide_eq_true_eq] at hd
      exact ⟨by simp [Instr.sliceBounds, sliceBound_run km _ hb.1 hbc, sliceBound_run kh _ hc.1 hc.2, sliceBound_run kl _ hd.1 hd.2], by omega, by omega⟩
theorem bounds3x_run {lo hi : Option AV} {m : AV} {vlo vhi : Option Value} {vm : Value} (hlo : OV T E Z w lo vlo) (hhi : OV T E Z w hi vhi) (hm : VR T E Z w m vm) {len cap : Nat} {len' : Nat} (hlc : len ≤ cap)
    {b c d : Bool} {mm h l : Nat} (hmm : bound? (some m) 0 len = some (b, mm)) (hh : bound? hi 0 mm = some (c, h)) (hl : bound? lo 0 h = some (d, l)) (hb : b = true) (hc : c = true) (hd : d = true) (hvhi : vhi ≠ none) :
    (Instr.sliceBounds true len' cap vlo vhi (some vm)).run P w = .ok (l, h, mm) w ∧ l ≤ h ∧ mm ≤ len := by
  subst hb; subst hc; subst hd
  obtain ⟨km, nm, rfl, hb, rfl⟩ := bound_some hm hmm
  have hb := hb.symm
  simp only [Bool.and_eq_true, decide_eq_true_eq] at hb
  have hbc : nm ≤ (cap : Int) := by omega
  cases hhi with
  | none => exact absurd rfl hvhi
  | some x v hv =>
    obtain ⟨kh, nh, rfl, hc, rfl⟩ := bound_some hv hh
    have hc := hc.symm
    simp only [Bool.and_eq_true, decide_eq_true_eq] at hc
    cases hlo with
    | none =>
      simp [bound?] at hl; subst hl
      exact ⟨by simp [Instr.sliceBounds, sliceBound_run km _ hb.1 hbc, sliceBound_run kh _ hc.1 hc.2], Nat.zero_le _, by omega⟩
    | some y v' hv' =>
      obtain ⟨kl, nl, rfl, hd, rfl⟩ := bound_some hv' hl
      have hd := hd.symm
      simp only [Bool.and_eq_true, decide_eq_true_eq] at hd
      exact ⟨by simp [Instr.sliceBounds, sliceBound_run km _ hb.1 hbc, sliceBound_run kh _ hc.1 hc.2, sliceBound_run kl _ hd.1 hd.2], by omega, by omega⟩
theorem VR_part {u : Nat} {kd kd' : SK} {rows : List (List AV)} {A : Addr} {c : Nat} (hv : VR T E Z w (.sl u kd rows) (.slice (some A) rows.length c)) {l h m : Nat} (hl : l ≤ h) (hh : h ≤ rows.length)
    (hm : h ≤ m) (hmc : m ≤ c) (hn : kd' ≠ .nil) (hf : kd' = .full ∨ kd' = .anyf → m = h) {A' : Addr} (hA : A' = if m = l then A else A.add (l * (cts T u).length)) :
    VR T E Z w (.sl u kd' ((rows.drop l).take (h - l))) (.slice (some A') (h - l) (m - l)) := by
  cases hv with
  | sl _ _ _ _ _ cv hn0 hf0 hc hs hz hok hcell hrep =>
    have hlen : ((rows.drop l).take (h - l)).length = h - l := by simp; omega
    have hget : ∀ i row, ((rows.drop l).take (h - l))[i]? = some row → i < h - l ∧ rows[l + i]? = some row := fun i row hi => by
      rw [List.getElem?_take] at hi
      by_cases hlt : i < h - l
      · simp only [hlt, if_true, List.getElem?_drop] at hi; exact ⟨hlt, hi⟩
      · simp [hlt] at hi
    have hA' : l < h → A' = ⟨A.block, A.off + l * (cts T u).length, none⟩ := fun hlt => by rw [hA, if_neg (by omega), add_none (hs (by omega))]
    have hAs : m - l ≠ 0 → A'.spot = none := fun hne => by
      rw [hA, if_neg (by omega), add_none (hs (by omega))]
    have := VR.sl (T := T) (E := E) (Z := Z) (w := w) u kd' ((rows.drop l).take (h - l)) A' (m - l) (fun i j => cv (l + i) j) hn (fun hfu => by rw [hlen, hf hfu]) (by rw [hlen]; omega) hAs
      (fun hne => by
        have hlt : l < h := by
          rcases Nat.lt_or_ge l h with h1 | h1
          · exact h1
          · exact absurd (by rw [Nat.sub_eq_zero_of_le h1]; simp) hne
        rw [hA' hlt]; exact hz (by rintro rfl; simp at hh; omega))
      (fun row hrow => hok row (List.mem_of_mem_drop (List.mem_of_mem_take hrow)))
      (fun i row j av hi hj => by
        obtain ⟨hlt, hi⟩ := hget i row hi
        have := hcell (l + i) row j av hi hj
        rw [hA' (by omega)]
        simpa [Nat.add_mul, Nat.add_assoc] using this)
      (fun i row j av hi hj => hrep (l + i) row j av (hget i row hi).2 hj)
    rwa [hlen] at this
theorem chunks_len (z : Nat) : ∀ (n : Nat) (l : List AV), (chunks z n l).length = n
  | 0, _ => rfl
  | n + 1, l => by simp only [chunks, List.length_cons, chunks_len z n]
theorem chunks_get {z : Nat} : ∀ {n : Nat} {l : List AV} {i j : Nat} {r : List AV} {av : AV}, (chunks z n l)[i]? = some r → r[j]? = some av → l[i * z + j]? = some av
  | 0, _, _, _, _, _, h, _ => by simp [chunks] at h
  | n + 1, l, 0, j, r, av, h, h2 => by
    simp only [chunks, List.getElem?_cons_zero, Option.some.injEq] at h
    subst h
    rw [List.getElem?_take] at h2
    split at h2
    · simpa using h2
    · cases h2
  | n + 1, l, i + 1, j, r, av, h, h2 => by
    simp only [chunks, List.getElem?_cons_succ] at h
    have := chunks_get h h2
    rw [List.getElem?_drop] at this
    rw [Nat.succ_mul, ← this]
    congr 1; omega
theorem aslice_ok (hT : TabOk P T) (hs : SR T E Z w σ.st) {t : Nat} {x av : AV} {vx : Value} {lo hi mx : Option AV} {vlo vhi vmx : Option Value} (hx : VR T E Z w x vx)
    (hlo : OV T E Z w lo vlo) (hhi : OV T E Z w hi vhi) (hmx : OV T E Z w mx vmx) (hm : mx ≠ none → hi ≠ none)
    (h : aslice T σ t x lo hi mx = some (true, av)) : ∃ v, (Instr.sliceAt t vx vlo vhi vmx).run P w = .ok v w ∧ VR T E Z w av v := by
  have hvm : vmx ≠ none → vhi ≠ none := fun hne => by
    cases hmx with
    | none => exact absurd rfl hne
    | some _ _ _ => cases hhi with
      | none => exact absurd rfl (hm (by simp))
      | some _ _ _ => simp
  unfold aslice at h
  split at h
  · rename_i cells bytes hti
    obtain ⟨i, d, z, hto⟩ := hT _ _ hti
    have hd := dOk_str hto.desc
    subst hd
    split at h
    · rename_i s
      cases VR_str hx
      cases hmx
      split at h
      · cases h
      · rename_i c hh hbh
        split at h
        · cases h
        · rename_i d l hbl
          simp only [Option.some.injEq, Prod.mk.injEq, Bool.and_eq_true] at h
          obtain ⟨⟨hc, hd⟩, rfl⟩ := h
          obtain ⟨hrun, _, _⟩ := bounds2_run (P := P) (w := w) hlo hhi (isSlice := false) (Nat.le_refl s.size) hbh hbl hc hd
          exact ⟨.string (s.extract l hh), by simp [Instr.sliceAt, Instr.slice, run_und hto.und, hrun], .k _ rfl⟩
    · cases h
  · rename_i e cells bytes hti
    obtain ⟨i, d, z, hto⟩ := hT _ _ hti
    have hd := dOk_sl hto.desc
    subst hd
    split at h
    · cases h
    rename_i te hte
    obtain ⟨ie, de, ze, htoe⟩ := hT _ _ hte
    have hsize : ie.size = (cts T e).length := by rw [htoe.size]; simp [cts, hte]
    have key : ∀ (A : Option Addr) (len cap l h m : Nat), (Instr.sliceBounds true len cap vlo vhi vmx).run P w = .ok (l, h, m) w →
        (Instr.sliceAt t (.slice A len cap) vlo vhi vmx).run P w = .ok (.slice (if m = l then A else A.map (·.add (l * (cts T e).length))) (h - l) (m - l)) w := fun A len cap l h m hr => by
      simp [Instr.sliceAt, Instr.slice, run_und hto.und, hr, run_szOf htoe.info, hsize]
    cases hx with
    | slnil u kd hk =>
      simp only at h
      cases hcnd : (kd.fits u e) with
      | false => rw [hcnd] at h; cases h
      | true =>
        rw [hcnd] at h
        simp only [cond_true] at h
        split at h
        · cases hmx
          split at h
          · cases h
          · rename_i c hh hbh
            split at h
            · cases h
            · rename_i d l hbl
              simp only [Option.some.injEq, Prod.mk.injEq, Bool.and_eq_true] at h
              obtain ⟨⟨hc, hd⟩, rfl⟩ := h
              obtain ⟨hrun, h1, h2⟩ := bounds2_run (P := P) (w := w) hlo hhi (isSlice := true) (Nat.le_refl 0) hbh hbl hc hd
              refine ⟨_, key none 0 0 l hh 0 hrun, ?_⟩
              have e1 : l = 0 := by simp at h2; omega
              have e2 : hh = 0 := by simp at h2; omega
              subst e1; subst e2
              simp only [if_true, List.drop_nil, List.take_nil]
              exact .slnil _ _ (by rcases hk with rfl | rfl | rfl <;> cases hi <;> simp [SK.part, SK.part3])
        · rename_i mm
          cases hmx with
          | some _ vm hvm' =>
            split at h
            · cases h
            · rename_i b m hbm
              split at h
              · cases h
              · rename_i c hh hbh
                split at h
                · cases h
                · rename_i d l hbl
                  simp only [Option.some.injEq, Prod.mk.injEq, Bool.and_eq_true, decide_eq_true_eq] at h
                  obtain ⟨⟨hb, hc, hd, hhm⟩, rfl⟩ := h
                  obtain ⟨hrun, h1, h2⟩ := bounds3_run (P := P) (w := w) (len' := 0) hlo hhi hvm' (Nat.le_refl 0) hbm hbh hbl hb hc hd hhm (.inl (hm (by simp))) (hvm (by simp))
                  refine ⟨_, key none 0 0 l hh m hrun, ?_⟩
                  have h2 : m ≤ 0 := h2
                  have e1 : l = 0 := by omega
                  have e2 : hh = 0 := by omega
                  have e3 : m = 0 := by omega
                  subst e1; subst e2; subst e3
                  simp only [if_true, List.drop_nil, List.take_nil]
                  exact .slnil _ _ (by rcases hk with rfl | rfl | rfl <;> cases hi <;> simp [SK.part, SK.part3])
    | sl u kd rows A cap cv hn hf hc hsp hz hok hcell hrep =>
      have hv0 : VR T E Z w (.sl u kd rows) (.slice (some A) rows.length cap) := .sl u kd rows A cap cv hn hf hc hsp hz hok hcell hrep
      simp only at h
      cases hcnd : (kd.fits u e) with
      | false => rw [hcnd] at h; cases h
      | true =>
        rw [hcnd] at h
        have hue : u = e := by cases kd <;> first | exact absurd rfl hn | exact Nat.eq_of_beq_eq_true hcnd
        subst hue
        simp only [cond_true] at h
        split at h
        · cases hmx
          split at h
          · cases h
          · rename_i c hh hbh
            split at h
            · cases h
            · rename_i d l hbl
              simp only [Option.some.injEq, Prod.mk.injEq, Bool.and_eq_true] at h
              obtain ⟨⟨hc1, hd⟩, rfl⟩ := h
              obtain ⟨hrun, h1, h2⟩ := bounds2_run (P := P) (w := w) hlo hhi (isSlice := true) hc hbh hbl hc1 hd
              refine ⟨_, key (some A) rows.length cap l hh cap hrun, ?_⟩
              have e0 : (if cap = l then some A else (some A).map (·.add (l * (cts T u).length))) = some (if cap = l then A else A.add (l * (cts T u).length)) := by split <;> rfl
              rw [e0]
              refine VR_part hv0 h1 h2 (by omega) (Nat.le_refl _) ?_ ?_ rfl
              · cases kd <;> cases hi <;> simp_all [SK.part]
              · cases kd <;> cases hi <;> simp_all [bound?, SK.part]
        · rename_i mm
          cases hmx with
          | some _ vm hvm' =>
            split at h
            · cases h
            · rename_i b m hbm
              split at h
              · cases h
              · rename_i c hh hbh
                split at h
                · cases h
                · rename_i d l hbl
                  simp only [Option.some.injEq, Prod.mk.injEq, Bool.and_eq_true, decide_eq_true_eq] at h
                  obtain ⟨⟨hb, hc1, hd, hhm⟩, rfl⟩ := h
                  obtain ⟨hrun, h1, h2⟩ := bounds3_run (P := P) (w := w) (len' := rows.length) hlo hhi hvm' hc hbm hbh hbl hb hc1 hd hhm (.inl (hm (by simp))) (hvm (by simp))
                  refine ⟨_, key (some A) rows.length cap l hh m hrun, ?_⟩
                  have e0 : (if m = l then some A else (some A).map (·.add (l * (cts T u).length))) = some (if m = l then A else A.add (l * (cts T u).length)) := by split <;> rfl
                  rw [e0]
                  refine VR_part hv0 h1 (by omega) (by omega) (by omega) ?_ (fun _ => hhm.symm) rfl
                  cases kd <;> simp_all [SK.part3]
    | sr id A0 n0 c0 he =>
      simp only at h
      split at h
      · rename_i u kd rows hst
        cases hmx
        have hor := hs.obj id _ (getD_some hst (by simp))
        cases hue : Nat.beq u e with
        | false => rw [hue] at h; cases h
        | true =>
          rw [hue] at h
          obtain rfl := Nat.eq_of_beq_eq_true hue
          obtain ⟨hn0, hlc, hsp, hsz⟩ : n0 = rows.length ∧ rows.length ≤ c0 ∧ (c0 ≠ 0 → ∀ B, A0 = some B → B.spot = none) ∧ E.sz id = (cts T u).length := by
            cases hor with
            | arr0 _ _ A he' hn hk hsz => rw [he] at he'; cases he'; exact ⟨rfl, Nat.le_refl _, fun h => absurd rfl h, hsz⟩
            | arr _ _ _ B o c vs ty hn he' hc hc0 hf hsz hb ho hok hr => rw [he] at he'; cases he'; exact ⟨rfl, hc, fun _ B hB => by cases hB; rfl, hsz⟩
          subst hn0
          simp only [cond_true] at h
          split at h
          · cases hlo; cases hhi
            cases h
            refine ⟨_, key A0 rows.length c0 0 rows.length c0 (by simp [Instr.sliceBounds]), ?_⟩
            have : (if c0 = 0 then A0 else A0.map (·.add (0 * (cts T u).length))) = A0 := by
              split
              · rfl
              · cases A0 with
                | none => rfl
                | some B => simp [Addr.add]
            rw [this]
            exact .sr _ _ _ _ he
          · split at h
            · cases h
            · rename_i cc hh hbh
              split at h
              · cases h
              · rename_i d l hbl
                simp only [Option.some.injEq, Prod.mk.injEq, Bool.and_eq_true] at h
                obtain ⟨⟨hc1, hd⟩, rfl⟩ := h
                obtain ⟨hrun, h1, h2⟩ := bounds2_run (P := P) (w := w) hlo hhi (isSlice := true) hlc hbh hbl hc1 hd
                refine ⟨_, key A0 rows.length c0 l hh c0 hrun, .ss id l (hh - l) A0 _ rows.length c0 he (by omega) (fun hlt => ?_)⟩
                rw [if_neg (by omega), hsz]
                cases A0 with
                | none => rfl
                | some B => simp [add_none (hsp (by omega) B rfl)]
      · rename_i mm u kd rows hst
        cases hmx with
        | some _ vm hvm' =>
          have hor := hs.obj id _ (getD_some hst (by simp))
          cases hue : Nat.beq u e with
          | false => rw [hue] at h; cases h
          | true =>
            rw [hue] at h
            obtain rfl := Nat.eq_of_beq_eq_true hue
            obtain ⟨hn0, hlc⟩ : n0 = rows.length ∧ rows.length ≤ c0 := by
              cases hor with
              | arr0 _ _ A he' hn hk hsz => rw [he] at he'; cases he'; exact ⟨rfl, Nat.le_refl _⟩
              | arr _ _ _ B o c vs ty hn he' hc hc0 hf hsz hb ho hok hr => rw [he] at he'; cases he'; exact ⟨rfl, hc⟩
            subst hn0
            simp only [cond_true] at h
            split at h
            · cases h
            · rename_i b m hbm
              split at h
              · cases h
              · rename_i c hh hbh
                split at h
                · cases h
                · rename_i d l hbl
                  simp only [Option.some.injEq, Prod.mk.injEq, Bool.and_eq_true] at h
                  obtain ⟨⟨hb, hc1, hd⟩, rfl⟩ := h
                  obtain ⟨hrun, h1, h2⟩ := bounds3x_run (P := P) (w := w) (len' := rows.length) hlo hhi hvm' hlc hbm hbh hbl hb hc1 hd (hvm (by simp))
                  exact ⟨_, key A0 rows.length c0 l hh m hrun, .undef _⟩
      · cases h
    | ss id a n' A A' len c he hb hA =>
      simp only at h
      split at h
      · rename_i u kd rows hst
        cases hmx
        have hor := hs.obj id _ (getD_some hst (by simp))
        cases hue : Nat.beq u e with
        | false => rw [hue] at h; cases h
        | true =>
          rw [hue] at h
          obtain rfl := Nat.eq_of_beq_eq_true hue
          obtain ⟨hlr, hlc, hsz⟩ : len = rows.length ∧ len ≤ c ∧ E.sz id = (cts T u).length := by
            cases hor with
            | arr0 _ _ A'' he' hn hk hsz => rw [he] at he'; cases he'; exact ⟨rfl, Nat.le_refl _, hsz⟩
            | arr _ _ _ B o c vs ty hn he' hc hc0 hf hsz hb ho hok hr => rw [he] at he'; cases he'; exact ⟨rfl, hc, hsz⟩
          simp only [cond_true] at h
          split at h
          · cases h
          · rename_i cc hh hbh
            split at h
            · cases h
            · rename_i d l hbl
              simp only [Option.some.injEq, Prod.mk.injEq, Bool.and_eq_true] at h
              obtain ⟨⟨hc1, hd⟩, rfl⟩ := h
              obtain ⟨hrun, h1, h2⟩ := bounds2m_run (P := P) (w := w) hlo hhi (isSlice := true) (cap := c - a) (by omega) (by omega) hbh hbl hc1 hd
              refine ⟨_, key A' n' (c - a) l hh (c - a) hrun, ?_⟩
              rw [show c - a - l = c - (a + l) by omega]
              refine .ss id (a + l) (hh - l) A _ len c he (by omega) (fun hlt => ?_)
              rw [if_neg (by omega), hA (by omega)]
              cases A with
              | none => rfl
              | some B =>
                have : (⟨B.block, B.off + a * E.sz id, none⟩ : Addr).spot = none := rfl
                simp [add_none, hsz, Nat.add_mul, Nat.add_assoc]
      · cases h
    | _ => simp at h
  · rename_i n e cells bytes hti
    split at h
    · rename_i row0 row off
      cases hlo; cases hhi; cases hmx
      split at h
      · rename_i te hte
        obtain ⟨i, d, z, hto⟩ := hT _ _ hti
        have hd := dOk_arr hto.desc
        subst hd
        obtain ⟨ie, de, ze, htoe⟩ := hT _ _ hte
        cases hok : (chunks te.cells.length n (row.drop off)).all (rowOk te.cells) with
        | false => rw [hok] at h; cases h
        | true =>
          rw [hok] at h
          cases h
          cases hx with
          | ep _ _ _ A cv hz hokr hcell hrep =>
            have hcts : cts T e = te.cells := by simp [cts, hte]
            have hlen := chunks_len te.cells.length n (row.drop off)
            refine ⟨.slice (some ⟨A.block, A.off + off, none⟩) n n, ?_, ?_⟩
            · simp [Instr.sliceAt, run_und hto.und, Instr.sureAddr, Instr.sliceBounds, run_szOf htoe.info]
              intro _; simp [Addr.add]
            · have hc : ∀ (i : Nat) (r : List AV) (j : Nat) (av : AV), (chunks te.cells.length n (row.drop off))[i]? = some r → r[j]? = some av → row[off + (i * te.cells.length + j)]? = some av := fun i r j av h1 h2 => by
                have := chunks_get h1 h2
                rwa [List.getElem?_drop] at this
              have := VR.sl (T := T) (E := E) (Z := Z) (w := w) e .any (chunks te.cells.length n (row.drop off)) ⟨A.block, A.off + off, none⟩ n (fun i j => cv (off + (i * te.cells.length + j))) (by simp) (by simp) (by omega) (fun _ => rfl) (fun _ => hz)
                (fun r hr => by rw [hcts]; exact List.all_eq_true.1 hok r hr)
                (fun i r j av h1 h2 => by rw [hcts]; have := hcell _ av (hc i r j av h1 h2); simpa [Nat.add_assoc] using this)
                (fun i r j av h1 h2 => hrep _ av (hc i r j av h1 h2))
              rw [hlen] at this
              exact this
      · cases h
    · cases h
  · cases h
theorem aindex_ok (hT : TabOk P T) {t : Nat} {x i av : AV} {vx vi : Value} (hx : VR T E Z w x vx) (hi : VR T E Z w i vi) (h : aindex T t x i = some (true, av)) :
    ∃ v, (Instr.index t vx vi).run P w = .ok v w ∧ VR T E Z w av v := by
  unfold aindex at h
  split at h
  · rename_i cells bytes s k n hti
    obtain ⟨ii, d, z, hto⟩ := hT _ _ hti
    have hd := dOk_str hto.desc
    subst hd
    cases VR_str hx; cases VR_int hi
    simp only [Option.some.injEq, Prod.mk.injEq, Bool.and_eq_true, decide_eq_true_eq] at h
    obtain ⟨⟨h0, h1⟩, rfl⟩ := h
    have hlt : n.toNat < s.size := by omega
    refine ⟨.int .u8 (byteAt s n), ?_, .k _ rfl⟩
    have hg : s[n.toNat]? = some s[n.toNat] := getElem?_pos s n.toNat hlt
    simp only [Instr.index, Sem.run_bind, asIntOf_int, Result.andThen_ok, run_und hto.und, h0, if_true, hg, Sem.run_pure]
    congr 2
    simp only [byteAt]
    have h2 : s.data.toList.getD n.toNat 0 = s[n.toNat] := by
      have hlt' : n.toNat < s.data.toList.length := by simpa using hlt
      simp [List.getD, List.getElem?_eq_getElem hlt']
      rfl
    rw [h2]
  · rename_i len e cells bytes cs k n hti
    obtain ⟨ii, d, z, hto⟩ := hT _ _ hti
    have hd := dOk_arr hto.desc
    subst hd
    split at h
    · rename_i te hte
      obtain ⟨ie, de, ze, htoe⟩ := hT _ _ hte
      cases VR_int hi
      cases hx with
      | agg _ vs hl hr =>
        have hp := part_ok (P := P) (w := w) hT hte hl hr (off := n.toNat * te.cells.length)
        have key : 0 ≤ n → n < (len : Int) → (Instr.index t (.agg vs.toArray) (.int k n)).run P w = (part e vs.toArray (n.toNat * te.cells.length)).run P w := fun h0 h1 => by
          simp [Instr.index, asIntOf, run_und hto.und, h0, h1, run_szOf htoe.info, htoe.size]
        cases ha : te.isAgg with
        | true =>
          simp only [ha, cond_true, Option.some.injEq, Prod.mk.injEq, Bool.and_eq_true, decide_eq_true_eq] at h
          obtain ⟨⟨h0, h1⟩, rfl⟩ := h
          rw [key h0 h1]; exact hp.1 ha
        | false =>
          simp only [ha, cond_false] at h
          cases hcc : (Nat.beq te.cells.length 1 && Nat.beq cs.length len) with
          | false => rw [hcc] at h; cases h
          | true =>
            rw [hcc] at h
            simp only [Bool.and_eq_true] at hcc
            have e1 := Nat.eq_of_beq_eq_true hcc.1
            have e2 := Nat.eq_of_beq_eq_true hcc.2
            simp only [cond_true, Option.some.injEq, Prod.mk.injEq, Bool.and_eq_true, decide_eq_true_eq] at h
            obtain ⟨⟨h0, h1⟩, rfl⟩ := h
            rw [key h0 h1]
            have hlt : n.toNat * te.cells.length < cs.length := by rw [e1, e2]; omega
            have hg : cs[n.toNat * te.cells.length]? = some cs[n.toNat * te.cells.length] := List.getElem?_eq_getElem hlt
            obtain ⟨v, hv, hvr⟩ := hp.2 ha _ hg
            exact ⟨v, hv, by simpa [List.getD, hg] using hvr⟩
    · cases h
  · cases h
end
end Go.Fw
