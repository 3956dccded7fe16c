/- The framework, part G: numbers, bools, strings; '=='. -/
import Derived.Test.YtgcdiccbehiijaaFwF
set_option linter.all false
set_option linter.unusedSimpArgs false
set_option linter.unusedVariables false
namespace Go.Fw
section
variable {P : Program} {T : Tab} {E : Env} {Z : Nat → Prop} {w : World} {σ : St}
theorem pureS_run {s : Sem Value} {v : Value} (h : pureS s = some v) : s.run P w = .ok v w := by
  cases s <;> simp [pureS] at h
  subst h; rfl
def nilV : Value → Option Bool
  | .slice a _ _ => some a.isNone
  | .pointer a => some a.isNone
  | .nilFunc => some true
  | .func _ _ _ => some false
  | .nilIface => some true
  | .iface _ _ => some false
  | .map r => some r.isNone
  | _ => none
def kindV : TD → Value → Bool
  | .sl _, .slice _ _ _ => true
  | .ptr _, .pointer _ => true
  | .func, .nilFunc => true
  | .func, .func _ _ _ => true
  | .iface, .nilIface => true
  | .iface, .iface _ _ => true
  | .map _ _, .map _ => true
  | _, _ => false
theorem isNil_ok (hs : SR T E Z w σ.st) {d : TD} {x : AV} {vx : Value} {b : Bool} (hx : VR T E Z w x vx) (h : isNil d σ x = some (true, b)) : kindV d vx = true ∧ nilV vx = some b := by
  unfold isNil at h
  split at h
  · rename_i kd rows
    cases hx with
    | slnil t kd hk => rcases hk with rfl | rfl | rfl <;> simp [slNil] at h; exact ⟨rfl, by simp [nilV, ← h]⟩
    | sl t kd rows A c cv hn hf hc hsp hz hok hcell hrep =>
      refine ⟨rfl, ?_⟩
      unfold slNil at h
      split at h
      · exact absurd rfl hn
      · simp at h; simp [nilV, h.2]
      · simp at h; simp [nilV, h.2]
      · simp at h; simp [nilV, h]
  · rename_i e id
    cases hx with
    | sr _ A0 n0 c0 he =>
      split at h
      · rename_i u kd rows hst
        have hor := hs.obj id _ (getD_some hst (by simp))
        cases hor with
        | arr0 _ _ A he' hn hk hsz =>
          rw [he] at he'; cases he'
          refine ⟨rfl, ?_⟩
          unfold slNil at h
          split at h
          · exact absurd rfl hn
          · simp at h
          · simp at h
          · rename_i h1 h2 h3
            simp at h
            cases A0 with
            | none => exact absurd (hk rfl) h2
            | some B => simp [nilV, h]
        | arr _ _ _ B o c vs ty hn he' hc hc0 hf hsz hb ho hok hr =>
          rw [he] at he'; cases he'
          refine ⟨rfl, ?_⟩
          unfold slNil at h
          split at h
          · exact absurd rfl hn
          · simp at h; simp [nilV, h.2]
          · simp at h; simp [nilV, h.2]
          · simp at h; simp [nilV, h]
      · cases h
  all_goals first
    | (cases h; cases hx <;> simp_all [kindV, nilV, scalar]; done)
    | (cases h; done)
theorem isNilConst_ok {d : TD} {x : AV} {vx : Value} (hx : VR T E Z w x vx) (h : isNilConst d x = true) :
    (∃ e, d = .sl e ∧ vx = .slice none 0 0) ∨ (∃ e, d = .ptr e ∧ vx = .pointer none) ∨ (d = .func ∧ vx = .nilFunc) ∨ (d = .iface ∧ vx = .nilIface) ∨ (∃ k e, d = .map k e ∧ vx = .map none) := by
  unfold isNilConst at h
  split at h
  · cases hx with
    | slnil t kd hk => exact .inl ⟨_, rfl, rfl⟩
    | sl t kd rows A c cv hn hf hc hsp hz hok hcell hrep => exact absurd rfl hn
  · cases hx; exact .inr (.inl ⟨_, rfl, rfl⟩)
  · cases hx; exact .inr (.inr (.inl ⟨rfl, rfl⟩))
  · cases hx; exact .inr (.inr (.inr (.inl ⟨rfl, rfl⟩)))
  · cases hx; exact .inr (.inr (.inr (.inr ⟨_, _, rfl, rfl⟩)))
  · cases h
set_option maxHeartbeats 1000000 in
theorem equalIn_nil {t : Nat} {ti : TI} {i d z} (ht : TOk P t ti i d z) {x y : Value} {b : Bool} (n : Nat) (hk : kindV ti.d x = true) (hn : nilV x = some b)
    (hy : (∃ e, ti.d = .sl e ∧ y = .slice none 0 0) ∨ (∃ e, ti.d = .ptr e ∧ y = .pointer none) ∨ (ti.d = .func ∧ y = .nilFunc) ∨ (ti.d = .iface ∧ y = .nilIface) ∨ (∃ k e, ti.d = .map k e ∧ y = .map none)) :
    (Op.equalIn (n + 1) t x y).run P w = .ok b w ∧ (Op.equalIn (n + 1) t y x).run P w = .ok b w := by
  have hd := ht.desc
  have hu := ht.und
  have key : ∀ x y : Value, (Op.equalIn (n + 1) t x y).run P w = (Op.equalIn (n + 1) t x y).run P w := fun _ _ => rfl
  rcases hy with ⟨e, hd', rfl⟩ | ⟨e, hd', rfl⟩ | ⟨hd', rfl⟩ | ⟨hd', rfl⟩ | ⟨k, e, hd', rfl⟩ <;> rw [hd'] at hd hk
  · cases dOk_sl hd
    cases x <;> simp [kindV] at hk
    simp [nilV] at hn; subst hn
    rename_i q _ _
    cases q <;> exact ⟨by simp only [Op.equalIn, Sem.run_bind, run_und hu, Result.andThen_ok]; rfl, by simp only [Op.equalIn, Sem.run_bind, run_und hu, Result.andThen_ok]; rfl⟩
  · cases d <;> simp [dOk] at hd
    cases x <;> simp [kindV] at hk
    simp [nilV] at hn; subst hn
    rename_i q
    cases q <;> exact ⟨by simp only [Op.equalIn, Sem.run_bind, run_und hu, Result.andThen_ok]; rfl, by simp only [Op.equalIn, Sem.run_bind, run_und hu, Result.andThen_ok]; rfl⟩
  · cases d <;> simp [dOk] at hd
    cases x <;> simp [kindV] at hk <;> simp [nilV] at hn <;> subst hn <;>
      exact ⟨by simp only [Op.equalIn, Sem.run_bind, run_und hu, Result.andThen_ok]; rfl, by simp only [Op.equalIn, Sem.run_bind, run_und hu, Result.andThen_ok]; rfl⟩
  · cases d <;> simp [dOk] at hd
    cases x <;> simp [kindV] at hk <;> simp [nilV] at hn <;> subst hn <;>
      exact ⟨by simp only [Op.equalIn, Sem.run_bind, run_und hu, Result.andThen_ok]; rfl, by simp only [Op.equalIn, Sem.run_bind, run_und hu, Result.andThen_ok]; rfl⟩
  · cases d <;> simp [dOk] at hd
    cases x <;> simp [kindV] at hk
    simp [nilV] at hn; subst hn
    rename_i q
    cases q <;> exact ⟨by simp only [Op.equalIn, Sem.run_bind, run_und hu, Result.andThen_ok]; rfl, by simp only [Op.equalIn, Sem.run_bind, run_und hu, Result.andThen_ok]; rfl⟩
theorem equal_nil {t : Nat} {ti : TI} {i d z} (ht : TOk P t ti i d z) {x y : Value} {b : Bool} (hk : kindV ti.d x = true) (hn : nilV x = some b)
    (hy : (∃ e, ti.d = .sl e ∧ y = .slice none 0 0) ∨ (∃ e, ti.d = .ptr e ∧ y = .pointer none) ∨ (ti.d = .func ∧ y = .nilFunc) ∨ (ti.d = .iface ∧ y = .nilIface) ∨ (∃ k e, ti.d = .map k e ∧ y = .map none)) :
    (Op.equal t x y).run P w = .ok b w ∧ (Op.equal t y x).run P w = .ok b w := equalIn_nil ht 9999 hk hn hy
def subAV (tf : TI) (off : Nat) (l : List AV) : AV := bif tf.isAgg then AV.agg ((l.drop off).take tf.cells.length) else l.getD off .undef
theorem subAV_ok (hT : TabOk P T) {t : Nat} {tf : TI} (htf : T t = some tf) {cs : List AV} {vs : List Value} (hl : cs.length = vs.length)
    (hr : ∀ (j : Nat) (av : AV) (v : Value), cs[j]? = some av → vs[j]? = some v → VR T E Z w av v) {off : Nat} (ho : off + tf.cells.length ≤ cs.length) (hne : tf.cells.isEmpty = false) :
    ∃ v, (part t vs.toArray off).run P w = .ok v w ∧ VR T E Z w (subAV tf off cs) v := by
  have hp := part_ok (P := P) (w := w) hT htf hl hr (off := off)
  unfold subAV
  cases ha : tf.isAgg with
  | true => exact hp.1 ha
  | false =>
    have hlt : off < cs.length := by
      have : tf.cells.length ≠ 0 := by intro h0; rw [List.length_eq_zero_iff] at h0; rw [h0] at hne; simp at hne
      omega
    have hg : cs[off]? = some cs[off] := List.getElem?_eq_getElem hlt
    obtain ⟨v, hv, hvr⟩ := hp.2 ha _ hg
    exact ⟨v, hv, by simpa [List.getD, hg] using hvr⟩
theorem eqT_ok (hT : TabOk P T) : ∀ (n d t : Nat) (x y : AV) (vx vy : Value) (b : Bool), n ≤ d → VR T E Z w x vx → VR T E Z w y vy → eqT T n t x y = some b → (Op.equalIn d t vx vy).run P w = .ok b w
  | 0, d, t, x, y, vx, vy, b, _, _, _, h => by simp [eqT] at h
  | n + 1, d + 1, t, x, y, vx, vy, b, hn, hx, hy, h => by
    have ih := eqT_ok hT n d
    unfold eqT at h
    split at h
    · cases h
    rename_i ti hti
    obtain ⟨i, td, z, hto⟩ := hT _ _ hti
    have hdd := hto.desc
    split at h
    · rename_i k hk
      rw [hk] at hdd
      cases dOk_int hdd
      split at h
      · rename_i a p c q
        cases VR_int hx; cases VR_int hy
        cases hc : (decide (a = k) && decide (c = k)) with
        | false => rw [hc] at h; cases h
        | true =>
          rw [hc] at h; cases h
          simp only [Bool.and_eq_true, decide_eq_true_eq] at hc
          obtain ⟨rfl, rfl⟩ := hc
          exact run_equalIn_int w d t _ _ p q hto.und
      · cases h
    · rename_i hk
      rw [hk] at hdd
      have : td = .bool := by cases td <;> simp_all [dOk]
      subst this
      split at h
      · cases VR_bool hx; cases VR_bool hy; cases h
        exact run_equalIn_bool' w d t _ _ hto.und
      · cases h
    · rename_i hk
      rw [hk] at hdd
      cases dOk_str hdd
      split at h
      · cases VR_str hx; cases VR_str hy; cases h
        rw [run_equalIn_string w d t _ _ hto.und, beq_toListBytes]
      · cases h
    · rename_i fs hk
      rw [hk] at hdd
      obtain ⟨fields, rfl, hfs⟩ := dOk_struct hdd
      split at h
      · rename_i xs ys
        cases heq : ti.eqable with
        | false => rw [heq] at h; cases h
        | true =>
          rw [heq] at h
          simp only [Bool.not_true, cond_false] at h
          obtain ⟨hst, _, hnames⟩ := hto.eqs heq
          have hfo : P.fieldsOf t = fields := by simp [Program.fieldsOf, hto.und]
          rw [hfo] at hnames
          cases hx with
          | agg _ vs hl hr =>
            cases hy with
            | agg _ us hl' hr' =>
              rw [run_equalIn_struct w d t _ _ (by rw [hfo]; exact hto.und) hst, hfo]
              clear hfo hto hdd hst hk heq
              have hnames' : ∀ f ∈ fields.toList, (f.name == "_") = false := hnames
              revert hfs hnames'
              clear hnames
              generalize fields.toList = fl
              intro hfs hnames'
              induction fl generalizing fs b with
              | nil => subst hfs; simp at h; subst h; simp [Op.eqFields]
              | cons f fl ihf =>
                subst hfs
                simp only [List.map_cons, List.foldr_cons] at h
                split at h
                · rename_i tf r htf hacc
                  cases hcc : (Nat.ble (f.offset + tf.cells.length) xs.length && (Nat.ble (f.offset + tf.cells.length) ys.length && !tf.cells.isEmpty)) with
                  | false => rw [hcc] at h; cases h
                  | true =>
                    rw [hcc] at h
                    simp only [cond_true] at h
                    simp only [Bool.and_eq_true, Bool.not_eq_true'] at hcc
                    obtain ⟨h1, h2, h3⟩ := hcc
                    obtain ⟨va, hva, hra⟩ := subAV_ok (P := P) (w := w) hT htf hl hr (Nat.le_of_ble_eq_true h1) h3
                    obtain ⟨vb, hvb, hrb⟩ := subAV_ok (P := P) (w := w) hT htf hl' hr' (Nat.le_of_ble_eq_true h2) h3
                    split at h
                    · rename_i bb hbb
                      cases h
                      have he := ih _ _ _ _ _ _ (by omega) hra hrb hbb
                      have hrest := ihf r _ hacc rfl (fun g hg => hnames' g (List.mem_cons_of_mem _ hg))
                      have hn' : f.name ≠ "_" := by simpa using hnames' f List.mem_cons_self
                      rw [Op.eqFields]
                      simp only [if_pos hn', Sem.run_bind, hva, hvb, he, Result.andThen_ok]
                      cases bb
                      · simp
                      · simpa using hrest
                    · cases h
                · cases h
      · cases h
    · cases h
end
end Go.Fw
