/- The framework, part H: operators, conversions, parts put together. -/
import Derived.Test.YtgcdiccbehiijaaFwG
set_option linter.all false
set_option linter.unusedSimpArgs false
set_option linter.unusedVariables false
namespace Go.Fw
section
variable {P : Program} {T : Tab} {E : Env} {Z : Nat → Prop} {w : World} {σ : St}
theorem eqGuard_run (op : BinOp) (t : TypeId) (x y : Operand) (a b : Value) (h1 : a = .nilIface → b = .nilIface → (∃ v, x = .const v) ∨ (∃ v, y = .const v))
    (h2 : (∃ p q, a = .agg p ∧ b = .agg q) → P.eqGuardType P.depth t = false) : (eqGuard op t x y a b).run P w = .ok () w := by
  cases a <;> cases b
  case nilIface.nilIface =>
    unfold eqGuard
    rcases h1 rfl rfl with ⟨v, rfl⟩ | ⟨v, rfl⟩ <;> cases op <;> simp
  case agg.agg p q => exact run_eqGuard_agg w op t x y p q (h2 ⟨p, q, rfl, rfl⟩)
  all_goals (unfold eqGuard; cases op <;> simp)
theorem aeq_kind (hT : TabOk P T) (hs : SR T E Z w σ.st) {t : Nat} {x y : AV} {vx vy : Value} {b : Bool} (hx : VR T E Z w x vx) (hy : VR T E Z w y vy)
    (h : aeq T σ t x y = some (true, b)) :
    (Op.equal t vx vy).run P w = .ok b w ∧ (∀ op, (op = BinOp.eql ∨ op = BinOp.neq) → binOp op t vx vy = (do let r ← Op.equal t vx vy; pure (.bool (if op = .eql then r else !r)))) ∧
      ((∃ p q, vx = .agg p ∧ vy = .agg q) → P.eqGuardType P.depth t = false) := by
  unfold aeq at h
  split at h
  · cases h
  rename_i ti hti
  obtain ⟨i, d, z, hto⟩ := hT _ _ hti
  split at h
  · rename_i hd
    cases hq : eqT T 1 t x y with
    | none => rw [hq] at h; cases h
    | some r =>
      rw [hq] at h
      simp [Ab.ok] at h; subst h
      have he := eqT_ok (P := P) (w := w) hT 1 10000 t x y vx vy r (by omega) hx hy hq
      refine ⟨he, ?_, ?_⟩
      · unfold eqT at hq
        rw [hti] at hq
        simp only [hd] at hq
        split at hq
        · cases VR_bool hx; cases VR_bool hy
          rintro op (rfl | rfl) <;> simp [binOp]
        · cases hq
      · rintro ⟨p, q, rfl, rfl⟩
        unfold eqT at hq
        rw [hti] at hq
        simp only [hd] at hq
        split at hq
        · cases VR_bool hx
        · cases hq
  · rename_i fs hd
    cases heq : ti.eqable with
    | false => rw [heq] at h; cases h
    | true =>
      rw [heq] at h
      simp only [cond_true] at h
      cases hq : eqT T 8 t x y with
      | none => rw [hq] at h; cases h
      | some r =>
        rw [hq] at h
        simp [Ab.ok] at h; subst h
        refine ⟨eqT_ok (P := P) (w := w) hT 8 10000 t x y vx vy r (by omega) hx hy hq, ?_, fun _ => (hto.eqs heq).2.1⟩
        unfold eqT at hq
        rw [hti] at hq
        simp only [hd] at hq
        split at hq
        · cases hx; cases hy
          rintro op (rfl | rfl) <;> simp [binOp]
        · cases hq
  · rename_i hnb hns
    have main : ∀ {p q : AV} {vp vq : Value}, VR T E Z w p vp → VR T E Z w q vq → isNilConst ti.d q = true → isNil ti.d σ p = some (true, b) →
        (Op.equal t vp vq).run P w = .ok b w ∧ (Op.equal t vq vp).run P w = .ok b w ∧ (∀ op, (op = BinOp.eql ∨ op = BinOp.neq) → binOp op t vp vq = (do let r ← Op.equal t vp vq; pure (.bool (if op = .eql then r else !r)))) ∧
        (∀ op, (op = BinOp.eql ∨ op = BinOp.neq) → binOp op t vq vp = (do let r ← Op.equal t vq vp; pure (.bool (if op = .eql then r else !r)))) ∧ ¬ (∃ l, vp = .agg l) := fun {p q vp vq} hp hq hc hn => by
      obtain ⟨hk, hnv⟩ := isNil_ok hs hp hn
      have hcq := isNilConst_ok hq hc
      have := equal_nil (w := w) hto hk hnv hcq
      refine ⟨this.1, this.2, ?_, ?_, ?_⟩
      · rcases hcq with ⟨e, hd', rfl⟩ | ⟨e, hd', rfl⟩ | ⟨hd', rfl⟩ | ⟨hd', rfl⟩ | ⟨k, e, hd', rfl⟩ <;> rw [hd'] at hk <;> cases vp <;> simp [kindV] at hk <;>
          (rintro op (rfl | rfl) <;> simp [binOp])
      · rcases hcq with ⟨e, hd', rfl⟩ | ⟨e, hd', rfl⟩ | ⟨hd', rfl⟩ | ⟨hd', rfl⟩ | ⟨k, e, hd', rfl⟩ <;> rw [hd'] at hk <;> cases vp <;> simp [kindV] at hk <;>
          (rintro op (rfl | rfl) <;> simp [binOp])
      · rintro ⟨l, rfl⟩
        rcases hcq with ⟨e, hd', rfl⟩ | ⟨e, hd', rfl⟩ | ⟨hd', rfl⟩ | ⟨hd', rfl⟩ | ⟨k, e, hd', rfl⟩ <;> rw [hd'] at hk <;> simp [kindV] at hk
    cases hc : isNilConst ti.d y with
    | true =>
      rw [hc] at h
      obtain ⟨h1, h2, h3, h4, h5⟩ := main hx hy hc h
      exact ⟨h1, h3, fun ⟨p, q, hp, _⟩ => absurd ⟨p, hp⟩ h5⟩
    | false =>
      rw [hc] at h
      simp only [cond_false] at h
      cases hc' : isNilConst ti.d x with
      | true =>
        rw [hc'] at h
        obtain ⟨h1, h2, h3, h4, h5⟩ := main hy hx hc' h
        exact ⟨h2, h4, fun ⟨p, q, _, hq⟩ => absurd ⟨q, hq⟩ h5⟩
      | false => rw [hc'] at h; cases h
theorem abinOp_ok (hT : TabOk P T) (hs : SR T E Z w σ.st) {op : BinOp} {t : Nat} {ox oy : Operand} {x y av : AV} {vx vy : Value} (hx : VR T E Z w x vx) (hy : VR T E Z w y vy)
    (hg : vx = .nilIface → vy = .nilIface → (∃ v, ox = .const v) ∨ (∃ v, oy = .const v))
    (h : abinOp T σ op t x y = some (true, av)) : ∃ v, (do eqGuard op t ox oy vx vy; binOp op t vx vy : Sem Value).run P w = .ok v w ∧ VR T E Z w av v := by
  unfold abinOp at h
  split at h
  · rename_i k a k' b
    cases VR_int hx; cases VR_int hy
    have hgd := eqGuard_run (P := P) (w := w) op t ox oy (.int k a) (.int k' b) (fun h => by cases h) (fun ⟨p, q, h, _⟩ => by cases h)
    have fin : ∀ v, (binOp op t (.int k a) (.int k' b)).run P w = .ok v w → (do eqGuard op t ox oy (.int k a) (.int k' b); binOp op t (.int k a) (.int k' b) : Sem Value).run P w = .ok v w := fun v hv => by
      simp only [Sem.run_bind, hgd, Result.andThen_ok]; exact hv
    split at h
    · simp only [Option.some.injEq, Prod.mk.injEq, decide_eq_true_eq] at h
      obtain ⟨h0, rfl⟩ := h
      exact ⟨_, fin _ (by simp [binOp, Op.shift, Int.not_lt.2 h0]), .k _ rfl⟩
    · simp only [Option.some.injEq, Prod.mk.injEq, decide_eq_true_eq] at h
      obtain ⟨h0, rfl⟩ := h
      exact ⟨_, fin _ (by simp [binOp, Op.shift, Int.not_lt.2 h0]), .k _ rfl⟩
    · cases hk : decide (k = k') with
      | false => rw [hk] at h; cases h
      | true =>
        rw [hk] at h
        cases of_decide_eq_true hk
        simp only [cond_true, Option.some.injEq, Prod.mk.injEq, Bool.not_eq_true', decide_eq_false_iff_not] at h
        obtain ⟨h0, rfl⟩ := h
        exact ⟨_, fin _ (by simp [binOp, Op.intDiv, h0]), .k _ rfl⟩
    · cases hk : decide (k = k') with
      | false => rw [hk] at h; cases h
      | true =>
        rw [hk] at h
        cases of_decide_eq_true hk
        simp only [cond_true, Option.some.injEq, Prod.mk.injEq, Bool.not_eq_true', decide_eq_false_iff_not] at h
        obtain ⟨h0, rfl⟩ := h
        exact ⟨_, fin _ (by simp [binOp, Op.intDiv, h0]), .k _ rfl⟩
    · cases hk : decide (k = k') with
      | false => rw [hk] at h; cases h
      | true =>
        rw [hk] at h
        cases of_decide_eq_true hk
        simp only [cond_true] at h
        split at h
        · rename_i v hv
          cases hsc : scalar v with
          | false => rw [hsc] at h; cases h
          | true =>
            rw [hsc] at h
            simp only [cond_true, Option.some.injEq, Prod.mk.injEq, true_and] at h
            subst h
            exact ⟨v, fin _ (pureS_run hv), .k _ hsc⟩
        · cases h
  · rename_i a b
    cases VR_str hx; cases VR_str hy
    have hgd := eqGuard_run (P := P) (w := w) op t ox oy (.string a) (.string b) (fun h => by cases h) (fun ⟨p, q, h, _⟩ => by cases h)
    have fin : ∀ v, (binOp op t (.string a) (.string b)).run P w = .ok v w → (do eqGuard op t ox oy (.string a) (.string b); binOp op t (.string a) (.string b) : Sem Value).run P w = .ok v w := fun v hv => by
      simp only [Sem.run_bind, hgd, Result.andThen_ok]; exact hv
    have e := beq_toListBytes a b
    split at h
    · simp only [Option.some.injEq, Prod.mk.injEq, decide_eq_true_eq] at h
      obtain ⟨h0, rfl⟩ := h
      refine ⟨_, fin _ ?_, .k _ rfl⟩
      have h1 : ¬ (((a.size + b.size : Nat) : Int) > IntKind.i64.max) := by
        have hm : IntKind.i64.max = 9223372036854775807 := by decide
        have h2 := Nat.le_of_ble_eq_true h0
        rw [hm]; omega
      simp only [binOp, Op.stringOp, if_neg h1, Sem.run_pure]
    all_goals first
      | (simp only [Option.some.injEq, Prod.mk.injEq, true_and] at h; subst h; refine ⟨_, fin _ ?_, .k _ rfl⟩; simp only [binOp, Op.stringOp, Sem.run_pure, e]; done)
      | (cases h; done)
  · split at h
    · cases hq : aeq T σ t x y with
      | none => rw [hq] at h; cases h
      | some r =>
        obtain ⟨c, b⟩ := r
        rw [hq] at h
        simp only [Ab.map, Option.some.injEq, Prod.mk.injEq] at h
        obtain ⟨rfl, rfl⟩ := h
        obtain ⟨h1, h2, h3⟩ := aeq_kind hT hs hx hy hq
        refine ⟨.bool b, ?_, .k _ rfl⟩
        simp only [Sem.run_bind, eqGuard_run (P := P) (w := w) _ t ox oy vx vy hg h3, Result.andThen_ok, h2 .eql (.inl rfl), h1, Sem.run_pure, if_true]
    · cases hq : aeq T σ t x y with
      | none => rw [hq] at h; cases h
      | some r =>
        obtain ⟨c, b⟩ := r
        rw [hq] at h
        simp only [Ab.map, Option.some.injEq, Prod.mk.injEq] at h
        obtain ⟨rfl, rfl⟩ := h
        obtain ⟨h1, h2, h3⟩ := aeq_kind hT hs hx hy hq
        refine ⟨.bool !b, ?_, .k _ rfl⟩
        simp only [Sem.run_bind, eqGuard_run (P := P) (w := w) _ t ox oy vx vy hg h3, Result.andThen_ok, h2 .neq (.inr rfl), h1, Sem.run_pure]
        rfl
    · cases h
theorem pickAV_ok {c : Bool} {x y : AV} {vx vy : Value} (hx : VR T E Z w x vx) (hy : VR T E Z w y vy) : VR T E Z w (pickAV c x y) (if c then vx else vy) := by
  unfold pickAV
  split
  · cases VR_bool hx; cases VR_bool hy; cases c <;> exact .k _ rfl
  · cases c
    · simpa using hy
    · simpa using hx
theorem not_agg {x : AV} {v : Value} (h : VR T E Z w x v) (hx : x ≠ .undef) (ha : ∀ cs, x ≠ .agg cs) : v.cells = #[v] := by
  cases h with
  | agg cs vs hl hr => exact absurd rfl (ha _)
  | undef v => exact absurd rfl hx
  | k v hs => cases v <;> simp [scalar] at hs <;> rfl
  | _ => rfl
theorem cells_ok {x : AV} {v : Value} (h : VR T E Z w x v) (hx : x ≠ .undef) : VRs T E Z w x.cells v.cells.toList := by
  by_cases ha : ∃ cs, x = .agg cs
  · obtain ⟨cs, rfl⟩ := ha
    cases h with
    | agg cs vs hl hr => exact ⟨by simp [AV.cells, Value.cells, hl], by simpa [AV.cells, Value.cells] using hr⟩
  · have ha' : ∀ cs, x ≠ .agg cs := fun cs e => ha ⟨cs, e⟩
    rw [not_agg h hx ha']
    have hc : x.cells = [x] := by cases x <;> first | rfl | exact absurd rfl (ha' _)
    rw [hc]
    refine ⟨rfl, fun j av u hj hu => ?_⟩
    cases j with
    | zero => simp at hj hu; subst hj; subst hu; exact h
    | succ j => simp at hj
theorem zero_ok (c : CT) : VR T E Z w c.zero c.zeroV := by
  cases c <;> first | exact .k _ rfl | exact .slnil _ _ (.inl rfl)
theorem zeros_ok (cs : List CT) : VRs T E Z w (cs.map CT.zero) (cs.map CT.zeroV) := by
  refine ⟨by simp, fun j av v hj hv => ?_⟩
  rw [List.getElem?_map, Option.map_eq_some_iff] at hj hv
  obtain ⟨c, hc, rfl⟩ := hj
  obtain ⟨c', hc', rfl⟩ := hv
  rw [hc] at hc'; cases hc'
  exact zero_ok c
theorem zeroR_ok (c : CT) : VR T E Z w c.zeroR c.zeroV := by
  cases c <;> first | exact .k _ rfl | exact .slnil _ .any (.inr (.inl rfl))
theorem zerosR_ok (cs : List CT) : VRs T E Z w (cs.map CT.zeroR) (cs.map CT.zeroV) := by
  refine ⟨by simp, fun j av v hj hv => ?_⟩
  rw [List.getElem?_map, Option.map_eq_some_iff] at hj hv
  obtain ⟨c, hc, rfl⟩ := hj
  obtain ⟨c', hc', rfl⟩ := hv
  rw [hc] at hc'; cases hc'
  exact zeroR_ok c
end
end Go.Fw
