/- The framework, part X: code, and whole functions. -/
import Derived.Test.YtgcdiccbehiijaaFwWj
set_option linter.all false
set_option linter.unusedSimpArgs false
set_option linter.unusedVariables false
namespace Go.Fw

/-- are all drawn regions of such a form? -/
def codeOk (sig : FuncId → RS × List OS × List Nat) (ann : FAnn) : Code → Bool
  | .region id ops true => match lookD ann.dyn id with
    | some d => drawOk3 d ops
    | none => drawOk sig (fun i => (look2 ann.pre id i).isEmpty) ops || drawOk2 sig (fun i => (look2 ann.pre id i).isEmpty) (has2 ann.free id) ops
  | .seq a b => codeOk sig ann a && codeOk sig ann b
  | .cond _ a b => codeOk sig ann a && codeOk sig ann b
  | .block _ c => codeOk sig ann c
  | .loop c => codeOk sig ann c
  | _ => true

section
variable {P : Program} {T : Tab} {C : Ctx} {B : Base} {σ : St} {a : Act} {w : World}

def QK (T : Tab) (B : Base) (K : Out → Option Res) (res : Res) : Exit → Act → World → Prop
  | .normal, a, w => ∃ σ, K (.norm σ) = some res ∧ At T B σ a w
  | .exit id, a, w => ∃ σ, K (.exit id σ) = some res ∧ At T B σ a w
  | .ret, a, w => ∃ σ, K (.ret σ) = some res ∧ At T B σ a w
  | _, _, _ => False

theorem At.weaks (h : At T B σ a w) (ws : List Weak) : At T B (σ.weaks ws) a w := by
  obtain ⟨hd, E, Z, h1, h2, h3, h4⟩ := h
  obtain ⟨E1, Z1, k1, k2, k3, k4, k5⟩ := weaks_ok ws h1
  exact ⟨hd, E1, Z1, k1, h2.trans k2, WkRes.kp h3 h4 k3 k4, Nat.le_trans h4 k5⟩

/-- inside a loop -/
def LoopW (P : Program) (c : Code) (Q : Exit → Act → World → Prop) (a : Act) (w : World) : Prop :=
  ∀ (b : Frame) (k : List Item) (cs : List Frame), ∃ e a' w', Q e a' w' ∧ Arrives P (lone (b.at a (.code c :: .inLoop c :: k)) cs w) b k cs e a' w'

theorem LoopW.round {c : Code} {Q : Exit → Act → World → Prop} (h : c.wp P (Exit.then (LoopW P c Q) Q) a w) : LoopW P c Q a w := by
  intro b k cs
  obtain ⟨e, a₁, w₁, hq, harr⟩ := h b (.inLoop c :: k) cs
  cases e with
  | normal =>
    obtain ⟨e₂, a₂, w₂, hq₂, harr₂⟩ := hq b k cs
    exact ⟨e₂, a₂, w₂, hq₂, .of_steps (Steps.trans harr (.one step_inLoop)) harr₂⟩
  | exit id => exact ⟨_, a₁, w₁, hq, .pass (x := .inLoop c) rfl (fun _ _ => .inl (by simp)) harr⟩
  | goto l => exact ⟨_, a₁, w₁, hq, .pass (x := .inLoop c) rfl (fun _ _ => .inl (by simp)) harr⟩
  | ret => exact ⟨_, a₁, w₁, hq, .pass (x := .inLoop c) rfl (fun _ _ => .inl (by simp)) harr⟩
  | panic ch => exact ⟨_, a₁, w₁, hq, .pass (x := .inLoop c) rfl (fun _ _ => .inl (by simp)) harr⟩
  | outgrown => exact ⟨_, a₁, w₁, hq, .pass (x := .inLoop c) rfl (fun _ _ => .inl (by simp)) harr⟩

theorem LoopW.loop {c : Code} {Q : Exit → Act → World → Prop} (h : LoopW P c Q a w) : (Code.loop c).wp P Q a w := by
  intro b k cs
  obtain ⟨e, a', w', hq, harr⟩ := h b k cs
  exact ⟨e, a', w', hq, .of_steps (.one step_loop) harr⟩

theorem loopGo_ok {weak : St → St} {body : St → (Out → Option Res) → Option Res} {K : Out → Option Res} {res : Res} {c : Code}
    (hw : ∀ σ a w, At T B σ a w → At T B (weak σ) a w)
    (hb : ∀ σ K' a w, body σ K' = some res → At T B σ a w → c.wp P (QK T B K' res) a w) : ∀ (n : Nat) (σ : St) (a : Act) (w : World), loopGo weak body K n σ = some res → At T B σ a w →
      LoopW P c (QK T B K res) a w
  | 0, σ, a, w, h, hA => by cases h
  | n + 1, σ, a, w, h, hA => by
    simp only [loopGo] at h
    refine LoopW.round (wp_mono (hb σ _ a w h hA) fun e a' w' hq => ?_)
    cases e with
    | normal =>
      obtain ⟨σ', hk, hA'⟩ := hq
      exact loopGo_ok hw hb n _ a' w' hk (hw _ _ _ hA')
    | exit id => exact hq
    | ret => exact hq
    | goto l => exact hq
    | panic ch => exact hq
    | outgrown => exact hq

theorem evC_ok (hm : P.follows .mixedOrders = true) (hT : TabOk P C.T) (hC : CallOk P C) (hCm : C.m = B.m) {res : Res} : ∀ (c : Code) (blk : Nat) (σ : St) (K : Out → Option Res) (a : Act) (w : World),
    codeOk C.sig C.ann c = true → evC C blk c σ K = some res → At C.T B σ a w → c.wp P (QK C.T B K res) a w
  | .skip, blk, σ, K, a, w, hk, h, hA => wp_skip ⟨σ, h, hA⟩
  | .ret, blk, σ, K, a, w, hk, h, hA => wp_ret ⟨σ, h, hA⟩
  | .exit id, blk, σ, K, a, w, hk, h, hA => wp_exit ⟨σ, h, hA⟩
  | .label l, blk, σ, K, a, w, hk, h, hA => wp_label ⟨σ, h, hA⟩
  | .seq x y, blk, σ, K, a, w, hk, h, hA => by
    simp only [codeOk, Bool.and_eq_true] at hk
    simp only [evC] at h
    refine wp_seq (wp_mono (evC_ok hm hT hC hCm x blk σ _ a w hk.1 h hA) fun e a' w' hq => ?_)
    cases e with
    | normal =>
      obtain ⟨σ', hK, hA'⟩ := hq
      exact evC_ok hm hT hC hCm y blk σ' K a' w' hk.2 hK hA'
    | exit id => exact hq
    | ret => exact hq
    | goto l => exact hq
    | panic ch => exact hq
    | outgrown => exact hq
  | .cond c x y, blk, σ, K, a, w, hk, h, hA => by
    simp only [codeOk, Bool.and_eq_true] at hk
    simp only [evC] at h
    split at h
    · rename_i t hc
      obtain ⟨hd, E, Z, h1, h2⟩ := hA
      have hv := VR_bool (hc ▸ eval_ok h1.tm c)
      refine wp_cond hv ?_
      cases t with
      | true => exact evC_ok hm hT hC hCm x blk σ K a w hk.1 h ⟨hd, E, Z, h1, h2⟩
      | false => exact evC_ok hm hT hC hCm y blk σ K a w hk.2 h ⟨hd, E, Z, h1, h2⟩
    · cases h
  | .block id c, blk, σ, K, a, w, hk, h, hA => by
    simp only [codeOk] at hk
    simp only [evC] at h
    refine wp_block (wp_mono (evC_ok hm hT hC hCm c id σ _ a w hk h hA) fun e a' w' hq => ?_)
    cases e with
    | normal => exact hq
    | exit j =>
      obtain ⟨σ', hK, hA'⟩ := hq
      simp only at hK
      cases hj : Nat.beq j id with
      | true =>
        rw [hj] at hK
        have := Nat.eq_of_beq_eq_true hj
        simp only [Exit.inBlock, this, if_true]
        exact ⟨σ', hK, hA'⟩
      | false =>
        rw [hj] at hK
        simp only [Exit.inBlock, Nat.ne_of_beq_eq_false hj, if_false]
        exact ⟨σ', hK, hA'⟩
    | ret => exact hq
    | goto l => exact hq
    | panic ch => exact hq
    | outgrown => exact hq
  | .loop c, blk, σ, K, a, w, hk, h, hA => by
    simp only [codeOk] at hk
    simp only [evC] at h
    rw [hCm] at h
    exact LoopW.loop (loopGo_ok (fun σ a w h => (h.weaks _).canon) (fun σ K' a w h hA => evC_ok hm hT hC hCm c blk σ K' a w hk h hA) _ _ a w h ((hA.weaks _).canon))
  | .region id ops true, blk, σ, K, a, w, hk, h, hA => by
    simp only [evC, forceSt_eq, cond_true] at h
    simp only [codeOk] at hk
    cases hd : lookD C.ann.dyn id with
    | some d =>
      rw [hd] at h hk
      exact drawn3_ok hm hT hC hCm hk h hA fun σ' a w hK hA' => ⟨σ', hK, hA'⟩
    | none =>
      rw [hd] at h hk
      simp only at h hk
      rcases Bool.or_eq_true _ _ ▸ hk with hk | hk
      · exact drawn_ok hm hT hC hk h hA fun σ' a w hK hA' => ⟨σ', hK, hA'⟩
      · exact drawn2_ok hm hT hC hk h hA fun σ' a w hK hA' => ⟨σ', hK, hA'⟩
  | .region id ops false, blk, σ, K, a, w, hk, h, hA => by
    simp only [evC, forceSt_eq, cond_false] at h
    exact region_ok hT hC h hA fun σ' a w hK hA' => ⟨σ', hK, hA'⟩
  | .rangeFunc _ _ _ _, blk, σ, K, a, w, hk, h, hA => by simp [evC] at h
  | .scope _, blk, σ, K, a, w, hk, h, hA => by simp [evC] at h
  | .goto _, blk, σ, K, a, w, hk, h, hA => by simp [evC] at h
  | .refuse _, blk, σ, K, a, w, hk, h, hA => by simp [evC] at h

/-! ### A function's results -/
theorem loadVar_loadAt {t : TypeId} {v : Value} {w' : World} {u : Value} (h : (Instr.loadAt t v).run P w = .ok u w') :
    (do loadVar t (← asAddr v)).run P w = .ok u w' := by
  simp only [Instr.loadAt, Sem.run_bind] at h ⊢
  have e : ∀ x w1, (Instr.sureAddr v).run P w = .ok x w1 → (asAddr v).run P w = .ok x w1 := fun x w1 hx => by
    cases v with
    | pointer p => cases p <;> simp_all [Instr.sureAddr, asAddr]
    | _ => simp_all [Instr.sureAddr, asAddr]
  cases hs : (Instr.sureAddr v).run P w with
  | ok x w1 => rw [hs] at h; rw [e x w1 hs]; exact h
  | halt x w1 => rw [hs] at h; cases h

theorem resultAV_ok (hT : TabOk P T) {E : Env} {Z : Nat → Prop} {a : Act} (h : StR T E Z w σ a.tmps.toList) {r : ResultVar} {av : AV} (hs : resultAV T σ r = some av) :
    ∃ v, (match r with | .tmp t => pure (a.tmps.getD t undef) | .cell x t => do loadVar t (← asAddr (a.tmps.getD x undef)) : Sem Value).run P w = .ok v w ∧ VR T E Z w av v := by
  cases r with
  | tmp t =>
    simp only [resultAV, Option.some.injEq] at hs
    subst hs
    exact ⟨a.eval (.tmp t), by simp [Act.eval], eval_ok h.tm (.tmp t)⟩
  | cell x t =>
    simp only [resultAV] at hs
    obtain ⟨v, hr, hv⟩ := aload_ok hT h.sr (eval_ok h.tm (.tmp x)) hs
    exact ⟨v, loadVar_loadAt (by simpa [Act.eval] using hr), hv⟩

end
end Go.Fw
