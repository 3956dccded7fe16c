/- The framework, part X: code, and whole functions. -/
import Derived.Test.YtgcdiccbehiijaaFwWk
import Derived.RangeFuncIn
import Derived.RecoverIn
import Derived.DefersIn
set_option linter.all false
set_option linter.unusedSimpArgs false
set_option linter.unusedVariables false
namespace Go.Fw
def codeOk (sig : FuncId → RS × List OS × List Nat) (ann : FAnn) : Code → Bool
  | .region id ops true => match lookD ann.dyn id with
    | some d => drawOk3 d ops
    | none => drawOk sig (fun i => (look2 ann.pre id i).isEmpty) ops || drawOk2 sig (fun i => (look2 ann.pre id i).isEmpty) (has2 ann.free id) ops
  | .seq a b => codeOk sig ann a && codeOk sig ann b
  | .cond _ a b => codeOk sig ann a && codeOk sig ann b
  | .block _ c => codeOk sig ann c
  | .loop c => codeOk sig ann c
  | _ => true
section
variable {P : Program} {T : Tab} {C : Ctx} {B : Base} {σ : St} {a : Act} {w : World}
theorem At.weaks (h : At T B σ a w) (ws : List Weak) : At T B (σ.weaks T ws) a w := by
  obtain ⟨hd, E, Z, h1, h2, h3, h4⟩ := h
  obtain ⟨E1, Z1, k1, k2, k3, k4, k5⟩ := weaks_ok ws h1
  exact ⟨hd, E1, Z1, k1, h2.trans k2, WkRes.kp h3 h4 k3 k4, Nat.le_trans h4 k5⟩
def LoopW (P : Program) (ro : Option Nat) (c : Code) (Q : Exit → Act → World → Prop) (a : Act) (w : World) : Prop :=
  ∀ (b : Frame) (k : List Item) (cs : List Frame), b.roundOf = ro → ∃ e a' w', Q e a' w' ∧ ArrivesIn (Machine.fenced P (FR ro)) P (lone (b.atR a (.code c :: .inLoop c :: k)) cs w) b k cs e a' w'
theorem LoopW.round {ro : Option Nat} {c : Code} {Q : Exit → Act → World → Prop} (h : c.wpIn (FR ro) 0 P (Exit.then (LoopW P ro c Q) Q) a w) : LoopW P ro c Q a w := by
  intro b k cs hro
  obtain ⟨e, a₁, w₁, hq, harr⟩ := h b (.inLoop c :: k) cs hro trivial (room_FR _ _)
  cases e with
  | normal =>
    obtain ⟨e₂, a₂, w₂, hq₂, harr₂⟩ := hq b k cs hro
    exact ⟨e₂, a₂, w₂, hq₂, .of_steps (StepsIn.trans harr (.one (fenced_calm (n := 0) trivial (room_FR _ _) rfl) stepR_inLoop)) harr₂⟩
  | exit id => exact ⟨_, a₁, w₁, hq, .pass (x := .inLoop c) rfl (fun _ _ => .inl (by simp)) harr⟩
  | goto l => exact ⟨_, a₁, w₁, hq, .pass (x := .inLoop c) rfl (fun _ _ => .inl (by simp)) harr⟩
  | ret => exact ⟨_, a₁, w₁, hq, .pass (x := .inLoop c) rfl (fun _ _ => .inl (by simp)) harr⟩
  | panic ch => exact ⟨_, a₁, w₁, hq, .pass (x := .inLoop c) rfl (fun _ _ => .inl (by simp)) harr⟩
  | outgrown => exact ⟨_, a₁, w₁, hq, .pass (x := .inLoop c) rfl (fun _ _ => .inl (by simp)) harr⟩
theorem LoopW.loop {ro : Option Nat} {c : Code} {Q : Exit → Act → World → Prop} (h : LoopW P ro c Q a w) : (Code.loop c).wpIn (FR ro) 0 P Q a w := by
  intro b k cs hro _ _
  obtain ⟨e, a', w', hq, harr⟩ := h b k cs hro
  exact ⟨e, a', w', hq, .of_steps (.one (fenced_calm (n := 0) trivial (room_FR _ _) rfl) stepR_loop) harr⟩
theorem loopGo_ok {weak : St → St} {body : St → (Out → Option Res) → Option Res} {K : Out → Option Res} {res : Res} {c : Code}
    (hw : ∀ σ a w, At T B σ a w → At T B (weak σ) a w)
    (hb : ∀ σ K' a w, body σ K' = some res → At T B σ a w → c.wpIn (FR B.ro) 0 P (QK T B K' res) a w) : ∀ (n : Nat) (σ : St) (a : Act) (w : World), loopGo weak body K n σ = some res → At T B σ a w →
      LoopW P B.ro c (QK T B K res) a w
  | 0, σ, a, w, h, hA => by cases h
  | n + 1, σ, a, w, h, hA => by
    simp only [loopGo] at h
    refine LoopW.round (wpIn_mono (hb σ _ a w h hA) fun e a' w' hq => ?_)
    cases e with
    | normal =>
      obtain ⟨σ', hk, hA'⟩ := hq
      exact loopGo_ok hw hb n _ a' w' hk (hw _ _ _ hA')
    | exit id => exact hq
    | ret => exact hq
    | goto l => exact hq
    | panic ch => exact hq
    | outgrown => exact hq
theorem run_enterLoop_inner {l : Nat} {r : Loop} (h : w.heap[l]? = some (.loop r)) (fn : FuncId) (tmps : Array Value) (ps : Array Tmp) (assign body : Code) :
    (Instr.enterLoop fn tmps ps assign body (some l)).run P w =
      .ok (w.heap.size, []) (w.alloc (.loop { state := .ready, pending := none, fn, tmps, params := ps, assign, body, defers := r.defers })) := by
  unfold Instr.enterLoop
  simp only [Sem.run_bind, run_getLoop h, run_newObj_alloc, Result.andThen, Sem.run_pure]
theorem enter_ok (hB : B.Good) (hA : At T B σ a w) (fn : FuncId) (ps : Array Tmp) (asg body : Code) (fid : FuncId) :
    ∃ (l : Nat) (mark : List Deferred) (w₁ : World), (Instr.enterLoop fn a.tmps ps asg body B.ro).run P w = .ok (l, mark) w₁ ∧ w₁.heap[l]? = some (.loop { state := .ready, pending := none, fn, tmps := a.tmps, params := ps, assign := asg, body, defers := (match w₁.heap[l]? with | some (.loop r) => r.defers | _ => 0) }) ∧
      ∃ E Z, StR T E Z w₁ (σ.new (.loop false .skip fid σ.tmps ps.toList asg body)) a.tmps.toList ∧ VR T E Z w₁ (.yl σ.st.length) (.func (.yield l) #[] #[]) ∧
        Ext B.O0 B.Z0 B.w0 (Owned E (σ.st ++ [.loop false .skip fid σ.tmps ps.toList asg body])) Z w₁ ∧ Kp B.E0 B.m σ.moved E ∧ B.m ≤ σ.st.length ∧
        Defs B { a with defers := mark ++ a.defers } w₁ := by
  obtain ⟨hd, E, Z, h, hX, hKp, hm⟩ := hA
  have key : ∀ (w₁ : World) (l D : Nat), (∀ b, b < w.heap.size → w₁.heap[b]? = w.heap[b]?) → w.heap.size ≤ l → w₁.heap.size = l + 1 → w₁.os = w.os → w₁.tape = w.tape → w₁.output = w.output →
      w₁.heap[l]? = some (.loop { state := .ready, pending := none, fn, tmps := a.tmps, params := ps, assign := asg, body, defers := D }) →
      ∃ E Z, StR T E Z w₁ (σ.new (.loop false .skip fid σ.tmps ps.toList asg body)) a.tmps.toList ∧ VR T E Z w₁ (.yl σ.st.length) (.func (.yield l) #[] #[]) ∧
        Ext B.O0 B.Z0 B.w0 (Owned E (σ.st ++ [.loop false .skip fid σ.tmps ps.toList asg body])) Z w₁ ∧ Kp B.E0 B.m σ.moved E ∧ B.m ≤ σ.st.length := fun w₁ l D hold hl hsz hos htape hout hb => by
    have hgrow : w.heap.size ≤ w₁.heap.size := by omega
    have hn := h.new (w' := w₁) (.loop false .skip fid σ.tmps ps.toList asg body) (.func (.yield l) #[] #[]) 0 hold hgrow hos htape hout
      (.loop false .skip fid σ.tmps ps.toList asg body l D fn a.tmps.toList (snoc_ρ _ _ _ _) (by simpa using hb) (h.tm.mono (h.sr.snoc_le _ _) (fun _ hz => hz) (h.sr.zcell fun b hb _ => hold b hb)))
      (fun C hC => by
        have hC' : (E.snoc σ.st.length (.func (.yield l) #[] #[]) 0).ρ σ.st.length = some (.func (.yield C) #[] #[]) := hC
        rw [snoc_ρ] at hC'
        cases hC'; exact hl)
    refine ⟨_, Z, hn.1, .yl _ _ (snoc_ρ _ _ _ _), hX.trans hn.2, fun i hi hnm => ?_, hm⟩
    have hne : i ≠ σ.st.length := by omega
    simp only [Env.snoc, if_neg hne]
    exact hKp i hi hnm
  cases hro : B.ro with
  | none =>
    have hrun := run_enterLoop_outer (P := P) (w := w) fn a.tmps ps asg body
    refine ⟨_, _, _, hrun, ?_, ?_⟩
    · have e : ((w.alloc (.deferred (some []))).alloc (.loop { state := .ready, pending := none, fn, tmps := a.tmps, params := ps, assign := asg, body, defers := w.heap.size })).heap[w.heap.size + 1]? = some (.loop { state := .ready, pending := none, fn, tmps := a.tmps, params := ps, assign := asg, body, defers := w.heap.size }) := by
        have := World.alloc_heap_new (w.alloc (.deferred (some []))) (.loop { state := .ready, pending := none, fn, tmps := a.tmps, params := ps, assign := asg, body, defers := w.heap.size })
        rw [World.size_alloc] at this
        exact this
      rw [e]
    · have hb1 := World.alloc_heap_new (w.alloc (.deferred (some []))) (.loop { state := .ready, pending := none, fn, tmps := a.tmps, params := ps, assign := asg, body, defers := w.heap.size })
      rw [World.size_alloc] at hb1
      have hold : ∀ b, b < w.heap.size → ((w.alloc (.deferred (some []))).alloc (.loop { state := .ready, pending := none, fn, tmps := a.tmps, params := ps, assign := asg, body, defers := w.heap.size })).heap[b]? = w.heap[b]? := fun b hb => by
        show ((w.heap.push _).push _)[b]? = _
        rw [Array.getElem?_push_lt (by simp; omega), ← Array.getElem?_eq_getElem, Array.getElem?_push_lt hb, ← Array.getElem?_eq_getElem]
      obtain ⟨E', Z', k1, k2, k3, k4, k5⟩ := key _ (w.heap.size + 1) w.heap.size hold (by omega) (by rw [World.size_alloc, World.size_alloc]) rfl rfl rfl hb1
      refine ⟨E', Z', k1, k2, k3, k4, k5, ?_⟩
      obtain ⟨rs, hrs⟩ := hd
      have hn0 : B.w0.heap.size ≤ w.heap.size := hX.size
      refine ⟨w.heap.size :: rs, .mark _ hn0 ?_ ?_ (hrs.same fun r hb => ?_)⟩
      · show ((w.heap.push _).push _)[w.heap.size]? = _
        rw [Array.getElem?_push_lt (by simp), ← Array.getElem?_eq_getElem]; simp
      · have : ∀ {D l rs}, Marked w B.w0.heap.size D l rs → ∀ r ∈ rs, r < w.heap.size := fun hM => by
          induction hM with
          | nil => intro r hr; cases hr
          | mark r hn hb hr _ ih =>
            intro r' hr'
            rcases List.mem_cons.1 hr' with rfl | h'
            · exact (Array.getElem?_eq_some_iff.1 hb).1
            · exact ih r' h'
          | keep d _ ih => exact ih
        exact fun hm' => Nat.lt_irrefl _ (this hrs _ hm')
      · rw [hold r (Array.getElem?_eq_some_iff.1 hb).1]; exact hb
  | some l0 =>
    obtain ⟨g1, g2, r, g3⟩ := hB l0 hro
    have hl0 : w.heap[l0]? = some (.loop r) := by rw [hX.same l0 g1 g2]; exact g3
    refine ⟨_, _, _, run_enterLoop_inner hl0 fn a.tmps ps asg body, ?_, ?_⟩
    · rw [World.alloc_heap_new]
    · have hold : ∀ b, b < w.heap.size → (w.alloc (.loop { state := .ready, pending := none, fn, tmps := a.tmps, params := ps, assign := asg, body, defers := r.defers })).heap[b]? = w.heap[b]? := fun b hb => by
        show (w.heap.push _)[b]? = _
        rw [Array.getElem?_push_lt hb, ← Array.getElem?_eq_getElem]
      obtain ⟨E', Z', k1, k2, k3, k4, k5⟩ := key _ w.heap.size r.defers hold (Nat.le_refl _) (by rw [World.size_alloc]) rfl rfl rfl (World.alloc_heap_new _ _)
      refine ⟨E', Z', k1, k2, k3, k4, k5, hd.same rfl fun r hb => ?_⟩
      rw [hold r (Array.getElem?_eq_some_iff.1 hb).1]; exact hb
theorem evC_ok (hm : P.follows .mixedOrders = true) (hT : TabOk P C.T) (hC : CallOk P C) (hR : RoundOk P C) (hE : EntOk P C) (hB : B.Good) (hCm : C.m = B.m) {res : Res} : ∀ (c : Code) (blk : Nat) (σ : St) (K : Out → Option Res) (a : Act) (w : World),
    codeOk C.sig C.ann c = true → evC C blk c σ K = some res → At C.T B σ a w → c.wpIn (FR B.ro) 0 P (QK C.T B K res) a w
  | .skip, blk, σ, K, a, w, hk, h, hA => wpIn_skip ⟨σ, h, hA⟩
  | .ret, blk, σ, K, a, w, hk, h, hA => wpIn_ret ⟨σ, h, hA⟩
  | .exit id, blk, σ, K, a, w, hk, h, hA => wpIn_exit ⟨σ, h, hA⟩
  | .label l, blk, σ, K, a, w, hk, h, hA => wpIn_label ⟨σ, h, hA⟩
  | .seq x y, blk, σ, K, a, w, hk, h, hA => by
    simp only [codeOk, Bool.and_eq_true] at hk
    simp only [evC] at h
    refine wpIn_seq (wpIn_mono (evC_ok hm hT hC hR hE hB hCm x blk σ _ a w hk.1 h hA) fun e a' w' hq => ?_)
    cases e with
    | normal =>
      obtain ⟨σ', hK, hA'⟩ := hq
      exact evC_ok hm hT hC hR hE hB hCm y blk σ' K a' w' hk.2 hK hA'
    | exit id => exact hq
    | ret => exact hq
    | goto l => exact hq
    | panic ch => exact hq
    | outgrown => exact hq
  | .cond c x y, blk, σ, K, a, w, hk, h, hA => by
    simp only [codeOk, Bool.and_eq_true] at hk
    simp only [evC] at h
    split at h
    · rename_i t hc
      obtain ⟨hd, E, Z, h1, h2⟩ := hA
      have hv := VR_bool (hc ▸ eval_ok h1.tm c)
      refine wpIn_cond hv ?_
      cases t with
      | true => exact evC_ok hm hT hC hR hE hB hCm x blk σ K a w hk.1 h ⟨hd, E, Z, h1, h2⟩
      | false => exact evC_ok hm hT hC hR hE hB hCm y blk σ K a w hk.2 h ⟨hd, E, Z, h1, h2⟩
    · cases h
  | .block id c, blk, σ, K, a, w, hk, h, hA => by
    simp only [codeOk] at hk
    simp only [evC] at h
    refine wpIn_block (wpIn_mono (evC_ok hm hT hC hR hE hB hCm c id σ _ a w hk h hA) fun e a' w' hq => ?_)
    cases e with
    | normal => exact hq
    | exit j =>
      obtain ⟨σ', hK, hA'⟩ := hq
      simp only at hK
      cases hj : Nat.beq j id with
      | true =>
        rw [hj] at hK
        have := Nat.eq_of_beq_eq_true hj
        simp only [Exit.inBlock, this, if_true]
        exact ⟨σ', hK, hA'⟩
      | false =>
        rw [hj] at hK
        simp only [Exit.inBlock, Nat.ne_of_beq_eq_false hj, if_false]
        exact ⟨σ', hK, hA'⟩
    | ret => exact hq
    | goto l => exact hq
    | panic ch => exact hq
    | outgrown => exact hq
  | .loop c, blk, σ, K, a, w, hk, h, hA => by
    simp only [codeOk] at hk
    simp only [evC] at h
    rw [hCm] at h
    exact LoopW.loop (loopGo_ok (fun σ a w h => (h.weaks _).canon) (fun σ K' a w h hA => evC_ok hm hT hC hR hE hB hCm c blk σ K' a w hk h hA) _ _ a w h ((hA.weaks _).canon))
  | .region id ops true, blk, σ, K, a, w, hk, h, hA => by
    simp only [evC, forceSt_eq, cond_true] at h
    simp only [codeOk] at hk
    cases hd : lookD C.ann.dyn id with
    | some d =>
      rw [hd] at h hk
      exact drawn3_ok hm hT hC hCm hk h hA fun σ' a w hK hA' => ⟨σ', hK, hA'⟩
    | none =>
      rw [hd] at h hk
      simp only at h hk
      rcases Bool.or_eq_true _ _ ▸ hk with hk | hk
      · exact drawn_ok hm hT hC hk h hA fun σ' a w hK hA' => ⟨σ', hK, hA'⟩
      · exact drawn2_ok hm hT hC hk h hA fun σ' a w hK hA' => ⟨σ', hK, hA'⟩
  | .region id ops false, blk, σ, K, a, w, hk, h, hA => by
    simp only [evC, forceSt_eq, cond_false] at h
    exact regionY_ok hT hC hR h hA fun σ' a w hK hA' => ⟨σ', hK, hA'⟩
  | .rangeFunc g ps as body, blk, σ, K, a, w, hk, h, hA => by
    simp only [evC, forceSt_eq] at h
    have hA0 := hA.weaks (look1 C.ann.loops blk)
    generalize σ.weaks C.T (look1 C.ann.loops blk) = σ0 at *
    split at h
    case h_2 => cases h
    rename_i n first captured hg
    cases hent : C.ent n with
    | false => rw [hent] at h; cases h
    | true =>
    rw [hent] at h
    simp only [Bool.not_true, cond_false] at h
    rw [acall_eq] at h
    split at h
    case h_2 => cases h
    rename_i c σ2 r hac
    cases c with
    | false => simp [under] at h
    | true =>
    simp only [under, cond_true] at h
    refine wpIn_rangeFunc fun fn _ => ?_
    obtain ⟨l, mark, w₁, e1, e2, E, Z, s1, s2, s3, s4, s5, s6⟩ := enter_ok (P := P) hB hA0 fn ps as body C.fid
    have hvf := eval_ok s1.tm g
    have hg' : (σ0.new (.loop false .skip C.fid σ0.tmps ps.toList as body)).eval g = .fn (.func n) first captured := by
      rw [← hg]; cases g <;> rfl
    rw [hg'] at hvf
    generalize hfv : a.eval g = vf at hvf
    cases hvf with
    | fn _ _ _ va vb hla hlb hra hrb =>
    have hall : VRs C.T E Z w₁ (first ++ [.yl σ0.st.length] ++ captured) (va ++ [.func (.yield l) #[] #[]] ++ vb) :=
      VRs.append (VRs.append ⟨hla, hra⟩ ⟨rfl, fun j av v hj hv => by cases j <;> simp at hj hv; subst hj; subst hv; exact s2⟩) ⟨hlb, hrb⟩
    have hent' := hE n hent (va ++ [Value.func (.yield l) #[] #[]] ++ vb).toArray w₁
    have hargs : va.toArray ++ #[Value.func (.yield l) #[] #[]] ++ vb.toArray = (va ++ [Value.func (.yield l) #[] #[]] ++ vb).toArray := by apply Array.ext'; simp
    refine ⟨l, mark, w₁, { target := .fn (.func n) vb.toArray, args := va.toArray ++ #[Value.func (.yield l) #[] #[]] }, w₁, n, (va ++ [Value.func (Fn.yield l) #[] #[]] ++ vb).toArray, w₁, e1, ?_, fun _ _ => trivial, ?_, depth_FR _ _, callsIn_FR.2 ?_⟩
    · simp only [resolve, hfv, Deferred.ofValue]
      have e : Array.map a.eval #[Operand.const (Value.func (Fn.yield l) #[] #[])] = #[Value.func (Fn.yield l) #[] #[]] := by simp [Act.eval]
      rw [e]; rfl
    · show (callFunc n (va.toArray ++ #[Value.func (.yield l) #[] #[]] ++ vb.toArray)).run P w₁ = _
      rw [hargs]; exact hent'
    · rcases acall1_ok hC rfl s1 hall hac with ⟨_, k2⟩ | ⟨u, w', k1, _⟩ | ⟨row, as', k1, _⟩
      · refine k2.mono fun e w3 ⟨u, he, E', Z', t1, t2, t3, t4, t5⟩ => ?_
        subst he
        cases hmem : σ2.moved.elem σ0.st.length with
        | true => rw [hmem] at h; cases h
        | false =>
        rw [hmem] at h
        simp only [cond_false] at h
        have hnm : σ0.st.length ∉ σ2.moved := by simpa using hmem
        split at h
        case h_2 => cases h
        rename_i fin pend fnx tmx psx ax bx hst
        have hst := getD_some hst (by simp)
        have hor := t1.sr.obj _ _ hst
        cases hor with
        | loop _ _ _ _ _ _ _ l' D fn' vs hρ hb hr =>
        have hll : l' = l := by
          have hs := (t4.same σ0.st.length (by simp [St.new]) hnm).1
          cases s2 with
          | yl _ _ hρ0 =>
            rw [hs, hρ0] at hρ
            cases hρ; rfl
        subst hll
        have hbusy : ({ state := bif fin then .done else .ready, pending := bif fin then some pend else none, fn := fn', tmps := vs.toArray, params := psx.toArray, assign := ax, body := bx, defers := D } : Loop).state ≠ .busy := by cases fin <;> simp
        have hl3 : l' < w3.heap.size := (Array.getElem?_eq_some_iff.1 hb).1
        have howns : owns E' σ2.st σ0.st.length l' := (owns_some hst).2 hρ
        obtain ⟨d1, d2, d3⟩ := t1.dropId σ0.st.length
        have hnod : ¬ Owned E' (σ2.dropId σ0.st.length).st l' := fun hO => by
          obtain ⟨j, hj, hjo⟩ := d2 l' hO
          exact hj (t1.sr.inj j _ l' hjo howns)
        have hnz : ¬ Z' l' := t1.sr.zown l' ⟨_, howns⟩
        refine ⟨_, _, run_endLoop hb hbusy, ?_⟩
        generalize hw4 : w3.putObj l' _ = w4
        have hon : OnlyAt l' w3 w4 := by rw [← hw4]; exact OnlyAt.putObj w3 _ hl3
        have hXt := s3.trans t3
        have hA3 : At C.T B (σ2.dropId σ0.st.length) { a with defers := mark ++ a.defers } w4 := by
          refine ⟨s6.same rfl fun r hr => ?_, E', Z', d1.aside hnod hnz hon, ⟨hon.os.trans hXt.os, hon.tape.trans hXt.tape, hon.output.trans hXt.output, by rw [hon.size]; exact hXt.size, fun b hb' hno => ?_, hXt.zin, hXt.zout, fun b hb' => ?_⟩, Kp.mv (σ := σ0.new (.loop false .skip C.fid σ0.tmps ps.toList as body)) (σ' := σ2) s4 t4 (by simp [St.new]; omega), ?_⟩
          · have h3 := s1.sr.marks t3 r hr
            have hne : r ≠ l' := fun e => by rw [e, hb] at h3; cases h3
            rw [hon.other r hne]; exact h3
          · have hne : b ≠ l' := fun e => by
              rcases hXt.oout l' ⟨_, howns⟩ with h' | h'
              · exact hno (e ▸ h')
              · omega
            rw [hon.other b hne]; exact hXt.same b hb' hno
          · obtain ⟨j, _, hj⟩ := d2 b hb'
            exact hXt.oout b ⟨j, hj⟩
          · rw [d3]
            have : σ0.st.length + 1 ≤ σ2.st.length := by simpa [St.new] using t5
            omega
        cases fin with
        | false =>
          simp only [cond_false] at h ⊢
          exact ⟨_, h, hA3⟩
        | true =>
          simp only [cond_true] at h ⊢
          split at h
          · exact wpIn_exit ⟨_, h, hA3⟩
          · exact wpIn_ret ⟨_, h, hA3⟩
          · cases h
      · rw [hent'] at k1; cases k1
      · rw [hent'] at k1; cases k1
  | .scope _, blk, σ, K, a, w, hk, h, hA => by simp [evC] at h
  | .goto _, blk, σ, K, a, w, hk, h, hA => by simp [evC] at h
  | .refuse _, blk, σ, K, a, w, hk, h, hA => by simp [evC] at h
theorem loadVar_loadAt {t : TypeId} {v : Value} {w' : World} {u : Value} (h : (Instr.loadAt t v).run P w = .ok u w') :
    (do loadVar t (← asAddr v)).run P w = .ok u w' := by
  simp only [Instr.loadAt, Sem.run_bind] at h ⊢
  have e : ∀ x w1, (Instr.sureAddr v).run P w = .ok x w1 → (asAddr v).run P w = .ok x w1 := fun x w1 hx => by
    cases v with
    | pointer p => cases p <;> simp_all [Instr.sureAddr, asAddr]
    | _ => simp_all [Instr.sureAddr, asAddr]
  cases hs : (Instr.sureAddr v).run P w with
  | ok x w1 => rw [hs] at h; rw [e x w1 hs]; exact h
  | halt x w1 => rw [hs] at h; cases h
theorem resultAV_ok (hT : TabOk P T) {E : Env} {Z : Nat → Prop} {a : Act} (h : StR T E Z w σ a.tmps.toList) {r : ResultVar} {av : AV} (hs : resultAV T σ r = some av) :
    ∃ v, (match r with | .tmp t => pure (a.tmps.getD t undef) | .cell x t => do loadVar t (← asAddr (a.tmps.getD x undef)) : Sem Value).run P w = .ok v w ∧ VR T E Z w av v := by
  cases r with
  | tmp t =>
    simp only [resultAV, Option.some.injEq] at hs
    subst hs
    exact ⟨a.eval (.tmp t), by simp [Act.eval], eval_ok h.tm (.tmp t)⟩
  | cell x t =>
    simp only [resultAV] at hs
    obtain ⟨v, hr, hv⟩ := aload_ok hT h.sr (eval_ok h.tm (.tmp x)) hs
    exact ⟨v, loadVar_loadAt (by simpa [Act.eval] using hr), hv⟩
end
end Go.Fw
set_option linter.unusedSimpArgs false
set_option linter.unusedVariables false
namespace Go.Fw
def Harm (P : Program) (g : FuncId) (n : Nat) : Prop := ∀ (vals : Array Value) (w : World), vals.size = n →
  (callFunc g vals).run P w = .ok (.enter g vals) w ∧ CallsDIn (FR none) 0 P g vals .returning w fun e u' w' => e = .returned (.tuple #[]) ∧ u' = .returning ∧ w' = w
def DefR (D : Option (FuncId × Nat)) (ds : List Deferred) : Prop :=
  match D with
  | none => ds = []
  | some (g, n) => ∃ cap : Array Value, cap.size = n ∧ ds = [{ target := .fn (.func g) cap, args := #[] }]
def AtD (T : Tab) (B : Base) (D : Option (FuncId × Nat)) (σ : St) (a : Act) (w : World) : Prop := ∃ ds, DefR D ds ∧ At T { B with D := ds } σ a w
def QKD (T : Tab) (B : Base) (K : Out → Option (FuncId × Nat) → Option Res) (res : Res) : Exit → Act → World → Prop
  | .normal, a, w => ∃ σ D, K (.norm σ) D = some res ∧ AtD T B D σ a w
  | .exit id, a, w => ∃ σ D, K (.exit id σ) D = some res ∧ AtD T B D σ a w
  | .ret, a, w => ∃ σ D, K (.ret σ) D = some res ∧ AtD T B D σ a w
  | _, _, _ => False
section
variable {P : Program} {C : Ctx} {B : Base} {res : Res}
theorem wpOps_until (hT : TabOk P C.T) (hC : CallOk P C) {ops : Array Oper} {rid : Nat} {S : Nat → St} {Q : Exit → Act → World → Prop} {rest : List Nat} {n : Nat} (hS : ∀ j o, j < n → ops[j]? = some o → step1 C ops.toList rid j o (S j) = some (S (j + 1)))
    (hn : n ≤ ops.size) (hQ : ∀ a w, At C.T B (S n) a w → wpOpsIn (FR B.ro) 0 P ops Q rest a w) : ∀ (l : Nat) (i : Nat), i + l = n → ∀ (a : Act) (w : World), At C.T B (S i) a w → wpOpsIn (FR B.ro) 0 P ops Q (List.range' i l ++ rest) a w
  | 0, i, hl, a, w, hA => by simp only [List.range', List.nil_append]; rw [Nat.add_zero] at hl; exact hQ a w (hl ▸ hA)
  | l + 1, i, hl, a, w, hA => by
    simp only [List.range', List.cons_append]
    rw [wpOpsIn_cons]
    have hi : i < ops.size := by omega
    have ho : ops[i]? = some ops[i] := Array.getElem?_eq_getElem hi
    exact step1_ok hT hC ho (hS i _ (by omega) ho) hA (fun a' w' h' => wpOps_until hT hC hS hn hQ l (i + 1) (by omega) a' w' h')
theorem good_none (hro : B.ro = none) : B.Good := fun l hl => by rw [hro] at hl; cases hl
theorem evC_D (hm : P.follows .mixedOrders = true) (hT : TabOk P C.T) (hC : CallOk P C) (hR : RoundOk P C) (hE : EntOk P C) (hB : B.Good) (hCm : C.m = B.m) {c : Code} {σ : St} {D : Option (FuncId × Nat)} {K : Out → Option (FuncId × Nat) → Option Res} {a : Act} {w : World}
    (hk : codeOk C.sig C.ann c = true) (h : evC C 0 c σ (fun o => K o D) = some res) (hA : AtD C.T B D σ a w) : c.wpIn (FR B.ro) 0 P (QKD C.T B K res) a w := by
  obtain ⟨ds, hd, hA⟩ := hA
  refine wpIn_mono (evC_ok (B := { B with D := ds }) hm hT hC hR hE hB hCm c 0 σ _ a w hk h hA) fun e a' w' hq => ?_
  cases e with
  | normal => obtain ⟨σ', hK, hA'⟩ := hq; exact ⟨σ', D, hK, ds, hd, hA'⟩
  | exit id => obtain ⟨σ', hK, hA'⟩ := hq; exact ⟨σ', D, hK, ds, hd, hA'⟩
  | ret => obtain ⟨σ', hK, hA'⟩ := hq; exact ⟨σ', D, hK, ds, hd, hA'⟩
  | goto l => exact hq
  | panic ch => exact hq
  | outgrown => exact hq
theorem deferOf_some {ops : List Oper} {init : List Oper} {f : Operand} (h : deferOf ops = some (init, f)) :
    ∃ o args ats, ops = init ++ [o] ∧ o.dst = none ∧ o.guard = none ∧ o.op = .defer { callee := .value f, args := args, argTypes := ats } ∧ args.toList = [] := by
  unfold deferOf at h
  split at h
  · cases h
  · rename_i o rest hr
    split at h
    · rename_i f' args ats h1 h2 h3
      cases ha : args.toList.isEmpty with
      | false => rw [ha] at h; cases h
      | true =>
        rw [ha] at h
        cases h
        refine ⟨o, args, ats, ?_, h1, h2, h3, by simpa using ha⟩
        have := congrArg List.reverse hr
        simpa using this
    · cases h
theorem evB_ok (hm : P.follows .mixedOrders = true) (hT : TabOk P C.T) (hC : CallOk P C) (hR : RoundOk P C) (hE : EntOk P C) (hro : B.ro = none) (hCm : C.m = B.m) : ∀ (c : Code) (σ : St) (D : Option (FuncId × Nat)) (K : Out → Option (FuncId × Nat) → Option Res) (a : Act) (w : World),
    codeOk C.sig C.ann c = true → evB C c σ D K = some res → AtD C.T B D σ a w → c.wpIn (FR B.ro) 0 P (QKD C.T B K res) a w
  | .seq x y, σ, D, K, a, w, hk, h, hA => by
    simp only [codeOk, Bool.and_eq_true] at hk
    simp only [evB] at h
    refine wpIn_seq (wpIn_mono (evB_ok hm hT hC hR hE hro hCm x σ D _ a w hk.1 h hA) fun e a' w' hq => ?_)
    cases e with
    | normal =>
      obtain ⟨σ', D', hK, hA'⟩ := hq
      exact evB_ok hm hT hC hR hE hro hCm y σ' D' K a' w' hk.2 hK hA'
    | exit id => exact hq
    | ret => exact hq
    | goto l => exact hq
    | panic ch => exact hq
    | outgrown => exact hq
  | .region id ops dr, σ, D, K, a, w, hk, h, hA => by
    simp only [evB] at h
    cases hd : C.ann.dfr.elem id with
    | false =>
      rw [hd] at h
      exact evC_D hm hT hC hR hE (good_none hro) hCm hk h hA
    | true =>
      rw [hd] at h
      simp only [cond_true] at h
      split at h
      · rename_i _ _ _ init f hdo
        rw [forceSt_eq] at h
        obtain ⟨o, args, ats, hops, h1, h2, h3, h4⟩ := deferOf_some hdo
        obtain ⟨ds, hds, hA⟩ := hA
        have hds' : ds = [] := hds
        subst hds'
        obtain ⟨S, e, hS, hK⟩ := evOps_states _ _ _ h
        have hsz : ops.size = init.length + 1 := by
          have := congrArg List.length hops
          simpa using this
        have hget : ∀ j, j < init.length → ops[j]? = init[j]? := fun j hj => by
          have : ops.toList[j]? = init[j]? := by rw [hops, List.getElem?_append_left hj]
          simpa using this
        have hlast : ops[init.length]? = some o := by
          have : ops.toList[init.length]? = some o := by rw [hops, List.getElem?_append_right (Nat.le_refl _)]; simp
          simpa using this
        refine wpIn_region ?_
        have hr : List.range ops.size = List.range' 0 init.length ++ [init.length] := by
          rw [List.range_eq_range', hsz, List.range'_concat]; simp
        rw [hr]
        refine wpOps_until (rid := id) (S := S) (n := init.length) (B := { B with D := [] }) hT hC (fun j o' hj ho' => ?_) (by omega) (fun a' w' hA' => ?_) init.length 0 (by omega) a w (e ▸ hA)
        · have := (hS j o' (by rw [← hget j hj]; exact ho')).1
          simpa using this
        · simp only [Nat.zero_add] at hK
          rw [wpOpsIn_cons]
          unfold wpOpIn
          simp only [hlast]
          have hg : Region.wanted o (yielded ops a'.tmps) = true := by unfold Region.wanted; rw [h2]
          rw [hg]
          simp only [if_true]
          refine ⟨fun _ _ => trivial, ?_⟩
          have hsem : o.semAt (FR B.ro).round a'.eval = execOp a'.eval o := by rw [hro]; rfl
          rw [hsem]
          obtain ⟨hd', E, Z, hs, hX, hKp, hm'⟩ := hA'
          split at hK
          · rename_i n cap hev
            have hvf := eval_ok hs.tm f
            rw [hev] at hvf
            generalize hfv : a'.eval f = vf at hvf
            cases hvf with
            | fn _ _ _ va vb hla hlb hra hrb =>
            have hva : va = [] := by
              have := hla
              exact List.length_eq_zero_iff.1 (by simpa using this.symm)
            subst hva
            have hrun : (execOp a'.eval o).run P w' = .ok (.defer { target := .fn (.func n) vb.toArray, args := #[] }) w' := by
              obtain ⟨dst, op, type, pos, after, guard⟩ := o
              simp only at h3
              subst h3
              have he : args = #[] := by apply Array.ext'; simpa using h4
              subst he
              simp only [execOp, resolve, hfv, Deferred.ofValue]
              simp
            rw [hrun]
            simp only [Oper.uponIn, h1, Act.put]
            refine ⟨_, _, hK, [{ target := .fn (.func n) vb.toArray, args := #[] }], ⟨vb.toArray, by simpa using hlb.symm, rfl⟩, ?_⟩
            obtain ⟨rs, hrs⟩ := hd'
            exact ⟨⟨rs, .keep _ hrs⟩, E, Z, hs, hX, hKp, hm'⟩
          · cases hK
      · cases h
  | .skip, σ, D, K, a, w, hk, h, hA => evC_D hm hT hC hR hE (good_none hro) hCm hk (by simpa only [evB] using h) hA
  | .ret, σ, D, K, a, w, hk, h, hA => evC_D hm hT hC hR hE (good_none hro) hCm hk (by simpa only [evB] using h) hA
  | .exit id, σ, D, K, a, w, hk, h, hA => evC_D hm hT hC hR hE (good_none hro) hCm hk (by simpa only [evB] using h) hA
  | .label l, σ, D, K, a, w, hk, h, hA => evC_D hm hT hC hR hE (good_none hro) hCm hk (by simpa only [evB] using h) hA
  | .cond c x y, σ, D, K, a, w, hk, h, hA => evC_D hm hT hC hR hE (good_none hro) hCm hk (by simpa only [evB] using h) hA
  | .block id c, σ, D, K, a, w, hk, h, hA => evC_D hm hT hC hR hE (good_none hro) hCm hk (by simpa only [evB] using h) hA
  | .loop c, σ, D, K, a, w, hk, h, hA => evC_D hm hT hC hR hE (good_none hro) hCm hk (by simpa only [evB] using h) hA
  | .rangeFunc _ _ _ _, σ, D, K, a, w, hk, h, hA => evC_D hm hT hC hR hE (good_none hro) hCm hk (by simpa only [evB] using h) hA
  | .scope _, σ, D, K, a, w, hk, h, hA => evC_D hm hT hC hR hE (good_none hro) hCm hk (by simpa only [evB] using h) hA
  | .goto _, σ, D, K, a, w, hk, h, hA => evC_D hm hT hC hR hE (good_none hro) hCm hk (by simpa only [evB] using h) hA
  | .refuse _, σ, D, K, a, w, hk, h, hA => evC_D hm hT hC hR hE (good_none hro) hCm hk (by simpa only [evB] using h) hA
theorem StR.taken {T : Tab} {E : Env} {Z : Nat → Prop} {w : World} {σ : St} {vals : List Value} (h : StR T E Z w σ vals) {r : Nat} (hb : w.heap[r]? = some (.deferred (some []))) : StR T E Z (w.putObj r (.deferred none)) σ vals := by
  have hl : r < w.heap.size := (Array.getElem?_eq_some_iff.1 hb).1
  have hno := h.sr.not_deferred hb
  have hzc : ∀ b o, (w.putObj r (.deferred none)).cell? ⟨b, o, none⟩ = w.cell? ⟨b, o, none⟩ := fun b o => by
    by_cases hbr : b = r
    · subst hbr
      simp [World.cell?, World.putObj_heap_same hl, hb]
    · exact cell?_of_heap (World.putObj_heap_other hbr) o
  refine ⟨⟨fun j o hj => ?_, h.sr.out, h.sr.inj, h.sr.zown, fun B hB => by rw [World.putObj_size]; exact h.sr.zlt B hB⟩, h.tm.mono (fun i v hv => ⟨hv, rfl⟩) (fun _ hz => hz) (fun b o _ => hzc b o)⟩
  have hor := h.sr.obj j o hj
  exact hor.mono (fun i v hv => ⟨hv, rfl⟩) (fun _ hz => hz) (fun b o _ => hzc b o) hor.has (fun B hB => World.putObj_heap_other fun e => hno ⟨j, (owns_some hj).2 (e ▸ hB)⟩)
theorem At.taken {T : Tab} {B : Base} {σ : St} {D l : List Deferred} {tmps : Array Value} {w : World} {r : Nat} {rs : List Nat} (hb : w.heap[r]? = some (.deferred (some []))) (hn : B.w0.heap.size ≤ r) (hr : r ∉ rs)
    (hM : Marked w B.w0.heap.size D l rs) (h : ∃ E Z, StR T E Z w σ tmps.toList ∧ Ext B.O0 B.Z0 B.w0 (Owned E σ.st) Z w ∧ Kp B.E0 B.m σ.moved E ∧ B.m ≤ σ.st.length) :
    Marked (w.putObj r (.deferred none)) B.w0.heap.size D l rs ∧ ∃ E Z, StR T E Z (w.putObj r (.deferred none)) σ tmps.toList ∧ Ext B.O0 B.Z0 B.w0 (Owned E σ.st) Z (w.putObj r (.deferred none)) ∧ Kp B.E0 B.m σ.moved E ∧ B.m ≤ σ.st.length := by
  have hl : r < w.heap.size := (Array.getElem?_eq_some_iff.1 hb).1
  obtain ⟨E, Z, h1, h2, h3, h4⟩ := h
  refine ⟨hM.same' fun r' hr' hb' => ?_, E, Z, h1.taken hb, ⟨h2.os, h2.tape, h2.output, by rw [World.putObj_size]; exact h2.size, fun b hb' hno => ?_, h2.zin, h2.zout, h2.oout⟩, h3, h4⟩
  · have : r' ≠ r := fun e => hr (e ▸ hr')
    rw [World.putObj_heap_other this]; exact hb'
  · have : b ≠ r := by omega
    rw [World.putObj_heap_other this]; exact h2.same b hb' hno
theorem leaves_marked {T : Tab} {B : Base} {σ : St} {fn : Func} {tmps : Array Value} {R : Ending → World → Prop}
    (hend : ∀ w, (∃ E Z, StR T E Z w σ tmps.toList ∧ Ext B.O0 B.Z0 B.w0 (Owned E σ.st) Z w ∧ Kp B.E0 B.m σ.moved E ∧ B.m ≤ σ.st.length) → ∃ v, (results fn tmps).run P w = .ok v w ∧ R (.returned v) w) :
    ∀ {rs : List Nat} {D l : List Deferred} {w : World}, Marked w B.w0.heap.size D l rs → (∀ d ∈ D, ∃ g n cap, Harm P g n ∧ Array.size cap = n ∧ d = { target := .fn (.func g) cap, args := #[] }) →
      (∃ E Z, StR T E Z w σ tmps.toList ∧ Ext B.O0 B.Z0 B.w0 (Owned E σ.st) Z w ∧ Kp B.E0 B.m σ.moved E ∧ B.m ≤ σ.st.length) → LeavesInM (FR none) 0 P fn tmps R l .returning w := by
  intro rs D l
  induction l generalizing rs D with
  | nil =>
    intro w hM hD hA
    obtain ⟨v, h1, h2⟩ := hend w hA
    exact ⟨v, h1, h2⟩
  | cons d l ih =>
    intro w hM hD hA
    cases hM with
    | mark r hn hb hr hM =>
      obtain ⟨k1, k2⟩ := At.taken hb hn hr hM hA
      exact ⟨by simp, .inl ⟨r, _, rfl, run_takeDeferred hb, ih k1 hD k2⟩⟩
    | keep _ hM =>
      obtain ⟨g, n, cap, hh, hc, rfl⟩ := hD d List.mem_cons_self
      obtain ⟨h1, h2⟩ := hh cap w hc
      refine ⟨by simp, .inr ⟨depth_FR _ _, .func g, cap, g, cap, rfl, by simpa [invoke] using h1, fun _ _ => trivial, h2.mono ?_⟩⟩
      rintro e u' w' ⟨rfl, rfl, rfl⟩
      exact ih hM (fun d' hd' => hD d' (List.mem_cons_of_mem _ hd')) hA
end
end Go.Fw
