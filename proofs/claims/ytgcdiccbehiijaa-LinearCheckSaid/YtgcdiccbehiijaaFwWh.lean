/- The framework, part Wh: one operation of a segment. -/
import Derived.Test.YtgcdiccbehiijaaFwWe
set_option linter.all false
set_option linter.unusedSimpArgs false
set_option linter.unusedVariables false
namespace Go.Fw
mutual
theorem ids_onRefs0 (h : AV → AV) : ∀ x : AV, AV.ids x = [] → AV.onRefs h x = x
  | .agg cs, hx => by simp only [AV.onRefs, idsL_onRefs0 h cs (by simpa [AV.ids] using hx)]
  | .tup cs, hx => by simp only [AV.onRefs, idsL_onRefs0 h cs (by simpa [AV.ids] using hx)]
  | .fn f a b, hx => by
    have : AV.idsL a = [] ∧ AV.idsL b = [] := by simpa [AV.ids] using hx
    simp only [AV.onRefs, idsL_onRefs0 h a this.1, idsL_onRefs0 h b this.2]
  | .iface t v, hx => by simp only [AV.onRefs, ids_onRefs0 h v (by simpa [AV.ids] using hx)]
  | .sr i, hx => by simp [AV.ids] at hx
  | .ss i a b, hx => by simp [AV.ids] at hx
  | .ptr i a, hx => by simp [AV.ids] at hx
  | .ap i a b, hx => by simp [AV.ids] at hx
  | .yl i, hx => by simp [AV.ids] at hx
  | .mp i, hx => by simp [AV.ids] at hx
  | .undef, _ => rfl
  | .k v, _ => rfl
  | .sl t kd r, _ => rfl
  | .ep t r o, _ => rfl
theorem idsL_onRefs0 (h : AV → AV) : ∀ l : List AV, AV.idsL l = [] → AV.onRefsL h l = l
  | [], _ => rfl
  | v :: vs, hx => by
    have : AV.ids v = [] ∧ AV.idsL vs = [] := by simpa [AV.idsL] using hx
    simp only [AV.onRefsL, ids_onRefs0 h v this.1, idsL_onRefs0 h vs this.2]
end
theorem eval_ids0 {σ σ' : St} {g : AV → AV} (ht : σ'.tmps = AV.onRefsL g σ.tmps) (x : Operand) (hx : AV.ids (σ.eval x) = []) : σ'.eval x = σ.eval x := by
  cases x with
  | tmp t =>
    simp only [St.eval] at hx ⊢
    rw [ht, onRefsL_eq, List.getD_eq_getElem?_getD, List.getElem?_map, List.getD_eq_getElem?_getD]
    rw [List.getD_eq_getElem?_getD] at hx
    cases hq : σ.tmps[t]? with
    | none => rfl
    | some v =>
      rw [hq] at hx
      exact ids_onRefs0 g v hx
  | _ => rfl
theorem evals_ids0 {σ σ' : St} {g : AV → AV} (ht : σ'.tmps = AV.onRefsL g σ.tmps) : ∀ xs : List Operand, AV.idsL (xs.map σ.eval) = [] → xs.map σ'.eval = xs.map σ.eval
  | [], _ => rfl
  | x :: xs, hx => by
    have : AV.ids (σ.eval x) = [] ∧ AV.idsL (xs.map σ.eval) = [] := by simpa [AV.idsL] using hx
    simp only [List.map_cons, eval_ids0 ht x this.1, evals_ids0 ht xs this.2]
theorem fkBad_new {σ σ' : St} {g : AV → AV} (ht : σ'.tmps = AV.onRefsL g σ.tmps) {o : Oper} (hb : fkBad .new σ o = false) : fkBad .new σ' o = false := by
  unfold fkBad at hb ⊢
  simp only at hb ⊢
  split
  · rename_i c args ats hop
    rw [hop] at hb
    simp only [Bool.not_eq_false', List.isEmpty_iff] at hb ⊢
    rw [evals_ids0 ht _ hb]; exact hb
  · rfl
theorem splitV_some {β : Type} {sp : Bool} {v : AV} {K : AV → Option β} {res : β} (h : splitV sp v K = some res) : K v = some res := by
  unfold splitV at h
  split at h
  · rename_i b
    cases b <;> exact h
  · exact h
def FStep (C : Ctx) (ops : Array Oper) (rid N i slot : Nat) (o : Oper) (σ σ' : St) (fp : Fp) : Prop :=
  look2 C.ann.pre rid i = [] ∧
  ((guardOf ops.toList σ o = some true ∧ ∃ fk v, calmOp C σ o = some (fk, some (true, v)) ∧ σ' = σ.put o.dst v ∧ fp = fpOf ops N slot fk o σ σ σ' v) ∨
   (guardOf ops.toList σ o = some false ∧ σ' = σ.put o.dst (.k undef) ∧ fp = fpOf ops N slot .pure o σ σ σ' (.k undef)) ∨
   (guardOf ops.toList σ o = some true ∧ ∃ σ1 v, fkBad (fkind C.sig o.op) σ o = false ∧ exec1 C (keepIf (fkind C.sig o.op) N σ) o = some (true, σ1, v) ∧
     σ' = stepIf (fkind C.sig o.op) N slot o.dst σ1 v ∧ fp = fpOf ops N slot (fkind C.sig o.op) o (keepIf (fkind C.sig o.op) N σ) σ1 σ' v))
theorem evSeg_cons {C : Ctx} {ops : Array Oper} {rid N : Nat} {o : Oper} {rest : List Oper} {i slot : Nat} {σ : St} {fps : List Fp} {K : St → List Fp → Option Res} {res : Res}
    (h : evSeg C ops rid N (o :: rest) i slot σ fps K = some res) : ∃ σ' fp, FStep C ops rid N i slot o σ σ' fp ∧ evSeg C ops rid N rest (i + 1) (slot + 1) σ' (fps ++ [fp]) K = some res := by
  unfold evSeg at h
  cases hp : (look2 C.ann.pre rid i).isEmpty with
  | false => rw [hp] at h; cases h
  | true =>
    rw [hp] at h
    have hp' : look2 C.ann.pre rid i = [] := by simpa using hp
    simp only [Bool.not_true, cond_false] at h
    cases hg : guardOf ops.toList σ o with
    | none => rw [hg] at h; cases h
    | some g =>
      rw [hg] at h
      cases g with
      | false => exact ⟨_, _, ⟨hp', .inr (.inl ⟨hg, rfl, rfl⟩)⟩, h⟩
      | true =>
        simp only [cond_true] at h
        cases hcalm : calmOp C σ o with
        | some q =>
          obtain ⟨fk, r⟩ := q
          rw [hcalm] at h
          simp only at h
          cases r with
          | none => cases h
          | some cv =>
            obtain ⟨c, v⟩ := cv
            cases c with
            | false => simp [under] at h
            | true =>
              simp only [under, cond_true] at h
              have h2 := splitV_some h
              rw [forceSt_eq] at h2
              exact ⟨_, _, ⟨hp', .inl ⟨hg, fk, v, hcalm, rfl, rfl⟩⟩, h2⟩
        | none =>
        rw [hcalm] at h
        simp only at h
        cases hb : fkBad (fkind C.sig o.op) σ o with
        | true => rw [hb] at h; cases h
        | false =>
          rw [hb] at h
          simp only [cond_false] at h
          cases hx : exec1 C (bif (fkind C.sig o.op).isNew then σ.keep (List.range N) else σ) o with
          | none => rw [hx] at h; cases h
          | some r =>
            obtain ⟨c, σ1, v⟩ := r
            rw [hx] at h
            simp only at h
            cases c with
            | false => simp [under] at h
            | true =>
              simp only [under, cond_true] at h
              have h2 := splitV_some h
              rw [forceSt_eq] at h2
              exact ⟨_, _, ⟨hp', .inr (.inr ⟨hg, σ1, v, hb, hx, rfl, rfl⟩)⟩, h2⟩
theorem guardOf_map {ops : List Oper} {σ τ : St} {o : Oper} {g : AV → AV} (ht : τ.tmps = AV.onRefsL g σ.tmps) {b : Bool} (h : guardOf ops σ o = some b) : guardOf ops τ o = some b := by
  unfold guardOf at h ⊢
  split at h
  · exact h
  · rename_i j want hg
    split at h
    · rename_i og hj
      split at h
      · rename_i d hd
        rw [ht, getD_onRefsL]
        split at h
        · rename_i x hx; rw [hx]; exact h
        · rename_i vs hx; rw [hx]; exact h
        · cases h
      · cases h
    · cases h
theorem eff_uniq {fk : Fk} {o : Oper} {σ τ : St} {e e' : Eff} {v : AV} (h : EffOk fk o σ e v) (h' : EffOk fk o σ e' v) (he : e.on σ = e'.on σ) (hl : τ.st.length = σ.st.length) : e.on τ = e'.on τ := by
  have hlen : (e.on σ).st.length = (e'.on σ).st.length := by rw [he]
  have hset : ∀ {l : List AObj} {i : Nat} {a b : AObj}, l.set i a = l.set i b → ∀ {m : List AObj}, m.length = l.length → m.set i a = m.set i b := fun {l i a b} hab {m} hm => by
    rcases Nat.lt_or_ge i l.length with hi | hi
    · have := congrArg (fun x => x[i]?) hab
      simp only [List.getElem?_set_self hi, Option.some.injEq] at this
      rw [this]
    · rw [List.set_eq_of_length_le (by omega), List.set_eq_of_length_le (by omega)]
  have hnew : ∀ {a b : AObj}, (Eff.new a).on σ = (Eff.new b).on σ → (Eff.new a).on τ = (Eff.new b).on τ := fun {a b} hab => by
    have := congrArg St.st hab
    simp only [Eff.on, St.new, List.append_cancel_left_eq, List.cons.injEq, and_true] at this
    rw [this]
  have hwr : ∀ {i : Nat} {a b : AObj}, (Eff.write i a).on σ = (Eff.write i b).on σ → (Eff.write i a).on τ = (Eff.write i b).on τ := fun {i a b} hab => by
    have := congrArg St.st hab
    simp only [Eff.on] at this ⊢
    rw [hset this hl]
  have hown : ∀ {i : Nat} {a b : AObj}, (Eff.own i a).on σ = (Eff.own i b).on σ → (Eff.own i a).on τ = (Eff.own i b).on τ := fun {i a b} hab => by
    have := congrArg St.st hab
    simp only [Eff.on] at this ⊢
    rw [hset this (by simp [St.scrub, hl])]
  cases fk
  case new =>
    obtain ⟨a, rfl⟩ := h
    obtain ⟨b, rfl⟩ := h'
    exact hnew he
  case store =>
    obtain ⟨i, a, rfl, h1⟩ := h
    obtain ⟨j, b, rfl, h2⟩ := h'
    rw [h1] at h2
    injection h2 with h2
    subst h2
    exact hwr he
  case app =>
    rw [Eff.on_len, Eff.on_len] at hlen
    rcases h with ⟨a, rfl⟩ | ⟨i, a, rfl, h1⟩ | ⟨i, a, p, q, rfl, h1⟩ <;> rcases h' with ⟨b, rfl⟩ | ⟨j, b, rfl, h2⟩ | ⟨j, b, r, s, rfl, h2⟩ <;> simp only at hlen <;> first | omega | skip
    · exact hnew he
    · rw [h1] at h2; injection h2 with h2; subst h2; exact hown he
    · rw [h1] at h2; cases h2
    · rw [h1] at h2; cases h2
    · rw [h1] at h2; injection h2 with h2; subst h2; exact hwr he
  all_goals (have e1 : e = .none := h; have e2 : e' = .none := h'; rw [e1, e2])
structure Seg1 (P : Program) (C : Ctx) (ops : Array Oper) (N i slot : Nat) (o : Oper) (σ σ' : St) (fp : Fp) (A : Ap) (fk : Fk) : Prop where
  on : (σ'.tmps, σ'.st) = A.on (σ.tmps, σ.st)
  len : σ'.st.length = N
  dst : A.dst = o.dst
  fdst : fp.dst = o.dst
  v : A.v = fp.v
  w : A.w = fp.w.map fun i => (i, fp.o)
  scr : Scr fp.scr N A.g
  fix : fp.fix = true → A.g = fun r => r
  view : Vw C.T N ops fk o fp σ
  tells : Tells N ops fk o fp
  ldst : fk = .load → o.dst ≠ none
  mv : ∀ m ∈ σ.moved, m ∈ σ'.moved
  run : ∀ (B : Base) (x : St), B.m ≤ slot → x.st.length = N → Vw C.T N ops fk o fp x → ∀ a w, At C.T B x a w → ∀ (Q : Exit → Act → World → Prop) (K : Act → World → Prop),
    (∀ a' w' x', x'.st.length = N → (x'.tmps, x'.st) = A.on (x.tmps, x.st) → (∀ m ∈ x'.moved, m ∈ x.moved ∨ m ∈ σ'.moved) → At C.T B x' a' w' → K a' w') → wpOpIn (FR B.ro) 0 P ops Q i K a w
theorem set_getD {l l' : List AObj} {id : Nat} {o : AObj} (h : l.length = l'.length) : l.set id ((l'.set id o).getD id .dead) = l.set id o := by
  rcases Nat.lt_or_ge id l'.length with h1 | h1
  · rw [List.getD_eq_getElem?_getD, List.getElem?_set_self h1]; rfl
  · rw [List.set_eq_of_length_le (by omega), List.set_eq_of_length_le (by omega)]
def Eff.isNew : Eff → Bool
  | .new _ => true
  | _ => false
def Eff.wId (slot : Nat) : Eff → Option Nat
  | .none => Option.none
  | .new _ => some slot
  | .write id _ => some id
  | .own id _ => some id
theorem wOf_eff {fk : Fk} {o : Oper} {σ : St} {e : Eff} {v : AV} (slot : Nat) (heff : EffOk fk o σ e v) : wOf e.isNew slot fk o.op σ v = e.wId slot := by
  cases fk
  case new => obtain ⟨o', rfl⟩ := heff; rfl
  case store => obtain ⟨id, o', rfl, h2⟩ := heff; exact h2
  case app =>
    rcases heff with ⟨o', rfl⟩ | ⟨id, o', rfl, rfl⟩ | ⟨id, o', a, n, rfl, rfl⟩ <;> rfl
  all_goals (have e1 : e = .none := heff; rw [e1]; rfl)
theorem scrOf_eff {fk : Fk} {o : Oper} {σ : St} {e : Eff} {v : AV} (slot : Nat) (heff : EffOk fk o σ e v) : scrOf e.isNew slot fk v = effScr slot e := by
  cases fk
  case new => obtain ⟨o', rfl⟩ := heff; rfl
  case store => obtain ⟨id, o', rfl, h2⟩ := heff; rfl
  case app =>
    rcases heff with ⟨o', rfl⟩ | ⟨id, o', rfl, rfl⟩ | ⟨id, o', a, n, rfl, rfl⟩ <;> rfl
  all_goals (have e1 : e = .none := heff; rw [e1]; rfl)
theorem seg1_of {P : Program} {C : Ctx} (hT : TabOk P C.T) (hC : CallOk P C) {ops : Array Oper} {rid N i slot : Nat} {o : Oper} (hi : ops[i]? = some o) {σ σ' : St} {fp : Fp} {fk : Fk} {e : Eff} {v : AV}
    (hl : σ.st.length = N) (hs : slot < N) (hp : look2 C.ann.pre rid i = []) (hne : ∀ o, e = .new o → fk.isNew = true)
    (hσ' : σ' = stepIf fk N slot o.dst (e.on (keepIf fk N σ)) v) (hfp : fp = fpOf ops N slot fk o (keepIf fk N σ) (e.on (keepIf fk N σ)) σ' v)
    (heff : EffOk fk o (keepIf fk N σ) e v) (hno : fk ≠ .no) (hld0 : fk = .load → o.dst ≠ none)
    (hld : fk = .load → ∀ t a, o.op = .load t a → aload C.T (keepIf fk N σ) t ((keepIf fk N σ).eval a) = some v)
    (hrun : ∀ x, x.st.length = N → Vw C.T N ops fk o fp x → ∀ (B : Base) a w, At C.T B (keepIf fk N x) a w → ∀ (Q : Exit → Act → World → Prop) (K : Act → World → Prop),
      (∀ a' w', At C.T B ((e.on (keepIf fk N x)).put o.dst v) a' w' → K a' w') → wpOpIn (FR B.ro) 0 P ops Q i K a w) :
    ∃ A, Seg1 P C ops N i slot o σ σ' fp A fk := by
  have hk0 : (keepIf fk N σ).st.length = N := by rw [keepIf_eq hl]; simpa using hl
  have hon := mkAp_on (fk := fk) (N := N) (slot := slot) (dst := o.dst) (e := e) (v := v) hl hs hne
  rw [← hσ'] at hon
  have hblt : Nat.blt N (N + 1) = true := by simp [Nat.blt]
  have hblt2 : Nat.blt N N = false := by
    cases hb : Nat.blt N N with
    | false => rfl
    | true => exact absurd (Nat.blt_eq ▸ hb : N < N) (Nat.lt_irrefl _)
  have hgrew : grewOf N fk (e.on (keepIf fk N σ)) = e.isNew := by
    unfold grewOf
    rw [Eff.on_len, hk0]
    cases e with
    | new o' => simp [hne o' rfl, hblt, Eff.isNew]
    | _ => simp [hblt2, Eff.isNew]
  have fv : fp.v = (mkAp fk N slot o.dst e v).v := by
    rw [hfp]
    change (bif grewOf N fk (e.on (keepIf fk N σ)) then _ else _) = _
    rw [hgrew]
    cases e <;> rfl
  have fw : fp.w = (mkAp fk N slot o.dst e v).w.map Prod.fst := by
    rw [hfp]
    change wOf _ _ _ _ _ _ = _
    rw [hgrew, wOf_eff slot heff]
    cases e <;> rfl
  have fscr : fp.scr = effScr slot e := by
    rw [hfp]
    change scrOf _ _ _ _ = _
    rw [hgrew, scrOf_eff slot heff]
  have fo : ∀ i, fp.w = some i → fp.o = σ'.st.getD i .dead := fun i hi => by
    rw [hfp] at hi ⊢
    change wOf _ _ _ _ _ _ = _ at hi
    change (match wOf _ _ _ _ _ _ with | some i => σ'.st.getD i .dead | none => .dead) = _
    rw [hi]
  have ftouch : fk ≠ .load → fp.touch.map (fun i => (keepIf fk N σ).st.getD i .dead) = fp.tobj := fun hf => by
    rw [hfp]
    cases fk <;> first | rfl | (exact absurd rfl hf)
  refine ⟨{ mkAp fk N slot o.dst e v with w := fp.w.map fun i => (i, fp.o) }, ?_⟩
  have hAon : ∀ x : St, x.st.length = N → ({ mkAp fk N slot o.dst e v with w := fp.w.map fun i => (i, fp.o) } : Ap).on (x.tmps, x.st) = (mkAp fk N slot o.dst e v).on (x.tmps, x.st) := fun x hx => by
    simp only [Ap.on, Prod.mk.injEq]
    refine ⟨rfl, ?_⟩
    simp only [Ap.st]
    cases hw : (mkAp fk N slot o.dst e v).w with
    | none => rw [fw, hw]; rfl
    | some d =>
      obtain ⟨id, o'⟩ := d
      have h1 : fp.w = some id := by rw [fw, hw]; rfl
      rw [h1]
      simp only [Option.map_some]
      rw [fo id h1]
      have h2 : σ'.st = (σ.st.map (AObj.onRefs (mkAp fk N slot o.dst e v).g)).set id o' := by
        have := (Prod.mk.inj hon.1).2
        rw [← this]; simp only [Ap.st, hw]
      rw [h2]
      exact set_getD (by simp [hx, hl])
  refine
    { on := ?_, len := hon.2.1, dst := ?_, fdst := by rw [hfp]; rfl, v := fv.symm, w := rfl, scr := ?_, fix := ?_, view := ⟨by rw [hfp]; rfl, fun hf t a hop => ?_, ftouch⟩, tells := ?_, ldst := hld0, mv := ?_, run := ?_ }
  · rw [hAon σ hl]; exact hon.1.symm
  · cases e <;> rfl
  · rw [fscr]; exact mkAp_scr hne
  · intro hfix
    rw [hfp] at hfix
    have hnn : fk.isNew = false := by
      change (!fk.isNew) = true at hfix
      simpa using hfix
    have hg : gOf fk N = fun r => r := by unfold gOf; rw [hnn]; rfl
    cases e with
    | none => exact hg
    | write id o' => exact hg
    | own id o' =>
      cases fk <;> simp only [EffOk] at heff <;> first | (cases heff; done) | (exact absurd rfl hno) | (cases hnn; done) | skip
      obtain ⟨id', o'', h, h2⟩ := heff; cases h
    | new o' => rw [hne o' rfl] at hnn; cases hnn
  · have : fp.v = v := by
      rw [fv]
      cases e with
      | new o' => rw [hf] at heff; cases heff
      | _ => rfl
    rw [this]; exact hld hf t a hop
  · intro hf t a hop y hy j hj
    have hopv : fp.opv = (o.looksAt ops).map fun t => (keepIf fk N σ).tmps.getD t .undef := by rw [hfp]; rfl
    have hev : y.eval a = (keepIf fk N σ).eval a := eval_same (ops := ops) (o := o) (map_mem_eq (hy.trans hopv)) (by rw [hop]; simp [Op.operands])
    rw [hev] at hj
    rw [hfp]
    subst hf
    exact List.mem_flatMap.2 ⟨a, by rw [hop]; simp [Op.operands], hj⟩
  · intro m hm
    rw [hon.2.2]
    cases e with
    | own id o' =>
      simp only
      cases σ.moved.elem id
      · exact List.mem_cons_of_mem _ hm
      · exact hm
    | _ => exact hm
  · intro B x hB hx hv a w hA Q K hK
    have hon' := mkAp_on (fk := fk) (N := N) (slot := slot) (dst := o.dst) (e := e) (v := v) hx hs hne
    have hA0 : At C.T B (keepIf fk N x) a w := by
      unfold keepIf
      cases fk.isNew
      · exact hA
      · exact hA.keep _ List.nodup_range (fun i hi => List.getElem?_range (by omega)) (by rw [List.length_range]; omega)
    refine hrun x hx hv B a w hA0 Q K fun a' w' hA' => hK a' w' (stepIf fk N slot o.dst (e.on (keepIf fk N x)) v) hon'.2.1 ?_ ?_ ?_
    · rw [hAon x hx]; exact hon'.1.symm
    · intro m hm
      rw [hon'.2.2] at hm
      rw [hon.2.2]
      cases e with
      | own id o' =>
        simp only at hm ⊢
        have hid : m ∈ x.moved ∨ m = id := by
          cases h : x.moved.elem id <;> rw [h] at hm
          · rcases List.mem_cons.1 hm with h | h
            · exact .inr h
            · exact .inl h
          · exact .inl hm
        rcases hid with h | rfl
        · exact .inl h
        · right
          cases h : σ.moved.elem m
          · exact List.mem_cons_self
          · simpa using h
      | _ => exact .inl hm
    · unfold stepIf
      cases (fk.isNew && Nat.blt N (e.on (keepIf fk N x)).st.length)
      · exact hA'
      · exact hA'.keep _ range_set_nodup (fun i hi => getElem?_range_set (by omega) (by omega)) (by rw [List.length_set, List.length_range]; omega)
theorem seg1_ok {P : Program} {C : Ctx} (hT : TabOk P C.T) (hC : CallOk P C) {ops : Array Oper} {rid N i slot : Nat} {o : Oper} (hi : ops[i]? = some o) {σ σ' : St} {fp : Fp}
    (hl : σ.st.length = N) (hs : slot < N) (h : FStep C ops rid N i slot o σ σ' fp) : ∃ A fk, Seg1 P C ops N i slot o σ σ' fp A fk := by
  obtain ⟨hp, ⟨hg, fk, v, hcalm, h1, h2⟩ | ⟨hg, h1, h2⟩ | ⟨hg, σ1, v, hb, hx, h1, h2⟩⟩ := h
  · -- a literal that is a value, or a call that looks
    unfold calmOp at hcalm
    cases hvd : valD C.ann o with
    | true =>
      rw [hvd] at hcalm
      simp only [cond_true, Option.some.injEq, Prod.mk.injEq] at hcalm
      obtain ⟨rfl, hlit⟩ := hcalm
      have hlit := Ab.ok_some hlit
      have hst : ∀ x : St, stepIf .pure N slot o.dst x v = x.put o.dst v := fun x => rfl
      obtain ⟨A, hA⟩ := seg1_of (fk := .pure) (e := .none) (v := v) (σ := σ) (σ' := σ') (fp := fp) (rid := rid) hT hC hi hl hs hp (fun o h => by cases h) h1 (by rw [h2]; rfl) rfl (by simp) (fun h => by cases h) (fun h => by cases h) (fun x hx hv B a w hA Q K hK => by
        have hlk : ∀ t ∈ o.looksAt ops, x.tmps.getD t .undef = σ.tmps.getD t .undef := by
          have h3 := hv.tm
          rw [h2] at h3
          exact map_mem_eq h3
        have hev : ∀ y ∈ o.op.operands.toList, x.eval y = σ.eval y := fun y hy => eval_same hlk hy
        have hlx : litOf C.T x o.op = some v := by
          rw [← hlit]
          cases hop : o.op with
          | buildSlice t len parts =>
            have e : parts.toList.map (fun p => (p.1, x.eval p.2)) = parts.toList.map (fun p => (p.1, σ.eval p.2)) :=
              List.map_congr_left fun p hp => by rw [hev p.2 (by rw [hop]; simp [Op.operands]; exact ⟨p.1, by simpa using hp⟩)]
            simp only [litOf, e]
          | _ => rfl
        exact lit1_ok hT hi (by rw [guardOf_congr hlk, hg]) hlx hA hK)
      exact ⟨A, _, hA⟩
    | false =>
      rw [hvd] at hcalm
      simp only [cond_false] at hcalm
      split at hcalm
      · rename_i hfk
        simp only [Option.some.injEq, Prod.mk.injEq] at hcalm
        obtain ⟨rfl, hac⟩ := hcalm
        obtain ⟨A, hA⟩ := seg1_of (fk := .calls) (e := .none) (v := v) (σ := σ) (σ' := σ') (fp := fp) (rid := rid) hT hC hi hl hs hp (fun o h => by cases h) h1 (by rw [h2]; rfl) rfl (by simp) (fun h => by cases h) (fun h => by cases h) (fun x hxl hv B a w hA Q K hK => by
          have hlk : ∀ t ∈ o.looksAt ops, x.tmps.getD t .undef = σ.tmps.getD t .undef := by
            have h3 := hv.tm
            rw [h2] at h3
            exact map_mem_eq h3
          have hev : ∀ y ∈ o.op.operands.toList, x.eval y = σ.eval y := fun y hy => eval_same hlk hy
          have hob := hv.ob (by simp)
          rw [h2] at hob
          have hsa : SameAt (callTouch o.op σ) σ x := fun i hi' => map_mem_eq hob i hi'
          have hax : acallS C x o.op = some (true, v) := by rw [acallS_at (by omega) hev hsa]; exact hac
          refine step1_ok (rid := rid) hT hC hi ?_ hA hK
          unfold step1
          have hk : keepIf .calls N x = x := rfl
          rw [hk, guardOf_congr hlk, hg, hp]
          simp only [St.weaks]
          rw [acallS_exec1 hax]
          rfl)
        exact ⟨A, _, hA⟩
      · cases hcalm
  · have hk : ∀ x : St, keepIf .pure N x = x := fun x => rfl
    have hst : ∀ x : St, stepIf .pure N slot o.dst x (.k undef) = x.put o.dst (.k undef) := fun x => rfl
    obtain ⟨A, hA⟩ := seg1_of (fk := .pure) (e := .none) (v := .k undef) (σ := σ) (σ' := σ') (fp := fp) (rid := rid) hT hC hi hl hs hp (fun o h => by cases h) h1 (by rw [h2]; rfl) rfl (by simp) (fun h => by cases h) (fun h => by cases h) (fun x hx hv B a w hA Q K hK => by
      have hlk : ∀ t ∈ o.looksAt ops, x.tmps.getD t .undef = σ.tmps.getD t .undef := by
        have h3 := hv.tm
        rw [h2] at h3
        exact map_mem_eq h3
      refine step1_ok (rid := rid) hT hC hi ?_ hA hK
      unfold step1
      rw [hk, guardOf_congr hlk, hg]
      rfl)
    exact ⟨A, _, hA⟩
  · generalize hfk : fkind C.sig o.op = fk at *
    have hbb : ∀ y : St, (∃ g, y.tmps = AV.onRefsL g σ.tmps) → (fk ≠ .call ∨ y = σ) → fkBad fk y o = false := fun y ⟨g, hg⟩ hy => by
      rcases hy with hy | rfl
      · cases fk <;> first | rfl | (exact absurd rfl hy) | exact hb | (cases hb; done) | exact fkBad_new hg hb
      · exact hb
    have hb0 : fkBad fk (keepIf fk N σ) o = false := hbb _ ⟨_, by rw [keepIf_eq hl]⟩ (by
      cases fk <;> first | exact .inr rfl | exact .inl (by simp))
    have hself : ObjView C.T (fkind C.sig o.op) o (keepIf fk N σ) (keepIf fk N σ) := by
      rw [hfk]
      cases fk <;> simp only [ObjView] <;> first | (intro _ _; rfl) | (intro _ _ _; rfl) | (intro _ _ _; trivial) | trivial
    obtain ⟨e, he, h3, _⟩ := exec1_at hC (σ := keepIf fk N σ) (τ := keepIf fk N σ) rfl (fun _ _ => rfl) (by rw [hfk]; exact hb0) hself hx
    rw [hfk] at he
    have hno : fk ≠ .no := fun h => by rw [h] at hb; cases hb
    have hne : ∀ o', e = .new o' → fk.isNew = true := fun o' ho => by
      subst ho
      cases fk <;> simp only [EffOk] at he <;> first | rfl | (cases he; done) | skip
      obtain ⟨_, _, h, _⟩ := he; cases h
    have hk0 : (keepIf fk N σ).st.length = N := by rw [keepIf_eq hl]; simpa using hl
    obtain ⟨A, hA⟩ := seg1_of (fk := fk) (e := e) (v := v) (σ := σ) (σ' := σ') (fp := fp) (rid := rid) hT hC hi hl hs hp hne (by rw [← h3]; exact h1) (by rw [← h3]; exact h2) he hno (fun hf => by
      subst hf
      intro hd
      rw [show fkBad Fk.load σ o = o.dst.isNone from rfl, hd] at hb
      cases hb) (fun hf t a hop => by
      obtain ⟨dst, op, type, pos, after, guard⟩ := o
      simp only at hop
      subst hop
      simp only [exec1, aop] at hx
      exact (Ab.v_inv hx).2.1) (fun x hxl hv B a w hA Q K hK => by
      have hlk : ∀ t ∈ o.looksAt ops, (keepIf fk N x).tmps.getD t .undef = (keepIf fk N σ).tmps.getD t .undef := by
        have h4 := hv.tm
        rw [h2] at h4
        exact map_mem_eq h4
      have hg0 : guardOf ops.toList (keepIf fk N σ) o = some true := guardOf_map (g := gOf fk N) (by rw [keepIf_eq hl]) hg
      have hev : ∀ y ∈ o.op.operands.toList, (keepIf fk N x).eval y = (keepIf fk N σ).eval y := fun y hy => eval_same hlk hy
      have hx0 : (keepIf fk N x).st.length = (keepIf fk N σ).st.length := by rw [hk0, keepIf_eq hxl]; simpa using hxl
      have hov : ObjView C.T (fkind C.sig o.op) o (keepIf fk N σ) (keepIf fk N x) := by
        rw [hfk]
        have hob := hv.ob
        have hldd := hv.ld
        rw [h2] at hob hldd
        cases fk <;> simp only [ObjView] <;> first | trivial | skip
        · exact fun i hi' => map_mem_eq (hob (by simp)) i hi'
        · intro t a hop
          have h5 := hldd rfl t a hop
          rw [hev a (by rw [hop]; simp [Op.operands])] at h5
          rw [h5]
          obtain ⟨dst, op, type, pos, after, guard⟩ := o
          simp only at hop
          subst hop
          simp only [exec1, aop] at hx
          rw [(Ab.v_inv hx).2.1]
          rfl
        · exact fun i hi' => map_mem_eq (hob (by simp)) i hi'
        · exact fun i hi' => map_mem_eq (hob (by simp)) i hi'
      obtain ⟨e', he', h6, h7⟩ := exec1_at hC (σ := keepIf fk N σ) (τ := keepIf fk N x) hx0 hev (by rw [hfk]; exact hb0) hov hx
      rw [hfk] at he'
      have h8 : e'.on (keepIf fk N x) = e.on (keepIf fk N x) := eff_uniq he' he (h6.symm.trans h3) hx0
      refine step1_ok (rid := rid) hT hC hi ?_ hA hK
      unfold step1
      rw [guardOf_congr hlk, hg0, hp]
      simp only [St.weaks]
      rw [h7, h8])
    exact ⟨A, _, hA⟩
end Go.Fw
set_option linter.unusedSimpArgs false
set_option linter.unusedVariables false
namespace Go.Fw
def Ahead (ops : Array Oper) (i : Nat) (y : Oper) : Prop := ∀ L, Closed ops.toList L → (∀ e ∈ y.after, Region.binds .any e = true → L e.on) → L i
theorem leaves_w {N : Nat} {p q : Fp} (h : p.leaves N q = true) : (∀ a, p.w = some a → a ∉ q.touch) ∧ (∀ a b, p.w = some a → q.w = some b → a ≠ b) := by
  unfold Fp.leaves at h
  rw [Bool.and_eq_true] at h
  obtain ⟨h1, _⟩ := h
  refine ⟨fun a ha => ?_, fun a b ha hb hab => ?_⟩
  · rw [ha] at h1
    simp only [Bool.and_eq_true, Bool.not_eq_true', List.elem_eq_mem, decide_eq_false_iff_not] at h1
    exact h1.1
  · rw [ha, hb] at h1
    simp only [Bool.and_eq_true, Bool.not_eq_true'] at h1
    rw [hab, Nat.beq_refl] at h1
    exact absurd h1.2 (by simp)
theorem stabV_id (v : AV) : StabV (fun r => r) v := by
  refine ⟨onRefs_id v, fun v' h => ?_⟩
  rw [onRefs_id] at h; exact h
theorem stabO_id (o : AObj) : StabO (fun r => r) o := by
  refine ⟨AObj.onRefs_id o, fun v' h => ?_⟩
  rw [AObj.onRefs_id] at h; exact h
theorem stabL_mem {ids : List Nat} {n : Nat} : ∀ {vs : List AV}, AV.stabL ids n vs = true → ∀ v ∈ vs, v.stab ids n = true
  | [], _, v, hv => by cases hv
  | x :: xs, h, v, hv => by
    simp only [AV.stabL, Bool.and_eq_true] at h
    rcases List.mem_cons.1 hv with rfl | hv
    · exact h.1
    · exact stabL_mem h.2 v hv
theorem leaves_stab {N : Nat} {p q : Fp} {g : AV → AV} (h : p.leaves N q = true) (hs : Scr p.scr N g) (hf : p.fix = true → g = fun r => r) :
    (∀ v ∈ q.opv, StabV g v) ∧ (∀ o ∈ q.tobj, StabO g o) ∧ (q.dst ≠ none → StabV g q.v) ∧ (q.w ≠ none → StabO g q.o) := by
  unfold Fp.leaves at h
  rw [Bool.and_eq_true] at h
  obtain ⟨_, h2⟩ := h
  cases hfx : p.fix with
  | true =>
    rw [hf hfx]
    exact ⟨fun v _ => stabV_id v, fun o _ => stabO_id o, fun _ => stabV_id _, fun _ => stabO_id _⟩
  | false =>
    rw [hfx] at h2
    simp only [Bool.false_or, Bool.and_eq_true] at h2
    obtain ⟨k1, k2, k3, k4⟩ := h2
    refine ⟨fun v hv => hs.stab (stabL_mem k1 v hv), fun o ho => hs.stabO (List.all_eq_true.1 k2 o ho), fun hd => ?_, fun hw => ?_⟩
    · cases hq : q.dst with
      | none => exact absurd hq hd
      | some d => rw [hq] at k3; exact hs.stab (by simpa using k3)
    · cases hq : q.w with
      | none => exact absurd hq hw
      | some d => rw [hq] at k4; exact hs.stabO (by simpa using k4)
section
variable {P : Program} {C : Ctx} {B : Base} {ops : Array Oper} {N : Nat} {Q : Exit → Act → World → Prop}
theorem seg_indep {i k s t : Nat} {x y : Oper} {σ1 σ1' σ2 σ2' : St} {p q : Fp} {A A' : Ap} {fk fk' : Fk} (h1 : Seg1 P C ops N i s x σ1 σ1' p A fk) (h2 : Seg1 P C ops N k t y σ2 σ2' q A' fk')
    (hap : x.apart ops y = true) (hpq : p.leaves N q = true) (hqp : q.leaves N p = true) : Indep A A' := by
  obtain ⟨a1, a2, a3⟩ := Oper.apart_spec hap
  obtain ⟨b1, b2, b3, b4⟩ := leaves_stab hpq h1.scr h1.fix
  obtain ⟨c1, c2, c3, c4⟩ := leaves_stab hqp h2.scr h2.fix
  refine ⟨h1.scr.scr, h2.scr.scr, fun d hd => ?_, fun hd => ?_, fun hd => ?_, fun i o j o' hi hj => ?_, fun i o hi => ?_, fun i o hi => ?_⟩
  · rw [h1.dst] at hd; rw [h2.dst]; exact a2 d hd
  · rw [h1.v]; exact (c3 (by rw [h1.fdst, ← h1.dst]; exact hd)).1
  · rw [h2.v]; exact (b3 (by rw [h2.fdst, ← h2.dst]; exact hd)).1
  · rw [h1.w, Option.map_eq_some_iff] at hi
    rw [h2.w, Option.map_eq_some_iff] at hj
    obtain ⟨a, ha, e1⟩ := hi
    obtain ⟨b, hb, e2⟩ := hj
    cases e1; cases e2
    exact (leaves_w hpq).2 _ _ ha hb
  · rw [h1.w, Option.map_eq_some_iff] at hi
    obtain ⟨a, ha, e1⟩ := hi
    cases e1
    exact (c4 (by rw [ha]; simp)).1
  · rw [h2.w, Option.map_eq_some_iff] at hi
    obtain ⟨a, ha, e1⟩ := hi
    cases e1
    exact (b4 (by rw [ha]; simp)).1
theorem seg_view {i k s t : Nat} {x y : Oper} {σ1 σ1' σ2 σ2' : St} {p q : Fp} {A A' : Ap} {fk fk' : Fk} (h1 : Seg1 P C ops N i s x σ1 σ1' p A fk) (h2 : Seg1 P C ops N k t y σ2 σ2' q A' fk')
    (hd : ∀ d, x.dst = some d → d ∉ y.looksAt ops) (hpq : p.leaves N q = true) {z z' : St} (hl : z.st.length = N) (hl' : z'.st.length = N) (hz : (z'.tmps, z'.st) = A.on (z.tmps, z.st)) :
    Vw C.T N ops fk' y q z' ↔ Vw C.T N ops fk' y q z := by
  obtain ⟨b1, b2, b3, b4⟩ := leaves_stab hpq h1.scr h1.fix
  refine Vw.iff hl hl' hz h1.scr.scr (fun d hdd => hd d (by rw [← h1.dst]; exact hdd)) (fun i o' hi => ?_) b1 b2 (fun hf => b3 (by rw [h2.fdst]; exact h2.ldst hf)) h2.tells
  rw [h1.w, Option.map_eq_some_iff] at hi
  obtain ⟨a, ha, e1⟩ := hi
  cases e1
  exact (leaves_w hpq).1 _ ha
theorem keepIf_congr {T : Tab} {fk : Fk} {o : Oper} {fp : Fp} {x x' : St} (ht : x'.tmps = x.tmps) (hs : x'.st = x.st) : Vw T N ops fk o fp x' ↔ Vw T N ops fk o fp x := by
  have e1 : (keepIf fk N x').tmps = (keepIf fk N x).tmps := by unfold keepIf; cases fk.isNew <;> simp [St.keep, ht]
  have e2 : (keepIf fk N x').st = (keepIf fk N x).st := by unfold keepIf; cases fk.isNew <;> simp [St.keep, hs]
  have e3 : ∀ a, (keepIf fk N x').eval a = (keepIf fk N x).eval a := fun a => by cases a <;> simp [St.eval, e1]
  constructor
  · rintro ⟨a, b, c⟩
    refine ⟨by rw [← e1]; exact a, fun hf t a hop => ?_, fun hf => by rw [← e2]; exact c hf⟩
    rw [← e3, ← aload_st e2]; exact b hf t a hop
  · rintro ⟨a, b, c⟩
    refine ⟨by rw [e1]; exact a, fun hf t a hop => ?_, fun hf => by rw [e2]; exact c hf⟩
    rw [e3, aload_st e2]; exact b hf t a hop
structure SegF (P : Program) (C : Ctx) (ops : Array Oper) (N L b n : Nat) (S : Nat → St) (F : Nat → Fp) (A : Nat → Ap) (fk : Nat → Fk) : Prop where
  le : b + n ≤ ops.size
  step : ∀ j o, j < n → ops[b + j]? = some o → Seg1 P C ops N (b + j) (L + j) o (S j) (S (j + 1)) (F j) (A j) (fk j)
  len : (S 0).st.length = N
  back : ∀ j y, ops[j]? = some y → ∀ e ∈ y.after, Region.binds .any e = true → e.on < j
  cross : ∀ j k y, j < n → b + n ≤ k → ops[k]? = some y → Ahead ops (b + j) y
  pair : ∀ j k x y, j < k → k < n → ops[b + j]? = some x → ops[b + k]? = some y →
    Ahead ops (b + j) y ∨ (x.apart ops y = true ∧ (F j).leaves N (F k) = true ∧ (F k).leaves N (F j) = true)
def toSt (c : List AV × List AObj) : St := ⟨c.1, c.2, []⟩
structure MidS (C : Ctx) (B : Base) (ops : Array Oper) (N b n : Nat) (S : Nat → St) (A : Nat → Ap) (listed : Array Bool) (a : Act) (w : World) : Prop where
  size : listed.size = ops.size
  closed : Closed ops.toList (Lst listed)
  before : ∀ i, i < b → Lst listed i
  after : ∀ i, b + n ≤ i → ¬ Lst listed i
  mid : ∃ x : St, x.st.length = N ∧ (x.tmps, x.st) = ((List.range n).filter fun j => listed.getD (b + j) false).foldl (app A) ((S 0).tmps, (S 0).st) ∧ (∀ m ∈ x.moved, m ∈ (S n).moved) ∧ At C.T B x a w
variable {L b n : Nat} {S : Nat → St} {F : Nat → Fp} {A : Nat → Ap} {fk : Nat → Fk}
theorem SegF.get (hF : SegF P C ops N L b n S F A fk) {j : Nat} (hj : j < n) : ∃ o, ops[b + j]? = some o := ⟨_, Array.getElem?_eq_getElem (by have := hF.le; omega)⟩
theorem SegF.canonical (hF : SegF P C ops N L b n S F A fk) : ∀ j, j ≤ n → ((S j).tmps, (S j).st) = (List.range j).foldl (app A) ((S 0).tmps, (S 0).st)
  | 0, _ => rfl
  | j + 1, hj => by
    obtain ⟨o, ho⟩ := hF.get (j := j) (by omega)
    rw [List.range_succ, List.foldl_append, ← hF.canonical j (by omega)]
    exact (hF.step j o (by omega) ho).on
theorem SegF.moved (hF : SegF P C ops N L b n S F A fk) : ∀ (d j : Nat), j + d = n → ∀ m ∈ (S j).moved, m ∈ (S n).moved
  | 0, j, h, m, hm => by rw [← h]; exact hm
  | d + 1, j, h, m, hm => by
    obtain ⟨o, ho⟩ := hF.get (j := j) (by omega)
    exact hF.moved d (j + 1) (by omega) m ((hF.step j o (by omega) ho).mv m hm)
theorem SegF.fold_len (hF : SegF P C ops N L b n S F A fk) : ∀ (l : List Nat) (c : List AV × List AObj), c.2.length = N → (l.foldl (app A) c).2.length = N
  | [], c, h => h
  | j :: l, c, h => by
    refine hF.fold_len l _ ?_
    simp only [app, Ap.on, Ap.st]
    split <;> simpa using h
theorem SegF.fold_view (hF : SegF P C ops N L b n S F A fk) {i : Nat} {o : Oper} (hi : i < n) (ho : ops[b + i]? = some o) : ∀ (l : List Nat) (c : List AV × List AObj), c.2.length = N →
    (∀ k ∈ l, k < n ∧ ∀ x, ops[b + k]? = some x → (∀ d, x.dst = some d → d ∉ o.looksAt ops) ∧ (F k).leaves N (F i) = true) →
    (Vw C.T N ops (fk i) o (F i) (toSt (l.foldl (app A) c)) ↔ Vw C.T N ops (fk i) o (F i) (toSt c))
  | [], c, _, _ => Iff.rfl
  | k :: l, c, hc, h => by
    obtain ⟨hk, h2⟩ := h k List.mem_cons_self
    obtain ⟨x, hx⟩ := hF.get hk
    obtain ⟨h3, h4⟩ := h2 x hx
    have hlen : (app A c k).2.length = N := hF.fold_len [k] c hc
    refine (hF.fold_view hi ho l (app A c k) hlen fun k' hk' => h k' (List.mem_cons_of_mem _ hk')).trans ?_
    exact seg_view (hF.step k x hk hx) (hF.step i o hi ho) h3 h4 (z := toSt c) (z' := toSt (app A c k)) hc hlen rfl
theorem range_split {n i : Nat} (h : i < n) : List.range n = List.range i ++ i :: (List.range' (i + 1) (n - (i + 1))) := by
  have h1 : n = i + ((n - (i + 1)) + 1) := by omega
  have h2 : List.range n = List.range' 0 n := List.range_eq_range'
  rw [h2, List.range_eq_range']
  conv => lhs; rw [h1, ← List.range'_append_1]
  simp [List.range'_succ]
theorem midS_step (hm : B.m ≤ L) (hF : SegF P C ops N L b n S F A fk) {listed : Array Bool} {a : Act} {w : World} (hM : MidS C B ops N b n S A listed a w) {i : Nat} (hi : i ∈ Region.ready .any ops listed)
    (hnc : ∃ j, j < n ∧ ¬ Lst listed (b + j)) :
    wpOpIn (FR B.ro) 0 P ops Q i (fun a' w' => MidS C B ops N b n S A (listed.setIfInBounds i true) a' w') a w := by
  obtain ⟨hun, o, ho, hed⟩ := mem_ready.1 hi
  obtain ⟨hisz, hnL⟩ := not_Lst hun
  obtain ⟨hsize, hcl, hbef, haft, x, hxl, hxf, hxm, hA⟩ := hM
  have hin : i < ops.size := hsize ▸ hisz
  have hL' : ∀ j, Lst (listed.setIfInBounds i true) j ↔ j = i ∨ Lst listed j := fun j => Lst_set hisz
  have hib : b ≤ i := by
    rcases Nat.lt_or_ge i b with h | h
    · exact absurd (hbef i h) hnL
    · exact h
  have hie : i < b + n := by
    rcases Nat.lt_or_ge i (b + n) with h | h
    · exact h
    · obtain ⟨j, hj, hjn⟩ := hnc
      exact absurd (hF.cross j i o hj h ho _ hcl hed) hjn
  obtain ⟨i0, rfl⟩ : ∃ i0, i = b + i0 := ⟨i - b, by omega⟩
  have hi0 : i0 < n := by omega
  have hcl' : Closed ops.toList (Lst (listed.setIfInBounds (b + i0) true)) := fun j oj hj hLj e he hbnd => by
    rcases (hL' j).1 hLj with rfl | h
    · have hj' : ops[b + i0]? = some oj := by simpa using hj
      rw [ho] at hj'; cases hj'
      exact (hL' _).2 (.inr (hed e he hbnd))
    · exact (hL' _).2 (.inr (hcl j oj hj h e he hbnd))
  have hsize' : (listed.setIfInBounds (b + i0) true).size = ops.size := by simpa using hsize
  have ahead : ∀ j, Ahead ops j o → Lst listed j := fun j h => h _ hcl hed
  have behind : ∀ j y, ops[j]? = some y → Ahead ops (b + i0) y → ¬ Lst listed j := fun j y hj h hLj =>
    hnL (h _ hcl (fun e he hbnd => hcl j y (by simpa using hj) hLj e he hbnd))
  let D : Nat → Bool := fun j => listed.getD (b + j) false
  have hD : ∀ j, D j = true ↔ Lst listed (b + j) := fun j => Iff.rfl
  have hx0 : ((S 0).tmps, (S 0).st).2.length = N := hF.len
  have comm : ∀ j k, j < k → k < n → (D j = false) → D k = true → ∀ c, app A (app A c j) k = app A (app A c k) j := fun j k hjk hk hDj hDk c => by
    obtain ⟨xj, hxj⟩ := hF.get (j := j) (by omega)
    obtain ⟨xk, hxk⟩ := hF.get hk
    rcases hF.pair j k xj xk hjk hk hxj hxk with h | ⟨h1, h2, h3⟩
    · exfalso
      have : Lst listed (b + j) := h _ hcl fun e he hbnd => hcl (b + k) xk (by simpa using hxk) hDk e he hbnd
      have := (hD j).2 this
      rw [hDj] at this; cases this
    · exact (seg_indep (hF.step j xj (by omega) hxj) (hF.step k xk hk hxk) h1 h2 h3).comm c
  let y0 := ((List.range i0).filter D).foldl (app A) ((S 0).tmps, (S 0).st)
  have hDi : D i0 = false := by
    cases h : D i0 with
    | false => rfl
    | true => exact absurd ((hD i0).1 h) hnL
  have hxy : (x.tmps, x.st) = ((List.range' (i0 + 1) (n - (i0 + 1))).filter D).foldl (app A) y0 := by
    rw [hxf, range_split hi0, List.filter_append, List.foldl_append, List.filter_cons]
    have h1 : (fun j => listed.getD (b + j) false) = D := rfl
    have h2 : listed.getD (b + i0) false = false := hDi
    rw [h1, h2]
    rfl
  have hSy : ((S i0).tmps, (S i0).st) = ((List.range i0).filter fun j => !D j).foldl (app A) y0 := by
    rw [hF.canonical i0 (by omega)]
    refine fold_split _ _ (List.pairwise_iff_getElem.2 fun p q hp hq hpq => ?_)
    rw [List.length_range] at hp hq
    simp only [List.getElem_range]
    exact fun h1 h2 => comm p q hpq (by omega) h1 h2
  have hy0 : y0.2.length = N := hF.fold_len _ _ hx0
  have hstep := hF.step i0 o hi0 ho
  have hview0 : Vw C.T N ops (fk i0) o (F i0) (toSt y0) := by
    have h1 : Vw C.T N ops (fk i0) o (F i0) (toSt (((List.range i0).filter fun j => !D j).foldl (app A) y0)) := by
      rw [← hSy]
      exact (keepIf_congr (x := S i0) (x' := toSt ((S i0).tmps, (S i0).st)) rfl rfl).2 hstep.view
    refine (hF.fold_view hi0 ho _ y0 hy0 fun k hk => ?_).1 h1
    rw [List.mem_filter, List.mem_range] at hk
    refine ⟨by omega, fun xk hxk => ?_⟩
    rcases hF.pair k i0 xk o hk.1 hi0 hxk ho with h | ⟨h1, h2, h3⟩
    · have := (hD k).2 (ahead _ h)
      rw [this] at hk; simp at hk
    · exact ⟨(Oper.apart_spec h1).1, h2⟩
  have later : ∀ k ∈ (List.range' (i0 + 1) (n - (i0 + 1))).filter D, i0 < k ∧ k < n ∧ D k = true := fun k hk => by
    rw [List.mem_filter, List.mem_range'] at hk
    obtain ⟨⟨d, hd, rfl⟩, h2⟩ := hk
    exact ⟨by omega, by omega, h2⟩
  have hview : Vw C.T N ops (fk i0) o (F i0) x := by
    refine (keepIf_congr (x := toSt (x.tmps, x.st)) (x' := x) rfl rfl).2 ?_
    rw [hxy]
    refine (hF.fold_view hi0 ho _ y0 hy0 fun k hk => ?_).2 hview0
    obtain ⟨k1, k2, k3⟩ := later k hk
    refine ⟨k2, fun xk hxk => ?_⟩
    rcases hF.pair i0 k o xk k1 k2 ho hxk with h | ⟨h1, h2, h3⟩
    · exact absurd ((hD k).1 k3) (behind _ xk hxk h)
    · exact ⟨(Oper.apart_spec h1).2.2, h3⟩
  refine hstep.run B x (by omega) hxl hview a w hA Q _ fun a' w' x' hx'l hx'on hx'm hA' => ⟨hsize', hcl', fun j hj => (hL' j).2 (.inr (hbef j hj)), fun j hj hLj => ?_, x', hx'l, ?_, fun m hm' => ?_, hA'⟩
  · rcases (hL' j).1 hLj with h | h
    · omega
    · exact haft j hj h
  · have hD' : (List.range n).filter (fun j => (listed.setIfInBounds (b + i0) true).getD (b + j) false) = (List.range i0).filter D ++ i0 :: (List.range' (i0 + 1) (n - (i0 + 1))).filter D := by
      rw [range_split hi0, List.filter_append, List.filter_cons]
      have h1 : (listed.setIfInBounds (b + i0) true).getD (b + i0) false = true := (hL' (b + i0)).2 (.inl rfl)
      have h2 : ∀ j, j ≠ i0 → (listed.setIfInBounds (b + i0) true).getD (b + j) false = D j := fun j hj => by
        have : (b + i0) ≠ b + j := by omega
        exact getD_set_ne false this
      rw [h1]
      simp only [if_true]
      congr 1
      · exact List.filter_congr fun j hj => h2 j (by rw [List.mem_range] at hj; omega)
      · congr 1
        exact List.filter_congr fun j hj => h2 j (by
          rw [List.mem_range'] at hj
          obtain ⟨d, _, rfl⟩ := hj
          omega)
    rw [hD', List.foldl_append, List.foldl_cons, hx'on, hxy]
    change (A i0).on _ = _
    refine (fold_move (A := A) _ y0 fun k hk c => ?_).symm
    obtain ⟨k1, k2, k3⟩ := later k hk
    exact comm i0 k k1 k2 hDi k3 c
  · rcases hx'm m hm' with h | h
    · exact hxm m h
    · exact hF.moved (n - (i0 + 1)) (i0 + 1) (by omega) m h
theorem At.more {T : Tab} {x y : St} {a : Act} {w : World} (h : At T B x a w) (ht : y.tmps = x.tmps) (hs : y.st = x.st) (hm : ∀ m ∈ x.moved, m ∈ y.moved) : At T B y a w := by
  obtain ⟨hd, E, Z, h1, h2, h3, h4⟩ := h
  refine ⟨hd, E, Z, ⟨by rw [hs]; exact h1.sr, by rw [ht]; exact h1.tm⟩, by rw [hs]; exact h2, fun i hi hn => h3 i hi fun hh => hn (hm i hh), by rw [hs]; exact h4⟩
theorem midS_end (hF : SegF P C ops N L b n S F A fk) {listed : Array Bool} {a : Act} {w : World} (hM : MidS C B ops N b n S A listed a w) (hall : ∀ j, j < n → Lst listed (b + j)) : At C.T B (S n) a w := by
  obtain ⟨_, _, _, _, x, _, hxf, hxm, hA⟩ := hM
  have : (List.range n).filter (fun j => listed.getD (b + j) false) = List.range n := List.filter_eq_self.2 fun j hj => hall j (by simpa using hj)
  rw [this, ← hF.canonical n (Nat.le_refl _)] at hxf
  simp only [Prod.mk.injEq] at hxf
  exact hA.more hxf.1.symm hxf.2.symm hxm
end
end Go.Fw
set_option linter.unusedSimpArgs false
set_option linter.unusedVariables false
namespace Go.Fw
def pairIn (l : List (Nat × Nat)) (i j : Nat) : Bool := l.any fun p => Nat.beq p.1 i && Nat.beq p.2 j
def segsOk (ps : List Nat) (ops : Array Oper) (pairs : List (Nat × Nat)) : List Nat → Nat → Bool
  | [], _ => true
  | n :: segs, b =>
    Nat.ble (b + n) ops.size &&
    (((List.range' (b + n) (ops.size - (b + n))).all fun k => (List.range' b n).all fun j => inP ps k j) &&
    (((List.range' b n).all fun k => (List.range' b (k - b)).all fun j => inP ps k j ||
      (pairIn pairs j k && match ops[j]?, ops[k]? with | some x, some y => x.apart ops y | _, _ => false)) &&
    segsOk ps ops pairs segs (b + n)))
def drawOk3 (d : List Nat × List (Nat × Nat)) (ops : Array Oper) : Bool :=
  ((List.range ops.size).all fun j => match ops[j]? with
    | none => true
    | some y => y.after.toList.all fun e => !Region.binds .any e || Nat.blt e.on j) &&
  segsOk (prds ops.toList []) ops d.2 d.1 0
theorem evSeg_states {C : Ctx} {ops : Array Oper} {rid N : Nat} {K : St → List Fp → Option Res} {res : Res} : ∀ (os : List Oper) (i slot : Nat) (σ : St) (fps : List Fp),
    evSeg C ops rid N os i slot σ fps K = some res → ∃ (S : Nat → St) (F : Nat → Fp), S 0 = σ ∧ (∀ j o, os[j]? = some o → FStep C ops rid N (i + j) (slot + j) o (S j) (S (j + 1)) (F j)) ∧
      K (S os.length) (fps ++ (List.range os.length).map F) = some res
  | [], i, slot, σ, fps, h => ⟨fun _ => σ, fun _ => ⟨[], [], [], none, .undef, none, .dead, [], true⟩, rfl, by simp, by simpa [evSeg] using h⟩
  | o :: os, i, slot, σ, fps, h => by
    obtain ⟨σ1, fp, h1, h2⟩ := evSeg_cons h
    obtain ⟨S, F, e, hS, hK⟩ := evSeg_states os (i + 1) (slot + 1) σ1 _ h2
    refine ⟨fun n => match n with | 0 => σ | n + 1 => S n, fun n => match n with | 0 => fp | n + 1 => F n, rfl, fun j o' hj => ?_, ?_⟩
    · cases j with
      | zero =>
        simp only [List.getElem?_cons_zero, Option.some.injEq] at hj
        subst hj
        simp only [Nat.add_zero]
        rw [e]; exact h1
      | succ j =>
        rw [List.getElem?_cons_succ] at hj
        have := hS j o' hj
        have e1 : i + (j + 1) = i + 1 + j := by omega
        have e2 : slot + (j + 1) = slot + 1 + j := by omega
        rw [e1, e2]; exact this
    · have e1 : fps ++ (List.range (o :: os).length).map (fun n => match n with | 0 => fp | n + 1 => F n) = fps ++ [fp] ++ (List.range os.length).map F := by
        rw [List.length_cons, List.range_succ_eq_map]
        simp [List.map_map, Function.comp_def]
      rw [e1]; exact hK
section
variable {P : Program} {C : Ctx} {B : Base} {ops : Array Oper} {rid : Nat} {Q : Exit → Act → World → Prop}
theorem At.canon {T : Tab} {σ : St} {a : Act} {w : World} (h : At T B σ a w) : At T B (σ.canon B.m) a w := by
  obtain ⟨hd, E, Z, h1, h2, h3, h4⟩ := h
  obtain ⟨E1, k1, k2, k3, k4⟩ := h1.canon B.m h3
  exact ⟨hd, E1, Z, k1, h2.trans k2, k3, k4⟩
theorem undone_pos {listed : Array Bool} {i : Nat} (hs : listed.size = ops.size) (hi : i < ops.size) (hn : ¬ Lst listed i) : 0 < (undone ops listed).length := by
  refine List.length_pos_of_mem (a := i) (List.mem_filter.2 ⟨List.mem_range.2 hi, ?_⟩)
  have hil : i < listed.size := by omega
  simp only [Lst, Array.getD_eq_getD_getElem?, Array.getElem?_eq_getElem hil, Option.getD_some] at hn ⊢
  simpa using hn
theorem some_ready {listed : Array Bool} (hs : listed.size = ops.size) (hb : ∀ j y, ops[j]? = some y → ∀ e ∈ y.after, Region.binds .any e = true → e.on < j) {i : Nat} (hi : i < ops.size) (hn : ¬ Lst listed i) :
    Region.ready .any ops listed ≠ [] := by
  induction i using Nat.strongRecOn with
  | _ i ih =>
    by_cases h : ∃ j, j < i ∧ ¬ Lst listed j
    · obtain ⟨j, hj, hnj⟩ := h
      exact ih j hj (by omega) hnj
    · intro hr
      have ho : ops[i]? = some ops[i] := Array.getElem?_eq_getElem hi
      have : i ∈ Region.ready .any ops listed := mem_ready.2 ⟨by
        have hil : i < listed.size := by omega
        simp only [Lst, Array.getD_eq_getD_getElem?, Array.getElem?_eq_getElem hil, Option.getD_some] at hn ⊢
        simpa using hn, _, ho, fun e he hbnd => by
          have := hb i _ ho e he hbnd
          exact Classical.byContradiction fun hne => h ⟨e.on, this, hne⟩⟩
      rw [hr] at this; cases this
theorem any_of {fuel : Nat} {listed : Array Bool} {a : Act} {w : World} (hs : listed.size = ops.size) (hb : ∀ j y, ops[j]? = some y → ∀ e ∈ y.after, Region.binds .any e = true → e.on < j)
    {i : Nat} (hi : i < ops.size) (hn : ¬ Lst listed i) (hf : (undone ops listed).length ≤ fuel)
    (h : ∀ f, fuel = f + 1 → ∀ i ∈ Region.ready .any ops listed, (undone ops (listed.setIfInBounds i true)).length ≤ f → wpOpIn (FR B.ro) 0 P ops Q i (fun a' w' => wpAnyIn (FR B.ro) 0 P .any ops Q f (listed.setIfInBounds i true) a' w') a w) :
    wpAnyIn (FR B.ro) 0 P .any ops Q fuel listed a w := by
  have hp := undone_pos hs hi hn
  cases fuel with
  | zero => omega
  | succ f => exact ⟨fun hr => absurd hr (some_ready hs hb hi hn), fun j hj => h f rfl j hj (by have := undone_lt hj; omega)⟩
theorem segsOk_cons {ps : List Nat} {pairs : List (Nat × Nat)} {n b : Nat} {segs : List Nat} (h : segsOk ps ops pairs (n :: segs) b = true) :
    b + n ≤ ops.size ∧ (∀ k j, b + n ≤ k → k < ops.size → b ≤ j → j < b + n → inP ps k j = true) ∧
    (∀ j k x y, b ≤ j → j < k → k < b + n → ops[j]? = some x → ops[k]? = some y → inP ps k j = true ∨ (pairIn pairs j k = true ∧ x.apart ops y = true)) ∧
    segsOk ps ops pairs segs (b + n) = true := by
  simp only [segsOk, Bool.and_eq_true] at h
  obtain ⟨h1, h2, h3, h4⟩ := h
  refine ⟨Nat.le_of_ble_eq_true h1, fun k j hk hks hj hjn => ?_, fun j k x y hj hjk hk hx hy => ?_, h4⟩
  · have h5 := List.all_eq_true.1 h2 k (List.mem_range'_1.2 ⟨hk, by omega⟩)
    exact List.all_eq_true.1 h5 j (List.mem_range'_1.2 ⟨hj, hjn⟩)
  · have h5 := List.all_eq_true.1 h3 k (List.mem_range'_1.2 ⟨by omega, hk⟩)
    have h6 := List.all_eq_true.1 h5 j (List.mem_range'_1.2 ⟨hj, by omega⟩)
    rcases Bool.or_eq_true _ _ ▸ h6 with h7 | h7
    · exact .inl h7
    · rw [Bool.and_eq_true] at h7
      simp only [hx, hy] at h7
      exact .inr h7
theorem fpairs_get {N b n : Nat} {F : Nat → Fp} {pairs : List (Nat × Nat)} (h : fpairs N ((List.range n).map F) b pairs = true) {j k : Nat} (hjk : j < k) (hk : k < n) (hp : pairIn pairs (b + j) (b + k) = true) :
    (F j).leaves N (F k) = true ∧ (F k).leaves N (F j) = true := by
  unfold pairIn at hp
  obtain ⟨⟨p, q⟩, hm, he⟩ := List.any_eq_true.1 hp
  simp only [Bool.and_eq_true] at he
  have e1 : p = b + j := Nat.eq_of_beq_eq_true he.1
  have e2 : q = b + k := Nat.eq_of_beq_eq_true he.2
  subst e1; subst e2
  have h1 := List.all_eq_true.1 h _ hm
  have h2 : Nat.ble b (b + j) = true := Nat.ble_eq ▸ (by omega : b ≤ b + j)
  have h3 : Nat.blt (b + j) (b + n) = true := Nat.blt_eq ▸ (by omega : b + j < b + n)
  simp only [List.length_map, List.length_range, h2, h3, Bool.and_self, cond_true] at h1
  have e3 : ((List.range n).map F)[b + j - b]? = some (F j) := by
    have : b + j - b = j := by omega
    rw [this, List.getElem?_map, List.getElem?_range (by omega)]; rfl
  have e4 : ((List.range n).map F)[b + k - b]? = some (F k) := by
    have : b + k - b = k := by omega
    rw [this, List.getElem?_map, List.getElem?_range (by omega)]; rfl
  rw [e3, e4] at h1
  simpa using h1
end
theorem putAt_len {α : Type} (r vs : List α) (off : Nat) (h : off + vs.length ≤ r.length) : (r.take off ++ vs ++ r.drop (off + vs.length)).length = r.length := by
  simp; omega
theorem putAt_comm {r vs us : List AV} {o p : Nat} (ho : o + vs.length ≤ r.length) (hp : p + us.length ≤ r.length) (h : o + vs.length ≤ p ∨ p + us.length ≤ o) :
    putAt (putAt r o vs) p us = putAt (putAt r p us) o vs := by
  apply List.ext_getElem?
  intro k
  unfold putAt
  rw [seg_get _ us p (by rw [putAt_len r vs o ho]; exact hp), seg_get r vs o ho, seg_get _ vs o (by rw [putAt_len r us p hp]; exact ho), seg_get r us p hp]
  repeat' split
  all_goals first | rfl | omega
theorem set_row_comm {rows : List (List AV)} {i j : Nat} {vs us : List AV} {o p : Nat}
    (ho : i = j → i < rows.length → o + vs.length ≤ (rows.getD i []).length ∧ p + us.length ≤ (rows.getD i []).length ∧ (o + vs.length ≤ p ∨ p + us.length ≤ o)) :
    ((rows.set i (putAt (rows.getD i []) o vs)).set j (putAt ((rows.set i (putAt (rows.getD i []) o vs)).getD j []) p us)) =
    ((rows.set j (putAt (rows.getD j []) p us)).set i (putAt ((rows.set j (putAt (rows.getD j []) p us)).getD i []) o vs)) := by
  by_cases h : i = j
  · subst h
    by_cases hi : i < rows.length
    · obtain ⟨h1, h2, h3⟩ := ho rfl hi
      have e : ∀ x, (rows.set i x).getD i [] = x := fun x => by simp [List.getD, hi]
      rw [e, e, List.set_set, List.set_set, putAt_comm h1 h2 h3]
    · have : ∀ x, rows.set i x = rows := fun x => List.set_eq_of_length_le (by omega)
      simp [this]
  · have e1 : ∀ x, (rows.set i x).getD j [] = rows.getD j [] := fun x => by simp [List.getD, List.getElem?_set_ne h]
    have e2 : ∀ x, (rows.set j x).getD i [] = rows.getD i [] := fun x => by simp [List.getD, List.getElem?_set_ne (Ne.symm h)]
    rw [e1, e2, List.set_comm _ _ h]
def rowLen (T : Tab) (σ : St) (id i : Nat) : Prop :=
  (∀ e kd rows te, σ.st.getD id .dead = .arr e kd rows → T e = some te → i < rows.length → (rows.getD i []).length = te.cells.length) ∧
  (∀ e rows te, σ.st.getD id .dead = .arx e rows → T e = some te → i < rows.length → (rows.getD i []).length = te.cells.length)
theorem drop_take_le {α : Type} [DecidableEq α] {l m : List α} {o : Nat} (h : (l.drop o).take m.length = m) : m.length = 0 ∨ o + m.length ≤ l.length := by
  have := congrArg List.length h
  simp at this
  omega
theorem getD_set_self {l : List AObj} {id : Nat} {o : AObj} (h : id < l.length) : (l.set id o).getD id .dead = o := by simp [List.getD, h]
theorem astore_comm {T : Tab} {σ σ1 σ2 : St} {id i j o p t u : Nat} {x y : AV} {ti ui : TI} (ht : T t = some ti) (hu : T u = some ui) (h1 : astore T σ t x (.ap id i o) = some σ1) (h2 : astore T σ1 u y (.ap id j p) = some σ2)
    (hr : rowLen T σ id i) (hz : 0 < ti.cells.length) (hz' : 0 < ui.cells.length) (hd : i = j → o + ti.cells.length ≤ p ∨ p + ui.cells.length ≤ o) : ∃ σ1', astore T σ u y (.ap id j p) = some σ1' ∧ astore T σ1' t x (.ap id i o) = some σ2 := by
  simp only [astore, ht, hu] at h1 h2 ⊢
  cases hob : σ.st.getD id .dead with
  | arr e kd rows =>
    have hid : id < σ.st.length := (List.getElem?_eq_some_iff.1 (getD_some hob (by simp))).1
    rw [hob] at h1
    simp only at h1 ⊢
    cases hte : T e with
    | none => rw [hte] at h1; cases h1
    | some te =>
      rw [hte] at h1
      simp only [cond_eq_ite] at h1 ⊢
      split at h1
      · rename_i hc
        cases h1
        simp only [getD_set_self hid, hte, cond_eq_ite] at h2
        split at h2
        · rename_i hc2
          cases h2
          refine ⟨_, if_pos hc2, ?_⟩
          simp only [getD_set_self hid, hte, cond_eq_ite]
          rw [if_pos hc]
          simp only [Bool.and_eq_true, decide_eq_true_eq] at hc hc2
          have l1 : (coL ti.cells x.cells).length = ti.cells.length := (rowOk_get hc.2).1
          have l2 : (coL ui.cells y.cells).length = ui.cells.length := (rowOk_get hc2.2).1
          have := set_row_comm (rows := rows) (i := i) (j := j) (vs := coL ti.cells x.cells) (us := coL ui.cells y.cells) (o := o) (p := p) (fun hij hil => by
            have hrl := hr.1 e kd rows te hob hte hil
            rcases drop_take_le hc.1 with h | h
            · omega
            · rcases drop_take_le hc2.1 with h' | h'
              · omega
              · exact ⟨by omega, by omega, by rw [l1, l2]; exact hd hij⟩)
          rw [this]
          simp only [List.set_set]
        · cases h2
      · cases h1
  | arx e rows =>
    have hid : id < σ.st.length := (List.getElem?_eq_some_iff.1 (getD_some hob (by simp))).1
    rw [hob] at h1
    simp only at h1 ⊢
    cases hte : T e with
    | none => rw [hte] at h1; cases h1
    | some te =>
      rw [hte] at h1
      simp only [cond_eq_ite] at h1 ⊢
      split at h1
      · rename_i hc
        cases h1
        simp only [getD_set_self hid, hte, cond_eq_ite] at h2
        split at h2
        · rename_i hc2
          cases h2
          refine ⟨_, if_pos hc2, ?_⟩
          simp only [getD_set_self hid, hte, cond_eq_ite]
          rw [if_pos hc]
          simp only [Bool.and_eq_true, decide_eq_true_eq] at hc hc2
          have l1 : (x.cells).length = ti.cells.length := Nat.eq_of_beq_eq_true hc.2.1
          have l2 : (y.cells).length = ui.cells.length := Nat.eq_of_beq_eq_true hc2.2.1
          have := set_row_comm (rows := rows) (i := i) (j := j) (vs := x.cells) (us := y.cells) (o := o) (p := p) (fun hij hil => by
            have hrl := hr.2 e rows te hob hte hil
            rcases drop_take_le hc.1 with h | h
            · omega
            · rcases drop_take_le hc2.1 with h' | h'
              · omega
              · exact ⟨by omega, by omega, by rw [l1, l2]; exact hd hij⟩)
          rw [this]
          simp only [List.set_set]
        · cases h2
      · cases h1
  | _ => rw [hob] at h1; simp at h1
section
variable {P : Program} {C : Ctx} {B : Base} {rid : Nat} {ops : Array Oper} {Q : Exit → Act → World → Prop}
theorem closed_set {listed : Array Bool} {i : Nat} {o : Oper} (hi : ops[i]? = some o) (hs : i < listed.size) (hcl : Closed ops.toList (Lst listed)) (hed : ∀ e ∈ o.after, Region.binds .any e = true → Lst listed e.on) :
    Closed ops.toList (Lst (listed.setIfInBounds i true)) := fun j oj hj hLj e he hbnd => by
  rcases (Lst_set hs).1 hLj with rfl | h'
  · have hj' : ops[j]? = some oj := by simpa using hj
    rw [hi] at hj'; cases hj'
    exact (Lst_set hs).2 (.inr (hed e he hbnd))
  · exact (Lst_set hs).2 (.inr (hcl j oj hj h' e he hbnd))
theorem seg2_any (hT : TabOk P C.T) (hC : CallOk P C) (hb : ∀ j y, ops[j]? = some y → ∀ e ∈ y.after, Region.binds .any e = true → e.on < j) {b : Nat} (hle : b + 2 ≤ ops.size)
    (hps : ∀ k j y, ops[k]? = some y → b + 2 ≤ k → b ≤ j → j < b + 2 → Ahead ops j y)
    {x y : Oper} (hx : ops[b]? = some x) (hy : ops[b + 1]? = some y) {σ σx σy σxy σyx : St}
    (s1 : step1 C ops.toList rid b x σ = some σx) (s2 : step1 C ops.toList rid (b + 1) y σx = some σxy) (s3 : step1 C ops.toList rid (b + 1) y σ = some σy) (s4 : step1 C ops.toList rid b x σy = some σyx)
    {fuel : Nat} {listed : Array Bool} {a : Act} {w : World} (hf : (undone ops listed).length ≤ fuel) (hsz : listed.size = ops.size) (hcl : Closed ops.toList (Lst listed)) (hbef : ∀ i, i < b → Lst listed i) (haft : ∀ i, b ≤ i → ¬ Lst listed i)
    (hA : At C.T B σ a w)
    (hK : ∀ (fuel : Nat) (listed : Array Bool) (a : Act) (w : World), (undone ops listed).length ≤ fuel → listed.size = ops.size → Closed ops.toList (Lst listed) → (∀ i, i < b + 2 → Lst listed i) → (∀ i, b + 2 ≤ i → ¬ Lst listed i) →
      (At C.T B σxy a w ∨ At C.T B σyx a w) → wpAnyIn (FR B.ro) 0 P .any ops Q fuel listed a w) : wpAnyIn (FR B.ro) 0 P .any ops Q fuel listed a w := by
  have second : ∀ (i j : Nat) (oi oj : Oper) (σi σe : St), (σe = σxy ∨ σe = σyx) → (i = b ∧ j = b + 1 ∨ i = b + 1 ∧ j = b) → ops[i]? = some oi → ops[j]? = some oj → step1 C ops.toList rid i oi σ = some σi → step1 C ops.toList rid j oj σi = some σe →
      ∀ f, (undone ops (listed.setIfInBounds i true)).length ≤ f → (∀ e ∈ oi.after, Region.binds .any e = true → Lst listed e.on) → wpOpIn (FR B.ro) 0 P ops Q i (fun a' w' => wpAnyIn (FR B.ro) 0 P .any ops Q f (listed.setIfInBounds i true) a' w') a w := fun i j oi oj σi σe he hij hoi hoj hsi hsj f hu hed => by
    have hisz : i < listed.size := by rw [hsz]; omega
    refine step1_ok hT hC hoi hsi hA fun a' w' hA' => ?_
    have hsz1 : (listed.setIfInBounds i true).size = ops.size := by simpa using hsz
    have hcl1 := closed_set hoi hisz hcl hed
    have hL1 : ∀ m, Lst (listed.setIfInBounds i true) m ↔ m = i ∨ Lst listed m := fun m => Lst_set hisz
    have hnj : ¬ Lst (listed.setIfInBounds i true) j := fun h => by
      rcases (hL1 j).1 h with h | h
      · omega
      · exact haft j (by omega) h
    refine any_of hsz1 hb (show j < ops.size by omega) hnj hu fun f2 hff m hm hu2 => ?_
    obtain ⟨hun, o, hom, hed2⟩ := mem_ready.1 hm
    obtain ⟨hmsz, hnL⟩ := not_Lst hun
    have hmj : m = j := by
      have h0 : ¬ m < b := fun h => hnL ((hL1 m).2 (.inr (hbef m h)))
      have h1 : m ≠ i := fun h => hnL ((hL1 m).2 (.inl h))
      have h2 : ¬ b + 2 ≤ m := fun h => hnj (hps m j o hom h (by omega) (by omega) _ hcl1 hed2)
      omega
    subst hmj
    rw [hoj] at hom; cases hom
    refine step1_ok hT hC hoj hsj hA' fun a2 w2 hA2 => hK f2 _ a2 w2 hu2 (by simpa using hsz) (closed_set hoj (by simpa using hmsz) hcl1 hed2) (fun n hn => ?_) (fun n hn h => ?_) (by rcases he with rfl | rfl; exact .inl hA2; exact .inr hA2)
    · rcases Nat.lt_or_ge n b with h | h
      · exact (Lst_set hmsz).2 (.inr ((hL1 n).2 (.inr (hbef n h))))
      · rcases (by omega : n = m ∨ n = i) with rfl | rfl
        · exact (Lst_set hmsz).2 (.inl rfl)
        · exact (Lst_set hmsz).2 (.inr ((hL1 n).2 (.inl rfl)))
    · rcases (Lst_set hmsz).1 h with h | h
      · omega
      · rcases (hL1 n).1 h with h | h
        · omega
        · exact haft n (by omega) h
  refine any_of hsz hb (show b < ops.size by omega) (haft b (Nat.le_refl _)) hf fun f hff i hi hu => ?_
  obtain ⟨hun, o, hoi, hed⟩ := mem_ready.1 hi
  obtain ⟨hisz, hnL⟩ := not_Lst hun
  have hib : i = b ∨ i = b + 1 := by
    have h0 : ¬ i < b := fun h => hnL (hbef i h)
    have h2 : ¬ b + 2 ≤ i := fun h => haft b (Nat.le_refl _) (hps i b o hoi h (Nat.le_refl _) (by omega) _ hcl hed)
    omega
  rcases hib with rfl | rfl
  · rw [hx] at hoi; cases hoi
    exact second _ _ _ _ _ _ (.inl rfl) (.inl ⟨rfl, rfl⟩) hx hy s1 s2 f hu hed
  · rw [hy] at hoi; cases hoi
    exact second _ _ _ _ _ _ (.inr rfl) (.inr ⟨rfl, rfl⟩) hy hx s3 s4 f hu hed
end
theorem step1_st2 {C : Ctx} {ops : List Oper} {rid i : Nat} {x : Oper} {t : Nat} {a v : Operand} {σ σ1 : St} (hop : x.op = .store t a v) (hg : x.guard = none) (hd : x.dst = none) (hp : look2 C.ann.pre rid i = []) :
    step1 C ops rid i x σ = some σ1 ↔ astore C.T σ t (σ.eval v) (σ.eval a) = some σ1 := by
  obtain ⟨dst, op, type, pos, after, guard⟩ := x
  simp only at hop hg hd
  subst hop; subst hg; subst hd
  simp only [step1, guardOf, hp, St.weaks, exec1, aop]
  cases astore C.T σ t (σ.eval v) (σ.eval a) <;> simp [St.put]
theorem astore_tmps {T : Tab} {σ σ1 : St} {t : Nat} {v a : AV} (h : astore T σ t v a = some σ1) : σ1.tmps = σ.tmps := by
  unfold astore at h
  simp only [cond_eq_ite] at h
  repeat' split at h
  all_goals first | (cases h; done) | (cases h; rfl)
section
variable {P : Program} {C : Ctx} {B : Base} {rid : Nat} {ops : Array Oper} {Q : Exit → Act → World → Prop}
theorem evDyn_ok (hT : TabOk P C.T) (hC : CallOk P C) (hCm : C.m = B.m) {pairs : List (Nat × Nat)} {K : St → Option Res} {res : Res}
    (hb : ∀ j y, ops[j]? = some y → ∀ e ∈ y.after, Region.binds .any e = true → e.on < j)
    (hQ : ∀ σ' a w, K σ' = some res → At C.T B σ' a w → Q .normal a w) :
    ∀ (segs : List Nat) (b : Nat) (σ : St), segsOk (prds ops.toList []) ops pairs segs b = true → evDyn C ops rid pairs segs (ops.toList.drop b) b σ K = some res → b ≤ ops.size →
    ∀ (fuel : Nat) (listed : Array Bool) (a : Act) (w : World), (undone ops listed).length ≤ fuel → listed.size = ops.size → Closed ops.toList (Lst listed) → (∀ i, i < b → Lst listed i) → (∀ i, b ≤ i → ¬ Lst listed i) →
      At C.T B σ a w → wpAnyIn (FR B.ro) 0 P .any ops Q fuel listed a w
  | [], b, σ, hs, h, hbs, fuel, listed, a, w, hf, hsz, hcl, hbef, haft, hA => by
    have hbe : b = ops.size := by
      rcases Nat.lt_or_ge b ops.size with hlt | hge
      · have : ops.toList.drop b = ops.toList[b] :: ops.toList.drop (b + 1) := List.drop_eq_getElem_cons (by simpa using hlt)
        rw [this] at h
        simp [evDyn] at h
      · omega
    have hd : ops.toList.drop b = [] := List.drop_eq_nil_of_le (by simp [hbe])
    rw [hd] at h
    simp only [evDyn] at h
    have hr : Region.ready .any ops listed = [] := by
      cases hh : Region.ready .any ops listed with
      | nil => rfl
      | cons i is =>
        have hm : i ∈ Region.ready .any ops listed := by rw [hh]; exact List.mem_cons_self
        obtain ⟨hun, o, ho, _⟩ := mem_ready.1 hm
        have := (not_Lst hun).2
        exact absurd (hbef i (by have := (Array.getElem?_eq_some_iff.1 ho).1; omega)) this
    have hq := hQ σ a w h hA
    cases fuel with
    | zero => exact ⟨hr, hq⟩
    | succ f => exact ⟨fun _ => hq, fun i hi => by rw [hr] at hi; cases hi⟩
  | n :: segs, b, σ, hs, h, hbs, fuel, listed, a, w, hf, hsz, hcl, hbef, haft, hA => by
    obtain ⟨hle, hcr, hpr, hrest⟩ := segsOk_cons hs
    have hps : ∀ i j y, ops[j]? = some y → inP (prds ops.toList []) j i = true → Ahead ops i y := fun i j y hy hb' L hL he =>
      prds_ok hL ops.toList [] [] rfl rfl (fun i o h => by simp at h) j y (by simpa using hy) he i hb'
    unfold evDyn at h
    cases hn1 : Nat.beq n 1 && !headV C.ann (ops.toList.drop b) with
    | true =>
      have hn : n = 1 := Nat.eq_of_beq_eq_true (Bool.and_eq_true_iff.1 hn1).1
      subst hn
      rw [hn1] at h
      simp only [cond_true] at h
      have hblt : b < ops.size := by omega
      have hdr : ops.toList.drop b = ops[b] :: ops.toList.drop (b + 1) := by
        have := List.drop_eq_getElem_cons (l := ops.toList) (i := b) (by simpa using hblt)
        simpa using this
      rw [hdr] at h
      simp only [List.take_succ_cons, List.take_zero, List.drop_succ_cons, List.drop_zero] at h
      obtain ⟨_, σ1, hst, h2⟩ := evOps_cons h
      simp only [evOps] at h2
      have ho : ops[b]? = some ops[b] := Array.getElem?_eq_getElem hblt
      refine any_of hsz hb hblt (haft b (Nat.le_refl _)) hf fun f hff i hi hu => ?_
      obtain ⟨hun, o, hoi, hed⟩ := mem_ready.1 hi
      obtain ⟨hisz, hnL⟩ := not_Lst hun
      have hib : i = b := by
        rcases Nat.lt_trichotomy i b with h' | h' | h'
        · exact absurd (hbef i h') hnL
        · exact h'
        · exact absurd (hps b i o hoi (hcr i b (by omega) (by omega) (Nat.le_refl _) (by omega)) _ hcl hed) (haft b (Nat.le_refl _))
      subst hib
      rw [ho] at hoi; cases hoi
      have hL' : ∀ j, Lst (listed.setIfInBounds i true) j ↔ j = i ∨ Lst listed j := fun j => Lst_set hisz
      refine step1_ok hT hC ho hst hA fun a' w' hA' => evDyn_ok hT hC hCm hb hQ segs (i + 1) σ1 hrest h2 (by omega) f _ a' w' hu (by simpa using hsz) (fun j oj hj hLj e he hbnd => ?_) (fun j hj => (hL' j).2 ?_) (fun j hj hLj => ?_) hA'
      · rcases (hL' j).1 hLj with rfl | h'
        · have hj' : ops[j]? = some oj := by simpa using hj
          rw [ho] at hj'; cases hj'
          exact (hL' _).2 (.inr (hed e he hbnd))
        · exact (hL' _).2 (.inr (hcl j oj hj h' e he hbnd))
      · rcases Nat.lt_or_eq_of_le (Nat.le_of_lt_succ hj) with h' | h'
        · exact .inr (hbef j h')
        · exact .inl h'
      · rcases (hL' j).1 hLj with h' | h'
        · omega
        · exact haft j (by omega) h'
    | false =>
      rw [hn1] at h
      simp only [cond_false] at h
      cases h2c : (Nat.beq n 2 && ((look2 C.ann.pre rid b).isEmpty && ((look2 C.ann.pre rid (b + 1)).isEmpty && twoSt C.T σ (ops.toList.drop b)))) with
      | true =>
        rw [h2c] at h
        simp only [cond_true] at h
        simp only [Bool.and_eq_true, List.isEmpty_iff] at h2c
        obtain ⟨hn2, hp1, hp2, htw⟩ := h2c
        have hn := Nat.eq_of_beq_eq_true hn2
        subst hn
        have hdr : ops.toList.drop b = ops[b] :: ops[b + 1] :: ops.toList.drop (b + 2) := by
          have h1 := List.drop_eq_getElem_cons (l := ops.toList) (i := b) (by simp; omega)
          have h2 := List.drop_eq_getElem_cons (l := ops.toList) (i := b + 1) (by simp; omega)
          rw [h1, h2]; simp
        rw [hdr] at h htw
        simp only [List.take_succ_cons, List.take_zero, List.drop_succ_cons, List.drop_zero] at h
        obtain ⟨_, σ1, s1, h2⟩ := evOps_cons h
        obtain ⟨_, σ2, s2, h3⟩ := evOps_cons h2
        simp only [evOps] at h3
        have hx : ops[b]? = some ops[b] := Array.getElem?_eq_getElem (by omega)
        have hy : ops[b + 1]? = some ops[b + 1] := Array.getElem?_eq_getElem (by omega)
        generalize ops[b] = x at *
        generalize ops[b + 1] = y at *
        simp only [twoSt, Bool.and_eq_true, Option.isNone_iff_eq_none] at htw
        obtain ⟨g1, g2, d1, d2, htw⟩ := htw
        split at htw
        · rename_i t ax vx u ay vy hox hoy
          split at htw
          · rename_i id i o id' j p ti ui ea eb ht hu
            simp only [Bool.and_eq_true, Bool.or_eq_true, Bool.not_eq_true'] at htw
            obtain ⟨q1, q2, q3, q4⟩ := htw
            have q1 := Nat.eq_of_beq_eq_true q1
            subst q1
            have a1 := (step1_st2 hox g1 d1 hp1).1 s1
            have a2 := (step1_st2 hoy g2 d2 hp2).1 s2
            have htm := astore_tmps a1
            have hev : ∀ z : Operand, σ1.eval z = σ.eval z := fun z => by cases z <;> simp only [St.eval, htm]
            rw [hev, hev, eb] at a2
            rw [ea] at a1
            have hrow : rowLen C.T σ id i := by
              obtain ⟨_, E, Z, hR, _⟩ := hA
              refine ⟨fun e kd rows te hob hte hil => ?_, fun e rows te hob hte hil => ?_⟩
              · have hor := hR.sr.obj id _ (getD_some hob (by simp))
                have hmem : rows.getD i [] ∈ rows := by simp [List.getD, List.getElem?_eq_getElem hil]
                cases hor with
                | arr0 => simp at hil
                | arr _ _ _ B' o' c' vs' ty' hn' he' hc' h0' hf' hsz' hb' ho' hok' hr' =>
                  have := (rowOk_get (hok' _ hmem)).1
                  rwa [elem_cts hte] at this
              · have hor := hR.sr.obj id _ (getD_some hob (by simp))
                have hmem : rows.getD i [] ∈ rows := by simp [List.getD, List.getElem?_eq_getElem hil]
                cases hor with
                | arx _ _ B' o' c' vs' ty' he' hc' h0' hsz' hb' ho' hlen' hr' =>
                  have := hlen' _ hmem
                  rwa [elem_cts hte] at this
            obtain ⟨σ3, b1, b2⟩ := astore_comm ht hu a1 a2 hrow (Nat.blt_eq ▸ q2) (Nat.blt_eq ▸ q3) (fun hij => by
              rcases q4 with h' | h' | h'
              · subst hij; rw [Nat.beq_refl] at h'; cases h'
              · exact .inl (Nat.le_of_ble_eq_true h')
              · exact .inr (Nat.le_of_ble_eq_true h'))
            have htm3 := astore_tmps b1
            have hev3 : ∀ z : Operand, σ3.eval z = σ.eval z := fun z => by cases z <;> simp only [St.eval, htm3]
            have s3 : step1 C ops.toList rid (b + 1) y σ = some σ3 := (step1_st2 hoy g2 d2 hp2).2 (by rw [eb]; exact b1)
            have s4 : step1 C ops.toList rid b x σ3 = some σ2 := (step1_st2 hox g1 d1 hp1).2 (by rw [hev3, hev3, ea]; exact b2)
            exact seg2_any hT hC hb hle (fun k j y' hk' h1 h2 h3 => hps j k y' hk' (hcr k j h1 (Array.getElem?_eq_some_iff.1 hk').1 h2 h3)) hx hy s1 s2 s3 s4 hf hsz hcl hbef haft hA
              fun fuel listed a w hf hsz hcl hbef haft hA => evDyn_ok hT hC hCm hb hQ segs (b + 2) σ2 hrest h3 hle fuel listed a w hf hsz hcl hbef haft (hA.elim (fun h => h) fun h => h)
          · cases htw
        · cases htw
      | false =>
      rw [h2c] at h
      simp only [cond_false] at h
      cases h3c : (Nat.beq n 2 && anySt (ops.toList.drop b)) with
      | true =>
        rw [h3c] at h
        simp only [cond_true] at h
        simp only [Bool.and_eq_true] at h3c
        have hn := Nat.eq_of_beq_eq_true h3c.1
        subst hn
        have hdr : ops.toList.drop b = ops[b] :: ops[b + 1] :: ops.toList.drop (b + 2) := by
          have h1 := List.drop_eq_getElem_cons (l := ops.toList) (i := b) (by simp; omega)
          have h2 := List.drop_eq_getElem_cons (l := ops.toList) (i := b + 1) (by simp; omega)
          rw [h1, h2]; simp
        obtain ⟨ha, hb'⟩ := bothE_some h
        rw [hdr] at ha hb'
        simp only [List.take_succ_cons, List.take_zero, List.drop_succ_cons, List.drop_zero] at ha hb'
        obtain ⟨_, σ1, s1, h2⟩ := evOps_cons ha
        obtain ⟨_, σ2, s2, h3⟩ := evOps_cons h2
        simp only [evOps] at h3
        obtain ⟨_, σ3, s3, h4⟩ := evOps_cons hb'
        simp only [evOps.eq_1] at h4
        obtain ⟨_, σ4, s4, h5⟩ := evOps_cons h4
        simp only [evOps.eq_1] at h5
        have hx : ops[b]? = some ops[b] := Array.getElem?_eq_getElem (by omega)
        have hy : ops[b + 1]? = some ops[b + 1] := Array.getElem?_eq_getElem (by omega)
        exact seg2_any hT hC hb hle (fun k j y' hk' h1 h2 h3 => hps j k y' hk' (hcr k j h1 (Array.getElem?_eq_some_iff.1 hk').1 h2 h3)) hx hy s1 s2 s3 s4 hf hsz hcl hbef haft hA
          fun fuel listed a w hf hsz hcl hbef haft hA => hA.elim
            (fun hA => evDyn_ok hT hC hCm hb hQ segs (b + 2) σ2 hrest h3 hle fuel listed a w hf hsz hcl hbef haft hA)
            (fun hA => evDyn_ok hT hC hCm hb hQ segs (b + 2) σ4 hrest h5 hle fuel listed a w hf hsz hcl hbef haft hA)
      | false =>
      rw [h3c] at h
      simp only [cond_false] at h
      obtain ⟨S, F, e0, hS, hK⟩ := evSeg_states _ _ _ _ _ h
      have hlen : ((ops.toList.drop b).take n).length = n := by simp; omega
      rw [hlen] at hK
      simp only [List.nil_append] at hK
      cases hfp : fpairs (σ.st.length + n) ((List.range n).map F) b pairs with
      | false => rw [hfp] at hK; cases hK
      | true =>
        rw [hfp, forceSt_eq] at hK
        simp only [cond_true] at hK
        have hml : B.m ≤ σ.st.length := by obtain ⟨_, _, _, _, _, _, h4⟩ := hA; exact h4
        have hget : ∀ j, j < n → ((ops.toList.drop b).take n)[j]? = ops[b + j]? := fun j hj => by
          rw [List.getElem?_take_of_lt hj, List.getElem?_drop]; simp
        have hl0 : (S 0).st.length = σ.st.length + n := by rw [e0]; simp [St.keep]
        have hall : ∀ j, j ≤ n → (S j).st.length = σ.st.length + n := by
          intro j
          induction j with
          | zero => exact fun _ => hl0
          | succ j ih =>
            intro hj
            have ho : ops[b + j]? = some ops[b + j] := Array.getElem?_eq_getElem (by omega)
            obtain ⟨A, fk, hA1⟩ := seg1_ok hT hC ho (ih (by omega)) (show σ.st.length + j < σ.st.length + n by omega) (hS j _ ((hget j (by omega)).trans ho))
            exact hA1.len
        have hex : ∀ j, ∃ p : Ap × Fk, j < n → ∀ o, ops[b + j]? = some o → Seg1 P C ops (σ.st.length + n) (b + j) (σ.st.length + j) o (S j) (S (j + 1)) (F j) p.1 p.2 := fun j => by
          by_cases hj : j < n
          · have ho : ops[b + j]? = some ops[b + j] := Array.getElem?_eq_getElem (by omega)
            obtain ⟨A, fk, hA1⟩ := seg1_ok hT hC ho (hall j (by omega)) (show σ.st.length + j < σ.st.length + n by omega) (hS j _ ((hget j hj).trans ho))
            exact ⟨(A, fk), fun _ o ho' => by rw [ho] at ho'; cases ho'; exact hA1⟩
          · exact ⟨(⟨fun r => r, none, .undef, none⟩, .no), fun h' => absurd h' hj⟩
        obtain ⟨pf, hpf⟩ := Classical.axiomOfChoice hex
        have hF : SegF P C ops (σ.st.length + n) σ.st.length b n S F (fun j => (pf j).1) (fun j => (pf j).2) :=
          { le := hle
            step := fun j o hj ho => hpf j hj o ho
            len := hl0
            back := hb
            cross := fun j k y hj hk hy => hps (b + j) k y hy (hcr k (b + j) hk (Array.getElem?_eq_some_iff.1 hy).1 (by omega) (by omega))
            pair := fun j k x y hjk hk hx hy => by
              rcases hpr (b + j) (b + k) x y (by omega) (by omega) (by omega) hx hy with h' | ⟨h1, h2⟩
              · exact .inl (hps _ _ y hy h')
              · exact .inr ⟨h2, fpairs_get hfp hjk hk h1⟩ }
        have inner : ∀ (fuel : Nat) (listed : Array Bool) (a : Act) (w : World), (undone ops listed).length ≤ fuel → MidS C B ops (σ.st.length + n) b n S (fun j => (pf j).1) listed a w → wpAnyIn (FR B.ro) 0 P .any ops Q fuel listed a w := by
          intro fuel
          induction fuel with
          | zero =>
            intro listed a w hf hM
            by_cases hc : ∀ j, j < n → Lst listed (b + j)
            · have hAe := (midS_end hF hM hc).canon
              rw [← hCm] at hAe
              refine evDyn_ok hT hC hCm hb hQ segs (b + n) _ hrest (by rw [← List.drop_drop]; exact hK) hle 0 listed a w hf hM.size hM.closed (fun i hi => ?_) (fun i hi => hM.after i hi) hAe
              rcases Nat.lt_or_ge i b with h' | h'
              · exact hM.before i h'
              · have := hc (i - b) (by omega)
                have e : b + (i - b) = i := by omega
                rwa [e] at this
            · simp only [Classical.not_forall] at hc
              obtain ⟨j, hj, hn⟩ := hc
              have := undone_pos hM.size (show b + j < ops.size by omega) hn
              omega
          | succ fuel ih =>
            intro listed a w hf hM
            by_cases hc : ∀ j, j < n → Lst listed (b + j)
            · have hAe := (midS_end hF hM hc).canon
              rw [← hCm] at hAe
              refine evDyn_ok hT hC hCm hb hQ segs (b + n) _ hrest (by rw [← List.drop_drop]; exact hK) hle (fuel + 1) listed a w hf hM.size hM.closed (fun i hi => ?_) (fun i hi => hM.after i hi) hAe
              rcases Nat.lt_or_ge i b with h' | h'
              · exact hM.before i h'
              · have := hc (i - b) (by omega)
                have e : b + (i - b) = i := by omega
                rwa [e] at this
            · simp only [Classical.not_forall] at hc
              obtain ⟨j, hj, hn⟩ := hc
              refine any_of hM.size hb (show b + j < ops.size by omega) hn hf fun f hff i hi hu => ?_
              have : f = fuel := by omega
              subst this
              exact wpOpIn_mono (fun a' w' h' => ih _ a' w' hu h') (midS_step hml hF hM hi ⟨j, hj, hn⟩)
        refine inner fuel listed a w hf ⟨hsz, hcl, hbef, fun i hi => haft i (by omega), S 0, hl0, ?_, hF.moved n 0 (by omega), ?_⟩
        · have : (List.range n).filter (fun j => listed.getD (b + j) false) = [] := List.filter_eq_nil_iff.2 fun j _ => haft (b + j) (by omega)
          rw [this]; rfl
        · rw [e0]
          exact hA.keep _ List.nodup_range (fun i hi => List.getElem?_range (by omega)) (by rw [List.length_range]; omega)
theorem drawn3_ok (hm : P.follows .mixedOrders = true) (hT : TabOk P C.T) (hC : CallOk P C) (hCm : C.m = B.m) {id : Nat} {d : List Nat × List (Nat × Nat)} (hd : drawOk3 d ops = true) {σ : St} {K : St → Option Res} {res : Res}
    (h : evDyn C ops rid d.2 d.1 ops.toList 0 σ K = some res) {a : Act} {w : World} (hA : At C.T B σ a w) (hQ : ∀ σ' a w, K σ' = some res → At C.T B σ' a w → Q .normal a w) : (Code.region id ops true).wpIn (FR B.ro) 0 P Q a w := by
  unfold drawOk3 at hd
  rw [Bool.and_eq_true] at hd
  obtain ⟨hd1, hd2⟩ := hd
  have hb : ∀ j y, ops[j]? = some y → ∀ e ∈ y.after, Region.binds .any e = true → e.on < j := fun j y hy e he hbnd => by
    have h1 := List.all_eq_true.1 hd1 j (List.mem_range.2 (Array.getElem?_eq_some_iff.1 hy).1)
    simp only [hy] at h1
    have := List.all_eq_true.1 h1 e (by simpa using he)
    simpa [hbnd, Nat.blt_eq] using this
  have hno : ∀ i, ¬ Lst (Array.replicate ops.size false) i := fun i hL => by
    simp only [Lst] at hL
    rcases Nat.lt_or_ge i ops.size with h1 | h1
    · simp [h1] at hL
    · simp [Nat.not_lt.2 h1] at hL
  refine wpIn_region_any hm (evDyn_ok (rid := rid) hT hC hCm hb hQ d.1 0 σ hd2 (by simpa using h) (Nat.zero_le _) ops.size _ a _ ?_ (by simp) (fun i o _ hL => absurd hL (hno i)) (fun i hi => absurd hi (Nat.not_lt_zero _)) (fun i _ => hno i) hA.drew)
  unfold undone
  exact Nat.le_trans (List.length_filter_le _ _) (by simp)
end
end Go.Fw
