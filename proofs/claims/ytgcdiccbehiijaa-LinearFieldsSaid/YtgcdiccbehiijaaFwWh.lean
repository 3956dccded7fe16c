/- The framework, part Wh: one operation of a segment. -/
import Derived.Test.YtgcdiccbehiijaaFwWg
set_option linter.all false
set_option linter.unusedSimpArgs false
set_option linter.unusedVariables false
namespace Go.Fw

theorem splitV_some {β : Type} {sp : Bool} {v : AV} {K : AV → Option β} {res : β} (h : splitV sp v K = some res) : K v = some res := by
  unfold splitV at h
  split at h
  · rename_i b
    cases b <;> exact h
  · exact h

def FStep (C : Ctx) (ops : Array Oper) (rid N i slot : Nat) (o : Oper) (σ σ' : St) (fp : Fp) : Prop :=
  look2 C.ann.pre rid i = [] ∧
  ((guardOf ops.toList σ o = some false ∧ σ' = σ.put o.dst (.k undef) ∧ fp = fpOf ops N slot .pure o σ σ σ' (.k undef)) ∨
   (guardOf ops.toList σ o = some true ∧ ∃ σ1 v, fkBad (fkind C.sig o.op) σ o = false ∧ exec1 C (keepIf (fkind C.sig o.op) N σ) o = some (true, σ1, v) ∧
     σ' = stepIf (fkind C.sig o.op) N slot o.dst σ1 v ∧ fp = fpOf ops N slot (fkind C.sig o.op) o (keepIf (fkind C.sig o.op) N σ) σ1 σ' v))

theorem evSeg_cons {C : Ctx} {ops : Array Oper} {rid N : Nat} {o : Oper} {rest : List Oper} {i slot : Nat} {σ : St} {fps : List Fp} {K : St → List Fp → Option Res} {res : Res}
    (h : evSeg C ops rid N (o :: rest) i slot σ fps K = some res) : ∃ σ' fp, FStep C ops rid N i slot o σ σ' fp ∧ evSeg C ops rid N rest (i + 1) (slot + 1) σ' (fps ++ [fp]) K = some res := by
  unfold evSeg at h
  cases hp : (look2 C.ann.pre rid i).isEmpty with
  | false => rw [hp] at h; cases h
  | true =>
    rw [hp] at h
    have hp' : look2 C.ann.pre rid i = [] := by simpa using hp
    simp only [Bool.not_true, cond_false] at h
    cases hg : guardOf ops.toList σ o with
    | none => rw [hg] at h; cases h
    | some g =>
      rw [hg] at h
      cases g with
      | false => exact ⟨_, _, ⟨hp', .inl ⟨hg, rfl, rfl⟩⟩, h⟩
      | true =>
        simp only [cond_true] at h
        cases hb : fkBad (fkind C.sig o.op) σ o with
        | true => rw [hb] at h; cases h
        | false =>
          rw [hb] at h
          simp only [cond_false] at h
          cases hx : exec1 C (bif (fkind C.sig o.op).isNew then σ.keep (List.range N) else σ) o with
          | none => rw [hx] at h; cases h
          | some r =>
            obtain ⟨c, σ1, v⟩ := r
            rw [hx] at h
            simp only at h
            cases c with
            | false => simp [under] at h
            | true =>
              simp only [under, cond_true] at h
              have h2 := splitV_some h
              rw [forceSt_eq] at h2
              exact ⟨_, _, ⟨hp', .inr ⟨hg, σ1, v, hb, hx, rfl, rfl⟩⟩, h2⟩

theorem guardOf_map {ops : List Oper} {σ τ : St} {o : Oper} {g : AV → AV} (ht : τ.tmps = AV.onRefsL g σ.tmps) {b : Bool} (h : guardOf ops σ o = some b) : guardOf ops τ o = some b := by
  unfold guardOf at h ⊢
  split at h
  · exact h
  · rename_i j want hg
    split at h
    · rename_i og hj
      split at h
      · rename_i d hd
        rw [ht, getD_onRefsL]
        split at h
        · rename_i x hx; rw [hx]; exact h
        · rename_i vs hx; rw [hx]; exact h
        · cases h
      · cases h
    · cases h

/-- what is done is told by what it comes to -/
theorem eff_uniq {fk : Fk} {o : Oper} {σ τ : St} {e e' : Eff} {v : AV} (h : EffOk fk o σ e v) (h' : EffOk fk o σ e' v) (he : e.on σ = e'.on σ) (hl : τ.st.length = σ.st.length) : e.on τ = e'.on τ := by
  have hlen : (e.on σ).st.length = (e'.on σ).st.length := by rw [he]
  have hset : ∀ {l : List AObj} {i : Nat} {a b : AObj}, l.set i a = l.set i b → ∀ {m : List AObj}, m.length = l.length → m.set i a = m.set i b := fun {l i a b} hab {m} hm => by
    rcases Nat.lt_or_ge i l.length with hi | hi
    · have := congrArg (fun x => x[i]?) hab
      simp only [List.getElem?_set_self hi, Option.some.injEq] at this
      rw [this]
    · rw [List.set_eq_of_length_le (by omega), List.set_eq_of_length_le (by omega)]
  have hnew : ∀ {a b : AObj}, (Eff.new a).on σ = (Eff.new b).on σ → (Eff.new a).on τ = (Eff.new b).on τ := fun {a b} hab => by
    have := congrArg St.st hab
    simp only [Eff.on, St.new, List.append_cancel_left_eq, List.cons.injEq, and_true] at this
    rw [this]
  have hwr : ∀ {i : Nat} {a b : AObj}, (Eff.write i a).on σ = (Eff.write i b).on σ → (Eff.write i a).on τ = (Eff.write i b).on τ := fun {i a b} hab => by
    have := congrArg St.st hab
    simp only [Eff.on] at this ⊢
    rw [hset this hl]
  have hown : ∀ {i : Nat} {a b : AObj}, (Eff.own i a).on σ = (Eff.own i b).on σ → (Eff.own i a).on τ = (Eff.own i b).on τ := fun {i a b} hab => by
    have := congrArg St.st hab
    simp only [Eff.on] at this ⊢
    rw [hset this (by simp [St.scrub, hl])]
  cases fk
  case new =>
    obtain ⟨a, rfl⟩ := h
    obtain ⟨b, rfl⟩ := h'
    exact hnew he
  case store =>
    obtain ⟨i, a, rfl, h1⟩ := h
    obtain ⟨j, b, rfl, h2⟩ := h'
    rw [h1] at h2
    injection h2 with h2
    subst h2
    exact hwr he
  case app =>
    rw [Eff.on_len, Eff.on_len] at hlen
    rcases h with ⟨a, rfl⟩ | ⟨i, a, rfl, h1⟩ | ⟨i, a, p, q, rfl, h1⟩ <;> rcases h' with ⟨b, rfl⟩ | ⟨j, b, rfl, h2⟩ | ⟨j, b, r, s, rfl, h2⟩ <;> simp only at hlen <;> first | omega | skip
    · exact hnew he
    · rw [h1] at h2; injection h2 with h2; subst h2; exact hown he
    · rw [h1] at h2; cases h2
    · rw [h1] at h2; cases h2
    · rw [h1] at h2; injection h2 with h2; subst h2; exact hwr he
  all_goals (have e1 : e = .none := h; have e2 : e' = .none := h'; rw [e1, e2])

/-- what is known of a step of a segment -/
structure Seg1 (P : Program) (C : Ctx) (ops : Array Oper) (N i slot : Nat) (o : Oper) (σ σ' : St) (fp : Fp) (A : Ap) (fk : Fk) : Prop where
  on : (σ'.tmps, σ'.st) = A.on (σ.tmps, σ.st)
  len : σ'.st.length = N
  dst : A.dst = o.dst
  fdst : fp.dst = o.dst
  v : A.v = fp.v
  w : A.w = fp.w.map fun i => (i, fp.o)
  scr : Scr fp.scr N A.g
  fix : fp.fix = true → A.g = fun r => r
  view : Vw C.T N ops fk o fp σ
  tells : Tells N ops fk o fp
  ldst : fk = .load → o.dst ≠ none
  mv : ∀ m ∈ σ.moved, m ∈ σ'.moved
  run : ∀ (B : Base) (x : St), B.m ≤ slot → x.st.length = N → Vw C.T N ops fk o fp x → ∀ a w, At C.T B x a w → ∀ (Q : Exit → Act → World → Prop) (K : Act → World → Prop),
    (∀ a' w' x', x'.st.length = N → (x'.tmps, x'.st) = A.on (x.tmps, x.st) → (∀ m ∈ x'.moved, m ∈ x.moved ∨ m ∈ σ'.moved) → At C.T B x' a' w' → K a' w') → wpOp P ops Q i K a w

theorem set_getD {l l' : List AObj} {id : Nat} {o : AObj} (h : l.length = l'.length) : l.set id ((l'.set id o).getD id .dead) = l.set id o := by
  rcases Nat.lt_or_ge id l'.length with h1 | h1
  · rw [List.getD_eq_getElem?_getD, List.getElem?_set_self h1]; rfl
  · rw [List.set_eq_of_length_le (by omega), List.set_eq_of_length_le (by omega)]

def Eff.isNew : Eff → Bool
  | .new _ => true
  | _ => false
def Eff.wId (slot : Nat) : Eff → Option Nat
  | .none => Option.none
  | .new _ => some slot
  | .write id _ => some id
  | .own id _ => some id
theorem wOf_eff {fk : Fk} {o : Oper} {σ : St} {e : Eff} {v : AV} (slot : Nat) (heff : EffOk fk o σ e v) : wOf e.isNew slot fk o.op σ v = e.wId slot := by
  cases fk
  case new => obtain ⟨o', rfl⟩ := heff; rfl
  case store => obtain ⟨id, o', rfl, h2⟩ := heff; exact h2
  case app =>
    rcases heff with ⟨o', rfl⟩ | ⟨id, o', rfl, rfl⟩ | ⟨id, o', a, n, rfl, rfl⟩ <;> rfl
  all_goals (have e1 : e = .none := heff; rw [e1]; rfl)
theorem scrOf_eff {fk : Fk} {o : Oper} {σ : St} {e : Eff} {v : AV} (slot : Nat) (heff : EffOk fk o σ e v) : scrOf e.isNew slot fk v = effScr slot e := by
  cases fk
  case new => obtain ⟨o', rfl⟩ := heff; rfl
  case store => obtain ⟨id, o', rfl, h2⟩ := heff; rfl
  case app =>
    rcases heff with ⟨o', rfl⟩ | ⟨id, o', rfl, rfl⟩ | ⟨id, o', a, n, rfl, rfl⟩ <;> rfl
  all_goals (have e1 : e = .none := heff; rw [e1]; rfl)

/-- a step with a known effect -/
theorem seg1_of {P : Program} {C : Ctx} (hT : TabOk P C.T) (hC : CallOk P C) {ops : Array Oper} {rid N i slot : Nat} {o : Oper} (hi : ops[i]? = some o) {σ σ' : St} {fp : Fp} {fk : Fk} {e : Eff} {v : AV}
    (hl : σ.st.length = N) (hs : slot < N) (hp : look2 C.ann.pre rid i = []) (hne : ∀ o, e = .new o → fk.isNew = true)
    (hσ' : σ' = stepIf fk N slot o.dst (e.on (keepIf fk N σ)) v) (hfp : fp = fpOf ops N slot fk o (keepIf fk N σ) (e.on (keepIf fk N σ)) σ' v)
    (heff : EffOk fk o (keepIf fk N σ) e v) (hno : fk ≠ .no) (hld0 : fk = .load → o.dst ≠ none)
    (hld : fk = .load → ∀ t a, o.op = .load t a → aload C.T (keepIf fk N σ) t ((keepIf fk N σ).eval a) = some v)
    (hstep : ∀ x, x.st.length = N → Vw C.T N ops fk o fp x → step1 C ops.toList rid i o (keepIf fk N x) = some ((e.on (keepIf fk N x)).put o.dst v)) :
    ∃ A, Seg1 P C ops N i slot o σ σ' fp A fk := by
  have hk0 : (keepIf fk N σ).st.length = N := by rw [keepIf_eq hl]; simpa using hl
  have hon := mkAp_on (fk := fk) (N := N) (slot := slot) (dst := o.dst) (e := e) (v := v) hl hs hne
  rw [← hσ'] at hon
  have hblt : Nat.blt N (N + 1) = true := by simp [Nat.blt]
  have hblt2 : Nat.blt N N = false := by
    cases hb : Nat.blt N N with
    | false => rfl
    | true => exact absurd (Nat.blt_eq ▸ hb : N < N) (Nat.lt_irrefl _)
  have hgrew : grewOf N fk (e.on (keepIf fk N σ)) = e.isNew := by
    unfold grewOf
    rw [Eff.on_len, hk0]
    cases e with
    | new o' => simp [hne o' rfl, hblt, Eff.isNew]
    | _ => simp [hblt2, Eff.isNew]
  have fv : fp.v = (mkAp fk N slot o.dst e v).v := by
    rw [hfp]
    change (bif grewOf N fk (e.on (keepIf fk N σ)) then _ else _) = _
    rw [hgrew]
    cases e <;> rfl
  have fw : fp.w = (mkAp fk N slot o.dst e v).w.map Prod.fst := by
    rw [hfp]
    change wOf _ _ _ _ _ _ = _
    rw [hgrew, wOf_eff slot heff]
    cases e <;> rfl
  have fscr : fp.scr = effScr slot e := by
    rw [hfp]
    change scrOf _ _ _ _ = _
    rw [hgrew, scrOf_eff slot heff]
  have fo : ∀ i, fp.w = some i → fp.o = σ'.st.getD i .dead := fun i hi => by
    rw [hfp] at hi ⊢
    change wOf _ _ _ _ _ _ = _ at hi
    change (match wOf _ _ _ _ _ _ with | some i => σ'.st.getD i .dead | none => .dead) = _
    rw [hi]
  have ftouch : fk ≠ .load → fp.touch.map (fun i => (keepIf fk N σ).st.getD i .dead) = fp.tobj := fun hf => by
    rw [hfp]
    cases fk <;> first | rfl | (exact absurd rfl hf)
  refine ⟨{ mkAp fk N slot o.dst e v with w := fp.w.map fun i => (i, fp.o) }, ?_⟩
  -- the two ways to say what is written
  have hAon : ∀ x : St, x.st.length = N → ({ mkAp fk N slot o.dst e v with w := fp.w.map fun i => (i, fp.o) } : Ap).on (x.tmps, x.st) = (mkAp fk N slot o.dst e v).on (x.tmps, x.st) := fun x hx => by
    simp only [Ap.on, Prod.mk.injEq]
    refine ⟨rfl, ?_⟩
    simp only [Ap.st]
    cases hw : (mkAp fk N slot o.dst e v).w with
    | none => rw [fw, hw]; rfl
    | some d =>
      obtain ⟨id, o'⟩ := d
      have h1 : fp.w = some id := by rw [fw, hw]; rfl
      rw [h1]
      simp only [Option.map_some]
      rw [fo id h1]
      have h2 : σ'.st = (σ.st.map (AObj.onRefs (mkAp fk N slot o.dst e v).g)).set id o' := by
        have := (Prod.mk.inj hon.1).2
        rw [← this]; simp only [Ap.st, hw]
      rw [h2]
      exact set_getD (by simp [hx, hl])
  refine
    { on := ?_, len := hon.2.1, dst := ?_, fdst := by rw [hfp]; rfl, v := fv.symm, w := rfl, scr := ?_, fix := ?_, view := ⟨by rw [hfp]; rfl, fun hf t a hop => ?_, ftouch⟩, tells := ?_, ldst := hld0, mv := ?_, run := ?_ }
  · rw [hAon σ hl]; exact hon.1.symm
  · cases e <;> rfl
  · rw [fscr]; exact mkAp_scr hne
  · intro hfix
    rw [hfp] at hfix
    have hnn : fk.isNew = false := by
      change (!fk.isNew) = true at hfix
      simpa using hfix
    have hg : gOf fk N = fun r => r := by unfold gOf; rw [hnn]; rfl
    cases e with
    | none => exact hg
    | write id o' => exact hg
    | own id o' =>
      cases fk <;> simp only [EffOk] at heff <;> first | (cases heff; done) | (exact absurd rfl hno) | (cases hnn; done) | skip
      obtain ⟨id', o'', h, h2⟩ := heff; cases h
    | new o' => rw [hne o' rfl] at hnn; cases hnn
  · have : fp.v = v := by
      rw [fv]
      cases e with
      | new o' => rw [hf] at heff; cases heff
      | _ => rfl
    rw [this]; exact hld hf t a hop
  · intro hf t a hop y hy j hj
    have hopv : fp.opv = (o.looksAt ops).map fun t => (keepIf fk N σ).tmps.getD t .undef := by rw [hfp]; rfl
    have hev : y.eval a = (keepIf fk N σ).eval a := eval_same (ops := ops) (o := o) (map_mem_eq (hy.trans hopv)) (by rw [hop]; simp [Op.operands])
    rw [hev] at hj
    rw [hfp]
    subst hf
    exact List.mem_flatMap.2 ⟨a, by rw [hop]; simp [Op.operands], hj⟩
  · intro m hm
    rw [hon.2.2]
    cases e with
    | own id o' =>
      simp only
      cases σ.moved.elem id
      · exact List.mem_cons_of_mem _ hm
      · exact hm
    | _ => exact hm
  · intro B x hB hx hv a w hA Q K hK
    have hon' := mkAp_on (fk := fk) (N := N) (slot := slot) (dst := o.dst) (e := e) (v := v) hx hs hne
    have hA0 : At C.T B (keepIf fk N x) a w := by
      unfold keepIf
      cases fk.isNew
      · exact hA
      · exact hA.keep _ List.nodup_range (fun i hi => List.getElem?_range (by omega)) (by rw [List.length_range]; omega)
    refine step1_ok hT hC hi (hstep x hx hv) hA0 fun a' w' hA' => hK a' w' (stepIf fk N slot o.dst (e.on (keepIf fk N x)) v) hon'.2.1 ?_ ?_ ?_
    · rw [hAon x hx]; exact hon'.1.symm
    · intro m hm
      rw [hon'.2.2] at hm
      rw [hon.2.2]
      cases e with
      | own id o' =>
        simp only at hm ⊢
        have hid : m ∈ x.moved ∨ m = id := by
          cases h : x.moved.elem id <;> rw [h] at hm
          · rcases List.mem_cons.1 hm with h | h
            · exact .inr h
            · exact .inl h
          · exact .inl hm
        rcases hid with h | rfl
        · exact .inl h
        · right
          cases h : σ.moved.elem m
          · exact List.mem_cons_self
          · simpa using h
      | _ => exact .inl hm
    · unfold stepIf
      cases (fk.isNew && Nat.blt N (e.on (keepIf fk N x)).st.length)
      · exact hA'
      · exact hA'.keep _ range_set_nodup (fun i hi => getElem?_range_set (by omega) (by omega)) (by rw [List.length_set, List.length_range]; omega)

/-- **One operation of a segment.** -/
theorem seg1_ok {P : Program} {C : Ctx} (hT : TabOk P C.T) (hC : CallOk P C) {ops : Array Oper} {rid N i slot : Nat} {o : Oper} (hi : ops[i]? = some o) {σ σ' : St} {fp : Fp}
    (hl : σ.st.length = N) (hs : slot < N) (h : FStep C ops rid N i slot o σ σ' fp) : ∃ A fk, Seg1 P C ops N i slot o σ σ' fp A fk := by
  obtain ⟨hp, ⟨hg, h1, h2⟩ | ⟨hg, σ1, v, hb, hx, h1, h2⟩⟩ := h
  · have hk : ∀ x : St, keepIf .pure N x = x := fun x => rfl
    have hst : ∀ x : St, stepIf .pure N slot o.dst x (.k undef) = x.put o.dst (.k undef) := fun x => rfl
    obtain ⟨A, hA⟩ := seg1_of (fk := .pure) (e := .none) (v := .k undef) (σ := σ) (σ' := σ') (fp := fp) (rid := rid) hT hC hi hl hs hp (fun o h => by cases h) h1 (by rw [h2]; rfl) rfl (by simp) (fun h => by cases h) (fun h => by cases h) (fun x hx hv => by
      have hlk : ∀ t ∈ o.looksAt ops, x.tmps.getD t .undef = σ.tmps.getD t .undef := by
        have h3 := hv.tm
        rw [h2] at h3
        exact map_mem_eq h3
      unfold step1
      rw [hk, guardOf_congr hlk, hg]
      rfl)
    exact ⟨A, _, hA⟩
  · generalize hfk : fkind C.sig o.op = fk at *
    have hbb : ∀ y : St, (fk ≠ .call ∨ y = σ) → fkBad fk y o = false := fun y hy => by
      rcases hy with hy | rfl
      · cases fk <;> first | rfl | (exact absurd rfl hy) | exact hb | (cases hb; done)
      · exact hb
    have hb0 : fkBad fk (keepIf fk N σ) o = false := hbb _ (by
      cases fk <;> first | exact .inr rfl | exact .inl (by simp))
    have hself : ObjView C.T (fkind C.sig o.op) o (keepIf fk N σ) (keepIf fk N σ) := by
      rw [hfk]
      cases fk <;> simp only [ObjView] <;> first | (intro _ _; rfl) | (intro _ _ _; rfl) | (intro _ _ _; trivial) | trivial
    obtain ⟨e, he, h3, _⟩ := exec1_at hC (σ := keepIf fk N σ) (τ := keepIf fk N σ) rfl (fun _ _ => rfl) (by rw [hfk]; exact hb0) hself hx
    rw [hfk] at he
    have hno : fk ≠ .no := fun h => by rw [h] at hb; cases hb
    have hne : ∀ o', e = .new o' → fk.isNew = true := fun o' ho => by
      subst ho
      cases fk <;> simp only [EffOk] at he <;> first | rfl | (cases he; done) | skip
      obtain ⟨_, _, h, _⟩ := he; cases h
    have hk0 : (keepIf fk N σ).st.length = N := by rw [keepIf_eq hl]; simpa using hl
    obtain ⟨A, hA⟩ := seg1_of (fk := fk) (e := e) (v := v) (σ := σ) (σ' := σ') (fp := fp) (rid := rid) hT hC hi hl hs hp hne (by rw [← h3]; exact h1) (by rw [← h3]; exact h2) he hno (fun hf => by
      subst hf
      intro hd
      rw [show fkBad Fk.load σ o = o.dst.isNone from rfl, hd] at hb
      cases hb) (fun hf t a hop => by
      obtain ⟨dst, op, type, pos, after, guard⟩ := o
      simp only at hop
      subst hop
      simp only [exec1, aop] at hx
      exact (Ab.v_inv hx).2.1) (fun x hxl hv => by
      have hlk : ∀ t ∈ o.looksAt ops, (keepIf fk N x).tmps.getD t .undef = (keepIf fk N σ).tmps.getD t .undef := by
        have h4 := hv.tm
        rw [h2] at h4
        exact map_mem_eq h4
      have hg0 : guardOf ops.toList (keepIf fk N σ) o = some true := guardOf_map (g := gOf fk N) (by rw [keepIf_eq hl]) hg
      have hev : ∀ y ∈ o.op.operands.toList, (keepIf fk N x).eval y = (keepIf fk N σ).eval y := fun y hy => eval_same hlk hy
      have hx0 : (keepIf fk N x).st.length = (keepIf fk N σ).st.length := by rw [hk0, keepIf_eq hxl]; simpa using hxl
      have hov : ObjView C.T (fkind C.sig o.op) o (keepIf fk N σ) (keepIf fk N x) := by
        rw [hfk]
        have hob := hv.ob
        have hldd := hv.ld
        rw [h2] at hob hldd
        cases fk <;> simp only [ObjView] <;> first | trivial | skip
        · exact fun i hi' => map_mem_eq (hob (by simp)) i hi'
        · intro t a hop
          have h5 := hldd rfl t a hop
          rw [hev a (by rw [hop]; simp [Op.operands])] at h5
          rw [h5]
          obtain ⟨dst, op, type, pos, after, guard⟩ := o
          simp only at hop
          subst hop
          simp only [exec1, aop] at hx
          rw [(Ab.v_inv hx).2.1]
          rfl
        · exact fun i hi' => map_mem_eq (hob (by simp)) i hi'
        · exact fun i hi' => map_mem_eq (hob (by simp)) i hi'
      obtain ⟨e', he', h6, h7⟩ := exec1_at hC (σ := keepIf fk N σ) (τ := keepIf fk N x) hx0 hev (by rw [hfk]; exact hb0) hov hx
      rw [hfk] at he'
      have h8 : e'.on (keepIf fk N x) = e.on (keepIf fk N x) := eff_uniq he' he (h6.symm.trans h3) hx0
      unfold step1
      rw [guardOf_congr hlk, hg0, hp]
      simp only [St.weaks]
      rw [h7, h8])
    exact ⟨A, _, hA⟩
end Go.Fw
