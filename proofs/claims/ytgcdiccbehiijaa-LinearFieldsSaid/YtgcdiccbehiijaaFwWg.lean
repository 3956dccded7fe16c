/- The framework, part Wg: steps that leave another's view, and its doing, as they are. -/
import Derived.Test.YtgcdiccbehiijaaFwWf
set_option linter.all false
set_option linter.unusedSimpArgs false
set_option linter.unusedVariables false
namespace Go.Fw

theorem map_stab {α : Type} {h : α → α} : ∀ (l m : List α), (∀ v ∈ m, h v = v ∧ ∀ v', h v' = v → v' = v) → (l.map h = m ↔ l = m)
  | [], m, _ => by simp
  | a :: l, [], _ => by simp
  | a :: l, b :: m, hs => by
    simp only [List.map_cons, List.cons.injEq]
    rw [map_stab l m fun v hv => hs v (List.mem_cons_of_mem _ hv)]
    have h1 := hs b List.mem_cons_self
    constructor
    · rintro ⟨e, e2⟩; exact ⟨h1.2 a e, e2⟩
    · rintro ⟨e, e2⟩; exact ⟨by rw [e]; exact h1.1, e2⟩

theorem getD_onRefsL (g : AV → AV) (l : List AV) (t : Nat) : (AV.onRefsL g l).getD t .undef = (l.getD t .undef).onRefs g := by
  rw [onRefsL_eq, List.getD_eq_getElem?_getD, List.getD_eq_getElem?_getD, List.getElem?_map]
  cases l[t]? <;> rfl
theorem getD_mapO (g : AV → AV) (l : List AObj) (i : Nat) : (l.map (AObj.onRefs g)).getD i .dead = (l.getD i .dead).onRefs g := by
  rw [List.getD_eq_getElem?_getD, List.getD_eq_getElem?_getD, List.getElem?_map]
  cases l[i]? <;> rfl

theorem elemLoadX_map {T : Tab} {t e : Nat} {row : List AV} {off : Nat} (g : AV → AV) : elemLoadX T t e (AV.onRefsL g row) off = (elemLoadX T t e row off).map (AV.onRefs g) := by
  unfold elemLoadX
  split
  · simp only [cond_eq_ite]
    split
    · split
      · simp only [Option.map_some, AV.onRefs, onRefsL_eq, List.map_take, List.map_drop]
      · split
        · rw [onRefsL_eq, List.getElem?_map]
        · rfl
    · rfl
  · rfl

theorem aload_map {T : Tab} {x x' : St} (g : AV → AV) (t : Nat) (av : AV) (h : ∀ i ∈ topIds av, x'.st.getD i .dead = (x.st.getD i .dead).onRefs g) :
    aload T x' t av = aload T x t av ∨ aload T x' t av = (aload T x t av).map (AV.onRefs g) := by
  cases av with
  | ptr id off =>
    have e := h id (by simp [topIds])
    right
    unfold aload
    simp only [e]
    cases x.st.getD id .dead with
    | box bt cs =>
      simp only [AObj.onRefs]
      cases T t with
      | none => rfl
      | some ti =>
        simp only [cond_eq_ite]
        have hl : (AV.onRefsL g cs).length = cs.length := by rw [onRefsL_eq, List.length_map]
        rw [hl]
        split
        · split
          · simp only [Option.map_some, AV.onRefs, onRefsL_eq, List.map_take, List.map_drop]
          · split
            · rw [onRefsL_eq, List.getElem?_map]
            · rfl
        · rfl
    | _ => simp only [AObj.onRefs]; cases T t <;> rfl
  | ap id i off =>
    have e := h id (by simp [topIds])
    unfold aload
    simp only [e]
    cases x.st.getD id .dead with
    | arr => left; rfl
    | arx et rows =>
      right
      simp only [AObj.onRefs]
      have : (rows.map (AV.onRefsL g)).getD i [] = AV.onRefsL g (rows.getD i []) := by
        rw [List.getD_eq_getElem?_getD, List.getD_eq_getElem?_getD, List.getElem?_map]
        cases rows[i]? <;> rfl
      rw [this]; exact elemLoadX_map g
    | _ => left; rfl
  | _ => left; rfl

/-- what an operation sees -/
structure Vw (T : Tab) (N : Nat) (ops : Array Oper) (fk : Fk) (o : Oper) (fp : Fp) (x : St) : Prop where
  tm : (o.looksAt ops).map (fun t => (keepIf fk N x).tmps.getD t .undef) = fp.opv
  ld : fk = .load → ∀ t a, o.op = .load t a → aload T (keepIf fk N x) t ((keepIf fk N x).eval a) = some fp.v
  ob : fk ≠ .load → fp.touch.map (fun i => (keepIf fk N x).st.getD i .dead) = fp.tobj

/-- where what an operation loads lies is told by what it looks at -/
def Tells (N : Nat) (ops : Array Oper) (fk : Fk) (o : Oper) (fp : Fp) : Prop :=
  fk = .load → ∀ t a, o.op = .load t a → ∀ y : St, (o.looksAt ops).map (fun t => y.tmps.getD t .undef) = fp.opv → ∀ i ∈ topIds (y.eval a), i ∈ fp.touch

section
variable {T : Tab} {N : Nat} {ops : Array Oper} {fk : Fk} {o : Oper} {fp : Fp} {p : Ap}

theorem mem_looksAt {x : Operand} {t : Nat} (hx : x ∈ o.op.operands.toList) (ht : x = .tmp t) : t ∈ o.looksAt ops := by
  subst ht
  unfold Oper.looksAt
  exact List.mem_append.2 (.inl (List.mem_filterMap.2 ⟨_, hx, rfl⟩))

theorem eval_same {y z : St} (h : ∀ t ∈ o.looksAt ops, y.tmps.getD t .undef = z.tmps.getD t .undef) {x : Operand} (hx : x ∈ o.op.operands.toList) : y.eval x = z.eval x :=
  eval_congr fun t ht => h t (mem_looksAt hx ht)

theorem map_mem_eq {α β : Type} {f g : α → β} : ∀ {l : List α}, l.map f = l.map g → ∀ t ∈ l, f t = g t
  | [], _, t, ht => by cases ht
  | a :: l, h, t, ht => by
    simp only [List.map_cons, List.cons.injEq] at h
    rcases List.mem_cons.1 ht with rfl | ht
    · exact h.1
    · exact map_mem_eq h.2 t ht

/-- a step that leaves a view, in both directions -/
theorem Vw.iff {x x' : St} (hl : x.st.length = N) (hl' : x'.st.length = N) (hx : (x'.tmps, x'.st) = p.on (x.tmps, x.st)) (hsp : Scrubs p.g) (hdst : ∀ d, p.dst = some d → d ∉ o.looksAt ops)
    (hw : ∀ i o', p.w = some (i, o') → i ∉ fp.touch) (h1 : ∀ v ∈ fp.opv, StabV p.g v) (h2 : ∀ o ∈ fp.tobj, StabO p.g o) (h3 : fk = .load → StabV p.g fp.v) (ht : Tells N ops fk o fp) :
    Vw T N ops fk o fp x' ↔ Vw T N ops fk o fp x := by
  simp only [Ap.on, Prod.mk.injEq] at hx
  obtain ⟨hxt, hxs⟩ := hx
  have hg := (gOf_scr fk N).scr
  -- what is seen of the temporaries, of the objects
  have ht1 : ∀ t ∈ o.looksAt ops, (keepIf fk N x').tmps.getD t .undef = ((keepIf fk N x).tmps.getD t .undef).onRefs p.g := fun t htl => by
    rw [keepIf_eq hl, keepIf_eq hl']
    simp only
    rw [getD_onRefsL, getD_onRefsL, scr_comm hg hsp]
    congr 1
    rw [hxt, ← getD_onRefsL]
    unfold Ap.tm
    cases hd : p.dst with
    | none => rfl
    | some d =>
      have hne : d ≠ t := fun e => hdst d hd (e ▸ htl)
      rw [List.getD_eq_getElem?_getD, List.getElem?_set_ne hne, ← List.getD_eq_getElem?_getD]
  have ho1 : ∀ i ∈ fp.touch, (keepIf fk N x').st.getD i .dead = ((keepIf fk N x).st.getD i .dead).onRefs p.g := fun i hi => by
    rw [keepIf_eq hl, keepIf_eq hl']
    simp only
    rw [getD_mapO, getD_mapO, scrO_comm hg hsp]
    congr 1
    rw [hxs, ← getD_mapO]
    unfold Ap.st
    cases hd : p.w with
    | none => rfl
    | some d =>
      obtain ⟨j, o'⟩ := d
      have hne : j ≠ i := fun e => hw j o' hd (e ▸ hi)
      simp only
      rw [List.getD_eq_getElem?_getD, List.getElem?_set_ne hne, ← List.getD_eq_getElem?_getD]
  have etm : (o.looksAt ops).map (fun t => (keepIf fk N x').tmps.getD t .undef) = fp.opv ↔ (o.looksAt ops).map (fun t => (keepIf fk N x).tmps.getD t .undef) = fp.opv := by
    have e : (o.looksAt ops).map (fun t => (keepIf fk N x').tmps.getD t .undef) = ((o.looksAt ops).map fun t => (keepIf fk N x).tmps.getD t .undef).map (AV.onRefs p.g) := by
      rw [List.map_map]; exact List.map_congr_left ht1
    rw [e]; exact map_stab _ _ h1
  have eob : fp.touch.map (fun i => (keepIf fk N x').st.getD i .dead) = fp.tobj ↔ fp.touch.map (fun i => (keepIf fk N x).st.getD i .dead) = fp.tobj := by
    have e : fp.touch.map (fun i => (keepIf fk N x').st.getD i .dead) = (fp.touch.map fun i => (keepIf fk N x).st.getD i .dead).map (AObj.onRefs p.g) := by
      rw [List.map_map]; exact List.map_congr_left ho1
    rw [e]; exact map_stab _ _ h2
  have same : (o.looksAt ops).map (fun t => (keepIf fk N x').tmps.getD t .undef) = fp.opv → (o.looksAt ops).map (fun t => (keepIf fk N x).tmps.getD t .undef) = fp.opv →
      fk = .load → ∀ t a, o.op = .load t a → (aload T (keepIf fk N x') t ((keepIf fk N x').eval a) = some fp.v ↔ aload T (keepIf fk N x) t ((keepIf fk N x).eval a) = some fp.v) := fun k1 k2 hf t a hop => by
    have hev : (keepIf fk N x').eval a = (keepIf fk N x).eval a := eval_same (ops := ops) (o := o) (map_mem_eq (k1.trans k2.symm)) (by rw [hop]; simp [Op.operands])
    rw [hev]
    have hm := aload_map (T := T) p.g t ((keepIf fk N x).eval a) (fun i hi => ho1 i (ht hf t a hop (keepIf fk N x) k2 i hi))
    rcases hm with e | e
    · rw [e]
    · rw [e]
      have hs := h3 hf
      cases aload T (keepIf fk N x) t ((keepIf fk N x).eval a) with
      | none => simp
      | some v =>
        simp only [Option.map_some, Option.some.injEq]
        exact ⟨fun h => hs.2 v h, fun h => by rw [h]; exact hs.1⟩
  constructor
  · rintro ⟨a1, a2, a3⟩
    have b1 := etm.1 a1
    exact ⟨b1, fun hf t a hop => (same a1 b1 hf t a hop).1 (a2 hf t a hop), fun hf => eob.1 (a3 hf)⟩
  · rintro ⟨a1, a2, a3⟩
    have b1 := etm.2 a1
    exact ⟨b1, fun hf t a hop => (same b1 a1 hf t a hop).2 (a2 hf t a hop), fun hf => eob.2 (a3 hf)⟩
end
end Go.Fw
