/- The framework, part Wd: what an operation does hangs on its operands, and on the objects that they refer to, alone. -/
import Derived.Test.YtgcdiccbehiijaaFwWc
set_option linter.all false
set_option linter.unusedSimpArgs false
set_option linter.unusedVariables false
namespace Go.Fw

/-- the objects that some values refer to are the same -/
def SameAt (ids : List Nat) (σ τ : St) : Prop := ∀ i ∈ ids, τ.st.getD i .dead = σ.st.getD i .dead

/-- what an operation does to a state, told apart from it -/
inductive Eff where
  | none | new (o : AObj) | write (id : Nat) (o : AObj) | own (id : Nat) (o : AObj)
def Eff.on (e : Eff) (σ : St) : St := match e with
  | .none => σ
  | .new o => σ.new o
  | .write id o => { σ with st := σ.st.set id o }
  | .own id o => { σ.scrub id with st := (σ.scrub id).st.set id o, moved := bif σ.moved.elem id then σ.moved else id :: σ.moved }

section
variable {T : Tab} {σ τ : St} {x y : AV}

theorem aslice_at (h : SameAt (topIds x) σ τ) (t : Nat) (a b d : Option AV) : aslice T τ t x a b d = aslice T σ t x a b d := by
  cases x with
  | sr id => have e := h id (by simp [topIds]); simp only [aslice, e]
  | ss id _ _ => have e := h id (by simp [topIds]); simp only [aslice, e]
  | _ => rfl
theorem aindexAddr_at (h : SameAt (topIds x) σ τ) (t : Nat) (i : AV) : aindexAddr T τ t x i = aindexAddr T σ t x i := by
  cases x with
  | sr id => have e := h id (by simp [topIds]); simp only [aindexAddr, e]
  | ss id _ _ => have e := h id (by simp [topIds]); simp only [aindexAddr, e]
  | _ => rfl
theorem alen_at (h : SameAt (topIds x) σ τ) (t : Nat) : alen T τ t x = alen T σ t x := by
  cases x with
  | sr id => have e := h id (by simp [topIds]); simp only [alen, e]
  | _ => rfl
theorem isNil_at (d : TD) (h : SameAt (topIds x) σ τ) : isNil d τ x = isNil d σ x := by
  cases x with
  | sr id => have e := h id (by simp [topIds]); cases d <;> first | rfl | simp only [isNil, e]
  | k v => cases d <;> cases v <;> first | rfl | (rename_i p; cases p <;> rfl)
  | _ => cases d <;> rfl
theorem abinOp_at (op : BinOp) (t : Nat) (hx : SameAt (topIds x) σ τ) (hy : SameAt (topIds y) σ τ) : abinOp T τ op t x y = abinOp T σ op t x y := by
  have h2 : aeq T τ t x y = aeq T σ t x y := by
    unfold aeq
    cases T t with
    | none => rfl
    | some ti =>
      simp only
      cases ti.d <;> simp only [isNil_at _ hx, isNil_at _ hy]
  unfold abinOp
  split
  · rfl
  · rfl
  · cases op <;> first | rfl | simp only [h2]
theorem rowsOf_at (h : SameAt (topIds x) σ τ) : rowsOf τ x = rowsOf σ x := by
  cases x with
  | sr id => have e := h id (by simp [topIds]); simp only [rowsOf, e]
  | ss id _ _ => have e := h id (by simp [topIds]); simp only [rowsOf, e]
  | k v => cases v <;> rfl
  | _ => rfl
theorem elemOk_at (e : Nat) (h : SameAt (topIds x) σ τ) : elemOk τ e x = elemOk σ e x := by
  cases x with
  | sr id => have e := h id (by simp [topIds]); simp only [elemOk, e]
  | ss id _ _ => have e := h id (by simp [topIds]); simp only [elemOk, e]
  | k v => cases v <;> rfl
  | _ => rfl

/-- the same effect from two states -/
def Loc (Q : Eff → AV → Prop) (σ τ : St) (r r' : Ab (St × AV)) : Prop := ∀ c σ1 v, r = some (c, σ1, v) → ∃ e, Q e v ∧ σ1 = e.on σ ∧ r' = some (c, e.on τ, v)

theorem Loc.none {Q : Eff → AV → Prop} {r' : Ab (St × AV)} : Loc Q σ τ (none : Ab (St × AV)) r' := fun _ _ _ h => by cases h
theorem Loc.bif {Q : Eff → AV → Prop} {b : Bool} {r r' : Ab (St × AV)} (h : Loc Q σ τ r r') : Loc Q σ τ (bif b then r else Option.none) (bif b then r' else Option.none) := by
  cases b
  · exact Loc.none
  · exact h
theorem Loc.mk {Q : Eff → AV → Prop} {c : Bool} {v : AV} (e : Eff) (h : Q e v) : Loc Q σ τ (some (c, e.on σ, v)) (some (c, e.on τ, v)) := fun c' σ1 v' h' => by
  cases h'; exact ⟨e, h, rfl, rfl⟩
theorem Loc.new {Q : Eff → AV → Prop} {c : Bool} {o : AObj} (hl : τ.st.length = σ.st.length) (h : Q (.new o) (.sr σ.st.length)) : Loc Q σ τ (some (c, σ.new o, .sr σ.st.length)) (some (c, τ.new o, .sr τ.st.length)) := by
  rw [hl]; exact Loc.mk (.new o) h
theorem Loc.newp {Q : Eff → AV → Prop} {c : Bool} {o : AObj} (hl : τ.st.length = σ.st.length) (h : Q (.new o) (.ptr σ.st.length 0)) : Loc Q σ τ (some (c, σ.new o, .ptr σ.st.length 0)) (some (c, τ.new o, .ptr τ.st.length 0)) := by
  rw [hl]; exact Loc.mk (.new o) h
theorem Loc.imp {Q Q' : Eff → AV → Prop} {r r' : Ab (St × AV)} (h : Loc Q σ τ r r') (hq : ∀ e v, Q e v → Q' e v) : Loc Q' σ τ r r' := fun c σ1 v h' => by
  obtain ⟨e, h1, h2⟩ := h c σ1 v h'
  exact ⟨e, hq _ _ h1, h2⟩

def AppQ (e : Eff) (v : AV) : Prop := (∃ o, e = .new o) ∨ (∃ id o, e = .own id o ∧ v = .sr id) ∨ (∃ id o a n, e = .write id o ∧ v = .ss id a n)
def NewQ (e : Eff) (_ : AV) : Prop := ∃ o, e = .new o

theorem aappend_at {s : AV} (hl : τ.st.length = σ.st.length) (t : Nat) (hs : SameAt (topIds s) σ τ) (hx : SameAt (topIds x) σ τ) :
    (aappend T σ t s x = none → aappend T τ t s x = none) ∧ Loc AppQ σ τ (aappend T σ t s x) (aappend T τ t s x) := by
  unfold aappend
  split
  · rename_i e _ _ _
    rw [rowsOf_at hx]
    split
    · rename_i te ys h1 h2
      rw [elemOk_at e hx]
      cases hb : (elemOk σ e x && (!(te.cells.isEmpty || Nat.beq te.bytes 0) && strOk te x))
      · exact ⟨fun _ => rfl, Loc.none⟩
      simp only [cond_true]
      cases s <;> try exact ⟨fun _ => rfl, Loc.none⟩
      · rename_i u kd rows
        cases kd <;> try exact ⟨fun _ => rfl, Loc.none⟩
        · exact ⟨fun h => (nomatch h), Loc.new hl (.inl ⟨_, rfl⟩)⟩
        all_goals
          cases rows with
          | nil => exact ⟨fun h => (nomatch h), Loc.new hl (.inl ⟨_, rfl⟩)⟩
          | cons r rs =>
            simp only
            cases Nat.beq u e
            · exact ⟨fun _ => rfl, Loc.none⟩
            · exact ⟨fun h => (nomatch h), Loc.new hl (.inl ⟨_, rfl⟩)⟩
      · rename_i id
        have eq := hs id (by simp [topIds])
        simp only [eq]
        cases σ.st.getD id .dead <;> try exact ⟨fun _ => rfl, Loc.none⟩
        rename_i u kd rows
        simp only
        cases Nat.beq u e
        · exact ⟨fun _ => rfl, Loc.none⟩
        · exact ⟨fun h => (nomatch h), Loc.mk (.own id _) (.inr (.inl ⟨_, _, rfl, rfl⟩))⟩
      · rename_i id a n
        have eq := hs id (by simp [topIds])
        simp only [eq]
        cases σ.st.getD id .dead <;> try exact ⟨fun _ => rfl, Loc.none⟩
        rename_i u kd rows
        simp only
        cases Nat.beq u e
        · exact ⟨fun _ => rfl, Loc.none⟩
        · exact ⟨fun h => (nomatch h), Loc.mk (.write id _) (.inr (.inr ⟨_, _, _, _, rfl, rfl⟩))⟩
    · exact ⟨fun _ => rfl, Loc.none⟩
  · exact ⟨fun _ => rfl, Loc.none⟩
theorem aappendX_at {s : AV} (hl : τ.st.length = σ.st.length) (t : Nat) (hs : SameAt (topIds s) σ τ) (hx : SameAt (topIds x) σ τ) : Loc AppQ σ τ (aappendX T σ t s x) (aappendX T τ t s x) := by
  unfold aappendX
  split
  · rename_i e _ _ jd _
    have eqx := hx jd (by simp [topIds])
    simp only [eqx]
    cases T e with
    | none => exact Loc.none
    | some te =>
      cases σ.st.getD jd .dead <;> try exact Loc.none
      simp only
      refine Loc.bif ?_
      cases s <;> try exact Loc.none
      · rename_i u kd rows
        cases kd <;> try exact Loc.none
        exact Loc.new hl (.inl ⟨_, rfl⟩)
      · rename_i id
        have eq := hs id (by simp [topIds])
        simp only [eq]
        cases σ.st.getD id .dead <;> try exact Loc.none
        exact Loc.bif (Loc.mk (.own id _) (.inr (.inl ⟨_, _, rfl, rfl⟩)))
  · exact Loc.none
theorem aappendZ_at {s : AV} (hl : τ.st.length = σ.st.length) (t u : Nat) (hs : SameAt (topIds s) σ τ) : Loc AppQ σ τ (aappendZ T σ t u s x) (aappendZ T τ t u s x) := by
  unfold aappendZ
  split
  · rename_i e _ _ _ _ k _ _
    cases T e with
    | none => exact Loc.none
    | some te =>
      cases s <;> try exact Loc.none
      rename_i id a n
      have eq := hs id (by simp [topIds])
      simp only [eq]
      cases σ.st.getD id .dead <;> try exact Loc.none
      rename_i v kd rows
      cases kd <;> try exact Loc.none
      exact Loc.bif (Loc.new hl (.inl ⟨_, rfl⟩))
  · exact Loc.none
theorem append_at {ts : List Nat} {as : List AV} (hl : τ.st.length = σ.st.length) (h : ∀ x ∈ as, SameAt (topIds x) σ τ) : Loc AppQ σ τ (abuiltin T σ .append ts as) (abuiltin T τ .append ts as) := by
  rcases ts with _ | ⟨t, _ | ⟨u, _ | ⟨z, ts⟩⟩⟩ <;> rcases as with _ | ⟨s, _ | ⟨x, _ | ⟨y, as⟩⟩⟩ <;> first | exact Loc.none | skip
  simp only [abuiltin]
  have hs := h s (by simp)
  have hx := h x (by simp)
  cases srcType T u with
  | false => exact aappendZ_at hl t u hs
  | true =>
    simp only [cond_true]
    obtain ⟨h1, h2⟩ := aappend_at (T := T) hl t hs hx
    cases hr : aappend T σ t s x with
    | none => rw [h1 hr]; exact aappendX_at hl t hs hx
    | some r =>
      obtain ⟨c, σ1, v⟩ := r
      obtain ⟨e, q, e1, e2⟩ := h2 c σ1 v hr
      rw [e2, e1]
      exact Loc.mk e q

theorem abuildSlice_at (hl : τ.st.length = σ.st.length) (t len : Nat) (ps : List (Nat × AV)) :
    (abuildSlice T σ t len ps = none → abuildSlice T τ t len ps = none) ∧ (∀ σ1 v, abuildSlice T σ t len ps = some (σ1, v) → ∃ o, σ1 = σ.new o ∧ abuildSlice T τ t len ps = some (τ.new o, v)) := by
  unfold abuildSlice
  split
  · rename_i e _ _ _
    cases T e with
    | none => exact ⟨fun _ => rfl, fun _ _ h => (nomatch h)⟩
    | some te =>
      simp only
      cases te.cells with
      | nil => exact ⟨fun _ => rfl, fun _ _ h => (nomatch h)⟩
      | cons c cs =>
        simp only
        cases Nat.ble _ _
        · exact ⟨fun _ => rfl, fun _ _ h => (nomatch h)⟩
        · simp only [cond_true]
          cases fillRows _ _ _ ps with
          | none => exact ⟨fun _ => rfl, fun _ _ h => (nomatch h)⟩
          | some rows => exact ⟨fun h => (nomatch h), fun σ1 v h => by cases h; rw [hl]; exact ⟨_, rfl, rfl⟩⟩
  · exact ⟨fun _ => rfl, fun _ _ h => (nomatch h)⟩
theorem abuildX_at (hl : τ.st.length = σ.st.length) (t len : Nat) (ps : List (Nat × AV)) :
    (∀ σ1 v, abuildX T σ t len ps = some (σ1, v) → ∃ o, σ1 = σ.new o ∧ abuildX T τ t len ps = some (τ.new o, v)) := by
  unfold abuildX
  split
  · rename_i e _ _ _
    cases T e with
    | none => exact fun _ _ h => (nomatch h)
    | some te =>
      simp only
      cases (Nat.blt 0 len && (Nat.blt 0 te.cells.length && Nat.ble (len * te.cells.length) (2 ^ 24)))
      · exact fun _ _ h => (nomatch h)
      · simp only [cond_true]
        cases fillX _ _ ps with
        | none => exact fun _ _ h => (nomatch h)
        | some rows => exact fun σ1 v h => by cases h; rw [hl]; exact ⟨_, rfl, rfl⟩
  · exact fun _ _ h => (nomatch h)
theorem amakeSlice_at (hl : τ.st.length = σ.st.length) (t : Nat) (l c : AV) : Loc NewQ σ τ (amakeSlice T σ t l c) (amakeSlice T τ t l c) := by
  unfold amakeSlice
  split
  · rename_i e _ _ _ _ _ _ _
    cases T e with
    | none => exact Loc.none
    | some te =>
      simp only
      cases (te.cells.isEmpty || Nat.beq te.bytes 0)
      · exact Loc.new hl ⟨_, rfl⟩
      · exact Loc.none
  · exact Loc.none

theorem astore_at (t : Nat) (v a : AV) (h : SameAt (topIds a) σ τ) : ∀ σ1, astore T σ t v a = some σ1 → ∃ id o, headId (topIds a) = some id ∧ σ1 = (Eff.write id o).on σ ∧ astore T τ t v a = some ((Eff.write id o).on τ) := by
  unfold astore
  cases a
  case ptr id off =>
    have eq := h id (by simp [topIds])
    simp only [eq]
    intro σ1 h1
    split at h1
    · rename_i bt cs ti h2 h3
      simp only [cond_eq_ite] at h1 ⊢
      split at h1
      · rename_i hc; rw [if_pos hc]; cases h1; exact ⟨id, _, rfl, rfl, rfl⟩
      · cases h1
    · cases h1
  case ap id i off =>
    have eq := h id (by simp [topIds])
    simp only [eq]
    intro σ1 h1
    split at h1
    · rename_i e kd rows ti h2 h3
      split at h1
      · rename_i te h4
        simp only [cond_eq_ite] at h1 ⊢
        split at h1
        · rename_i hc; rw [if_pos hc]; cases h1; exact ⟨id, _, rfl, rfl, rfl⟩
        · cases h1
      · cases h1
    · rename_i e rows ti h2 h3
      split at h1
      · rename_i te h4
        simp only [cond_eq_ite] at h1 ⊢
        split at h1
        · rename_i hc; rw [if_pos hc]; cases h1; exact ⟨id, _, rfl, rfl, rfl⟩
        · cases h1
      · cases h1
    · cases h1
  all_goals (intro σ1 h1; cases h1)
end
end Go.Fw
