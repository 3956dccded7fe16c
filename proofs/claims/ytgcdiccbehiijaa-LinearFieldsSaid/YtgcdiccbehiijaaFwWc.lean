/- The framework, part Wc: drawn regions whose effects commute: what a step does, told apart from the state that it is done in. -/
import Derived.Test.YtgcdiccbehiijaaFwWb
set_option linter.all false
set_option linter.unusedSimpArgs false
set_option linter.unusedVariables false
namespace Go.Fw

/-! ### Values that no scrubbing touches -/
/-- references stay, but for those to some objects, and those from 'n' on, which may become unknown -/
structure Scr (ids : List Nat) (n : Nat) (g : AV → AV) : Prop where
  scr : Scrubs g
  sr : ∀ i, i < n → i ∉ ids → g (.sr i) = .sr i
  ss : ∀ i a b, i < n → i ∉ ids → g (.ss i a b) = .ss i a b
  ptr : ∀ i a, i < n → i ∉ ids → g (.ptr i a) = .ptr i a
  ap : ∀ i a b, i < n → i ∉ ids → g (.ap i a b) = .ap i a b

def StabV (g : AV → AV) (v : AV) : Prop := v.onRefs g = v ∧ ∀ v' : AV, v'.onRefs g = v → v' = v

mutual
theorem stab_fix {ids : List Nat} {n : Nat} {g : AV → AV} (hg : Scr ids n g) : ∀ v : AV, v.stab ids n = true → v.onRefs g = v
  | .agg cs, h => by simp only [AV.onRefs]; rw [stabL_fix hg cs (by simpa [AV.stab] using h)]
  | .tup cs, h => by simp only [AV.onRefs]; rw [stabL_fix hg cs (by simpa [AV.stab] using h)]
  | .fn f a b, h => by
    simp only [AV.stab, Bool.and_eq_true] at h
    simp only [AV.onRefs]; rw [stabL_fix hg a h.1, stabL_fix hg b h.2]
  | .iface t v, h => by simp only [AV.onRefs]; rw [stab_fix hg v (by simpa [AV.stab] using h)]
  | .sr i, h => by
    simp only [AV.stab, Bool.and_eq_true, Nat.blt_eq, Bool.not_eq_true', List.elem_eq_mem, decide_eq_false_iff_not] at h
    exact hg.sr i h.1 h.2
  | .ss i a b, h => by
    simp only [AV.stab, Bool.and_eq_true, Nat.blt_eq, Bool.not_eq_true', List.elem_eq_mem, decide_eq_false_iff_not] at h
    exact hg.ss i a b h.1 h.2
  | .ptr i a, h => by
    simp only [AV.stab, Bool.and_eq_true, Nat.blt_eq, Bool.not_eq_true', List.elem_eq_mem, decide_eq_false_iff_not] at h
    exact hg.ptr i a h.1 h.2
  | .ap i a b, h => by
    simp only [AV.stab, Bool.and_eq_true, Nat.blt_eq, Bool.not_eq_true', List.elem_eq_mem, decide_eq_false_iff_not] at h
    exact hg.ap i a b h.1 h.2
  | .undef, h => by simp [AV.stab] at h
  | .k v, h => rfl
  | .sl t kd r, h => rfl
  | .ep t r o, h => rfl
theorem stabL_fix {ids : List Nat} {n : Nat} {g : AV → AV} (hg : Scr ids n g) : ∀ vs : List AV, AV.stabL ids n vs = true → AV.onRefsL g vs = vs
  | [], _ => rfl
  | v :: vs, h => by
    simp only [AV.stabL, Bool.and_eq_true] at h
    simp only [AV.onRefsL]; rw [stab_fix hg v h.1, stabL_fix hg vs h.2]
end

/-- a leaf that is a reference comes from itself or from nothing known -/
theorem ref_back {g : AV → AV} (hg : Scrubs g) {r v' : AV} (hr : isRef r = true) (h : v'.onRefs g = r) : v' = r := by
  cases v' <;> simp only [AV.onRefs] at h
  all_goals first
    | (subst h; cases hr; done)
    | (rcases hg _ with e | e <;> rw [e] at h <;> first | exact h | (subst h; cases hr))

mutual
theorem stab_back {ids : List Nat} {n : Nat} {g : AV → AV} (hg : Scrubs g) : ∀ v v' : AV, v.stab ids n = true → v'.onRefs g = v → v' = v
  | .agg cs, v', hs, h => by
    cases v' <;> simp only [AV.onRefs] at h
    all_goals first | (cases h; done) | (rcases hg _ with e | e <;> rw [e] at h <;> cases h; done) | skip
    injection h with h
    rw [stabL_back hg cs _ (by simpa [AV.stab] using hs) h]
  | .tup cs, v', hs, h => by
    cases v' <;> simp only [AV.onRefs] at h
    all_goals first | (cases h; done) | (rcases hg _ with e | e <;> rw [e] at h <;> cases h; done) | skip
    injection h with h
    rw [stabL_back hg cs _ (by simpa [AV.stab] using hs) h]
  | .fn f a b, v', hs, h => by
    simp only [AV.stab, Bool.and_eq_true] at hs
    cases v' <;> simp only [AV.onRefs] at h
    all_goals first | (cases h; done) | (rcases hg _ with e | e <;> rw [e] at h <;> cases h; done) | skip
    injection h with h1 h2 h3
    rw [h1, stabL_back hg a _ hs.1 h2, stabL_back hg b _ hs.2 h3]
  | .iface t v, v', hs, h => by
    cases v' <;> simp only [AV.onRefs] at h
    all_goals first | (cases h; done) | (rcases hg _ with e | e <;> rw [e] at h <;> cases h; done) | skip
    injection h with h1 h2
    rw [h1, stab_back hg v _ (by simpa [AV.stab] using hs) h2]
  | .sr i, v', hs, h => ref_back hg rfl h
  | .ss i a b, v', hs, h => ref_back hg rfl h
  | .ptr i a, v', hs, h => ref_back hg rfl h
  | .ap i a b, v', hs, h => ref_back hg rfl h
  | .undef, v', hs, h => by simp [AV.stab] at hs
  | .k x, v', hs, h => by
    cases v' <;> simp only [AV.onRefs] at h
    all_goals first | (cases h; done) | (rcases hg _ with e | e <;> rw [e] at h <;> cases h; done) | exact h
  | .sl t kd r, v', hs, h => by
    cases v' <;> simp only [AV.onRefs] at h
    all_goals first | (cases h; done) | (rcases hg _ with e | e <;> rw [e] at h <;> cases h; done) | exact h
  | .ep t r o, v', hs, h => by
    cases v' <;> simp only [AV.onRefs] at h
    all_goals first | (cases h; done) | (rcases hg _ with e | e <;> rw [e] at h <;> cases h; done) | exact h
theorem stabL_back {ids : List Nat} {n : Nat} {g : AV → AV} (hg : Scrubs g) : ∀ vs vs' : List AV, AV.stabL ids n vs = true → AV.onRefsL g vs' = vs → vs' = vs
  | [], vs', _, h => by
    cases vs' with
    | nil => rfl
    | cons x xs => simp [AV.onRefsL] at h
  | v :: vs, vs', hs, h => by
    simp only [AV.stabL, Bool.and_eq_true] at hs
    cases vs' with
    | nil => simp [AV.onRefsL] at h
    | cons x xs =>
      simp only [AV.onRefsL, List.cons.injEq] at h
      rw [stab_back hg v x hs.1 h.1, stabL_back hg vs xs hs.2 h.2]
end

theorem Scr.stab {ids : List Nat} {n : Nat} {g : AV → AV} (hg : Scr ids n g) {v : AV} (h : v.stab ids n = true) : StabV g v := ⟨stab_fix hg v h, fun v' h' => stab_back hg.scr v v' h h'⟩

def StabO (g : AV → AV) (o : AObj) : Prop := o.onRefs g = o ∧ ∀ o' : AObj, o'.onRefs g = o → o' = o
theorem Scr.stabO {ids : List Nat} {n : Nat} {g : AV → AV} (hg : Scr ids n g) {o : AObj} (h : o.stab ids n = true) : StabO g o := by
  cases o with
  | box t cs =>
    simp only [AObj.stab] at h
    refine ⟨by simp only [AObj.onRefs]; rw [stabL_fix hg cs h], fun o' h' => ?_⟩
    cases o' <;> simp only [AObj.onRefs] at h' <;> first | (cases h'; done) | skip
    injection h' with h1 h2
    rw [h1, stabL_back hg.scr cs _ h h2]
  | arx t rows =>
    simp only [AObj.stab, List.all_eq_true] at h
    refine ⟨?_, fun o' h' => ?_⟩
    · simp only [AObj.onRefs]
      have : rows.map (AV.onRefsL g) = rows := by
        conv => rhs; rw [← List.map_id rows]
        exact List.map_congr_left fun r hr => stabL_fix hg r (h r hr)
      rw [this]
    · cases o' <;> simp only [AObj.onRefs] at h' <;> first | (cases h'; done) | skip
      rename_i t' rows'
      injection h' with h1 h2
      subst h1
      congr 1
      induction rows generalizing rows' with
      | nil => simpa using h2
      | cons r rs ih =>
        cases rows' with
        | nil => simp at h2
        | cons r' rs' =>
          simp only [List.map_cons, List.cons.injEq] at h2
          rw [stabL_back hg.scr r r' (h r List.mem_cons_self) h2.1, ih (fun x hx => h x (List.mem_cons_of_mem _ hx)) rs' h2.2]
  | arr t kd rows =>
    refine ⟨rfl, fun o' h' => ?_⟩
    cases o' <;> simp only [AObj.onRefs] at h' <;> first | (cases h'; done) | exact h'
  | iter s p =>
    refine ⟨rfl, fun o' h' => ?_⟩
    cases o' <;> simp only [AObj.onRefs] at h' <;> first | (cases h'; done) | exact h'
  | dead =>
    refine ⟨rfl, fun o' h' => ?_⟩
    cases o' <;> simp only [AObj.onRefs] at h' <;> first | (cases h'; done) | rfl

mutual
theorem scr_comm {g h : AV → AV} (hg : Scrubs g) (hh : Scrubs h) : ∀ v : AV, (v.onRefs g).onRefs h = (v.onRefs h).onRefs g
  | .agg cs => by simp only [AV.onRefs]; rw [scrL_comm hg hh cs]
  | .tup cs => by simp only [AV.onRefs]; rw [scrL_comm hg hh cs]
  | .fn f a b => by simp only [AV.onRefs]; rw [scrL_comm hg hh a, scrL_comm hg hh b]
  | .iface t v => by simp only [AV.onRefs]; rw [scr_comm hg hh v]
  | .sr i => by
    simp only [AV.onRefs]
    rcases hg (.sr i) with e1 | e1 <;> rcases hh (.sr i) with e2 | e2 <;> simp [e1, e2, AV.onRefs]
  | .ss i a b => by
    simp only [AV.onRefs]
    rcases hg (.ss i a b) with e1 | e1 <;> rcases hh (.ss i a b) with e2 | e2 <;> simp [e1, e2, AV.onRefs]
  | .ptr i a => by
    simp only [AV.onRefs]
    rcases hg (.ptr i a) with e1 | e1 <;> rcases hh (.ptr i a) with e2 | e2 <;> simp [e1, e2, AV.onRefs]
  | .ap i a b => by
    simp only [AV.onRefs]
    rcases hg (.ap i a b) with e1 | e1 <;> rcases hh (.ap i a b) with e2 | e2 <;> simp [e1, e2, AV.onRefs]
  | .undef => rfl
  | .k v => rfl
  | .sl t kd r => rfl
  | .ep t r o => rfl
theorem scrL_comm {g h : AV → AV} (hg : Scrubs g) (hh : Scrubs h) : ∀ vs : List AV, AV.onRefsL h (AV.onRefsL g vs) = AV.onRefsL g (AV.onRefsL h vs)
  | [] => rfl
  | v :: vs => by simp only [AV.onRefsL]; rw [scr_comm hg hh v, scrL_comm hg hh vs]
end
theorem scrO_comm {g h : AV → AV} (hg : Scrubs g) (hh : Scrubs h) (o : AObj) : (o.onRefs g).onRefs h = (o.onRefs h).onRefs g := by
  cases o with
  | box t cs => simp only [AObj.onRefs]; rw [scrL_comm hg hh]
  | arx t rows =>
    simp only [AObj.onRefs, List.map_map]
    congr 1
    exact List.map_congr_left fun r _ => scrL_comm hg hh r
  | _ => rfl

/-! ### What a step does -/
structure Ap where
  g : AV → AV
  dst : Option Nat
  v : AV
  w : Option (Nat × AObj)

def Ap.tm (p : Ap) (tm : List AV) : List AV := match p.dst with
  | some d => (AV.onRefsL p.g tm).set d p.v
  | none => AV.onRefsL p.g tm
def Ap.st (p : Ap) (st : List AObj) : List AObj := match p.w with
  | some (i, o) => (st.map (AObj.onRefs p.g)).set i o
  | none => st.map (AObj.onRefs p.g)
def Ap.on (p : Ap) (x : List AV × List AObj) : List AV × List AObj := (p.tm x.1, p.st x.2)

/-- two steps that commute -/
structure Indep (p q : Ap) : Prop where
  sp : Scrubs p.g
  sq : Scrubs q.g
  dst : ∀ d, p.dst = some d → q.dst ≠ some d
  vp : p.dst ≠ none → p.v.onRefs q.g = p.v
  vq : q.dst ≠ none → q.v.onRefs p.g = q.v
  w : ∀ i o j o', p.w = some (i, o) → q.w = some (j, o') → i ≠ j
  op : ∀ i o, p.w = some (i, o) → o.onRefs q.g = o
  oq : ∀ i o, q.w = some (i, o) → o.onRefs p.g = o

theorem onRefsL_set (g : AV → AV) (l : List AV) (d : Nat) (v : AV) : AV.onRefsL g (l.set d v) = (AV.onRefsL g l).set d (v.onRefs g) := by
  rw [onRefsL_eq, onRefsL_eq, List.map_set]

theorem Indep.comm {p q : Ap} (h : Indep p q) (x : List AV × List AObj) : q.on (p.on x) = p.on (q.on x) := by
  obtain ⟨tm, st⟩ := x
  simp only [Ap.on, Prod.mk.injEq]
  constructor
  · unfold Ap.tm
    have hc := scrL_comm h.sp h.sq tm
    cases hp : p.dst with
    | none =>
      cases hq : q.dst with
      | none => exact hc
      | some e =>
        simp only
        rw [onRefsL_set, hc, h.vq (by rw [hq]; simp)]
    | some d =>
      cases hq : q.dst with
      | none =>
        simp only
        rw [onRefsL_set, hc, h.vp (by rw [hp]; simp)]
      | some e =>
        simp only
        have hne : d ≠ e := fun e' => h.dst d hp (by rw [hq, e'])
        rw [onRefsL_set, onRefsL_set, hc, h.vp (by rw [hp]; simp), h.vq (by rw [hq]; simp)]
        exact List.set_comm _ _ hne
  · unfold Ap.st
    have hc : (st.map (AObj.onRefs p.g)).map (AObj.onRefs q.g) = (st.map (AObj.onRefs q.g)).map (AObj.onRefs p.g) := by
      rw [List.map_map, List.map_map]
      exact List.map_congr_left fun o _ => scrO_comm h.sp h.sq o
    cases hp : p.w with
    | none =>
      cases hq : q.w with
      | none => exact hc
      | some e =>
        obtain ⟨j, o'⟩ := e
        simp only
        rw [List.map_set, hc, h.oq j o' hq]
    | some d =>
      obtain ⟨i, o⟩ := d
      cases hq : q.w with
      | none =>
        simp only
        rw [List.map_set, hc, h.op i o hp]
      | some e =>
        obtain ⟨j, o'⟩ := e
        simp only
        have hne := h.w i o j o' hp hq
        rw [List.map_set, List.map_set, hc, h.op i o hp, h.oq j o' hq]
        exact List.set_comm _ _ hne

/-! ### Folds -/
section
variable {A : Nat → Ap}
def app (A : Nat → Ap) (x : List AV × List AObj) (i : Nat) : List AV × List AObj := (A i).on x

theorem fold_move {i : Nat} : ∀ (l : List Nat) (x : List AV × List AObj), (∀ k ∈ l, ∀ x, app A (app A x i) k = app A (app A x k) i) → l.foldl (app A) (app A x i) = app A (l.foldl (app A) x) i
  | [], x, _ => rfl
  | k :: l, x, h => by
    simp only [List.foldl_cons]
    rw [h k List.mem_cons_self, fold_move l _ fun k' hk' => h k' (List.mem_cons_of_mem _ hk')]

/-- a fold in order, with some of them put last -/
theorem fold_split {P : Nat → Bool} : ∀ (l : List Nat) (x : List AV × List AObj), l.Pairwise (fun a b => P a = false → P b = true → ∀ x, app A (app A x a) b = app A (app A x b) a) →
    l.foldl (app A) x = (l.filter fun i => !P i).foldl (app A) ((l.filter P).foldl (app A) x)
  | [], x, _ => rfl
  | a :: l, x, h => by
    obtain ⟨h1, h2⟩ := List.pairwise_cons.1 h
    simp only [List.foldl_cons]
    rw [fold_split l _ h2]
    cases hP : P a with
    | true => simp [hP]
    | false =>
      simp only [List.filter_cons, hP, Bool.not_false, if_true, Bool.false_eq_true, if_false, List.foldl_cons]
      congr 1
      exact fold_move _ _ fun k hk => h1 k (List.mem_filter.1 hk).1 hP (List.mem_filter.1 hk).2
end
end Go.Fw
