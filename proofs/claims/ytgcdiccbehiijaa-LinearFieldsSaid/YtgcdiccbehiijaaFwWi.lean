/- The framework, part Wi: a segment of a drawn region: every order comes to the same. -/
import Derived.Test.YtgcdiccbehiijaaFwWh
set_option linter.all false
set_option linter.unusedSimpArgs false
set_option linter.unusedVariables false
namespace Go.Fw

/-- an operation that stands ahead of another for sure -/
def Ahead (ops : Array Oper) (i : Nat) (y : Oper) : Prop := ∀ L, Closed ops.toList L → (∀ e ∈ y.after, Region.binds .any e = true → L e.on) → L i

/-- what is checked of two operations that no edge orders -/
theorem leaves_w {N : Nat} {p q : Fp} (h : p.leaves N q = true) : (∀ a, p.w = some a → a ∉ q.touch) ∧ (∀ a b, p.w = some a → q.w = some b → a ≠ b) := by
  unfold Fp.leaves at h
  rw [Bool.and_eq_true] at h
  obtain ⟨h1, _⟩ := h
  refine ⟨fun a ha => ?_, fun a b ha hb hab => ?_⟩
  · rw [ha] at h1
    simp only [Bool.and_eq_true, Bool.not_eq_true', List.elem_eq_mem, decide_eq_false_iff_not] at h1
    exact h1.1
  · rw [ha, hb] at h1
    simp only [Bool.and_eq_true, Bool.not_eq_true'] at h1
    rw [hab, Nat.beq_refl] at h1
    exact absurd h1.2 (by simp)

theorem stabV_id (v : AV) : StabV (fun r => r) v := by
  refine ⟨onRefs_id v, fun v' h => ?_⟩
  rw [onRefs_id] at h; exact h
theorem stabO_id (o : AObj) : StabO (fun r => r) o := by
  refine ⟨AObj.onRefs_id o, fun v' h => ?_⟩
  rw [AObj.onRefs_id] at h; exact h

theorem stabL_mem {ids : List Nat} {n : Nat} : ∀ {vs : List AV}, AV.stabL ids n vs = true → ∀ v ∈ vs, v.stab ids n = true
  | [], _, v, hv => by cases hv
  | x :: xs, h, v, hv => by
    simp only [AV.stabL, Bool.and_eq_true] at h
    rcases List.mem_cons.1 hv with rfl | hv
    · exact h.1
    · exact stabL_mem h.2 v hv

theorem leaves_stab {N : Nat} {p q : Fp} {g : AV → AV} (h : p.leaves N q = true) (hs : Scr p.scr N g) (hf : p.fix = true → g = fun r => r) :
    (∀ v ∈ q.opv, StabV g v) ∧ (∀ o ∈ q.tobj, StabO g o) ∧ (q.dst ≠ none → StabV g q.v) ∧ (q.w ≠ none → StabO g q.o) := by
  unfold Fp.leaves at h
  rw [Bool.and_eq_true] at h
  obtain ⟨_, h2⟩ := h
  cases hfx : p.fix with
  | true =>
    rw [hf hfx]
    exact ⟨fun v _ => stabV_id v, fun o _ => stabO_id o, fun _ => stabV_id _, fun _ => stabO_id _⟩
  | false =>
    rw [hfx] at h2
    simp only [Bool.false_or, Bool.and_eq_true] at h2
    obtain ⟨k1, k2, k3, k4⟩ := h2
    refine ⟨fun v hv => hs.stab (stabL_mem k1 v hv), fun o ho => hs.stabO (List.all_eq_true.1 k2 o ho), fun hd => ?_, fun hw => ?_⟩
    · cases hq : q.dst with
      | none => exact absurd hq hd
      | some d => rw [hq] at k3; exact hs.stab (by simpa using k3)
    · cases hq : q.w with
      | none => exact absurd hq hw
      | some d => rw [hq] at k4; exact hs.stabO (by simpa using k4)

section
variable {P : Program} {C : Ctx} {B : Base} {ops : Array Oper} {N : Nat} {Q : Exit → Act → World → Prop}

/-- two operations of a segment that no edge orders commute -/
theorem seg_indep {i k s t : Nat} {x y : Oper} {σ1 σ1' σ2 σ2' : St} {p q : Fp} {A A' : Ap} {fk fk' : Fk} (h1 : Seg1 P C ops N i s x σ1 σ1' p A fk) (h2 : Seg1 P C ops N k t y σ2 σ2' q A' fk')
    (hap : x.apart ops y = true) (hpq : p.leaves N q = true) (hqp : q.leaves N p = true) : Indep A A' := by
  obtain ⟨a1, a2, a3⟩ := Oper.apart_spec hap
  obtain ⟨b1, b2, b3, b4⟩ := leaves_stab hpq h1.scr h1.fix
  obtain ⟨c1, c2, c3, c4⟩ := leaves_stab hqp h2.scr h2.fix
  refine ⟨h1.scr.scr, h2.scr.scr, fun d hd => ?_, fun hd => ?_, fun hd => ?_, fun i o j o' hi hj => ?_, fun i o hi => ?_, fun i o hi => ?_⟩
  · rw [h1.dst] at hd; rw [h2.dst]; exact a2 d hd
  · rw [h1.v]; exact (c3 (by rw [h1.fdst, ← h1.dst]; exact hd)).1
  · rw [h2.v]; exact (b3 (by rw [h2.fdst, ← h2.dst]; exact hd)).1
  · rw [h1.w, Option.map_eq_some_iff] at hi
    rw [h2.w, Option.map_eq_some_iff] at hj
    obtain ⟨a, ha, e1⟩ := hi
    obtain ⟨b, hb, e2⟩ := hj
    cases e1; cases e2
    exact (leaves_w hpq).2 _ _ ha hb
  · rw [h1.w, Option.map_eq_some_iff] at hi
    obtain ⟨a, ha, e1⟩ := hi
    cases e1
    exact (c4 (by rw [ha]; simp)).1
  · rw [h2.w, Option.map_eq_some_iff] at hi
    obtain ⟨a, ha, e1⟩ := hi
    cases e1
    exact (b4 (by rw [ha]; simp)).1

/-- and the one's step leaves the other's view -/
theorem seg_view {i k s t : Nat} {x y : Oper} {σ1 σ1' σ2 σ2' : St} {p q : Fp} {A A' : Ap} {fk fk' : Fk} (h1 : Seg1 P C ops N i s x σ1 σ1' p A fk) (h2 : Seg1 P C ops N k t y σ2 σ2' q A' fk')
    (hd : ∀ d, x.dst = some d → d ∉ y.looksAt ops) (hpq : p.leaves N q = true) {z z' : St} (hl : z.st.length = N) (hl' : z'.st.length = N) (hz : (z'.tmps, z'.st) = A.on (z.tmps, z.st)) :
    Vw C.T N ops fk' y q z' ↔ Vw C.T N ops fk' y q z := by
  obtain ⟨b1, b2, b3, b4⟩ := leaves_stab hpq h1.scr h1.fix
  refine Vw.iff hl hl' hz h1.scr.scr (fun d hdd => hd d (by rw [← h1.dst]; exact hdd)) (fun i o' hi => ?_) b1 b2 (fun hf => b3 (by rw [h2.fdst]; exact h2.ldst hf)) h2.tells
  rw [h1.w, Option.map_eq_some_iff] at hi
  obtain ⟨a, ha, e1⟩ := hi
  cases e1
  exact (leaves_w hpq).1 _ ha

theorem keepIf_congr {T : Tab} {fk : Fk} {o : Oper} {fp : Fp} {x x' : St} (ht : x'.tmps = x.tmps) (hs : x'.st = x.st) : Vw T N ops fk o fp x' ↔ Vw T N ops fk o fp x := by
  have e1 : (keepIf fk N x').tmps = (keepIf fk N x).tmps := by unfold keepIf; cases fk.isNew <;> simp [St.keep, ht]
  have e2 : (keepIf fk N x').st = (keepIf fk N x).st := by unfold keepIf; cases fk.isNew <;> simp [St.keep, hs]
  have e3 : ∀ a, (keepIf fk N x').eval a = (keepIf fk N x).eval a := fun a => by cases a <;> simp [St.eval, e1]
  constructor
  · rintro ⟨a, b, c⟩
    refine ⟨by rw [← e1]; exact a, fun hf t a hop => ?_, fun hf => by rw [← e2]; exact c hf⟩
    rw [← e3, ← aload_st e2]; exact b hf t a hop
  · rintro ⟨a, b, c⟩
    refine ⟨by rw [e1]; exact a, fun hf t a hop => ?_, fun hf => by rw [e2]; exact c hf⟩
    rw [e3, aload_st e2]; exact b hf t a hop

/-- the facts of a segment that begins at 'b' and has 'n' operations -/
structure SegF (P : Program) (C : Ctx) (ops : Array Oper) (N L b n : Nat) (S : Nat → St) (F : Nat → Fp) (A : Nat → Ap) (fk : Nat → Fk) : Prop where
  le : b + n ≤ ops.size
  step : ∀ j o, j < n → ops[b + j]? = some o → Seg1 P C ops N (b + j) (L + j) o (S j) (S (j + 1)) (F j) (A j) (fk j)
  len : (S 0).st.length = N
  back : ∀ j y, ops[j]? = some y → ∀ e ∈ y.after, Region.binds .any e = true → e.on < j
  cross : ∀ j k y, j < n → b + n ≤ k → ops[k]? = some y → Ahead ops (b + j) y
  pair : ∀ j k x y, j < k → k < n → ops[b + j]? = some x → ops[b + k]? = some y →
    Ahead ops (b + j) y ∨ (x.apart ops y = true ∧ (F j).leaves N (F k) = true ∧ (F k).leaves N (F j) = true)

def toSt (c : List AV × List AObj) : St := ⟨c.1, c.2, []⟩

/-- what is known while a segment is done -/
structure MidS (C : Ctx) (B : Base) (ops : Array Oper) (N b n : Nat) (S : Nat → St) (A : Nat → Ap) (listed : Array Bool) (a : Act) (w : World) : Prop where
  size : listed.size = ops.size
  closed : Closed ops.toList (Lst listed)
  before : ∀ i, i < b → Lst listed i
  after : ∀ i, b + n ≤ i → ¬ Lst listed i
  mid : ∃ x : St, x.st.length = N ∧ (x.tmps, x.st) = ((List.range n).filter fun j => listed.getD (b + j) false).foldl (app A) ((S 0).tmps, (S 0).st) ∧ (∀ m ∈ x.moved, m ∈ (S n).moved) ∧ At C.T B x a w

variable {L b n : Nat} {S : Nat → St} {F : Nat → Fp} {A : Nat → Ap} {fk : Nat → Fk}

theorem SegF.get (hF : SegF P C ops N L b n S F A fk) {j : Nat} (hj : j < n) : ∃ o, ops[b + j]? = some o := ⟨_, Array.getElem?_eq_getElem (by have := hF.le; omega)⟩

theorem SegF.lenS (hF : SegF P C ops N L b n S F A fk) : ∀ j, j ≤ n → (S j).st.length = N
  | 0, _ => hF.len
  | j + 1, hj => by
    obtain ⟨o, ho⟩ := hF.get (j := j) (by omega)
    exact (hF.step j o (by omega) ho).len

theorem SegF.canonical (hF : SegF P C ops N L b n S F A fk) : ∀ j, j ≤ n → ((S j).tmps, (S j).st) = (List.range j).foldl (app A) ((S 0).tmps, (S 0).st)
  | 0, _ => rfl
  | j + 1, hj => by
    obtain ⟨o, ho⟩ := hF.get (j := j) (by omega)
    rw [List.range_succ, List.foldl_append, ← hF.canonical j (by omega)]
    exact (hF.step j o (by omega) ho).on

theorem SegF.moved (hF : SegF P C ops N L b n S F A fk) : ∀ (d j : Nat), j + d = n → ∀ m ∈ (S j).moved, m ∈ (S n).moved
  | 0, j, h, m, hm => by rw [← h]; exact hm
  | d + 1, j, h, m, hm => by
    obtain ⟨o, ho⟩ := hF.get (j := j) (by omega)
    exact hF.moved d (j + 1) (by omega) m ((hF.step j o (by omega) ho).mv m hm)

/-- the length stays -/
theorem SegF.fold_len (hF : SegF P C ops N L b n S F A fk) : ∀ (l : List Nat) (c : List AV × List AObj), c.2.length = N → (l.foldl (app A) c).2.length = N
  | [], c, h => h
  | j :: l, c, h => by
    refine hF.fold_len l _ ?_
    simp only [app, Ap.on, Ap.st]
    split <;> simpa using h

/-- a view over a fold -/
theorem SegF.fold_view (hF : SegF P C ops N L b n S F A fk) {i : Nat} {o : Oper} (hi : i < n) (ho : ops[b + i]? = some o) : ∀ (l : List Nat) (c : List AV × List AObj), c.2.length = N →
    (∀ k ∈ l, k < n ∧ ∀ x, ops[b + k]? = some x → (∀ d, x.dst = some d → d ∉ o.looksAt ops) ∧ (F k).leaves N (F i) = true) →
    (Vw C.T N ops (fk i) o (F i) (toSt (l.foldl (app A) c)) ↔ Vw C.T N ops (fk i) o (F i) (toSt c))
  | [], c, _, _ => Iff.rfl
  | k :: l, c, hc, h => by
    obtain ⟨hk, h2⟩ := h k List.mem_cons_self
    obtain ⟨x, hx⟩ := hF.get hk
    obtain ⟨h3, h4⟩ := h2 x hx
    have hlen : (app A c k).2.length = N := hF.fold_len [k] c hc
    refine (hF.fold_view hi ho l (app A c k) hlen fun k' hk' => h k' (List.mem_cons_of_mem _ hk')).trans ?_
    exact seg_view (hF.step k x hk hx) (hF.step i o hi ho) h3 h4 (z := toSt c) (z' := toSt (app A c k)) hc hlen rfl

theorem range_split {n i : Nat} (h : i < n) : List.range n = List.range i ++ i :: (List.range' (i + 1) (n - (i + 1))) := by
  have h1 : n = i + ((n - (i + 1)) + 1) := by omega
  have h2 : List.range n = List.range' 0 n := List.range_eq_range'
  rw [h2, List.range_eq_range']
  conv => lhs; rw [h1, ← List.range'_append_1]
  simp [List.range'_succ]

theorem midS_step (hm : B.m ≤ L) (hF : SegF P C ops N L b n S F A fk) {listed : Array Bool} {a : Act} {w : World} (hM : MidS C B ops N b n S A listed a w) {i : Nat} (hi : i ∈ Region.ready .any ops listed)
    (hnc : ∃ j, j < n ∧ ¬ Lst listed (b + j)) :
    wpOp P ops Q i (fun a' w' => MidS C B ops N b n S A (listed.setIfInBounds i true) a' w') a w := by
  obtain ⟨hun, o, ho, hed⟩ := mem_ready.1 hi
  obtain ⟨hisz, hnL⟩ := not_Lst hun
  obtain ⟨hsize, hcl, hbef, haft, x, hxl, hxf, hxm, hA⟩ := hM
  have hin : i < ops.size := hsize ▸ hisz
  have hL' : ∀ j, Lst (listed.setIfInBounds i true) j ↔ j = i ∨ Lst listed j := fun j => Lst_set hisz
  have hib : b ≤ i := by
    rcases Nat.lt_or_ge i b with h | h
    · exact absurd (hbef i h) hnL
    · exact h
  have hie : i < b + n := by
    rcases Nat.lt_or_ge i (b + n) with h | h
    · exact h
    · obtain ⟨j, hj, hjn⟩ := hnc
      exact absurd (hF.cross j i o hj h ho _ hcl hed) hjn
  obtain ⟨i0, rfl⟩ : ∃ i0, i = b + i0 := ⟨i - b, by omega⟩
  have hi0 : i0 < n := by omega
  have hcl' : Closed ops.toList (Lst (listed.setIfInBounds (b + i0) true)) := fun j oj hj hLj e he hbnd => by
    rcases (hL' j).1 hLj with rfl | h
    · have hj' : ops[b + i0]? = some oj := by simpa using hj
      rw [ho] at hj'; cases hj'
      exact (hL' _).2 (.inr (hed e he hbnd))
    · exact (hL' _).2 (.inr (hcl j oj hj h e he hbnd))
  have hsize' : (listed.setIfInBounds (b + i0) true).size = ops.size := by simpa using hsize
  have ahead : ∀ j, Ahead ops j o → Lst listed j := fun j h => h _ hcl hed
  have behind : ∀ j y, ops[j]? = some y → Ahead ops (b + i0) y → ¬ Lst listed j := fun j y hj h hLj =>
    hnL (h _ hcl (fun e he hbnd => hcl j y (by simpa using hj) hLj e he hbnd))
  let D : Nat → Bool := fun j => listed.getD (b + j) false
  have hD : ∀ j, D j = true ↔ Lst listed (b + j) := fun j => Iff.rfl
  have hx0 : ((S 0).tmps, (S 0).st).2.length = N := hF.len
  -- two operations of which one is done and the other, ahead of it in the text, is not
  have comm : ∀ j k, j < k → k < n → (D j = false) → D k = true → ∀ c, app A (app A c j) k = app A (app A c k) j := fun j k hjk hk hDj hDk c => by
    obtain ⟨xj, hxj⟩ := hF.get (j := j) (by omega)
    obtain ⟨xk, hxk⟩ := hF.get hk
    rcases hF.pair j k xj xk hjk hk hxj hxk with h | ⟨h1, h2, h3⟩
    · exfalso
      have : Lst listed (b + j) := h _ hcl fun e he hbnd => hcl (b + k) xk (by simpa using hxk) hDk e he hbnd
      have := (hD j).2 this
      rw [hDj] at this; cases this
    · exact (seg_indep (hF.step j xj (by omega) hxj) (hF.step k xk hk hxk) h1 h2 h3).comm c
  -- the operations ahead that are done, and behind them
  let y0 := ((List.range i0).filter D).foldl (app A) ((S 0).tmps, (S 0).st)
  have hDi : D i0 = false := by
    cases h : D i0 with
    | false => rfl
    | true => exact absurd ((hD i0).1 h) hnL
  have hxy : (x.tmps, x.st) = ((List.range' (i0 + 1) (n - (i0 + 1))).filter D).foldl (app A) y0 := by
    rw [hxf, range_split hi0, List.filter_append, List.foldl_append, List.filter_cons]
    have h1 : (fun j => listed.getD (b + j) false) = D := rfl
    have h2 : listed.getD (b + i0) false = false := hDi
    rw [h1, h2]
    rfl
  have hSy : ((S i0).tmps, (S i0).st) = ((List.range i0).filter fun j => !D j).foldl (app A) y0 := by
    rw [hF.canonical i0 (by omega)]
    refine fold_split _ _ (List.pairwise_iff_getElem.2 fun p q hp hq hpq => ?_)
    rw [List.length_range] at hp hq
    simp only [List.getElem_range]
    exact fun h1 h2 => comm p q hpq (by omega) h1 h2
  have hy0 : y0.2.length = N := hF.fold_len _ _ hx0
  -- the view
  have hstep := hF.step i0 o hi0 ho
  have hview0 : Vw C.T N ops (fk i0) o (F i0) (toSt y0) := by
    have h1 : Vw C.T N ops (fk i0) o (F i0) (toSt (((List.range i0).filter fun j => !D j).foldl (app A) y0)) := by
      rw [← hSy]
      exact (keepIf_congr (x := S i0) (x' := toSt ((S i0).tmps, (S i0).st)) rfl rfl).2 hstep.view
    refine (hF.fold_view hi0 ho _ y0 hy0 fun k hk => ?_).1 h1
    rw [List.mem_filter, List.mem_range] at hk
    refine ⟨by omega, fun xk hxk => ?_⟩
    rcases hF.pair k i0 xk o hk.1 hi0 hxk ho with h | ⟨h1, h2, h3⟩
    · have := (hD k).2 (ahead _ h)
      rw [this] at hk; simp at hk
    · exact ⟨(Oper.apart_spec h1).1, h2⟩
  have later : ∀ k ∈ (List.range' (i0 + 1) (n - (i0 + 1))).filter D, i0 < k ∧ k < n ∧ D k = true := fun k hk => by
    rw [List.mem_filter, List.mem_range'] at hk
    obtain ⟨⟨d, hd, rfl⟩, h2⟩ := hk
    exact ⟨by omega, by omega, h2⟩
  have hview : Vw C.T N ops (fk i0) o (F i0) x := by
    refine (keepIf_congr (x := toSt (x.tmps, x.st)) (x' := x) rfl rfl).2 ?_
    rw [hxy]
    refine (hF.fold_view hi0 ho _ y0 hy0 fun k hk => ?_).2 hview0
    obtain ⟨k1, k2, k3⟩ := later k hk
    refine ⟨k2, fun xk hxk => ?_⟩
    rcases hF.pair i0 k o xk k1 k2 ho hxk with h | ⟨h1, h2, h3⟩
    · exact absurd ((hD k).1 k3) (behind _ xk hxk h)
    · exact ⟨(Oper.apart_spec h1).2.2, h3⟩
  refine hstep.run B x (by omega) hxl hview a w hA Q _ fun a' w' x' hx'l hx'on hx'm hA' => ⟨hsize', hcl', fun j hj => (hL' j).2 (.inr (hbef j hj)), fun j hj hLj => ?_, x', hx'l, ?_, fun m hm' => ?_, hA'⟩
  · rcases (hL' j).1 hLj with h | h
    · omega
    · exact haft j hj h
  · have hD' : (List.range n).filter (fun j => (listed.setIfInBounds (b + i0) true).getD (b + j) false) = (List.range i0).filter D ++ i0 :: (List.range' (i0 + 1) (n - (i0 + 1))).filter D := by
      rw [range_split hi0, List.filter_append, List.filter_cons]
      have h1 : (listed.setIfInBounds (b + i0) true).getD (b + i0) false = true := (hL' (b + i0)).2 (.inl rfl)
      have h2 : ∀ j, j ≠ i0 → (listed.setIfInBounds (b + i0) true).getD (b + j) false = D j := fun j hj => by
        have : (b + i0) ≠ b + j := by omega
        exact getD_set_ne false this
      rw [h1]
      simp only [if_true]
      congr 1
      · exact List.filter_congr fun j hj => h2 j (by rw [List.mem_range] at hj; omega)
      · congr 1
        exact List.filter_congr fun j hj => h2 j (by
          rw [List.mem_range'] at hj
          obtain ⟨d, _, rfl⟩ := hj
          omega)
    rw [hD', List.foldl_append, List.foldl_cons, hx'on, hxy]
    change (A i0).on _ = _
    refine (fold_move (A := A) _ y0 fun k hk c => ?_).symm
    obtain ⟨k1, k2, k3⟩ := later k hk
    exact comm i0 k k1 k2 hDi k3 c
  · rcases hx'm m hm' with h | h
    · exact hxm m h
    · exact hF.moved (n - (i0 + 1)) (i0 + 1) (by omega) m h

theorem At.more {T : Tab} {x y : St} {a : Act} {w : World} (h : At T B x a w) (ht : y.tmps = x.tmps) (hs : y.st = x.st) (hm : ∀ m ∈ x.moved, m ∈ y.moved) : At T B y a w := by
  obtain ⟨hd, E, Z, h1, h2, h3, h4⟩ := h
  refine ⟨hd, E, Z, ⟨by rw [hs]; exact h1.sr, by rw [ht]; exact h1.tm⟩, by rw [hs]; exact h2, fun i hi hn => h3 i hi fun hh => hn (hm i hh), by rw [hs]; exact h4⟩

/-- a segment that is done -/
theorem midS_end (hF : SegF P C ops N L b n S F A fk) {listed : Array Bool} {a : Act} {w : World} (hM : MidS C B ops N b n S A listed a w) (hall : ∀ j, j < n → Lst listed (b + j)) : At C.T B (S n) a w := by
  obtain ⟨_, _, _, _, x, _, hxf, hxm, hA⟩ := hM
  have : (List.range n).filter (fun j => listed.getD (b + j) false) = List.range n := List.filter_eq_self.2 fun j hj => hall j (by simpa using hj)
  rw [this, ← hF.canonical n (Nat.le_refl _)] at hxf
  simp only [Prod.mk.injEq] at hxf
  exact hA.more hxf.1.symm hxf.2.symm hxm
end
end Go.Fw
