/- The framework, part Wj: drawn regions in segments. -/
import Derived.Test.YtgcdiccbehiijaaFwWi
set_option linter.all false
set_option linter.unusedSimpArgs false
set_option linter.unusedVariables false
namespace Go.Fw

def pairIn (l : List (Nat × Nat)) (i j : Nat) : Bool := l.any fun p => Nat.beq p.1 i && Nat.beq p.2 j

def segsOk (ps : List (List Nat)) (ops : Array Oper) (pairs : List (Nat × Nat)) : List Nat → Nat → Bool
  | [], _ => true
  | n :: segs, b =>
    Nat.ble (b + n) ops.size &&
    (((List.range' (b + n) (ops.size - (b + n))).all fun k => (List.range' b n).all fun j => (ps.getD k []).elem j) &&
    (((List.range' b n).all fun k => (List.range' b (k - b)).all fun j => (ps.getD k []).elem j ||
      (pairIn pairs j k && match ops[j]?, ops[k]? with | some x, some y => x.apart ops y | _, _ => false)) &&
    segsOk ps ops pairs segs (b + n)))

def drawOk3 (d : List Nat × List (Nat × Nat)) (ops : Array Oper) : Bool :=
  ((List.range ops.size).all fun j => match ops[j]? with
    | none => true
    | some y => y.after.toList.all fun e => !Region.binds .any e || Nat.blt e.on j) &&
  segsOk (prds ops.toList []) ops d.2 d.1 0

theorem evSeg_states {C : Ctx} {ops : Array Oper} {rid N : Nat} {K : St → List Fp → Option Res} {res : Res} : ∀ (os : List Oper) (i slot : Nat) (σ : St) (fps : List Fp),
    evSeg C ops rid N os i slot σ fps K = some res → ∃ (S : Nat → St) (F : Nat → Fp), S 0 = σ ∧ (∀ j o, os[j]? = some o → FStep C ops rid N (i + j) (slot + j) o (S j) (S (j + 1)) (F j)) ∧
      K (S os.length) (fps ++ (List.range os.length).map F) = some res
  | [], i, slot, σ, fps, h => ⟨fun _ => σ, fun _ => ⟨[], [], [], none, .undef, none, .dead, [], true⟩, rfl, by simp, by simpa [evSeg] using h⟩
  | o :: os, i, slot, σ, fps, h => by
    obtain ⟨σ1, fp, h1, h2⟩ := evSeg_cons h
    obtain ⟨S, F, e, hS, hK⟩ := evSeg_states os (i + 1) (slot + 1) σ1 _ h2
    refine ⟨fun n => match n with | 0 => σ | n + 1 => S n, fun n => match n with | 0 => fp | n + 1 => F n, rfl, fun j o' hj => ?_, ?_⟩
    · cases j with
      | zero =>
        simp only [List.getElem?_cons_zero, Option.some.injEq] at hj
        subst hj
        simp only [Nat.add_zero]
        rw [e]; exact h1
      | succ j =>
        rw [List.getElem?_cons_succ] at hj
        have := hS j o' hj
        have e1 : i + (j + 1) = i + 1 + j := by omega
        have e2 : slot + (j + 1) = slot + 1 + j := by omega
        rw [e1, e2]; exact this
    · have e1 : fps ++ (List.range (o :: os).length).map (fun n => match n with | 0 => fp | n + 1 => F n) = fps ++ [fp] ++ (List.range os.length).map F := by
        rw [List.length_cons, List.range_succ_eq_map]
        simp [List.map_map, Function.comp_def]
      rw [e1]; exact hK

section
variable {P : Program} {C : Ctx} {B : Base} {ops : Array Oper} {rid : Nat} {Q : Exit → Act → World → Prop}

theorem At.canon {T : Tab} {σ : St} {a : Act} {w : World} (h : At T B σ a w) : At T B (σ.canon B.m) a w := by
  obtain ⟨hd, E, Z, h1, h2, h3, h4⟩ := h
  obtain ⟨E1, k1, k2, k3, k4⟩ := h1.canon B.m h3
  exact ⟨hd, E1, Z, k1, h2.trans k2, k3, k4⟩

theorem undone_pos {listed : Array Bool} {i : Nat} (hs : listed.size = ops.size) (hi : i < ops.size) (hn : ¬ Lst listed i) : 0 < (undone ops listed).length := by
  refine List.length_pos_of_mem (a := i) (List.mem_filter.2 ⟨List.mem_range.2 hi, ?_⟩)
  have hil : i < listed.size := by omega
  simp only [Lst, Array.getD_eq_getD_getElem?, Array.getElem?_eq_getElem hil, Option.getD_some] at hn ⊢
  simpa using hn

/-- the least that is not done is ready -/
theorem some_ready {listed : Array Bool} (hs : listed.size = ops.size) (hb : ∀ j y, ops[j]? = some y → ∀ e ∈ y.after, Region.binds .any e = true → e.on < j) {i : Nat} (hi : i < ops.size) (hn : ¬ Lst listed i) :
    Region.ready .any ops listed ≠ [] := by
  induction i using Nat.strongRecOn with
  | _ i ih =>
    by_cases h : ∃ j, j < i ∧ ¬ Lst listed j
    · obtain ⟨j, hj, hnj⟩ := h
      exact ih j hj (by omega) hnj
    · intro hr
      have ho : ops[i]? = some ops[i] := Array.getElem?_eq_getElem hi
      have : i ∈ Region.ready .any ops listed := mem_ready.2 ⟨by
        have hil : i < listed.size := by omega
        simp only [Lst, Array.getD_eq_getD_getElem?, Array.getElem?_eq_getElem hil, Option.getD_some] at hn ⊢
        simpa using hn, _, ho, fun e he hbnd => by
          have := hb i _ ho e he hbnd
          exact Classical.byContradiction fun hne => h ⟨e.on, this, hne⟩⟩
      rw [hr] at this; cases this

theorem any_of {fuel : Nat} {listed : Array Bool} {a : Act} {w : World} (hs : listed.size = ops.size) (hb : ∀ j y, ops[j]? = some y → ∀ e ∈ y.after, Region.binds .any e = true → e.on < j)
    {i : Nat} (hi : i < ops.size) (hn : ¬ Lst listed i) (hf : (undone ops listed).length ≤ fuel)
    (h : ∀ f, fuel = f + 1 → ∀ i ∈ Region.ready .any ops listed, (undone ops (listed.setIfInBounds i true)).length ≤ f → wpOp P ops Q i (fun a' w' => wpAny P .any ops Q f (listed.setIfInBounds i true) a' w') a w) :
    wpAny P .any ops Q fuel listed a w := by
  have hp := undone_pos hs hi hn
  cases fuel with
  | zero => omega
  | succ f => exact ⟨fun hr => absurd hr (some_ready hs hb hi hn), fun j hj => h f rfl j hj (by have := undone_lt hj; omega)⟩

theorem segsOk_cons {ps : List (List Nat)} {pairs : List (Nat × Nat)} {n b : Nat} {segs : List Nat} (h : segsOk ps ops pairs (n :: segs) b = true) :
    b + n ≤ ops.size ∧ (∀ k j, b + n ≤ k → k < ops.size → b ≤ j → j < b + n → (ps.getD k []).elem j = true) ∧
    (∀ j k x y, b ≤ j → j < k → k < b + n → ops[j]? = some x → ops[k]? = some y → (ps.getD k []).elem j = true ∨ (pairIn pairs j k = true ∧ x.apart ops y = true)) ∧
    segsOk ps ops pairs segs (b + n) = true := by
  simp only [segsOk, Bool.and_eq_true] at h
  obtain ⟨h1, h2, h3, h4⟩ := h
  refine ⟨Nat.le_of_ble_eq_true h1, fun k j hk hks hj hjn => ?_, fun j k x y hj hjk hk hx hy => ?_, h4⟩
  · have h5 := List.all_eq_true.1 h2 k (List.mem_range'_1.2 ⟨hk, by omega⟩)
    exact List.all_eq_true.1 h5 j (List.mem_range'_1.2 ⟨hj, hjn⟩)
  · have h5 := List.all_eq_true.1 h3 k (List.mem_range'_1.2 ⟨by omega, hk⟩)
    have h6 := List.all_eq_true.1 h5 j (List.mem_range'_1.2 ⟨hj, by omega⟩)
    rcases Bool.or_eq_true _ _ ▸ h6 with h7 | h7
    · exact .inl h7
    · rw [Bool.and_eq_true] at h7
      simp only [hx, hy] at h7
      exact .inr h7

theorem fpairs_get {N b n : Nat} {F : Nat → Fp} {pairs : List (Nat × Nat)} (h : fpairs N ((List.range n).map F) b pairs = true) {j k : Nat} (hjk : j < k) (hk : k < n) (hp : pairIn pairs (b + j) (b + k) = true) :
    (F j).leaves N (F k) = true ∧ (F k).leaves N (F j) = true := by
  unfold pairIn at hp
  obtain ⟨⟨p, q⟩, hm, he⟩ := List.any_eq_true.1 hp
  simp only [Bool.and_eq_true] at he
  have e1 : p = b + j := Nat.eq_of_beq_eq_true he.1
  have e2 : q = b + k := Nat.eq_of_beq_eq_true he.2
  subst e1; subst e2
  have h1 := List.all_eq_true.1 h _ hm
  have h2 : Nat.ble b (b + j) = true := Nat.ble_eq ▸ (by omega : b ≤ b + j)
  have h3 : Nat.blt (b + j) (b + n) = true := Nat.blt_eq ▸ (by omega : b + j < b + n)
  simp only [List.length_map, List.length_range, h2, h3, Bool.and_self, cond_true] at h1
  have e3 : ((List.range n).map F)[b + j - b]? = some (F j) := by
    have : b + j - b = j := by omega
    rw [this, List.getElem?_map, List.getElem?_range (by omega)]; rfl
  have e4 : ((List.range n).map F)[b + k - b]? = some (F k) := by
    have : b + k - b = k := by omega
    rw [this, List.getElem?_map, List.getElem?_range (by omega)]; rfl
  rw [e3, e4] at h1
  simpa using h1

/-- **A drawn region in segments.** -/
theorem evDyn_ok (hT : TabOk P C.T) (hC : CallOk P C) (hCm : C.m = B.m) {pairs : List (Nat × Nat)} {K : St → Option Res} {res : Res}
    (hb : ∀ j y, ops[j]? = some y → ∀ e ∈ y.after, Region.binds .any e = true → e.on < j)
    (hQ : ∀ σ' a w, K σ' = some res → At C.T B σ' a w → Q .normal a w) :
    ∀ (segs : List Nat) (b : Nat) (σ : St), segsOk (prds ops.toList []) ops pairs segs b = true → evDyn C ops rid pairs segs (ops.toList.drop b) b σ K = some res → b ≤ ops.size →
    ∀ (fuel : Nat) (listed : Array Bool) (a : Act) (w : World), (undone ops listed).length ≤ fuel → listed.size = ops.size → Closed ops.toList (Lst listed) → (∀ i, i < b → Lst listed i) → (∀ i, b ≤ i → ¬ Lst listed i) →
      At C.T B σ a w → wpAny P .any ops Q fuel listed a w
  | [], b, σ, hs, h, hbs, fuel, listed, a, w, hf, hsz, hcl, hbef, haft, hA => by
    have hbe : b = ops.size := by
      rcases Nat.lt_or_ge b ops.size with hlt | hge
      · have : ops.toList.drop b = ops.toList[b] :: ops.toList.drop (b + 1) := List.drop_eq_getElem_cons (by simpa using hlt)
        rw [this] at h
        simp [evDyn] at h
      · omega
    have hd : ops.toList.drop b = [] := List.drop_eq_nil_of_le (by simp [hbe])
    rw [hd] at h
    simp only [evDyn] at h
    have hr : Region.ready .any ops listed = [] := by
      cases hh : Region.ready .any ops listed with
      | nil => rfl
      | cons i is =>
        have hm : i ∈ Region.ready .any ops listed := by rw [hh]; exact List.mem_cons_self
        obtain ⟨hun, o, ho, _⟩ := mem_ready.1 hm
        have := (not_Lst hun).2
        exact absurd (hbef i (by have := (Array.getElem?_eq_some_iff.1 ho).1; omega)) this
    have hq := hQ σ a w h hA
    cases fuel with
    | zero => exact ⟨hr, hq⟩
    | succ f => exact ⟨fun _ => hq, fun i hi => by rw [hr] at hi; cases hi⟩
  | n :: segs, b, σ, hs, h, hbs, fuel, listed, a, w, hf, hsz, hcl, hbef, haft, hA => by
    obtain ⟨hle, hcr, hpr, hrest⟩ := segsOk_cons hs
    have hps : ∀ i j y, ops[j]? = some y → ((prds ops.toList []).getD j []).elem i = true → Ahead ops i y := fun i j y hy hb' L hL he =>
      prds_ok hL ops.toList [] [] rfl rfl (fun i o h => by simp at h) j y (by simpa using hy) he i (by simpa using hb')
    unfold evDyn at h
    cases hn1 : Nat.beq n 1 with
    | true =>
      have hn : n = 1 := Nat.eq_of_beq_eq_true hn1
      subst hn
      rw [hn1] at h
      simp only [cond_true] at h
      have hblt : b < ops.size := by omega
      have hdr : ops.toList.drop b = ops[b] :: ops.toList.drop (b + 1) := by
        have := List.drop_eq_getElem_cons (l := ops.toList) (i := b) (by simpa using hblt)
        simpa using this
      rw [hdr] at h
      simp only [List.take_succ_cons, List.take_zero, List.drop_succ_cons, List.drop_zero] at h
      obtain ⟨_, σ1, hst, h2⟩ := evOps_cons h
      simp only [evOps] at h2
      have ho : ops[b]? = some ops[b] := Array.getElem?_eq_getElem hblt
      refine any_of hsz hb hblt (haft b (Nat.le_refl _)) hf fun f hff i hi hu => ?_
      obtain ⟨hun, o, hoi, hed⟩ := mem_ready.1 hi
      obtain ⟨hisz, hnL⟩ := not_Lst hun
      have hib : i = b := by
        rcases Nat.lt_trichotomy i b with h' | h' | h'
        · exact absurd (hbef i h') hnL
        · exact h'
        · exact absurd (hps b i o hoi (hcr i b (by omega) (by omega) (Nat.le_refl _) (by omega)) _ hcl hed) (haft b (Nat.le_refl _))
      subst hib
      rw [ho] at hoi; cases hoi
      have hL' : ∀ j, Lst (listed.setIfInBounds i true) j ↔ j = i ∨ Lst listed j := fun j => Lst_set hisz
      refine step1_ok hT hC ho hst hA fun a' w' hA' => evDyn_ok hT hC hCm hb hQ segs (i + 1) σ1 hrest h2 (by omega) f _ a' w' hu (by simpa using hsz) (fun j oj hj hLj e he hbnd => ?_) (fun j hj => (hL' j).2 ?_) (fun j hj hLj => ?_) hA'
      · rcases (hL' j).1 hLj with rfl | h'
        · have hj' : ops[j]? = some oj := by simpa using hj
          rw [ho] at hj'; cases hj'
          exact (hL' _).2 (.inr (hed e he hbnd))
        · exact (hL' _).2 (.inr (hcl j oj hj h' e he hbnd))
      · rcases Nat.lt_or_eq_of_le (Nat.le_of_lt_succ hj) with h' | h'
        · exact .inr (hbef j h')
        · exact .inl h'
      · rcases (hL' j).1 hLj with h' | h'
        · omega
        · exact haft j (by omega) h'
    | false =>
      rw [hn1] at h
      simp only [cond_false] at h
      obtain ⟨S, F, e0, hS, hK⟩ := evSeg_states _ _ _ _ _ h
      have hlen : ((ops.toList.drop b).take n).length = n := by simp; omega
      rw [hlen] at hK
      simp only [List.nil_append] at hK
      cases hfp : fpairs (σ.st.length + n) ((List.range n).map F) b pairs with
      | false => rw [hfp] at hK; cases hK
      | true =>
        rw [hfp, forceSt_eq] at hK
        simp only [cond_true] at hK
        have hml : B.m ≤ σ.st.length := by obtain ⟨_, _, _, _, _, _, h4⟩ := hA; exact h4
        have hget : ∀ j, j < n → ((ops.toList.drop b).take n)[j]? = ops[b + j]? := fun j hj => by
          rw [List.getElem?_take_of_lt hj, List.getElem?_drop]; simp
        have hl0 : (S 0).st.length = σ.st.length + n := by rw [e0]; simp [St.keep]
        -- every step's facts
        have hall : ∀ j, j ≤ n → (S j).st.length = σ.st.length + n := by
          intro j
          induction j with
          | zero => exact fun _ => hl0
          | succ j ih =>
            intro hj
            have ho : ops[b + j]? = some ops[b + j] := Array.getElem?_eq_getElem (by omega)
            obtain ⟨A, fk, hA1⟩ := seg1_ok hT hC ho (ih (by omega)) (show σ.st.length + j < σ.st.length + n by omega) (hS j _ ((hget j (by omega)).trans ho))
            exact hA1.len
        have hex : ∀ j, ∃ p : Ap × Fk, j < n → ∀ o, ops[b + j]? = some o → Seg1 P C ops (σ.st.length + n) (b + j) (σ.st.length + j) o (S j) (S (j + 1)) (F j) p.1 p.2 := fun j => by
          by_cases hj : j < n
          · have ho : ops[b + j]? = some ops[b + j] := Array.getElem?_eq_getElem (by omega)
            obtain ⟨A, fk, hA1⟩ := seg1_ok hT hC ho (hall j (by omega)) (show σ.st.length + j < σ.st.length + n by omega) (hS j _ ((hget j hj).trans ho))
            exact ⟨(A, fk), fun _ o ho' => by rw [ho] at ho'; cases ho'; exact hA1⟩
          · exact ⟨(⟨fun r => r, none, .undef, none⟩, .no), fun h' => absurd h' hj⟩
        obtain ⟨pf, hpf⟩ := Classical.axiomOfChoice hex
        have hF : SegF P C ops (σ.st.length + n) σ.st.length b n S F (fun j => (pf j).1) (fun j => (pf j).2) :=
          { le := hle
            step := fun j o hj ho => hpf j hj o ho
            len := hl0
            back := hb
            cross := fun j k y hj hk hy => hps (b + j) k y hy (hcr k (b + j) hk (Array.getElem?_eq_some_iff.1 hy).1 (by omega) (by omega))
            pair := fun j k x y hjk hk hx hy => by
              rcases hpr (b + j) (b + k) x y (by omega) (by omega) (by omega) hx hy with h' | ⟨h1, h2⟩
              · exact .inl (hps _ _ y hy h')
              · exact .inr ⟨h2, fpairs_get hfp hjk hk h1⟩ }
        have inner : ∀ (fuel : Nat) (listed : Array Bool) (a : Act) (w : World), (undone ops listed).length ≤ fuel → MidS C B ops (σ.st.length + n) b n S (fun j => (pf j).1) listed a w → wpAny P .any ops Q fuel listed a w := by
          intro fuel
          induction fuel with
          | zero =>
            intro listed a w hf hM
            by_cases hc : ∀ j, j < n → Lst listed (b + j)
            · have hAe := (midS_end hF hM hc).canon
              rw [← hCm] at hAe
              refine evDyn_ok hT hC hCm hb hQ segs (b + n) _ hrest (by rw [← List.drop_drop]; exact hK) hle 0 listed a w hf hM.size hM.closed (fun i hi => ?_) (fun i hi => hM.after i hi) hAe
              rcases Nat.lt_or_ge i b with h' | h'
              · exact hM.before i h'
              · have := hc (i - b) (by omega)
                have e : b + (i - b) = i := by omega
                rwa [e] at this
            · simp only [Classical.not_forall] at hc
              obtain ⟨j, hj, hn⟩ := hc
              have := undone_pos hM.size (show b + j < ops.size by omega) hn
              omega
          | succ fuel ih =>
            intro listed a w hf hM
            by_cases hc : ∀ j, j < n → Lst listed (b + j)
            · have hAe := (midS_end hF hM hc).canon
              rw [← hCm] at hAe
              refine evDyn_ok hT hC hCm hb hQ segs (b + n) _ hrest (by rw [← List.drop_drop]; exact hK) hle (fuel + 1) listed a w hf hM.size hM.closed (fun i hi => ?_) (fun i hi => hM.after i hi) hAe
              rcases Nat.lt_or_ge i b with h' | h'
              · exact hM.before i h'
              · have := hc (i - b) (by omega)
                have e : b + (i - b) = i := by omega
                rwa [e] at this
            · simp only [Classical.not_forall] at hc
              obtain ⟨j, hj, hn⟩ := hc
              refine any_of hM.size hb (show b + j < ops.size by omega) hn hf fun f hff i hi hu => ?_
              have : f = fuel := by omega
              subst this
              exact wpOp_mono (fun a' w' h' => ih _ a' w' hu h') (midS_step hml hF hM hi ⟨j, hj, hn⟩)
        refine inner fuel listed a w hf ⟨hsz, hcl, hbef, fun i hi => haft i (by omega), S 0, hl0, ?_, hF.moved n 0 (by omega), ?_⟩
        · have : (List.range n).filter (fun j => listed.getD (b + j) false) = [] := List.filter_eq_nil_iff.2 fun j _ => haft (b + j) (by omega)
          rw [this]; rfl
        · rw [e0]
          exact hA.keep _ List.nodup_range (fun i hi => List.getElem?_range (by omega)) (by rw [List.length_range]; omega)

/-- **A drawn region whose effects have no order.** -/
theorem drawn3_ok (hm : P.follows .mixedOrders = true) (hT : TabOk P C.T) (hC : CallOk P C) (hCm : C.m = B.m) {id : Nat} {d : List Nat × List (Nat × Nat)} (hd : drawOk3 d ops = true) {σ : St} {K : St → Option Res} {res : Res}
    (h : evDyn C ops rid d.2 d.1 ops.toList 0 σ K = some res) {a : Act} {w : World} (hA : At C.T B σ a w) (hQ : ∀ σ' a w, K σ' = some res → At C.T B σ' a w → Q .normal a w) : (Code.region id ops true).wp P Q a w := by
  unfold drawOk3 at hd
  rw [Bool.and_eq_true] at hd
  obtain ⟨hd1, hd2⟩ := hd
  have hb : ∀ j y, ops[j]? = some y → ∀ e ∈ y.after, Region.binds .any e = true → e.on < j := fun j y hy e he hbnd => by
    have h1 := List.all_eq_true.1 hd1 j (List.mem_range.2 (Array.getElem?_eq_some_iff.1 hy).1)
    simp only [hy] at h1
    have := List.all_eq_true.1 h1 e (by simpa using he)
    simpa [hbnd, Nat.blt_eq] using this
  have hno : ∀ i, ¬ Lst (Array.replicate ops.size false) i := fun i hL => by
    simp only [Lst] at hL
    rcases Nat.lt_or_ge i ops.size with h1 | h1
    · simp [h1] at hL
    · simp [Nat.not_lt.2 h1] at hL
  refine wp_region_any hm (evDyn_ok (rid := rid) hT hC hCm hb hQ d.1 0 σ hd2 (by simpa using h) (Nat.zero_le _) ops.size _ a _ ?_ (by simp) (fun i o _ hL => absurd hL (hno i)) (fun i hi => absurd hi (Nat.not_lt_zero _)) (fun i _ => hno i) hA.drew)
  unfold undone
  exact Nat.le_trans (List.length_filter_le _ _) (by simp)
end
end Go.Fw
