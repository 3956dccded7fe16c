/- A part of the proofs over these laws: what its functions come to. No conditions. -/
import Derived.Test.YtgcdiccbehiijaaGm
import Derived.WalkKit
import Derived.Recover
import Derived.Test.YtgcdiccbehiijaaRows
set_option linter.all false
namespace Go.Proofs.Ytgcdiccbehiijaa.W
open Go.Fw
set_option maxRecDepth 100000
def eqR (p q : Int × Int × Int) : Bool := (p.1 == q.1) && ((p.2.1 == q.2.1) && true)
def boolR (b : Bool) : Option Res := some (.k (.bool b), [])
def fL4 (x y z w : Int) (d : Int × Int × Int) : Option Res :=
  bif okI d.1 d.2.1 z w then
   (bif d.2.2 == 0 then (bif (mulM d.1 d.2.1 z w).2.2 != 0 then boolR false else bif !(!(eqR (mulM d.1 d.2.1 z w) (x, y, 0))) then boolR true else boolR false) else boolR true) else none
def fL3b (x y z w : Int) (d : Int × Int × Int) : Option Res :=
  bif okI d.1 d.2.1 z w then
   (bif d.2.2 == 0 then (bif (addM d.1 d.2.1 z w).2.2 != 0 then boolR false else bif !(eqR (addM d.1 d.2.1 z w) (x, y, 0)) then boolR false else
     (bif okI x y z w then fL4 x y z w (divM x y z w) else none)) else (bif okI x y z w then fL4 x y z w (divM x y z w) else none)) else none
def fL3 (x y z w : Int) : Option Res := bif okI x y z w then fL3b x y z w (sbM x y z w) else none
def fL2c (x y z w : Int) (p q r h : Int × Int × Int) : Option Res :=
  bif p.2.2 == 0 then (bif q.2.2 == 0 then (bif r.2.2 == 0 then (bif h.2.2 == 0 then (bif !(eqR p h) then boolR false else fL3 x y z w) else fL3 x y z w) else fL3 x y z w) else fL3 x y z w) else fL3 x y z w
def fL2b (x y z w : Int) (p q r : Int × Int × Int) : Option Res :=
  bif okI q.1 q.2.1 r.1 r.2.1 then fL2c x y z w p q r (addM q.1 q.2.1 r.1 r.2.1) else none
def fL2 (x y z w u v : Int) (s : Int × Int × Int) : Option Res :=
  bif okI s.1 s.2.1 u v then bif okI x y u v then bif okI z w u v then fL2b x y z w (mulM s.1 s.2.1 u v) (mulM x y u v) (mulM z w u v) else none else none else none
theorem law5 (x y z w u v : Int) (k : Nat) : ev sysC4 (k + 1) 5 [rt x y, rt z w, rt u v] [] =
  bif okI x y z w then bif okI z w x y then
  (bif (addM x y z w).2.2 != (addM z w x y).2.2 then boolR false else
   bif !(eqR (addM x y z w) (addM z w x y)) then boolR false else fL2 x y z w u v (addM x y z w)) else none else none := by kernel_rfl
/-! what reduced quotients obey -/
theorem nrm_scale (n : Int) (B k : Nat) (hB : 0 < B) (hk : 0 < k) : nrm (n * (k : Int)) ((B * k : Nat) : Int) = nrm n (B : Int) := by
  have hg : 0 < Nat.gcd n.natAbs B := Nat.gcd_pos_of_pos_right _ hB
  have e1 := nrm_nat (n := n) (B := B) rfl rfl hg rfl rfl
  have hA : (n * (k : Int)).natAbs = n.natAbs * k := by rw [Int.natAbs_mul, Int.natAbs_natCast]
  have e2 := nrm_nat (n := n * (k : Int)) (B := B * k) (G := Nat.gcd n.natAbs B * k) (a := n.natAbs / Nat.gcd n.natAbs B) (b := B / Nat.gcd n.natAbs B) hA (Nat.gcd_mul_right _ _ _) (Nat.mul_pos hg hk)
    (Nat.mul_div_mul_right _ _ hk) (Nat.mul_div_mul_right _ _ hk)
  have hs : decide (n * (k : Int) < 0) = decide (n < 0) := by
    rw [decide_eq_decide]
    constructor
    · intro h
      rcases Int.lt_or_le n 0 with h0 | h0
      · exact h0
      · have := Int.mul_nonneg h0 (show (0 : Int) ≤ (k : Int) by omega); omega
    · intro h; exact Int.mul_neg_of_neg_of_pos h (by omega)
  rw [e2, e1, hs]
/-- a quotient that is in range -/
theorem nrm_val {n : Int} {B : Nat} (hB : 0 < B) (h0 : ((nrm n (B : Int)).2.2 == 0) = true) : ∃ (p : Int) (q g : Nat), nrm n (B : Int) = (p, (q : Int), 0) ∧ 0 < q ∧ 0 < g ∧ n = p * g ∧ B = q * g ∧ rightB p (q : Int) = true := by
  have hg : 0 < Nat.gcd n.natAbs B := Nat.gcd_pos_of_pos_right _ hB
  have e1 := nrm_nat (n := n) (B := B) rfl rfl hg rfl rfl
  rw [e1] at h0
  rcases Bool.eq_false_or_eq_true (decide (((n.natAbs / Nat.gcd n.natAbs B : Nat) : Int) > 4611686018427387903)) with c1 | c1
  · rw [condT c1] at h0; cases h0
  · rw [condF c1] at h0
    rcases Bool.eq_false_or_eq_true (decide (((B / Nat.gcd n.natAbs B : Nat) : Int) > 4611686018427387903)) with c2 | c2
    · rw [condT c2] at h0; cases h0
    · rw [condF c1, condF c2] at e1
      have d1 := decide_eq_false_iff_not.1 c1
      have d2 := decide_eq_false_iff_not.1 c2
      have hco : Nat.Coprime (n.natAbs / Nat.gcd n.natAbs B) (B / Nat.gcd n.natAbs B) := Nat.coprime_div_gcd_div_gcd hg
      have m1 : n.natAbs / Nat.gcd n.natAbs B * Nat.gcd n.natAbs B = n.natAbs := Nat.div_mul_cancel (Nat.gcd_dvd_left _ _)
      have m2 : B / Nat.gcd n.natAbs B * Nat.gcd n.natAbs B = B := Nat.div_mul_cancel (Nat.gcd_dvd_right _ _)
      generalize n.natAbs / Nat.gcd n.natAbs B = a at *
      generalize B / Nat.gcd n.natAbs B = b at *
      generalize Nat.gcd n.natAbs B = g at *
      have hb : 0 < b := Nat.pos_of_ne_zero fun h => by subst h; simp at m2; omega
      have hm1 : ((a : Nat) : Int) * (g : Int) = ((n.natAbs : Nat) : Int) := by rw [cm, m1]
      rcases Int.lt_or_le n 0 with h | h
      · refine ⟨-(a : Int), b, g, ?_, hb, hg, ?_, m2.symm, right_of hb (by omega) (by omega) ?_⟩
        · rw [e1, decide_eq_true h]; rfl
        · rw [Int.neg_mul, hm1]; omega
        · rw [Int.natAbs_neg]; exact hco
      · refine ⟨(a : Int), b, g, ?_, hb, hg, ?_, m2.symm, right_of hb (by omega) (by omega) hco⟩
        · rw [e1, decide_eq_false (by omega)]; rfl
        · rw [hm1]; omega
theorem nrm_right {x : Int} {d : Nat} (hx : isI x = true) (h : rightB x (d : Int) = true) : nrm x (d : Int) = (x, (d : Int), 0) := by
  obtain ⟨d', e, d1, d2, d3, d4⟩ := right_nat hx h
  obtain rfl : d = d' := by omega
  have e1 := nrm_nat (n := x) (B := d) rfl d4 (by omega) (Nat.div_one _) (Nat.div_one _)
  rw [e1, decide_eq_false (by omega), decide_eq_false (by omega), cond_false, cond_false]
  rcases Int.lt_or_le x 0 with h | h
  · rw [decide_eq_true h, cond_true]; congr 1; omega
  · rw [decide_eq_false (by omega), cond_false]; congr 1; omega
/-- all that an operation hands back is within the range -/
def Rng (r : Int × Int × Int) : Prop := isI r.1 = true ∧ isI r.2.1 = true
theorem rng_err (e : Int) : Rng (0, 0, e) := ⟨rfl, rfl⟩
theorem rng_nrm (n : Int) {B : Nat} (hB : 0 < B) : Rng (nrm n (B : Int)) := by
  rcases Bool.eq_false_or_eq_true ((nrm n (B : Int)).2.2 == 0) with h | h
  · obtain ⟨p, q, g, e, hq, hg, _, _, hr⟩ := nrm_val hB h
    rw [e]
    unfold rightB at hr
    simp only [Bool.and_eq_true, decide_eq_true_eq] at hr
    constructor
    · rw [isI_iff]; simp only; omega
    · rw [isI_iff]; simp only; omega
  · have hg : 0 < Nat.gcd n.natAbs B := Nat.gcd_pos_of_pos_right _ hB
    have e1 := nrm_nat (n := n) (B := B) rfl rfl hg rfl rfl
    rcases Bool.eq_false_or_eq_true (decide (((n.natAbs / Nat.gcd n.natAbs B : Nat) : Int) > 4611686018427387903)) with c1 | c1
    · rw [e1, condT c1]; exact rng_err 5
    · rcases Bool.eq_false_or_eq_true (decide (((B / Nat.gcd n.natAbs B : Nat) : Int) > 4611686018427387903)) with c2 | c2
      · rw [e1, condF c1, condT c2]; exact rng_err 5
      · rw [e1, condF c1, condF c2] at h; cases h
theorem right_pos {x y : Int} (hx : isI x = true) (h : rightB x y = true) : ∃ d : Nat, y = (d : Int) ∧ 0 < d := by
  obtain ⟨d, e, d1, _⟩ := right_nat hx h; exact ⟨d, e, d1⟩
theorem both_cases (x y z w : Int) : (rightB x y = true ∧ rightB z w = true ∧ bothE x y z w = 0) ∨ ((bothE x y z w != 0) = true) := by
  cases h : rightB x y && rightB z w with
  | true => rw [Bool.and_eq_true] at h; exact .inl ⟨h.1, h.2, by unfold bothE; rw [h.1, h.2]; rfl⟩
  | false => exact .inr (both_ne h)
theorem addM_right {x y z w : Int} (h1 : rightB x y = true) (h2 : rightB z w = true) : addM x y z w = nrm (x * w + z * y) (y * w) := by
  unfold addM; rw [condF (both_eq (andT h1 h2))]
theorem mulM_right {x y z w : Int} (h1 : rightB x y = true) (h2 : rightB z w = true) : mulM x y z w = nrm (x * z) (y * w) := by
  unfold mulM; rw [condF (both_eq (andT h1 h2))]
theorem sbM_right {x y z w : Int} (h1 : rightB x y = true) (h2 : rightB z w = true) : sbM x y z w = nrm (x * w - z * y) (y * w) := by
  unfold sbM; rw [condF (both_eq (andT h1 h2))]
theorem addM_err {x y z w : Int} (h : (bothE x y z w != 0) = true) : addM x y z w = (0, 0, 2) := by unfold addM; rw [condT h]
theorem mulM_err {x y z w : Int} (h : (bothE x y z w != 0) = true) : mulM x y z w = (0, 0, 2) := by unfold mulM; rw [condT h]
theorem sbM_err {x y z w : Int} (h : (bothE x y z w != 0) = true) : sbM x y z w = (0, 0, 2) := by unfold sbM; rw [condT h]
theorem divM_err {x y z w : Int} (h : (bothE x y z w != 0) = true) : divM x y z w = (0, 0, 2) := by unfold divM; rw [condT h]
theorem addM_comm (x y z w : Int) : addM x y z w = addM z w x y := by
  unfold addM
  have : bothE x y z w = bothE z w x y := by unfold bothE; rw [Bool.and_comm]
  rw [this, Int.add_comm (x * w), Int.mul_comm y w]
section
variable {x y z w : Int} (hx : isI x = true) (hz : isI z = true)
include hx hz
theorem rng_add : Rng (addM x y z w) := by
  rcases both_cases x y z w with ⟨h1, h2, _⟩ | h
  · obtain ⟨d, rfl, d0⟩ := right_pos hx h1
    obtain ⟨e, rfl, e0⟩ := right_pos hz h2
    rw [addM_right h1 h2, cm]; exact rng_nrm _ (Nat.mul_pos d0 e0)
  · rw [addM_err h]; exact rng_err 2
theorem rng_mul : Rng (mulM x y z w) := by
  rcases both_cases x y z w with ⟨h1, h2, _⟩ | h
  · obtain ⟨d, rfl, d0⟩ := right_pos hx h1
    obtain ⟨e, rfl, e0⟩ := right_pos hz h2
    rw [mulM_right h1 h2, cm]; exact rng_nrm _ (Nat.mul_pos d0 e0)
  · rw [mulM_err h]; exact rng_err 2
theorem rng_sub : Rng (sbM x y z w) := by
  rcases both_cases x y z w with ⟨h1, h2, _⟩ | h
  · obtain ⟨d, rfl, d0⟩ := right_pos hx h1
    obtain ⟨e, rfl, e0⟩ := right_pos hz h2
    rw [sbM_right h1 h2, cm]; exact rng_nrm _ (Nat.mul_pos d0 e0)
  · rw [sbM_err h]; exact rng_err 2
/-- division by a number that is not 0 -/
theorem divM_right (h1 : rightB x y = true) (h2 : rightB z w = true) : (z = 0 ∧ divM x y z w = (0, 0, 5)) ∨ ∃ (s : Int) (m : Nat), (s = 1 ∨ s = -1) ∧ 0 < m ∧ z = s * m ∧ divM x y z w = nrm (s * (x * w)) (y * m) := by
  unfold divM
  rw [condF (both_eq (andT h1 h2))]
  by_cases h0 : z = 0
  · exact .inl ⟨h0, by rw [condT (by rw [h0]; rfl)]⟩
  · right
    rw [condF (by rw [beq_eq_false_iff_ne]; exact h0), absI_nat]
    rcases Int.lt_or_le z 0 with h | h
    · refine ⟨-1, z.natAbs, .inr rfl, by omega, by omega, ?_⟩
      rw [decide_eq_true h, cond_true, Int.neg_one_mul]
    · refine ⟨1, z.natAbs, .inl rfl, by omega, by omega, ?_⟩
      rw [decide_eq_false (by omega), cond_false, Int.one_mul]
theorem rng_div : Rng (divM x y z w) := by
  rcases both_cases x y z w with ⟨h1, h2, _⟩ | h
  · rcases divM_right hx hz h1 h2 with ⟨_, h⟩ | ⟨s, m, _, hm, _, h⟩
    · rw [h]; exact rng_err 5
    · obtain ⟨d, rfl, d0⟩ := right_pos hx h1
      rw [h, cm]; exact rng_nrm _ (Nat.mul_pos d0 hm)
  · rw [divM_err h]; exact rng_err 2
/-- a sum that is in range, and both summands right -/
theorem add_val (h0 : ((addM x y z w).2.2 == 0) = true) : ∃ (p : Int) (q g : Nat), addM x y z w = (p, (q : Int), 0) ∧ 0 < q ∧ 0 < g ∧ x * w + z * y = p * g ∧ y * w = (q : Int) * g ∧ rightB p (q : Int) = true ∧ rightB x y = true ∧ rightB z w = true := by
  rcases both_cases x y z w with ⟨h1, h2, _⟩ | h
  · obtain ⟨d, rfl, d0⟩ := right_pos hx h1
    obtain ⟨e, rfl, e0⟩ := right_pos hz h2
    rw [addM_right h1 h2, cm] at h0 ⊢
    obtain ⟨p, q, g, e1, e2, e3, e4, e5, e6⟩ := nrm_val (Nat.mul_pos d0 e0) h0
    exact ⟨p, q, g, e1, e2, e3, e4, by rw [e5, cm], e6, h1, h2⟩
  · rw [addM_err h] at h0; cases h0
theorem mul_val (h0 : ((mulM x y z w).2.2 == 0) = true) : ∃ (p : Int) (q g : Nat), mulM x y z w = (p, (q : Int), 0) ∧ 0 < q ∧ 0 < g ∧ x * z = p * g ∧ y * w = (q : Int) * g ∧ rightB p (q : Int) = true ∧ rightB x y = true ∧ rightB z w = true := by
  rcases both_cases x y z w with ⟨h1, h2, _⟩ | h
  · obtain ⟨d, rfl, d0⟩ := right_pos hx h1
    obtain ⟨e, rfl, e0⟩ := right_pos hz h2
    rw [mulM_right h1 h2, cm] at h0 ⊢
    obtain ⟨p, q, g, e1, e2, e3, e4, e5, e6⟩ := nrm_val (Nat.mul_pos d0 e0) h0
    exact ⟨p, q, g, e1, e2, e3, e4, by rw [e5, cm], e6, h1, h2⟩
  · rw [mulM_err h] at h0; cases h0
theorem sub_val (h0 : ((sbM x y z w).2.2 == 0) = true) : ∃ (p : Int) (q g : Nat), sbM x y z w = (p, (q : Int), 0) ∧ 0 < q ∧ 0 < g ∧ x * w - z * y = p * g ∧ y * w = (q : Int) * g ∧ rightB p (q : Int) = true ∧ rightB x y = true ∧ rightB z w = true := by
  rcases both_cases x y z w with ⟨h1, h2, _⟩ | h
  · obtain ⟨d, rfl, d0⟩ := right_pos hx h1
    obtain ⟨e, rfl, e0⟩ := right_pos hz h2
    rw [sbM_right h1 h2, cm] at h0 ⊢
    obtain ⟨p, q, g, e1, e2, e3, e4, e5, e6⟩ := nrm_val (Nat.mul_pos d0 e0) h0
    exact ⟨p, q, g, e1, e2, e3, e4, by rw [e5, cm], e6, h1, h2⟩
  · rw [sbM_err h] at h0; cases h0
theorem div_val (h0 : ((divM x y z w).2.2 == 0) = true) : ∃ (p s : Int) (q g m : Nat), divM x y z w = (p, (q : Int), 0) ∧ (s = 1 ∨ s = -1) ∧ 0 < m ∧ z = s * m ∧ 0 < q ∧ 0 < g ∧ s * (x * w) = p * g ∧ y * m = (q : Int) * g ∧ rightB p (q : Int) = true ∧ rightB x y = true ∧ rightB z w = true := by
  rcases both_cases x y z w with ⟨h1, h2, _⟩ | h
  · rcases divM_right hx hz h1 h2 with ⟨_, h⟩ | ⟨s, m, hs, hm, hzm, h⟩
    · rw [h] at h0; cases h0
    · obtain ⟨d, rfl, d0⟩ := right_pos hx h1
      rw [h, cm] at h0
      obtain ⟨p, q, g, e1, e2, e3, e4, e5, e6⟩ := nrm_val (Nat.mul_pos d0 hm) h0
      exact ⟨p, s, q, g, m, by rw [h, cm, e1], hs, hm, hzm, e2, e3, e4, by rw [cm, e5, cm], e6, h1, h2⟩
  · rw [divM_err h] at h0; cases h0
end
theorem eqR_self (p : Int × Int × Int) : eqR p p = true := by unfold eqR; simp
/-- scaled by hand -/
theorem nrm_eq {n m : Int} {A B k l : Nat} (hA : 0 < A) (hB : 0 < B) (hk : 0 < k) (hl : 0 < l) (h1 : n * (k : Int) = m * (l : Int)) (h2 : A * k = B * l) : nrm n (A : Int) = nrm m (B : Int) := by
  rw [← nrm_scale n A k hA hk, ← nrm_scale m B l hB hl, h1, h2]
end Go.Proofs.Ytgcdiccbehiijaa.W
namespace Go.Proofs.Ytgcdiccbehiijaa.W
open Go.Fw
set_option maxRecDepth 100000
section
variable {x y z w : Int} (hx : isI x = true) (hy : isI y = true) (hz : isI z = true) (hw : isI w = true)
include hx hy hz hw
theorem div_back (h0 : ((divM x y z w).2.2 == 0) = true) : mulM (divM x y z w).1 (divM x y z w).2.1 z w = (x, y, 0) := by
  obtain ⟨p, s, q, g, m, e, hs, hm, hzm, hq, hg, e1, e2, e3, h1, h2⟩ := div_val hx hz h0
  obtain ⟨d, rfl, d0⟩ := right_pos hx h1
  obtain ⟨c, rfl, c0⟩ := right_pos hz h2
  rw [e, mulM_right e3 h2, cm]
  have key : nrm (p * z) ((q * c : Nat) : Int) = nrm x (d : Int) := by
    refine nrm_eq (k := g) (l := c * m) (Nat.mul_pos hq c0) d0 hg (Nat.mul_pos c0 hm) ?_ ?_
    · have hss : s * s = 1 := by rcases hs with h | h <;> subst h <;> rfl
      rw [← cm c m]
      have : p * z * (g : Int) = (p * g) * z := by grind
      rw [this, ← e1]
      have hm' : s * z = (m : Int) := by rw [hzm, ← Int.mul_assoc, hss, Int.one_mul]
      rw [← hm']; grind
    · have : ((q : Int) * c) * g = (d : Int) * (c * m) := by
        have : ((q : Int) * c) * g = (q * g) * c := by grind
        rw [this, ← e2]; grind
      have h' : ((q * c * g : Nat) : Int) = ((d * (c * m) : Nat) : Int) := by
        simp only [Int.natCast_mul]; exact this
      exact Int.ofNat.inj h'
  rw [key, nrm_right hx h1]
theorem sub_back (h0 : ((sbM x y z w).2.2 == 0) = true) : addM (sbM x y z w).1 (sbM x y z w).2.1 z w = (x, y, 0) := by
  obtain ⟨p, q, g, e, hq, hg, e1, e2, e3, h1, h2⟩ := sub_val hx hz h0
  obtain ⟨d, rfl, d0⟩ := right_pos hx h1
  obtain ⟨c, rfl, c0⟩ := right_pos hz h2
  rw [e, addM_right e3 h2, cm]
  have key : nrm (p * (c : Int) + z * (q : Int)) ((q * c : Nat) : Int) = nrm x (d : Int) := by
    refine nrm_eq (k := g) (l := c * c) (Nat.mul_pos hq c0) d0 hg (Nat.mul_pos c0 c0) ?_ ?_
    · rw [← cm c c]
      have : (p * (c : Int) + z * (q : Int)) * (g : Int) = (p * g) * c + z * (q * g) := by grind
      rw [this, ← e1, ← e2]; grind
    · have : ((q : Int) * c) * g = (d : Int) * (c * c) := by
        have : ((q : Int) * c) * g = (q * g) * c := by grind
        rw [this, ← e2]; grind
      have h' : ((q * c * g : Nat) : Int) = ((d * (c * c) : Nat) : Int) := by
        simp only [Int.natCast_mul]; exact this
      exact Int.ofNat.inj h'
  rw [key, nrm_right hx h1]
theorem okI4 : okI x y z w = true := okI_iff.2 ⟨hx, hy, hz, hw⟩
theorem fL4_true : fL4 x y z w (divM x y z w) = boolR true := by
  have hr := rng_div hx hz (y := y) (w := w)
  unfold fL4
  refine (condT (okI_iff.2 ⟨hr.1, hr.2, hz, hw⟩)).trans ?_
  rcases Bool.eq_false_or_eq_true ((divM x y z w).2.2 == 0) with h | h
  · rw [condT h, div_back hx hy hz hw h, eqR_self]; rfl
  · rw [condF h]
theorem fL3_true : fL3 x y z w = boolR true := by
  have hr := rng_sub hx hz (y := y) (w := w)
  unfold fL3 fL3b
  refine (condT (okI4 hx hy hz hw)).trans ((condT (okI_iff.2 ⟨hr.1, hr.2, hz, hw⟩)).trans ?_)
  have ho : okI x y z w = true := okI4 hx hy hz hw
  rcases Bool.eq_false_or_eq_true ((sbM x y z w).2.2 == 0) with h | h
  · rw [condT h, sub_back hx hy hz hw h, eqR_self, ho, fL4_true hx hy hz hw]; rfl
  · rw [condF h, condT ho, fL4_true hx hy hz hw]
end
theorem distr {x y z w u v : Int} (hx : isI x = true) (hy : isI y = true) (hz : isI z = true) (hw : isI w = true) (hu : isI u = true) (hv : isI v = true)
    (hp : ((mulM (addM x y z w).1 (addM x y z w).2.1 u v).2.2 == 0) = true) (hq : ((mulM x y u v).2.2 == 0) = true) (hr : ((mulM z w u v).2.2 == 0) = true)
    (hh : ((addM (mulM x y u v).1 (mulM x y u v).2.1 (mulM z w u v).1 (mulM z w u v).2.1).2.2 == 0) = true) :
    mulM (addM x y z w).1 (addM x y z w).2.1 u v = addM (mulM x y u v).1 (mulM x y u v).2.1 (mulM z w u v).1 (mulM z w u v).2.1 := by
  have ra := rng_add hx hz (y := y) (w := w)
  obtain ⟨q1, q2, g1, eq, hq2, hg1, a1, a2, a3, hxy, huv⟩ := mul_val hx hu hq
  obtain ⟨r1, r2, g2, er, hr2, hg2, b1, b2, b3, hzw, _⟩ := mul_val hz hu hr
  obtain ⟨_, _, _, _, _, _, _, _, _, hs, _⟩ := mul_val ra.1 hu hp
  have hs0 : ((addM x y z w).2.2 == 0) = true := by
    obtain ⟨d, rfl, d0⟩ := right_pos hx hxy
    obtain ⟨e, rfl, e0⟩ := right_pos hz hzw
    rw [addM_right hxy hzw, cm] at hs ⊢
    rcases Bool.eq_false_or_eq_true ((nrm (x * (e : Int) + z * (d : Int)) ((d * e : Nat) : Int)).2.2 == 0) with h | h
    · exact h
    · exfalso
      have hg : 0 < Nat.gcd (x * (e : Int) + z * (d : Int)).natAbs (d * e) := Nat.gcd_pos_of_pos_right _ (Nat.mul_pos d0 e0)
      have e1 := nrm_nat (n := x * (e : Int) + z * (d : Int)) (B := d * e) rfl rfl hg rfl rfl
      rw [e1] at hs h
      rcases Bool.eq_false_or_eq_true (decide ((((x * (e : Int) + z * (d : Int)).natAbs / Nat.gcd (x * (e : Int) + z * (d : Int)).natAbs (d * e) : Nat) : Int) > 4611686018427387903)) with c1 | c1
      · rw [condT c1] at hs; cases hs
      · rcases Bool.eq_false_or_eq_true (decide (((d * e / Nat.gcd (x * (e : Int) + z * (d : Int)).natAbs (d * e) : Nat) : Int) > 4611686018427387903)) with c2 | c2
        · rw [condF c1, condT c2] at hs; cases hs
        · rw [condF c1, condF c2] at h; cases h
  obtain ⟨s1, s2, g, es, hs2, hg, c1, c2, c3, _, _⟩ := add_val hx hz hs0
  rw [es, eq, er]
  rw [mulM_right c3 huv, addM_right a3 b3]
  obtain ⟨d, rfl, d0⟩ := right_pos hx hxy
  obtain ⟨e, rfl, e0⟩ := right_pos hz hzw
  obtain ⟨f, rfl, f0⟩ := right_pos hu huv
  rw [cm s2 f, cm q2 r2]
  refine nrm_eq (k := g * f) (l := g1 * g2) (Nat.mul_pos hs2 f0) (Nat.mul_pos hq2 hr2) (Nat.mul_pos hg f0) (Nat.mul_pos hg1 hg2) ?_ ?_
  · rw [← cm g f, ← cm g1 g2]
    have l1 : s1 * u * ((g : Int) * f) = (s1 * g) * u * f := by grind
    have l2 : (q1 * (r2 : Int) + r1 * (q2 : Int)) * ((g1 : Int) * g2) = (q1 * g1) * (r2 * g2) + (r1 * g2) * (q2 * g1) := by grind
    rw [l1, l2, ← c1, ← a1, ← a2, ← b1, ← b2]; grind
  · have l1 : ((s2 : Int) * f) * (g * f) = (s2 * g) * (f * f) := by grind
    have l2 : ((q2 : Int) * r2) * (g1 * g2) = (q2 * g1) * (r2 * g2) := by grind
    have h' : ((s2 * f * (g * f) : Nat) : Int) = ((q2 * r2 * (g1 * g2) : Nat) : Int) := by
      simp only [Int.natCast_mul]
      rw [l1, l2, ← c2, ← a2, ← b2]; grind
    exact Int.ofNat.inj h'
theorem law5_true {x y z w u v : Int} (hx : isI x = true) (hy : isI y = true) (hz : isI z = true) (hw : isI w = true) (hu : isI u = true) (hv : isI v = true) :
    ev sysC4 (0 + 1) 5 [rt x y, rt z w, rt u v] [] = boolR true := by
  have ra := rng_add hx hz (y := y) (w := w)
  have rq := rng_mul hx hu (y := y) (w := v)
  have rr := rng_mul hz hu (y := w) (w := v)
  refine (law5 x y z w u v 0).trans ((condT (okI4 hx hy hz hw)).trans ((condT (okI4 hz hw hx hy)).trans ?_))
  rw [addM_comm z w x y]
  have e0 : ((addM x y z w).2.2 != (addM x y z w).2.2) = false := by simp
  rw [condF e0, eqR_self]
  refine (condF rfl).trans ?_
  unfold fL2
  refine (condT (okI_iff.2 ⟨ra.1, ra.2, hu, hv⟩)).trans ((condT (okI4 hx hy hu hv)).trans ((condT (okI4 hz hw hu hv)).trans ?_))
  unfold fL2b fL2c
  refine (condT (okI_iff.2 ⟨rq.1, rq.2, rr.1, rr.2⟩)).trans ?_
  rw [fL3_true hx hy hz hw]
  rcases Bool.eq_false_or_eq_true ((mulM (addM x y z w).1 (addM x y z w).2.1 u v).2.2 == 0) with h1 | h1
  · rw [condT h1]
    rcases Bool.eq_false_or_eq_true ((mulM x y u v).2.2 == 0) with h2 | h2
    · rw [condT h2]
      rcases Bool.eq_false_or_eq_true ((mulM z w u v).2.2 == 0) with h3 | h3
      · rw [condT h3]
        rcases Bool.eq_false_or_eq_true ((addM (mulM x y u v).1 (mulM x y u v).2.1 (mulM z w u v).1 (mulM z w u v).2.1).2.2 == 0) with h4 | h4
        · rw [condT h4, distr hx hy hz hw hu hv h1 h2 h3 h4, eqR_self]; rfl
        · rw [condF h4]
      · rw [condF h3]
    · rw [condF h2]
  · rw [condF h1]
end Go.Proofs.Ytgcdiccbehiijaa.W
namespace Go.Proofs.Ytgcdiccbehiijaa.W
open Go.Fw
set_option maxRecDepth 100000
section
open Go Go.RowKit Go.Extern.Stop Go.Stop Go.Extern
theorem harm34 : Harm Try.prog 34 3 := fun vals w hv => by
  obtain ⟨l⟩ := vals
  match l, hv with
  | [p, q, r], _ =>
    have hnil : ∀ w : World, (Go.binOp BinOp.neq 20 .nilIface .nilIface).run Try.prog w = .ok (.bool false) w := fun _ => by kernel_rfl
    refine ⟨by kernel_rfl, ?_⟩
    refine callsD_of_wpS (fn := Try.f34) Try.func34 rfl fun c₀ cs hu => ?_
    apply wpS_seq
    apply wpS_region
    simp [wpOpsS, go_sem, recoverD, hu, Exit.thenS]
    apply wpS_seq
    apply wpS_region
    simp [wpOpsS, go_sem, Exit.thenS, hnil]
    refine wpS_cond (t := false) (by simp [Act.eval, Array.replicate]) ?_
    simp only [Bool.false_eq_true, if_false]
    refine wpS_of_wp (wp_skip ?_)
    cases c₀
    simp_all [bodyPostS, results, Exit.thenS]
end
end Go.Proofs.Ytgcdiccbehiijaa.W
namespace Go.Proofs.Ytgcdiccbehiijaa.W
open Go.Fw
set_option maxRecDepth 100000
theorem bodyOk : fns.all (bodyB Try.prog ann) = true := by kernel_rfl
theorem sysOk : SysOk Try.prog sys where
  mixed := by kernel_rfl
  tab := tabOk
  body := fun f fn h => body_ok bodyOk f fn h
  prim := fun f args st r st' h => by change prim f args st = _ at h; unfold prim at h; cases h
  harm := fun g n h => by
    change harm g n = true at h
    unfold harm at h
    rw [Bool.and_eq_true] at h
    obtain ⟨h1, h2⟩ := h
    obtain rfl := Nat.eq_of_beq_eq_true h1
    obtain rfl := Nat.eq_of_beq_eq_true h2
    exact harm34
theorem tellFrom {P : Program} {S S' : FSys} (hS' : SysOk P S') (hS : SysOk P S) (hT : S'.T = S.T) (ha : S'.ann = S.ann) (g : FuncId) (F : List AV → List AObj → Ab Res)
    (h : ∀ args st r, F args st = some (true, r) → ∃ k, ev S k g args st = some r) : SysOk P (S'.tell g F) :=
  hS'.tellCF g F fun args st r st' hF => by
    obtain ⟨k, hk⟩ := h args st _ hF
    rw [hT, ha]
    exact ev_ok hS k g args st r st' hk
theorem sysAOk : SysOk Try.prog sysA := by
  have h76 : ∀ (args : List AV) (st : List AObj) (r : AV) (st' : List AObj), FAdd args st = some (true, (r, st')) → CF Try.prog sys.T 76 args st (sys.ann 76).mvs r st' ∧ (sys.ann 76).res.ok r = true ∧ OS.okL (sys.ann 76).objs st' = true ∧ st.length ≤ st'.length := fun args st r st' h => by
    unfold FAdd at h
    split at h
    · rename_i x y c
      simp only [Option.some.injEq, Prod.mk.injEq, Bool.and_eq_true, decide_eq_true_eq] at h
      obtain ⟨⟨h1, h2, h3, h4⟩, rfl, rfl⟩ := h
      exact ⟨cf76 x y c h1 h2 h3 h4, by kernel_rfl, by kernel_rfl, Nat.le_refl _⟩
    · cases h
  have h78 : ∀ (args : List AV) (st : List AObj) (r : AV) (st' : List AObj), FSub args st = some (true, (r, st')) → CF Try.prog sys.T 78 args st (sys.ann 78).mvs r st' ∧ (sys.ann 78).res.ok r = true ∧ OS.okL (sys.ann 78).objs st' = true ∧ st.length ≤ st'.length := fun args st r st' h => by
    unfold FSub at h
    split at h
    · rename_i x y c
      simp only [Option.some.injEq, Prod.mk.injEq, Bool.and_eq_true, decide_eq_true_eq] at h
      obtain ⟨⟨h1, h2, h2', h3, h4⟩, rfl, rfl⟩ := h
      exact ⟨cf78 x y c h1 h2 h2' h3 h4, by kernel_rfl, by kernel_rfl, Nat.le_refl _⟩
    · cases h
  exact SysOk.tellCF (S := sys.tell 76 FAdd) (sysOk.tellCF 76 FAdd h76) 78 FSub h78
theorem sysB1Ok : SysOk Try.prog sysB1 := sysAOk.tell 51 _ told51
theorem sysB2Ok : SysOk Try.prog sysB2 := tellFrom (sysB1Ok.tell 57 _ told57) sysB1Ok rfl rfl 58 _ told58
theorem sysB3Ok : SysOk Try.prog sysB3 := sysB2Ok.tell 55 _ told55
theorem sysB4Ok : SysOk Try.prog sysB4 := sysB3Ok.tell 92 _ told92
theorem sysB5Ok : SysOk Try.prog sysB5 := sysB4Ok.tell 89 _ told89
theorem sysB6Ok : SysOk Try.prog sysB6 := sysB5Ok.tell 79 _ told79
theorem sysB7Ok : SysOk Try.prog sysB7 :=
  tellFrom (tellFrom (tellFrom (tellFrom (tellFrom (sysB6Ok.tell 52 _ told52) sysB6Ok rfl rfl 77 _ told77) sysB6Ok rfl rfl 56 _ told56) sysB6Ok rfl rfl 69 _ told69) sysB6Ok rfl rfl 54 _ told54) sysB6Ok rfl rfl 63 _ told63
theorem sysB8Ok : SysOk Try.prog sysB8 := tellFrom (sysB7Ok.tell 53 _ told53) sysB7Ok rfl rfl 50 _ told50
theorem sysC1Ok : SysOk Try.prog sysC1 := sysB8Ok.tell 20 _ told20
theorem sysC2Ok : SysOk Try.prog sysC2 := sysC1Ok.tell 19 _ told19
theorem sysC3Ok : SysOk Try.prog sysC3 := tellFrom (tellFrom (tellFrom (sysC2Ok.tell 21 _ (toldRR told21)) sysC2Ok rfl rfl 22 _ (toldRR told22)) sysC2Ok rfl rfl 23 _ told23) sysC2Ok rfl rfl 30 _ told30
theorem mm4Ok : SysOk Try.prog mm4 := ((((sysC3Ok.tell 35 _ (told_memo mm1_ev)).tell 36 _ (told_memo mm2_ev)).tell 40 _ (told_memo mm3_ev)).tell 18 _ (told_memo mm4_ev))
theorem sysC4Ok : SysOk Try.prog sysC4 := tellFrom sysC3Ok mm4Ok rfl rfl 10 _ told10
theorem own : ownKnob Try.prog.godebug = none := by kernel_rfl
theorem laidOut : laidOutB Try.prog = true := by kernel_rfl
def tys : List Nat := [42, 2, 50]
theorem plain : plainT tab tys = true := by kernel_rfl
/-! ### What is read of the arguments -/
theorem int_cell {av : AV} (h : CT.ok (.int .i64) av = true) (hf : Fine tab av) : ∃ n, av = i64 n ∧ isI n = true := by
  cases hf with
  | int k n hw =>
    have : k = .i64 := of_decide_eq_true h
    subst this
    refine ⟨n, rfl, ?_⟩
    simp [Lit.wf, IntKind.min, IntKind.max, IntKind.signed, IntKind.bits] at hw
    rw [isI_iff]; omega
  | _ => cases h
theorem row_two {c d : CT} {row : List AV} (h : rowOk [c, d] row = true) : ∃ a b, row = [a, b] ∧ c.ok a = true ∧ d.ok b = true := by
  match row, h with
  | [a, b], h =>
    simp only [rowOk, Bool.and_eq_true] at h
    exact ⟨a, b, rfl, h.1, h.2.1⟩
  | [], h => cases h
  | [_], h => simp [rowOk] at h
  | _ :: _ :: _ :: _, h => simp [rowOk] at h
theorem arg42 {av : AV} (h : ArgOf tab 42 av) : ∃ n d, av = rt n d ∧ isI n = true ∧ isI d = true := by
  have ht : ∃ ti, tab 42 = some ti ∧ ti.isAgg = true := ⟨_, rfl, by kernel_rfl⟩
  obtain ⟨ti, h1, h2⟩ := ht
  unfold ArgOf at h
  rw [h1] at h
  simp only [h2] at h
  obtain ⟨avs, rfl, hr, hf⟩ := h
  have hc : cts tab 42 = [.int .i64, .int .i64] := by kernel_rfl
  rw [hc] at hr
  obtain ⟨a, b, rfl, ha, hb⟩ := row_two hr
  obtain ⟨n, rfl, hn⟩ := int_cell ha (hf _ (by simp))
  obtain ⟨d, rfl, hd⟩ := int_cell hb (hf _ (by simp))
  exact ⟨n, d, rfl, hn, hd⟩
theorem pure5 (avs : List AV) (h : Args tab [42, 42, 42] avs) : ∃ k, ev sysC4 k 5 avs [] = some (.k (.bool true), []) := by
  match avs, h with
  | [a, b, c], ⟨ha, hb, hc, _⟩ =>
    obtain ⟨x, y, rfl, hx, hy⟩ := arg42 ha
    obtain ⟨z, w, rfl, hz, hw⟩ := arg42 hb
    obtain ⟨u, v, rfl, hu, hv⟩ := arg42 hc
    exact ⟨_, law5_true hx hy hz hw hu hv⟩
def rz : Value := .agg #[.int .i64 0, .int .i64 1]
end Go.Proofs.Ytgcdiccbehiijaa.W
