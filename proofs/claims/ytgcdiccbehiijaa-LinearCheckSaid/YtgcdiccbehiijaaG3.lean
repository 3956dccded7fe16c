/- A part of the proofs over these laws: what its functions come to. No conditions. -/
import Derived.Test.YtgcdiccbehiijaaG2
set_option linter.all false
namespace Go.Proofs.Ytgcdiccbehiijaa.W
open Go.Fw
set_option maxRecDepth 100000
def hiW (m : Int) : Int := m / 18446744073709551616
def loW (m : Int) : Int := m % 18446744073709551616
def ovR (h l n : Int) : Int := (h % n * 18446744073709551616 + l) % n
def ovQ (h l n : Int) : Int := (h % n * 18446744073709551616 + l) / n
def okW (h l n : Int) : Bool := isU h && (isU l && (isU n && decide (0 < n)))
def addE (p : Bool) (th tl hi lo : Int) : Option Res :=
  bif decide (hi > 0) then ratR 0 0 5 else bif decide (th > 0) then ratR 0 0 5 else bif tl == 0 then ratR 0 1 0 else sgR p tl lo
def addD (y w g h : Int) (p : Bool) (sh sl : Int) : Option Res :=
  bif okW sh sl h then (bif !decide (g = 0) then (bif !decide (h = 0) then (bif isU (quU (wU y) g) && isU (quU (wU w) h) then
    addE p (sh / h) (ovQ sh sl h) (hiP (quU (wU y) g) (quU (wU w) h)) (loP (quU (wU y) g) (quU (wU w) h)) else none) else none) else none) else none
def addC (y w g : Int) (p : Bool) (sh sl : Int) : Option Res :=
  bif okW sh sl g then (bif isU g && isU (ovR sh sl g) then addD y w g (gcdI g (ovR sh sl g)) p sh sl else none) else none
def addB (y w g : Int) (S : Bool × Int) : Option Res := addC y w g S.1 (hiW S.2) (loW S.2)
def okP (a b c d : Int) : Bool := isU a && (isU b && (isU c && (isU d && decide (mag a b + mag c d < 340282366920938463463374607431768211456))))
def addA (x y z w g : Int) : Option Res :=
  bif !decide (g = 0) then (bif isI x && isU (quU (wU w) g) then (bif !decide (g = 0) then (bif isI z && isU (quU (wU y) g) then
    (bif okP (hiP (absI x) (quU (wU w) g)) (loP (absI x) (quU (wU w) g)) (hiP (absI z) (quU (wU y) g)) (loP (absI z) (quU (wU y) g)) then
      addB y w g (plusM (decide (x < 0)) (mag (hiP (absI x) (quU (wU w) g)) (loP (absI x) (quU (wU w) g))) (decide (z < 0)) (mag (hiP (absI z) (quU (wU y) g)) (loP (absI z) (quU (wU y) g)))) else none) else none) else none) else none) else none
theorem ev19 (x y z w : Int) (k : Nat) : ev sysC1 (k + 1) 19 [rt x y, rt z w] [] =
    bif isI x && (isI y && (isI z && isI w)) then (bif bothE x y z w != 0 then ratR 0 0 (bothE x y z w) else
      bif isU (wU y) && isU (wU w) then addA x y z w (gcdI (wU y) (wU w)) else none) else none := by kernel_rfl
def addM (x y z w : Int) : Int × Int × Int := bif bothE x y z w != 0 then (0, 0, 2) else nrm (x * w + z * y) (y * w)
def FAddR : List AV → List AObj → Ab Res
  | [.agg [.k (.int .i64 x), .k (.int .i64 y)], .agg [.k (.int .i64 z), .k (.int .i64 w)]], [] => some (isI x && (isI y && (isI z && isI w)), ratAV (addM x y z w), [])
  | _, _ => none
theorem ov_nat (m h : Nat) (hh : 0 < h) : ((m / 18446744073709551616 % h) * 18446744073709551616 + m % 18446744073709551616) % h = m % h ∧ m / 18446744073709551616 / h = m / h / 18446744073709551616 ∧
    ((m / 18446744073709551616 % h) * 18446744073709551616 + m % 18446744073709551616) / h = m / h % 18446744073709551616 := by
  have hm := Nat.div_add_mod m 18446744073709551616
  have hl := Nat.mod_lt m (show 0 < 18446744073709551616 by omega)
  generalize m / 18446744073709551616 = hi at *
  generalize m % 18446744073709551616 = lo at *
  have hd := Nat.div_add_mod hi h
  have hr := Nat.mod_lt hi hh
  generalize hi / h = q at *
  generalize hi % h = r at *
  have e : m = h * (q * 18446744073709551616) + (r * 18446744073709551616 + lo) := by
    rw [← hm, ← hd, Nat.mul_comm 18446744073709551616, Nat.add_mul, Nat.mul_assoc, Nat.add_assoc]
  have hlt : (r * 18446744073709551616 + lo) / h < 18446744073709551616 := by
    rw [Nat.div_lt_iff_lt_mul hh]
    have : (r + 1) * 18446744073709551616 ≤ h * 18446744073709551616 := Nat.mul_le_mul_right _ hr
    rw [Nat.add_mul, Nat.one_mul] at this
    rw [Nat.mul_comm 18446744073709551616]
    exact Nat.lt_of_lt_of_le (Nat.add_lt_add_left hl _) this
  have e2 : m / h = q * 18446744073709551616 + (r * 18446744073709551616 + lo) / h := by
    rw [e, Nat.mul_add_div hh]
  refine ⟨by rw [e, Nat.mul_add_mod], ?_, ?_⟩
  · rw [e2, Nat.mul_comm q, Nat.mul_add_div (by decide), Nat.div_eq_of_lt hlt, Nat.add_zero]
  · rw [e2, Nat.mul_comm q, Nat.mul_add_mod, Nat.mod_eq_of_lt hlt]
theorem hiW_nat (m : Nat) : hiW (m : Int) = ((m / 18446744073709551616 : Nat) : Int) := rfl
theorem loW_nat (m : Nat) : loW (m : Int) = ((m % 18446744073709551616 : Nat) : Int) := rfl
theorem ovR_nat (m h : Nat) (hh : 0 < h) : ovR (hiW (m : Int)) (loW (m : Int)) (h : Int) = ((m % h : Nat) : Int) := by
  rw [← (ov_nat m h hh).1]
  unfold ovR
  rw [hiW_nat, loW_nat]
  rfl
theorem ovQ_nat (m h : Nat) (hh : 0 < h) : ovQ (hiW (m : Int)) (loW (m : Int)) (h : Int) = ((m / h % 18446744073709551616 : Nat) : Int) := by
  rw [← (ov_nat m h hh).2.2]
  unfold ovQ
  rw [hiW_nat, loW_nat]
  rfl
theorem hiQ_nat (m h : Nat) (hh : 0 < h) : hiW (m : Int) / (h : Int) = ((m / h / 18446744073709551616 : Nat) : Int) := by
  rw [← (ov_nat m h hh).2.1, hiW_nat]; rfl
theorem okW_nat {m h : Nat} (hm : m < 340282366920938463463374607431768211456) (h1 : 0 < h) (h2 : h < 18446744073709551616) : okW (hiW (m : Int)) (loW (m : Int)) (h : Int) = true := by
  unfold okW
  rw [hiW_nat, loW_nat]
  refine andT (isU_of (by omega)) (andT (isU_of (by omega)) (andT (isU_of h2) ?_))
  rw [decide_eq_true_eq]; omega
theorem mag_nat (m : Nat) : mag ((m / 18446744073709551616 : Nat) : Int) ((m % 18446744073709551616 : Nat) : Int) = (m : Int) := by
  unfold mag; omega
theorem plusM_nat {x z : Int} {u v : Nat} (hu : 0 < u) (hv : 0 < v) : ∃ p : Bool, plusM (decide (x < 0)) ((x.natAbs * u : Nat) : Int) (decide (z < 0)) ((z.natAbs * v : Nat) : Int) = (p, (((x * u + z * v).natAbs : Nat) : Int)) ∧
    ((x * u + z * v) < 0 → p = true) ∧ (p = true → ¬ (x * u + z * v) < 0 → (x * u + z * v).natAbs = 0) := by
  have hx : x * (u : Int) = if x < 0 then -((x.natAbs * u : Nat) : Int) else ((x.natAbs * u : Nat) : Int) := by
    split
    · have : x = -((x.natAbs : Nat) : Int) := by omega
      conv => lhs; rw [this, Int.neg_mul, cm]
    · have : x = ((x.natAbs : Nat) : Int) := by omega
      conv => lhs; rw [this, cm]
  have hz : z * (v : Int) = if z < 0 then -((z.natAbs * v : Nat) : Int) else ((z.natAbs * v : Nat) : Int) := by
    split
    · have : z = -((z.natAbs : Nat) : Int) := by omega
      conv => lhs; rw [this, Int.neg_mul, cm]
    · have : z = ((z.natAbs : Nat) : Int) := by omega
      conv => lhs; rw [this, cm]
  have px : x < 0 → 0 < x.natAbs * u := fun h => Nat.mul_pos (by omega) hu
  have pz : z < 0 → 0 < z.natAbs * v := fun h => Nat.mul_pos (by omega) hv
  rw [hx, hz]
  generalize x.natAbs * u = a at *
  generalize z.natAbs * v = b at *
  by_cases h1 : x < 0 <;> by_cases h2 : z < 0
  · refine ⟨true, ?_, by simp, ?_⟩
    · unfold plusM
      rw [decide_eq_true h1, decide_eq_true h2, if_pos h1, if_pos h2]
      simp only [beq_self_eq_true, cond_true, Prod.mk.injEq, true_and]; omega
    · rw [if_pos h1, if_pos h2]; have := px h1; omega
  · by_cases h3 : (a : Int) < b
    · refine ⟨false, ?_, ?_, by simp⟩
      · unfold plusM
        rw [decide_eq_true h1, decide_eq_false h2, if_pos h1, if_neg h2, decide_eq_true h3]
        have : (true == false) = false := rfl
        rw [this]
        simp only [cond_true, cond_false, Prod.mk.injEq, true_and]; omega
      · rw [if_pos h1, if_neg h2]; omega
    · refine ⟨true, ?_, by simp, ?_⟩
      · unfold plusM
        rw [decide_eq_true h1, decide_eq_false h2, if_pos h1, if_neg h2, decide_eq_false h3]
        have : (true == false) = false := rfl
        rw [this]
        simp only [cond_false, Prod.mk.injEq, true_and]; omega
      · rw [if_pos h1, if_neg h2]; omega
  · by_cases h3 : (a : Int) < b
    · refine ⟨true, ?_, by simp, ?_⟩
      · unfold plusM
        rw [decide_eq_false h1, decide_eq_true h2, if_neg h1, if_pos h2, decide_eq_true h3]
        have : (false == true) = false := rfl
        rw [this]
        simp only [cond_true, cond_false, Prod.mk.injEq, true_and]; omega
      · rw [if_neg h1, if_pos h2]; omega
    · refine ⟨false, ?_, ?_, by simp⟩
      · unfold plusM
        rw [decide_eq_false h1, decide_eq_true h2, if_neg h1, if_pos h2, decide_eq_false h3]
        have : (false == true) = false := rfl
        rw [this]
        simp only [cond_false, Prod.mk.injEq, true_and]; omega
      · rw [if_neg h1, if_pos h2]; omega
  · refine ⟨false, ?_, ?_, by simp⟩
    · unfold plusM
      rw [decide_eq_false h1, decide_eq_false h2, if_neg h1, if_neg h2]
      simp only [beq_self_eq_true, cond_true, Prod.mk.injEq, true_and]; omega
    · rw [if_neg h1, if_neg h2]; omega
theorem ratR1 : ratR 0 1 0 = some (ratAV (0, 1, 0), []) := rfl
theorem addE_nat {p : Bool} {n : Int} {a b : Nat} (h1 : n < 0 → p = true) (h2 : p = true → ¬ n < 0 → a = 0) (h0 : a = 0 → b = 1 ∧ n = 0) (hb : b < 340282366920938463463374607431768211456) :
    addE p ((a / 18446744073709551616 : Nat) : Int) ((a % 18446744073709551616 : Nat) : Int) ((b / 18446744073709551616 : Nat) : Int) ((b % 18446744073709551616 : Nat) : Int) =
    some (ratAV (bif decide ((a : Int) > 4611686018427387903) then (0, 0, 5) else bif decide ((b : Int) > 4611686018427387903) then (0, 0, 5) else (bif decide (n < 0) then -(a : Int) else a, (b : Int), 0)), []) := by
  unfold addE
  by_cases hl : 18446744073709551616 ≤ b
  · refine (condT (by rw [decide_eq_true_eq]; omega)).trans ?_
    rw [decide_eq_true (show (b : Int) > 4611686018427387903 by omega), cond_true, Bool.cond_self]; exact ratR5
  · refine (condF (by rw [decide_eq_false_iff_not]; omega)).trans ?_
    by_cases hh : 18446744073709551616 ≤ a
    · refine (condT (by rw [decide_eq_true_eq]; omega)).trans ?_
      rw [decide_eq_true (show (a : Int) > 4611686018427387903 by omega), cond_true]; exact ratR5
    · refine (condF (by rw [decide_eq_false_iff_not]; omega)).trans ?_
      rw [Nat.mod_eq_of_lt (by omega), Nat.mod_eq_of_lt (by omega)]
      by_cases ha : a = 0
      · obtain ⟨rfl, rfl⟩ := h0 ha
        subst ha
        exact ratR1
      · refine (condF (by rw [beq_eq_false_iff_ne]; omega)).trans ?_
        rw [sgR_nat (by omega) (by omega), sgn_norm h1 h2]
theorem addD_nat {y w : Nat} {g h m : Nat} {p : Bool} (hm : m < 340282366920938463463374607431768211456) (hy : y < 18446744073709551616) (hw : w < 18446744073709551616) (hg : 0 < g) (hh : 0 < h) (hh2 : h < 18446744073709551616) :
    addD (y : Int) (w : Int) (g : Int) (h : Int) p (hiW (m : Int)) (loW (m : Int)) =
      addE p ((m / h / 18446744073709551616 : Nat) : Int) ((m / h % 18446744073709551616 : Nat) : Int) ((y / g * (w / h) / 18446744073709551616 : Nat) : Int) ((y / g * (w / h) % 18446744073709551616 : Nat) : Int) := by
  have q1 : y / g ≤ y := Nat.div_le_self _ _
  have q2 : w / h ≤ w := Nat.div_le_self _ _
  have p1 : quU (wU (y : Int)) (g : Int) = ((y / g : Nat) : Int) := by rw [wU_nat hy]; exact quU_nat hy
  have p2 : quU (wU (w : Int)) (h : Int) = ((w / h : Nat) : Int) := by rw [wU_nat hw]; exact quU_nat hw
  unfold addD
  rw [p1, p2]
  refine (condT (okW_nat hm hh hh2)).trans ((condT (nz hg)).trans ((condT (nz hh)).trans ((condT (andT (isU_of (by omega)) (isU_of (by omega)))).trans ?_)))
  rw [hiQ_nat m h hh, ovQ_nat m h hh, hiP_nat, loP_nat]
theorem addA_eq {x y z w : Int} (h1 : isI x = true) (h3 : isI z = true) (r1 : rightB x y = true) (r2 : rightB z w = true) :
    (bif isU (wU y) && isU (wU w) then addA x y z w (gcdI (wU y) (wU w)) else none) = some (ratAV (nrm (x * w + z * y) (y * w)), []) := by
  obtain ⟨d, rfl, d1, d2, d3, d4⟩ := right_nat h1 r1
  obtain ⟨e, rfl, e1, e2, e3, e4⟩ := right_nat h3 r2
  obtain ⟨g, d', e', g0, gE, dE, eE, dQ, eQ, hT, hG, hZ⟩ := gcd_sum d4 e4 e1 d1
  have w1 : wU (d : Int) = (d : Int) := wU_nat (by omega)
  have w2 : wU (e : Int) = (e : Int) := wU_nat (by omega)
  have hd' : 0 < d' := by rcases Nat.eq_zero_or_pos d' with h | h; subst h; omega; exact h
  have he' : 0 < e' := by rcases Nat.eq_zero_or_pos e' with h | h; subst h; omega; exact h
  have gle : g ≤ d := by rw [gE]; exact Nat.le_of_dvd d1 (Nat.gcd_dvd_left _ _)
  have hgI : gcdI (wU (d : Int)) (wU (e : Int)) = (g : Int) := by rw [w1, w2, gcdI_nat, ← gE]
  refine (condT (andT (by rw [w1]; exact isU_of (by omega)) (by rw [w2]; exact isU_of (by omega)))).trans ?_
  rw [hgI]
  have k1 : quU (wU (e : Int)) (g : Int) = (e' : Int) := by rw [w2, quU_nat (by omega), eQ]
  have k2 : quU (wU (d : Int)) (g : Int) = (d' : Int) := by rw [w1, quU_nat (by omega), dQ]
  have d'le : d' ≤ d := by rw [← dQ]; exact Nat.div_le_self _ _
  have e'le : e' ≤ e := by rw [← eQ]; exact Nat.div_le_self _ _
  have m1 : x.natAbs * e' ≤ 4611686018427387903 * 4611686018427387903 := Nat.mul_le_mul d3 (by omega)
  have m2 : z.natAbs * d' ≤ 4611686018427387903 * 4611686018427387903 := Nat.mul_le_mul e3 (by omega)
  obtain ⟨p, hS, s1, s2⟩ := plusM_nat (x := x) (z := z) (u := e') (v := d') he' hd'
  have tle : (x * e' + z * d').natAbs ≤ x.natAbs * e' + z.natAbs * d' := by
    refine Nat.le_trans (Int.natAbs_add_le _ _) ?_
    rw [Int.natAbs_mul, Int.natAbs_mul, Int.natAbs_natCast, Int.natAbs_natCast]
    exact Nat.le_refl _
  have hP : addA x (d : Int) z (e : Int) (g : Int) = addB (d : Int) (e : Int) (g : Int) (p, (((x * e' + z * d').natAbs : Nat) : Int)) := by
    unfold addA
    rw [k1, k2]
    refine (condT (nz g0)).trans ((condT (andT h1 (isU_of (by omega)))).trans ((condT (nz g0)).trans ((condT (andT h3 (isU_of (by omega)))).trans ?_)))
    rw [absI_nat, absI_nat, hiP_nat, loP_nat, hiP_nat, loP_nat, mag_nat, mag_nat, hS]
    refine condT ?_
    unfold okP
    refine andT (isU_of (by omega)) (andT (isU_of (by omega)) (andT (isU_of (by omega)) (andT (isU_of (by omega)) ?_)))
    rw [mag_nat, mag_nat, decide_eq_true_eq]
    omega
  rw [hP]
  have hn0 : (x * (e : Int) + z * (d : Int)) = (x * e' + z * d') * (g : Int) := hT
  generalize hTT : x * (e' : Int) + z * (d' : Int) = T at *
  have tb : T.natAbs < 340282366920938463463374607431768211456 := by omega
  have glt : g < 18446744073709551616 := by omega
  have h0 : 0 < Nat.gcd T.natAbs g := Nat.gcd_pos_of_pos_right _ g0
  have hle : Nat.gcd T.natAbs g ≤ g := Nat.le_of_dvd g0 (Nat.gcd_dvd_right _ _)
  have hC : addB (d : Int) (e : Int) (g : Int) (p, ((T.natAbs : Nat) : Int)) = addD (d : Int) (e : Int) (g : Int) ((Nat.gcd T.natAbs g : Nat) : Int) p (hiW ((T.natAbs : Nat) : Int)) (loW ((T.natAbs : Nat) : Int)) := by
    unfold addB addC
    simp only []
    rw [ovR_nat _ _ g0]
    have hml : T.natAbs % g < g := Nat.mod_lt _ g0
    refine (condT (okW_nat tb g0 glt)).trans ((condT (andT (isU_of glt) (isU_of (by omega)))).trans ?_)
    have : gcdI (g : Int) ((T.natAbs % g : Nat) : Int) = ((Nat.gcd T.natAbs g : Nat) : Int) := by
      rw [gcdI_nat, Nat.gcd_comm g, ← Nat.gcd_rec, Nat.gcd_comm]
    rw [this]
  rw [hC, addD_nat tb (by omega) (by omega) g0 h0 (by omega), dQ]
  generalize hh : Nat.gcd T.natAbs g = h at *
  have hdvd : h ∣ e := by
    have : h ∣ g := by rw [← hh]; exact Nat.gcd_dvd_right _ _
    exact Nat.dvd_trans this ⟨e', by rw [eE, Nat.mul_comm]⟩
  have hTd : h ∣ T.natAbs := by rw [← hh]; exact Nat.gcd_dvd_left _ _
  have qa : (x * (e : Int) + z * (d : Int)).natAbs / (g * h) = T.natAbs / h := by
    rw [hn0, Int.natAbs_mul, Int.natAbs_natCast, Nat.mul_comm T.natAbs, Nat.mul_div_mul_left _ _ g0]
  have qb : d * e / (g * h) = d' * (e / h) := by
    have : d * e = g * (d' * e) := by rw [dE, Nat.mul_comm d' g, Nat.mul_assoc]
    rw [this, Nat.mul_div_mul_left _ _ g0, Nat.mul_div_assoc _ hdvd]
  have hn := nrm_nat (n := x * (e : Int) + z * (d : Int)) rfl hG (Nat.mul_pos g0 h0) qa qb
  rw [← cm] at hn
  rw [hn]
  have sgn0 : (x * (e : Int) + z * (d : Int)) < 0 ↔ T < 0 := by
    rw [hn0]
    constructor
    · intro hlt
      by_cases h' : T < 0
      · exact h'
      · have := Int.mul_nonneg (show 0 ≤ T by omega) (show (0 : Int) ≤ (g : Int) by omega); omega
    · intro hlt
      exact Int.mul_neg_of_neg_of_pos hlt (by omega)
  have el : e / h ≤ e := Nat.div_le_self _ _
  refine addE_nat (fun hlt => s1 (sgn0.1 hlt)) (fun hp hnl => ?_) (fun ha => ?_) ?_
  · rw [s2 hp (fun hlt => hnl (sgn0.2 hlt)), Nat.zero_div]
  · have hz : T.natAbs = 0 := by
      have := Nat.div_mul_cancel hTd
      rw [ha, Nat.zero_mul] at this
      exact this.symm
    have hz' : T = 0 := by omega
    obtain ⟨z1, z2⟩ := hZ hz'
    have hg : h = g := by rw [← hh, hz, Nat.gcd_zero_left]
    refine ⟨?_, by rw [hn0, hz', Int.zero_mul]⟩
    rw [z1, hg, eQ, z2]
  · have : d' * (e / h) ≤ 4611686018427387903 * 4611686018427387903 := Nat.mul_le_mul (by omega) (by omega)
    omega
theorem told19 (args : List AV) (st : List AObj) (r : Res) (h : FAddR args st = some (true, r)) : ∃ k, ev sysC1 k 19 args st = some r := by
  unfold FAddR at h
  split at h
  · rename_i x y z w
    simp only [Option.some.injEq, Prod.mk.injEq, Bool.and_eq_true] at h
    obtain ⟨⟨h1, h2, h3, h4⟩, rfl⟩ := h
    refine ⟨0 + 1, (ev19 x y z w 0).trans ?_⟩
    rw [h1, h2, h3, h4]
    simp only [Bool.and_self, cond_true]
    unfold addM
    rw [bothE_zero]
    cases hr : rightB x y && rightB z w with
    | false =>
      have : bothE x y z w = 2 := by unfold bothE; rw [hr]; rfl
      rw [this]
      exact ratR2 _ _
    | true =>
      simp only [Bool.not_true, cond_false]
      rw [Bool.and_eq_true] at hr
      exact addA_eq h1 h3 hr.1 hr.2
  · cases h
noncomputable def sysC2 : FSys := sysC1.tell 19 FAddR
end Go.Proofs.Ytgcdiccbehiijaa.W
namespace Go.Proofs.Ytgcdiccbehiijaa.W
open Go.Fw
set_option maxRecDepth 100000
def ng (x : Int) : Int := IntKind.i64.wrap (0 - x)
def okI (x y z w : Int) : Bool := isI x && (isI y && (isI z && isI w))
def addR (x y z w : Int) : Option Res := bif okI x y z w then some (ratAV (addM x y z w), []) else none
def mulR (x y z w : Int) : Option Res := bif okI x y z w then some (ratAV (mulM x y z w), []) else none
theorem ev21 (x y z w : Int) (k : Nat) : ev sysC2 (k + 1) 21 [rt x y, rt z w] [] =
    bif okI x y z w then (bif bothE x y z w != 0 then ratR 0 0 (bothE x y z w) else addR x y (ng z) w) else none := by kernel_rfl
theorem ev22 (x y z w : Int) (k : Nat) : ev sysC2 (k + 1) 22 [rt x y, rt z w] [] =
    bif okI x y z w then (bif bothE x y z w != 0 then ratR 0 0 (bothE x y z w) else bif z == 0 then ratR 0 0 5 else bif decide (z < 0) then mulR x y (ng w) (ng z) else mulR x y w z) else none := by kernel_rfl
def mkR (p : Bool) (n d g : Int) : Option Res := bif !decide (g = 0) then (bif !decide (g = 0) then sgR p (quU (absI n) g) (quU (absI d) g) else none) else none
def mkA (n d g : Int) : Option Res := bif !(decide (n < 0) == decide (d < 0)) then mkR (n != 0) n d g else mkR false n d g
theorem ev23 (n d : Int) (k : Nat) : ev sysC2 (k + 1) 23 [i64 n, i64 d] [] =
    bif d == 0 then ratR 0 0 5 else bif isI n then (bif isI d then (bif isU (absI n) && isU (absI d) then mkA n d (gcdI (absI n) (absI d)) else none) else none) else none := by kernel_rfl
def twoR (n e : Int) : Option Res := some (.tup [i64 n, i64 e], [])
def cmpA (x y z w : Int) : Option Res :=
  bif isI x && isU (wU w) then (bif isI z && isU (wU y) then
    (bif okP (hiP (absI x) (wU w)) (loP (absI x) (wU w)) (hiP (absI z) (wU y)) (loP (absI z) (wU y)) then
      (twoR (sgW (plusM (decide (x < 0)) (mag (hiP (absI x) (wU w)) (loP (absI x) (wU w))) (!decide (z < 0)) (mag (hiP (absI z) (wU y)) (loP (absI z) (wU y)))).1
        (hiW (plusM (decide (x < 0)) (mag (hiP (absI x) (wU w)) (loP (absI x) (wU w))) (!decide (z < 0)) (mag (hiP (absI z) (wU y)) (loP (absI z) (wU y)))).2)
        (loW (plusM (decide (x < 0)) (mag (hiP (absI x) (wU w)) (loP (absI x) (wU w))) (!decide (z < 0)) (mag (hiP (absI z) (wU y)) (loP (absI z) (wU y)))).2)) 0) else none) else none) else none
theorem ev30 (x y z w : Int) (k : Nat) : ev sysC2 (k + 1) 30 [rt x y, rt z w] [] =
    bif okI x y z w then (bif bothE x y z w != 0 then twoR 0 (bothE x y z w) else cmpA x y z w) else none := by kernel_rfl
def sbM (x y z w : Int) : Int × Int × Int := bif bothE x y z w != 0 then (0, 0, 2) else nrm (x * w - z * y) (y * w)
def sg1 (x : Int) : Int := bif x == 0 then 0 else bif decide (x < 0) then -1 else 1
def divM (x y z w : Int) : Int × Int × Int := bif bothE x y z w != 0 then (0, 0, 2) else bif z == 0 then (0, 0, 5) else nrm (bif decide (z < 0) then -(x * w) else x * w) (y * absI z)
def makeM (n d : Int) : Int × Int × Int := bif d == 0 then (0, 0, 5) else nrm (bif decide (d < 0) then -n else n) (absI d)
def cmpM (x y z w : Int) : Int × Int := bif bothE x y z w != 0 then (0, 2) else (sg1 (x * w - z * y), 0)
def FRR (f : Int → Int → Int → Int → Int × Int × Int) : List AV → List AObj → Ab Res
  | [.agg [.k (.int .i64 x), .k (.int .i64 y)], .agg [.k (.int .i64 z), .k (.int .i64 w)]], [] => some (okI x y z w, ratAV (f x y z w), [])
  | _, _ => none
def FMk : List AV → List AObj → Ab Res
  | [.k (.int .i64 n), .k (.int .i64 d)], [] => some (isI n && isI d, ratAV (makeM n d), [])
  | _, _ => none
def twoAV (r : Int × Int) : AV := .tup [i64 r.1, i64 r.2]
def FCmp : List AV → List AObj → Ab Res
  | [.agg [.k (.int .i64 x), .k (.int .i64 y)], .agg [.k (.int .i64 z), .k (.int .i64 w)]], [] => some (okI x y z w, twoAV (cmpM x y z w), [])
  | _, _ => none
theorem okI_iff {x y z w : Int} : okI x y z w = true ↔ isI x = true ∧ isI y = true ∧ isI z = true ∧ isI w = true := by simp [okI]
theorem toldRR {S : FSys} {f : FuncId} {M : Int → Int → Int → Int → Int × Int × Int} (hf : ∀ x y z w, okI x y z w = true → ∃ k, ev S k f [rt x y, rt z w] [] = some (ratAV (M x y z w), [])) (args : List AV) (st : List AObj) (r : Res) (h : FRR M args st = some (true, r)) : ∃ k, ev S k f args st = some r := by
  unfold FRR at h
  split at h
  · rename_i x y z w
    simp only [Option.some.injEq, Prod.mk.injEq] at h
    obtain ⟨h1, rfl⟩ := h
    exact hf x y z w h1
  · cases h
theorem both_two {x y z w : Int} (h : (rightB x y && rightB z w) = false) : bothE x y z w = 2 := by unfold bothE; rw [h]; rfl
theorem both_ne {x y z w : Int} (h : (rightB x y && rightB z w) = false) : (bothE x y z w != 0) = true := by rw [both_two h]; rfl
theorem both_eq {x y z w : Int} (h : (rightB x y && rightB z w) = true) : (bothE x y z w != 0) = false := by unfold bothE; rw [h]; rfl
theorem ratR20 : ratR 0 0 2 = some (ratAV (0, 0, 2), []) := rfl
theorem ng_eq {x : Int} (h : x.natAbs ≤ 4611686018427387903) : ng x = -x := by unfold ng; rw [wrapI (by omega) (by omega)]; omega
theorem isI_of {x : Int} (h : x.natAbs ≤ 4611686018427387903) : isI x = true := by rw [isI_iff]; omega
theorem right_of {x : Int} {d : Nat} (h0 : 0 < d) (h1 : d ≤ 4611686018427387903) (h2 : x.natAbs ≤ 4611686018427387903) (h3 : Nat.Coprime x.natAbs d) : rightB x (d : Int) = true := by
  unfold rightB
  refine andT (by rw [decide_eq_true_eq]; omega) (andT (by rw [decide_eq_true_eq]; omega) (andT (by rw [decide_eq_true_eq]; omega) (andT (by rw [decide_eq_true_eq]; omega) ?_)))
  rw [absI_nat, gcdI_nat, beq_iff_eq]
  exact congrArg Int.ofNat h3
theorem told21 (x y z w : Int) (h : okI x y z w = true) : ∃ k, ev sysC2 k 21 [rt x y, rt z w] [] = some (ratAV (sbM x y z w), []) := by
  refine ⟨0 + 1, (ev21 x y z w 0).trans ((condT h).trans ?_)⟩
  obtain ⟨h1, h2, h3, h4⟩ := okI_iff.1 h
  unfold sbM
  cases hr : rightB x y && rightB z w with
  | false =>
    rw [condT (both_ne hr), condT (both_ne hr), both_two hr]
    exact ratR20
  | true =>
    rw [condF (both_eq hr), condF (both_eq hr)]
    rw [Bool.and_eq_true] at hr
    obtain ⟨e, rfl, e1, e2, e3, e4⟩ := right_nat h3 hr.2
    have hn : ng z = -z := ng_eq e3
    have e3' : (-z).natAbs ≤ 4611686018427387903 := by rw [Int.natAbs_neg]; exact e3
    have hb : (rightB x y && rightB (-z) (e : Int)) = true := andT hr.1 (right_of e1 e2 e3' (by rw [Int.natAbs_neg]; exact e4))
    unfold addR
    rw [hn]
    refine (condT (okI_iff.2 ⟨h1, h2, isI_of e3', h4⟩)).trans ?_
    unfold addM
    rw [condF (both_eq hb), Int.neg_mul, ← Int.sub_eq_add_neg]
theorem told22 (x y z w : Int) (h : okI x y z w = true) : ∃ k, ev sysC2 k 22 [rt x y, rt z w] [] = some (ratAV (divM x y z w), []) := by
  refine ⟨0 + 1, (ev22 x y z w 0).trans ((condT h).trans ?_)⟩
  obtain ⟨h1, h2, h3, h4⟩ := okI_iff.1 h
  unfold divM
  cases hr : rightB x y && rightB z w with
  | false =>
    rw [condT (both_ne hr), condT (both_ne hr), both_two hr]
    exact ratR20
  | true =>
    rw [condF (both_eq hr), condF (both_eq hr)]
    rw [Bool.and_eq_true] at hr
    obtain ⟨e, rfl, e1, e2, e3, e4⟩ := right_nat h3 hr.2
    by_cases hz : z = 0
    · subst hz
      exact ratR5
    · have hz' : (z == 0) = false := by rw [beq_eq_false_iff_ne]; exact hz
      rw [condF hz', condF hz']
      have hpos : 0 < z.natAbs := by omega
      by_cases hn : z < 0
      · rw [condT (decide_eq_true hn), condT (decide_eq_true hn)]
        have hng : ng (e : Int) = -(e : Int) := ng_eq (by omega)
        have hng2 : ng z = ((z.natAbs : Nat) : Int) := by rw [ng_eq e3]; omega
        unfold mulR
        rw [hng, hng2, absI_nat]
        have hb : (rightB x y && rightB (-(e : Int)) ((z.natAbs : Nat) : Int)) = true := andT hr.1 (right_of hpos e3 (by omega) (by rw [Int.natAbs_neg, Int.natAbs_natCast]; exact e4.symm))
        refine (condT (okI_iff.2 ⟨h1, h2, isI_of (by omega), isI_of (by omega)⟩)).trans ?_
        unfold mulM
        rw [condF (both_eq hb), Int.mul_neg]
      · rw [condF (decide_eq_false hn), condF (decide_eq_false hn)]
        have hzz : z = ((z.natAbs : Nat) : Int) := by omega
        have hb : (rightB x y && rightB (e : Int) z) = true := andT hr.1 (by
          rw [hzz]
          exact right_of hpos e3 (by omega) (by rw [Int.natAbs_natCast]; exact e4.symm))
        unfold mulR
        refine (condT (okI_iff.2 ⟨h1, h2, h4, h3⟩)).trans ?_
        unfold mulM
        rw [condF (both_eq hb), absI_nat, ← hzz]
theorem told23 (args : List AV) (st : List AObj) (r : Res) (h : FMk args st = some (true, r)) : ∃ k, ev sysC2 k 23 args st = some r := by
  unfold FMk at h
  split at h
  · rename_i n d
    simp only [Option.some.injEq, Prod.mk.injEq, Bool.and_eq_true] at h
    obtain ⟨⟨h1, h2⟩, rfl⟩ := h
    refine ⟨0 + 1, (ev23 n d 0).trans ?_⟩
    unfold makeM
    by_cases hd : d = 0
    · subst hd; exact ratR5
    · have hd' : (d == 0) = false := by rw [beq_eq_false_iff_ne]; exact hd
      rw [condF hd', condF hd']
      refine (condT h1).trans ((condT h2).trans ((condT (andT (absI_rng h1) (absI_rng h2))).trans ?_))
      rw [isI_iff] at h1 h2
      have g0 : 0 < Nat.gcd n.natAbs d.natAbs := Nat.gcd_pos_of_pos_right _ (by omega)
      have hg : gcdI (absI n) (absI d) = ((Nat.gcd n.natAbs d.natAbs : Nat) : Int) := by rw [absI_nat, absI_nat, gcdI_nat]
      rw [hg]
      have p1 : quU (absI n) ((Nat.gcd n.natAbs d.natAbs : Nat) : Int) = ((n.natAbs / Nat.gcd n.natAbs d.natAbs : Nat) : Int) := by rw [absI_nat]; exact quU_nat (by omega)
      have p2 : quU (absI d) ((Nat.gcd n.natAbs d.natAbs : Nat) : Int) = ((d.natAbs / Nat.gcd n.natAbs d.natAbs : Nat) : Int) := by rw [absI_nat]; exact quU_nat (by omega)
      have q1 : n.natAbs / Nat.gcd n.natAbs d.natAbs ≤ n.natAbs := Nat.div_le_self _ _
      have q2 : d.natAbs / Nat.gcd n.natAbs d.natAbs ≤ d.natAbs := Nat.div_le_self _ _
      have key : ∀ (p : Bool) (m : Int), m.natAbs = n.natAbs → (m < 0 → p = true) → (p = true → ¬ m < 0 → n.natAbs / Nat.gcd n.natAbs d.natAbs = 0) →
          mkR p n d ((Nat.gcd n.natAbs d.natAbs : Nat) : Int) = some (ratAV (nrm m (absI d)), []) := fun p m hm s1 s2 => by
        have hn := nrm_nat (n := m) (B := d.natAbs) hm rfl g0 rfl rfl
        rw [absI_nat, hn]
        unfold mkR
        rw [p1, p2]
        refine (condT (nz g0)).trans ((condT (nz g0)).trans ?_)
        rw [sgR_nat (by omega) (by omega), sgn_norm s1 s2]
      have tt : (!(true == true)) = false := rfl
      have tf : (!(true == false)) = true := rfl
      have ft : (!(false == true)) = true := rfl
      have ff : (!(false == false)) = false := rfl
      have nn : (n != 0) = true → n ≠ 0 := fun h => by simpa using h
      unfold mkA
      by_cases hx : n < 0 <;> by_cases hz : d < 0
      · rw [decide_eq_true hx, decide_eq_true hz, condF tt, cond_true]
        exact key false (-n) (Int.natAbs_neg n) (fun h => by omega) (fun h => by cases h)
      · rw [decide_eq_true hx, decide_eq_false hz, condT tf, cond_false]
        exact key _ n rfl (fun h => by rw [bne_iff_ne]; omega) (fun h h' => absurd hx h')
      · rw [decide_eq_false hx, decide_eq_true hz, condT ft, cond_true]
        refine key _ (-n) (Int.natAbs_neg n) (fun h => by rw [bne_iff_ne]; omega) (fun h h' => ?_)
        have := nn h
        omega
      · rw [decide_eq_false hx, decide_eq_false hz, condF ff, cond_false]
        exact key false n rfl (fun h => absurd h hx) (fun h => by cases h)
  · cases h
theorem plusM_gen (p q : Bool) (a b : Nat) : ∃ r : Bool, plusM p (a : Int) q (b : Int) = (r, ((((if p then -(a : Int) else a) + (if q then -(b : Int) else b)).natAbs : Nat) : Int)) ∧
    (((if p then -(a : Int) else a) + (if q then -(b : Int) else b)) < 0 → r = true) ∧ (r = true → ¬ ((if p then -(a : Int) else a) + (if q then -(b : Int) else b)) < 0 → ((if p then -(a : Int) else a) + (if q then -(b : Int) else b)) = 0) := by
  have tf : (true == false) = false := rfl
  have ft : (false == true) = false := rfl
  have tt : (true == true) = true := rfl
  have ff : (false == false) = true := rfl
  unfold plusM
  cases p <;> cases q
  · refine ⟨false, ?_, ?_, by simp⟩
    · rw [condT ff]; simp only [Prod.mk.injEq, true_and, Bool.false_eq_true, if_false]; omega
    · simp only [Bool.false_eq_true, if_false]; omega
  · by_cases h3 : (a : Int) < b
    · refine ⟨true, ?_, by simp, ?_⟩
      · rw [condF ft, condT (decide_eq_true h3)]; simp only [Prod.mk.injEq, true_and, Bool.false_eq_true, if_false, if_true]; omega
      · simp only [Bool.false_eq_true, if_false, if_true]; omega
    · refine ⟨false, ?_, ?_, by simp⟩
      · rw [condF ft, condF (decide_eq_false h3)]; simp only [Prod.mk.injEq, true_and, Bool.false_eq_true, if_false, if_true]; omega
      · simp only [Bool.false_eq_true, if_false, if_true]; omega
  · by_cases h3 : (a : Int) < b
    · refine ⟨false, ?_, ?_, by simp⟩
      · rw [condF tf, condT (decide_eq_true h3)]; simp only [Prod.mk.injEq, true_and, Bool.false_eq_true, if_false, if_true]; omega
      · simp only [Bool.false_eq_true, if_false, if_true]; omega
    · refine ⟨true, ?_, by simp, ?_⟩
      · rw [condF tf, condF (decide_eq_false h3)]; simp only [Prod.mk.injEq, true_and, Bool.false_eq_true, if_false, if_true]; omega
      · simp only [Bool.false_eq_true, if_false, if_true]; omega
  · refine ⟨true, ?_, by simp, ?_⟩
    · rw [condT tt]; simp only [Prod.mk.injEq, true_and, if_true]; omega
    · simp only [if_true]; omega
theorem sgW_nat {r : Bool} {T : Int} (h1 : T < 0 → r = true) (h2 : r = true → ¬ T < 0 → T = 0) : sgW r (hiW ((T.natAbs : Nat) : Int)) (loW ((T.natAbs : Nat) : Int)) = sg1 T := by
  unfold sgW sg1
  rw [hiW_nat, loW_nat]
  by_cases h0 : T = 0
  · subst h0; rfl
  · have e1 : ((((T.natAbs / 18446744073709551616 : Nat) : Int) == 0) && (((T.natAbs % 18446744073709551616 : Nat) : Int) == 0)) = false := by
      rw [Bool.and_eq_false_iff, beq_eq_false_iff_ne, beq_eq_false_iff_ne]
      omega
    have e2 : (T == 0) = false := by rw [beq_eq_false_iff_ne]; exact h0
    rw [condF e1, condF e2]
    by_cases hn : T < 0
    · rw [condT (h1 hn), condT (decide_eq_true hn)]
    · rw [condF (decide_eq_false hn)]
      cases r with
      | false => rfl
      | true => exact absurd (h2 rfl hn) h0
theorem told30 (args : List AV) (st : List AObj) (r : Res) (h : FCmp args st = some (true, r)) : ∃ k, ev sysC2 k 30 args st = some r := by
  unfold FCmp at h
  split at h
  · rename_i x y z w
    simp only [Option.some.injEq, Prod.mk.injEq] at h
    obtain ⟨h, rfl⟩ := h
    refine ⟨0 + 1, (ev30 x y z w 0).trans ((condT h).trans ?_)⟩
    obtain ⟨h1, h2, h3, h4⟩ := okI_iff.1 h
    unfold cmpM
    cases hr : rightB x y && rightB z w with
    | false =>
      rw [condT (both_ne hr), condT (both_ne hr), both_two hr]; rfl
    | true =>
      rw [condF (both_eq hr), condF (both_eq hr)]
      rw [Bool.and_eq_true] at hr
      obtain ⟨d, rfl, d1, d2, d3, d4⟩ := right_nat h1 hr.1
      obtain ⟨e, rfl, e1, e2, e3, e4⟩ := right_nat h3 hr.2
      have w1 : wU (d : Int) = (d : Int) := wU_nat (by omega)
      have w2 : wU (e : Int) = (e : Int) := wU_nat (by omega)
      have m1 : x.natAbs * e ≤ 4611686018427387903 * 4611686018427387903 := Nat.mul_le_mul d3 e2
      have m2 : z.natAbs * d ≤ 4611686018427387903 * 4611686018427387903 := Nat.mul_le_mul e3 d2
      unfold cmpA
      rw [w1, w2, absI_nat, absI_nat, hiP_nat, loP_nat, hiP_nat, loP_nat, mag_nat, mag_nat]
      obtain ⟨q, hS, s1, s2⟩ := plusM_gen (decide (x < 0)) (!decide (z < 0)) (x.natAbs * e) (z.natAbs * d)
      rw [hS]
      have hx : (if decide (x < 0) = true then -((x.natAbs * e : Nat) : Int) else ((x.natAbs * e : Nat) : Int)) = x * (e : Int) := by
        rw [← cm]
        by_cases hx : x < 0
        · have : ((x.natAbs : Nat) : Int) = -x := by omega
          rw [if_pos (decide_eq_true hx), this, Int.neg_mul, Int.neg_neg]
        · have : ((x.natAbs : Nat) : Int) = x := by omega
          rw [decide_eq_false hx, if_neg (by simp), this]
      have hz : (if (!decide (z < 0)) = true then -((z.natAbs * d : Nat) : Int) else ((z.natAbs * d : Nat) : Int)) = -(z * (d : Int)) := by
        rw [← cm]
        by_cases hz : z < 0
        · have : ((z.natAbs : Nat) : Int) = -z := by omega
          rw [decide_eq_true hz, if_neg (by simp), this, Int.neg_mul]
        · have : ((z.natAbs : Nat) : Int) = z := by omega
          rw [decide_eq_false hz, if_pos (by simp), this]
      rw [hx, hz, ← Int.sub_eq_add_neg] at s1 s2 ⊢
      have ok : okP ((x.natAbs * e / 18446744073709551616 : Nat) : Int) ((x.natAbs * e % 18446744073709551616 : Nat) : Int) ((z.natAbs * d / 18446744073709551616 : Nat) : Int) ((z.natAbs * d % 18446744073709551616 : Nat) : Int) = true := by
        unfold okP
        refine andT (isU_of (by omega)) (andT (isU_of (by omega)) (andT (isU_of (by omega)) (andT (isU_of (by omega)) ?_)))
        rw [mag_nat, mag_nat, decide_eq_true_eq]
        omega
      refine (condT (andT h1 (isU_of (by omega)))).trans ((condT (andT h3 (isU_of (by omega)))).trans ((condT ok).trans ?_))
      unfold twoR
      have e0 := sgW_nat s1 s2
      generalize x * (e : Int) - z * (d : Int) = T at *
      simp only []
      rw [e0]
      rfl
  · cases h
noncomputable def sysC3 : FSys := (((sysC2.tell 21 (FRR sbM)).tell 22 (FRR divM)).tell 23 FMk).tell 30 FCmp
end Go.Proofs.Ytgcdiccbehiijaa.W
