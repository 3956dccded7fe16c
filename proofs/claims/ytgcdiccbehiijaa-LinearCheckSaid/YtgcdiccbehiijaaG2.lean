/- A part of the proofs over these laws: what its functions come to. No conditions. -/
import Derived.Test.YtgcdiccbehiijaaG1
set_option linter.all false
namespace Go.Proofs.Ytgcdiccbehiijaa.W
open Go.Fw
set_option maxRecDepth 100000
def wd (p : Bool) (h l : Int) : AV := .agg [.k (.bool p), u64 h, u64 l]
def rt (n d : Int) : AV := .agg [i64 n, i64 d]
theorem isI_iff {x : Int} : isI x = true ↔ -9223372036854775808 ≤ x ∧ x < 9223372036854775808 := by simp [isI]
theorem isU_iff {x : Int} : isU x = true ↔ 0 ≤ x ∧ x < 18446744073709551616 := by simp [isU]
theorem absI_rng {x : Int} (h : isI x = true) : isU (absI x) = true := by
  rw [isI_iff] at h
  rw [isU_iff, absI_eq]; omega
def FProd : List AV → List AObj → Ab Res
  | [.k (.int .i64 x), .k (.int .u64 y)], [] => some (isI x && isU y, wd (decide (x < 0)) (absI x * y / 18446744073709551616) (absI x * y % 18446744073709551616), [])
  | _, _ => none
theorem ev52 (x y : Int) (k : Nat) : ev sysB6 (k + 1) 52 [i64 x, u64 y] [] = bif isI x then (bif isU (absI x) && isU y then some (wd (decide (x < 0)) (absI x * y / 18446744073709551616) (absI x * y % 18446744073709551616), []) else none) else none := by kernel_rfl
theorem told52 (args : List AV) (st : List AObj) (r : Res) (h : FProd args st = some (true, r)) : ∃ k, ev sysB6 k 52 args st = some r := by
  unfold FProd at h
  split at h
  · rename_i x y
    simp only [Option.some.injEq, Prod.mk.injEq, Bool.and_eq_true] at h
    obtain ⟨⟨h1, h2⟩, rfl⟩ := h
    exact ⟨0 + 1, (ev52 x y 0).trans (by rw [h1, h2, absI_rng h1]; rfl)⟩
  · cases h
def lessW (a b c d : Int) : Bool := bif decide (a < c) then true else bif a == c then decide (b < d) else false
def FLess : List AV → List AObj → Ab Res
  | [.agg [.k (.bool _), .k (.int .u64 a), .k (.int .u64 b)], .agg [.k (.bool _), .k (.int .u64 c), .k (.int .u64 d)]], [] => some (true, .k (.bool (lessW a b c d)), [])
  | _, _ => none
theorem ev77 (p q : Bool) (a b c d : Int) (k : Nat) : ev sysB6 (k + 1) 77 [wd p a b, wd q c d] [] = bif decide (a < c) then some (.k (.bool true), []) else (bif a == c then some (.k (.bool (decide (b < d))), []) else some (.k (.bool false), [])) := by kernel_rfl
theorem told77 (args : List AV) (st : List AObj) (r : Res) (h : FLess args st = some (true, r)) : ∃ k, ev sysB6 k 77 args st = some r := by
  unfold FLess at h
  split at h
  · rename_i p a b q c d
    simp only [Option.some.injEq, Prod.mk.injEq, true_and] at h
    subst h
    refine ⟨0 + 1, (ev77 p q a b c d 0).trans ?_⟩
    unfold lessW
    cases decide (a < c) <;> cases a == c <;> rfl
  · cases h
def sgn (p : Bool) (x y : Int) : Int × Int × Int := bif decide (x > 4611686018427387903) then (0, 0, 5) else bif decide (y > 4611686018427387903) then (0, 0, 5) else (bif p then -x else x, y, 0)
def ratAV (r : Int × Int × Int) : AV := .tup [rt r.1 r.2.1, i64 r.2.2]
def ratR (n d e : Int) : Option Res := some (.tup [rt n d, i64 e], [])
def FSgn : List AV → List AObj → Ab Res
  | [.k (.bool p), .k (.int .u64 x), .k (.int .u64 y)], [] => some (isU x && isU y, ratAV (sgn p x y), [])
  | _, _ => none
theorem ev56 (p : Bool) (x y : Int) (k : Nat) : ev sysB6 (k + 1) 56 [.k (.bool p), u64 x, u64 y] [] = bif decide (x > 4611686018427387903) then ratR 0 0 5 else bif decide (y > 4611686018427387903) then ratR 0 0 5 else bif p then ratR (IntKind.i64.wrap (0 - IntKind.i64.wrap x)) (IntKind.i64.wrap y) 0 else ratR (IntKind.i64.wrap x) (IntKind.i64.wrap y) 0 := by kernel_rfl
theorem told56 (args : List AV) (st : List AObj) (r : Res) (h : FSgn args st = some (true, r)) : ∃ k, ev sysB6 k 56 args st = some r := by
  unfold FSgn at h
  split at h
  · rename_i p x y
    simp only [Option.some.injEq, Prod.mk.injEq, Bool.and_eq_true, isU_iff] at h
    obtain ⟨⟨h1, h2⟩, rfl⟩ := h
    refine ⟨0 + 1, (ev56 p x y 0).trans ?_⟩
    unfold sgn
    by_cases hx : x > 4611686018427387903
    · rw [decide_eq_true hx]; rfl
    · rw [decide_eq_false hx]
      by_cases hy : y > 4611686018427387903
      · rw [decide_eq_true hy]; rfl
      · rw [decide_eq_false hy]
        have e1 : IntKind.i64.wrap x = x := wrapI (by omega) (by omega)
        have e2 : IntKind.i64.wrap y = y := wrapI (by omega) (by omega)
        have e3 : IntKind.i64.wrap (0 - x) = -x := by rw [wrapI (by omega) (by omega)]; omega
        rw [e1, e2, e3]
        cases p <;> rfl
  · cases h
def rightB (x y : Int) : Bool := decide (y ≥ 1) && (decide (y ≤ 4611686018427387903) && (decide (x ≥ -4611686018427387903) && (decide (x ≤ 4611686018427387903) && gcdI (absI x) y == 1)))
def FRight : List AV → List AObj → Ab Res
  | [.agg [.k (.int .i64 x), .k (.int .i64 y)]], [] => some (isI x && isI y, .k (.bool (rightB x y)), [])
  | _, _ => none
def bR (b : Bool) : Option Res := some (.k (.bool b), [])
theorem ev69 (x y : Int) (k : Nat) : ev sysB6 (k + 1) 69 [rt x y] [] = bif decide (y ≥ 1) then (bif decide (y ≤ 4611686018427387903) then (bif decide (x ≥ -4611686018427387903) then (bif decide (x ≤ 4611686018427387903) then (bif isI x then (bif isU (absI x) && isU (IntKind.u64.wrap y) then bR (gcdI (absI x) (IntKind.u64.wrap y) == 1) else none) else none) else bR false) else bR false) else bR false) else bR false := by kernel_rfl
theorem told69 (args : List AV) (st : List AObj) (r : Res) (h : FRight args st = some (true, r)) : ∃ k, ev sysB6 k 69 args st = some r := by
  unfold FRight at h
  split at h
  · rename_i x y
    simp only [Option.some.injEq, Prod.mk.injEq, Bool.and_eq_true] at h
    obtain ⟨⟨h1, h2⟩, rfl⟩ := h
    refine ⟨0 + 1, (ev69 x y 0).trans ?_⟩
    unfold rightB
    by_cases hy : y ≥ 1
    · rw [decide_eq_true hy, h1, absI_rng h1]
      have hw : IntKind.u64.wrap y = y := by rw [wrapU]; rw [isI_iff] at h2; omega
      have hu : isU y = true := by rw [isU_iff]; rw [isI_iff] at h2; omega
      rw [hw, hu]
      cases decide (y ≤ 4611686018427387903) <;> cases decide (x ≥ -4611686018427387903) <;> cases decide (x ≤ 4611686018427387903) <;> rfl
    · rw [decide_eq_false hy]; rfl
  · cases h
def FOver : List AV → List AObj → Ab Res
  | [.agg [.k (.bool p), .k (.int .u64 a), .k (.int .u64 b)], .k (.int .u64 n)], [] =>
    some (isU a && (isU b && (isU n && decide (0 < n))), .tup [wd p (a / n) ((a % n * 18446744073709551616 + b) / n), u64 ((a % n * 18446744073709551616 + b) % n)], [])
  | _, _ => none
theorem ev54 (p : Bool) (a b n : Int) (k : Nat) : ev sysB6 (k + 1) 54 [wd p a b, u64 n] [] = bif !decide (n = 0) then (bif !decide (n = 0) then (bif isU (a.tmod n) && (isU b && (isU n && decide (a.tmod n < n))) then
  some (.tup [wd p (IntKind.u64.wrap (a.tdiv n)) ((a.tmod n * 18446744073709551616 + b) / n), u64 ((a.tmod n * 18446744073709551616 + b) % n)], []) else none) else none) else none := by kernel_rfl
theorem told54 (args : List AV) (st : List AObj) (r : Res) (h : FOver args st = some (true, r)) : ∃ k, ev sysB6 k 54 args st = some r := by
  unfold FOver at h
  split at h
  · rename_i p a b n
    simp only [Option.some.injEq, Prod.mk.injEq, Bool.and_eq_true, decide_eq_true_eq] at h
    obtain ⟨⟨h1, h2, h3, h4⟩, rfl⟩ := h
    refine ⟨0 + 1, (ev54 p a b n 0).trans ?_⟩
    have ha := isU_iff.1 h1
    have hn := isU_iff.1 h3
    have e1 : a.tmod n = a % n := Int.tmod_eq_emod_of_nonneg ha.1
    have e2 : a.tdiv n = a / n := Int.tdiv_eq_ediv_of_nonneg ha.1
    have b1 := Int.emod_nonneg a (show n ≠ 0 by omega)
    have b2 := Int.emod_lt_of_pos a h4
    have b3 : 0 ≤ a / n := Int.ediv_nonneg ha.1 (by omega)
    have b4 : a / n ≤ a := Int.ediv_le_self n ha.1
    have hz : (!decide (n = 0)) = true := by simp; omega
    have hm : isU (a % n) = true := by rw [isU_iff]; omega
    have hw : IntKind.u64.wrap (a / n) = a / n := by rw [wrapU]; omega
    rw [hz, e1, e2, hm, h2, h3, decide_eq_true b2, hw]
    rfl
  · cases h
def sgW (p : Bool) (a b : Int) : Int := bif a == 0 && b == 0 then 0 else bif p then -1 else 1
def FSg : List AV → List AObj → Ab Res
  | [.agg [.k (.bool p), .k (.int .u64 a), .k (.int .u64 b)]], [] => some (true, i64 (sgW p a b), [])
  | _, _ => none
def iR (n : Int) : Option Res := some (i64 n, [])
theorem ev63 (p : Bool) (a b : Int) (k : Nat) : ev sysB6 (k + 1) 63 [wd p a b] [] = bif a == 0 then (bif b == 0 then iR 0 else bif p then iR (-1) else iR 1) else bif p then iR (-1) else iR 1 := by kernel_rfl
theorem told63 (args : List AV) (st : List AObj) (r : Res) (h : FSg args st = some (true, r)) : ∃ k, ev sysB6 k 63 args st = some r := by
  unfold FSg at h
  split at h
  · rename_i p a b
    simp only [Option.some.injEq, Prod.mk.injEq, true_and] at h
    subst h
    refine ⟨0 + 1, (ev63 p a b 0).trans ?_⟩
    unfold sgW
    cases a == 0 <;> cases b == 0 <;> cases p <;> rfl
  · cases h
noncomputable def sysB7 : FSys := (((((sysB6.tell 52 FProd).tell 77 FLess).tell 56 FSgn).tell 69 FRight).tell 54 FOver).tell 63 FSg
def lo2 (b d : Int) : Int := (b + d + 0) % 18446744073709551616
def hi2 (a b c d : Int) : Int := (a + c + (b + d + 0) / 18446744073709551616) % 18446744073709551616
def dl (b d : Int) : Int := (b + 18446744073709551616 - d - 0) % 18446744073709551616
def br (b d : Int) : Int := bif decide (b < d + 0) then 1 else 0
def dh (a b c d : Int) : Int := (a + 18446744073709551616 - c - br b d) % 18446744073709551616
def okS3 (y x : Int) (c : Int) : Bool := decide (0 ≤ y) && (decide (0 ≤ x) && (decide (0 ≤ c) && decide (c ≤ 1)))
def okD3 (y x : Int) (c : Int) : Bool := decide (0 ≤ y) && (decide (0 ≤ x) && (decide (x < 18446744073709551616) && (decide (0 ≤ c) && decide (c ≤ 1))))
def sub2 (p : Bool) (a b c d : Int) : Option Res := bif okD3 b d 0 then (bif okD3 a c (br b d) then some (wd p (dh a b c d) (dl b d), []) else none) else none
theorem ev53 (p q : Bool) (a b c d : Int) (k : Nat) : ev sysB7 (k + 1) 53 [wd p a b, wd q c d] [] =
  bif p == q then (bif okS3 b d 0 then (bif okS3 a c ((b + d + 0) / 18446744073709551616) then some (wd p (hi2 a b c d) (lo2 b d), []) else none) else none) else
  bif lessW a b c d then sub2 q c d a b else sub2 p a b c d := by
  cases p <;> cases q <;> kernel_rfl
end Go.Proofs.Ytgcdiccbehiijaa.W
namespace Go.Proofs.Ytgcdiccbehiijaa.W
open Go.Fw
set_option maxRecDepth 100000
def mag (a b : Int) : Int := a * 18446744073709551616 + b
def plusM (p : Bool) (x : Int) (q : Bool) (y : Int) : Bool × Int := bif p == q then (p, x + y) else bif decide (x < y) then (q, y - x) else (p, x - y)
def wdm (p : Bool) (m : Int) : AV := wd p (m / 18446744073709551616) (m % 18446744073709551616)
def FPlus : List AV → List AObj → Ab Res
  | [.agg [.k (.bool p), .k (.int .u64 a), .k (.int .u64 b)], .agg [.k (.bool q), .k (.int .u64 c), .k (.int .u64 d)]], [] =>
    some (isU a && (isU b && (isU c && (isU d && decide (mag a b + mag c d < 340282366920938463463374607431768211456)))), wdm (plusM p (mag a b) q (mag c d)).1 (plusM p (mag a b) q (mag c d)).2, [])
  | _, _ => none
theorem lessW_eq {a b c d : Int} (hb : isU b = true) (hd : isU d = true) : lessW a b c d = decide (mag a b < mag c d) := by
  rw [isU_iff] at hb hd
  unfold lessW mag
  by_cases h1 : a < c
  · rw [decide_eq_true h1]
    symm; simp only [cond_true]; rw [decide_eq_true_eq]; omega
  · rw [decide_eq_false h1]
    by_cases h2 : a = c
    · subst h2
      simp only [cond_false, beq_self_eq_true, cond_true]
      rw [Bool.eq_iff_iff, decide_eq_true_eq, decide_eq_true_eq]; omega
    · have : (a == c) = false := by rw [beq_eq_false_iff_ne]; exact h2
      rw [this]
      symm; simp only [cond_false]; rw [decide_eq_false_iff_not]; omega
theorem sub2_eq {a b c d : Int} (p : Bool) (ha : isU a = true) (hb : isU b = true) (hc : isU c = true) (hd : isU d = true) (h : mag c d ≤ mag a b) : sub2 p a b c d = some (wdm p (mag a b - mag c d), []) := by
  rw [isU_iff] at ha hb hc hd
  unfold mag at h
  have h1 : okD3 b d 0 = true := by
    simp only [okD3, Bool.and_eq_true, decide_eq_true_eq]; omega
  have hbr : br b d = 0 ∨ br b d = 1 := by unfold br; cases decide (b < d + 0) <;> simp
  have h2 : okD3 a c (br b d) = true := by
    simp only [okD3, Bool.and_eq_true, decide_eq_true_eq]; omega
  have h3 : dl b d = (mag a b - mag c d) % 18446744073709551616 := by unfold dl mag; omega
  have h4 : dh a b c d = (mag a b - mag c d) / 18446744073709551616 := by
    unfold dh mag br
    by_cases hlt : b < d + 0
    · rw [decide_eq_true hlt]; simp only [cond_true]; omega
    · rw [decide_eq_false hlt]; simp only [cond_false]; omega
  unfold sub2 wdm
  rw [h1, h2, h3, h4]; rfl
theorem told53 (args : List AV) (st : List AObj) (r : Res) (h : FPlus args st = some (true, r)) : ∃ k, ev sysB7 k 53 args st = some r := by
  unfold FPlus at h
  split at h
  · rename_i p a b q c d
    simp only [Option.some.injEq, Prod.mk.injEq, Bool.and_eq_true, decide_eq_true_eq] at h
    obtain ⟨⟨ha, hb, hc, hd, hm⟩, rfl⟩ := h
    refine ⟨0 + 1, (ev53 p q a b c d 0).trans ?_⟩
    unfold plusM
    cases hpq : p == q with
    | true =>
      have ha' := isU_iff.1 ha
      have hb' := isU_iff.1 hb
      have hc' := isU_iff.1 hc
      have hd' := isU_iff.1 hd
      unfold mag at hm
      have h1 : okS3 b d 0 = true := by
        simp only [okS3, Bool.and_eq_true, decide_eq_true_eq]; omega
      have h2 : okS3 a c ((b + d + 0) / 18446744073709551616) = true := by
        simp only [okS3, Bool.and_eq_true, decide_eq_true_eq]; omega
      have h3 : lo2 b d = (mag a b + mag c d) % 18446744073709551616 := by unfold lo2 mag; omega
      have h4 : hi2 a b c d = (mag a b + mag c d) / 18446744073709551616 := by unfold hi2 mag; omega
      rw [h1, h2, h3, h4]; rfl
    | false =>
      rw [lessW_eq hb hd]
      by_cases hlt : mag a b < mag c d
      · rw [decide_eq_true hlt]
        exact sub2_eq q hc hd ha hb (by omega)
      · rw [decide_eq_false hlt]
        exact sub2_eq p ha hb hc hd (by omega)
  · cases h
def bothE (x y z w : Int) : Int := bif rightB x y && rightB z w then 0 else 2
def FBoth : List AV → List AObj → Ab Res
  | [.agg [.k (.int .i64 x), .k (.int .i64 y)], .agg [.k (.int .i64 z), .k (.int .i64 w)]], [] => some (isI x && (isI y && (isI z && isI w)), i64 (bothE x y z w), [])
  | _, _ => none
theorem ev50 (x y z w : Int) (k : Nat) : ev sysB7 (k + 1) 50 [rt x y, rt z w] [] = bif isI x && isI y then (bif !rightB x y then iR 2 else bif isI z && isI w then (bif !rightB z w then iR 2 else iR 0) else none) else none := by kernel_rfl
theorem told50 (args : List AV) (st : List AObj) (r : Res) (h : FBoth args st = some (true, r)) : ∃ k, ev sysB7 k 50 args st = some r := by
  unfold FBoth at h
  split at h
  · rename_i x y z w
    simp only [Option.some.injEq, Prod.mk.injEq, Bool.and_eq_true] at h
    obtain ⟨⟨h1, h2, h3, h4⟩, rfl⟩ := h
    refine ⟨0 + 1, (ev50 x y z w 0).trans ?_⟩
    rw [h1, h2, h3, h4]
    unfold bothE
    cases rightB x y <;> cases rightB z w <;> rfl
  · cases h
noncomputable def sysB8 : FSys := (sysB7.tell 53 FPlus).tell 50 FBoth
end Go.Proofs.Ytgcdiccbehiijaa.W
namespace Go.Proofs.Ytgcdiccbehiijaa.W
theorem gcd_cross {a c y w : Nat} (hay : Nat.Coprime a y) (hcw : Nat.Coprime c w) (hw : 0 < w) (hy : 0 < y) :
    Nat.gcd (a * c) (y * w) = Nat.gcd a w * Nat.gcd c y ∧ a * c / (Nat.gcd a w * Nat.gcd c y) = (a / Nat.gcd a w) * (c / Nat.gcd c y) ∧ y * w / (Nat.gcd a w * Nat.gcd c y) = (y / Nat.gcd c y) * (w / Nat.gcd a w) := by
  obtain ⟨g, a', w', hg, haw, rfl, rfl⟩ : ∃ g a' w', 0 < g ∧ Nat.Coprime a' w' ∧ a = a' * g ∧ w = w' * g := by
    have hp : 0 < Nat.gcd a w := Nat.gcd_pos_of_pos_right _ hw
    exact ⟨Nat.gcd a w, a / Nat.gcd a w, w / Nat.gcd a w, hp, Nat.coprime_div_gcd_div_gcd hp, (Nat.div_mul_cancel (Nat.gcd_dvd_left _ _)).symm, (Nat.div_mul_cancel (Nat.gcd_dvd_right _ _)).symm⟩
  obtain ⟨h, c', y', hh, hcy, rfl, rfl⟩ : ∃ h c' y', 0 < h ∧ Nat.Coprime c' y' ∧ c = c' * h ∧ y = y' * h := by
    have hp : 0 < Nat.gcd c y := Nat.gcd_pos_of_pos_right _ hy
    exact ⟨Nat.gcd c y, c / Nat.gcd c y, y / Nat.gcd c y, hp, Nat.coprime_div_gcd_div_gcd hp, (Nat.div_mul_cancel (Nat.gcd_dvd_left _ _)).symm, (Nat.div_mul_cancel (Nat.gcd_dvd_right _ _)).symm⟩
  have e1 : Nat.gcd (a' * g) (w' * g) = g := by rw [Nat.gcd_mul_right, haw, Nat.one_mul]
  have e2 : Nat.gcd (c' * h) (y' * h) = h := by rw [Nat.gcd_mul_right, hcy, Nat.one_mul]
  rw [e1, e2]
  have hay' : Nat.Coprime a' y' := (hay.coprime_dvd_left (Nat.dvd_mul_right _ _)).coprime_dvd_right (Nat.dvd_mul_right _ _)
  have hcw' : Nat.Coprime c' w' := (hcw.coprime_dvd_left (Nat.dvd_mul_right _ _)).coprime_dvd_right (Nat.dvd_mul_right _ _)
  have hco : Nat.Coprime (a' * c') (y' * w') := Nat.Coprime.mul_left (Nat.Coprime.mul_right hay' haw) (Nat.Coprime.mul_right hcy hcw')
  have f1 : a' * g * (c' * h) = a' * c' * (g * h) := by rw [Nat.mul_mul_mul_comm]
  have f2 : y' * h * (w' * g) = y' * w' * (g * h) := by rw [Nat.mul_mul_mul_comm, Nat.mul_comm h g]
  have hgh : 0 < g * h := Nat.mul_pos hg hh
  refine ⟨?_, ?_, ?_⟩
  · rw [f1, f2, Nat.gcd_mul_right, hco, Nat.one_mul]
  · rw [f1, Nat.mul_div_cancel _ hgh, Nat.mul_div_cancel _ hg, Nat.mul_div_cancel _ hh]
  · rw [f2, Nat.mul_div_cancel _ hgh, Nat.mul_div_cancel _ hg, Nat.mul_div_cancel _ hh]
theorem gcd_sum {x z : Int} {y w : Nat} (hxy : Nat.Coprime x.natAbs y) (hzw : Nat.Coprime z.natAbs w) (hw : 0 < w) (hy : 0 < y) :
    ∃ g y' w' : Nat, 0 < g ∧ g = Nat.gcd y w ∧ y = y' * g ∧ w = w' * g ∧ y / g = y' ∧ w / g = w' ∧ x * w + z * y = (x * w' + z * y') * g ∧
      Nat.gcd (x * w + z * y).natAbs (y * w) = g * Nat.gcd (x * w' + z * y').natAbs g ∧ (x * w' + z * y' = 0 → y' = 1 ∧ w' = 1) := by
  have hp : 0 < Nat.gcd y w := Nat.gcd_pos_of_pos_right _ hw
  have hco : Nat.Coprime (y / Nat.gcd y w) (w / Nat.gcd y w) := Nat.coprime_div_gcd_div_gcd hp
  have hy' : y = y / Nat.gcd y w * Nat.gcd y w := (Nat.div_mul_cancel (Nat.gcd_dvd_left _ _)).symm
  have hw' : w = w / Nat.gcd y w * Nat.gcd y w := (Nat.div_mul_cancel (Nat.gcd_dvd_right _ _)).symm
  refine ⟨Nat.gcd y w, y / Nat.gcd y w, w / Nat.gcd y w, hp, rfl, hy', hw', rfl, rfl, ?_⟩
  generalize Nat.gcd y w = g at *
  generalize y / g = a at *
  generalize w / g = b at *
  subst hy'
  subst hw'
  have e1 : x * ((b * g : Nat) : Int) + z * ((a * g : Nat) : Int) = (x * b + z * a) * g := by
    rw [Int.natCast_mul, Int.natCast_mul, ← Int.mul_assoc, ← Int.mul_assoc, ← Int.add_mul]
  have hxa : Nat.Coprime x.natAbs a := hxy.coprime_dvd_right (Nat.dvd_mul_right _ _)
  have hzb : Nat.Coprime z.natAbs b := hzw.coprime_dvd_right (Nat.dvd_mul_right _ _)
  have key : ∀ (p q : Int) (m n : Nat), Nat.Coprime p.natAbs m → Nat.Coprime m n → Nat.Coprime (p * n + q * m).natAbs m := fun p q m n h1 h2 => by
    have h3 : Nat.Coprime (p * n).natAbs m := by
      rw [Int.natAbs_mul, Int.natAbs_natCast]
      exact Nat.Coprime.mul_left h1 h2.symm
    have h4 : Int.gcd (p * n + q * m) m = Int.gcd (p * n) m := Int.gcd_add_mul_right_left _ _ _
    have h5 : Nat.gcd (p * n + q * m).natAbs m = Nat.gcd (p * n).natAbs m := by
      have := h4
      simp only [Int.gcd, Int.natAbs_natCast] at this
      exact this
    unfold Nat.Coprime
    rw [h5]; exact h3
  have ha : Nat.Coprime (x * b + z * a).natAbs a := key x z a b hxa hco
  have hb : Nat.Coprime (x * b + z * a).natAbs b := by
    rw [Int.add_comm]
    exact key z x b a hzb hco.symm
  refine ⟨e1, ?_, fun h0 => ?_⟩
  · rw [e1, Int.natAbs_mul, Int.natAbs_natCast]
    have f : a * g * (b * g) = (a * b * g) * g := by
      rw [Nat.mul_mul_mul_comm, Nat.mul_assoc (a * b)]
    rw [f, Nat.gcd_mul_right, Nat.mul_comm]
    congr 1
    exact Nat.Coprime.gcd_mul_left_cancel_right g (Nat.Coprime.mul_right ha hb).symm
  · rw [h0] at ha hb
    simp only [Int.natAbs_zero, Nat.coprime_zero_left] at ha hb
    exact ⟨ha, hb⟩
end Go.Proofs.Ytgcdiccbehiijaa.W
namespace Go.Proofs.Ytgcdiccbehiijaa.W
open Go.Fw
set_option maxRecDepth 100000
def nrm (n d : Int) : Int × Int × Int :=
  bif decide (absI n / gcdI (absI n) d > 4611686018427387903) then (0, 0, 5) else bif decide (d / gcdI (absI n) d > 4611686018427387903) then (0, 0, 5) else (n / gcdI (absI n) d, d / gcdI (absI n) d, 0)
theorem absI_nat (x : Int) : absI x = ((x.natAbs : Nat) : Int) := absI_eq x
theorem nrm_nat {n : Int} {A B G a b : Nat} (hA : n.natAbs = A) (hG : Nat.gcd A B = G) (hg : 0 < G) (ha : A / G = a) (hb : B / G = b) :
    nrm n (B : Int) = bif decide ((a : Int) > 4611686018427387903) then (0, 0, 5) else bif decide ((b : Int) > 4611686018427387903) then (0, 0, 5) else (bif decide (n < 0) then -(a : Int) else a, (b : Int), 0) := by
  have e1 : gcdI (absI n) (B : Int) = (G : Int) := by rw [absI_nat, gcdI_nat, hA, hG]
  have e2 : absI n / (G : Int) = (a : Int) := by rw [absI_nat, hA, ← ha]; rfl
  have e3 : (B : Int) / (G : Int) = (b : Int) := by rw [← hb]; rfl
  have hd : G ∣ A := by rw [← hG]; exact Nat.gcd_dvd_left _ _
  have e4 : n / (G : Int) = bif decide (n < 0) then -(a : Int) else a := by
    by_cases h : n < 0
    · rw [decide_eq_true h]
      have : n = -((A : Nat) : Int) := by omega
      rw [this, Int.neg_ediv_of_dvd (Int.natCast_dvd_natCast.2 hd), ← ha]; rfl
    · rw [decide_eq_false h]
      have : n = ((A : Nat) : Int) := by omega
      rw [this, ← ha]; rfl
  unfold nrm
  rw [e1, e2, e3, e4]
def hiP (a b : Int) : Int := a * b / 18446744073709551616
def loP (a b : Int) : Int := a * b % 18446744073709551616
def quU (a b : Int) : Int := wU (a.tdiv b)
def sgR (p : Bool) (x y : Int) : Option Res := bif isU x && isU y then some (ratAV (sgn p x y), []) else none
def mulE (x z l m : Int) : Option Res := bif !(decide (x < 0) == decide (z < 0)) then sgR (decide (l > 0)) l m else sgR false l m
def mulC (x z a1 a2 b1 b2 : Int) : Option Res :=
  bif decide (hiP a1 a2 > 0) then ratR 0 0 5 else bif decide (hiP b1 b2 > 0) then ratR 0 0 5 else mulE x z (loP a1 a2) (loP b1 b2)
def mulB (x y z w g1 g2 : Int) : Option Res :=
  bif isI x then (bif !decide (g1 = 0) then (bif isI z then (bif !decide (g2 = 0) then (bif isU (quU (absI x) g1) && isU (quU (absI z) g2) then
    (bif !decide (g2 = 0) then (bif !decide (g1 = 0) then (bif isU (quU (wU y) g2) && isU (quU (wU w) g1) then
      mulC x z (quU (absI x) g1) (quU (absI z) g2) (quU (wU y) g2) (quU (wU w) g1) else none) else none) else none)
    else none) else none) else none) else none) else none
def mulA (x y z w : Int) : Option Res :=
  bif isI x then (bif isU (absI x) && isU (wU w) then (bif isI z then (bif isU (absI z) && isU (wU y) then mulB x y z w (gcdI (absI x) (wU w)) (gcdI (absI z) (wU y)) else none) else none) else none) else none
theorem ev20 (x y z w : Int) (k : Nat) : ev sysB8 (k + 1) 20 [rt x y, rt z w] [] =
    bif isI x && (isI y && (isI z && isI w)) then (bif bothE x y z w != 0 then ratR 0 0 (bothE x y z w) else mulA x y z w) else none := by kernel_rfl
def mulM (x y z w : Int) : Int × Int × Int := bif bothE x y z w != 0 then (0, 0, 2) else nrm (x * z) (y * w)
def FMulR : List AV → List AObj → Ab Res
  | [.agg [.k (.int .i64 x), .k (.int .i64 y)], .agg [.k (.int .i64 z), .k (.int .i64 w)]], [] => some (isI x && (isI y && (isI z && isI w)), ratAV (mulM x y z w), [])
  | _, _ => none
theorem right_nat {x y : Int} (hx : isI x = true) (h : rightB x y = true) : ∃ d : Nat, y = (d : Int) ∧ 0 < d ∧ d ≤ 4611686018427387903 ∧ x.natAbs ≤ 4611686018427387903 ∧ Nat.Coprime x.natAbs d := by
  unfold rightB at h
  simp only [Bool.and_eq_true, decide_eq_true_eq, beq_iff_eq] at h
  obtain ⟨h1, h2, h3, h4, h5⟩ := h
  refine ⟨y.toNat, by omega, by omega, by omega, by omega, ?_⟩
  obtain ⟨d, rfl⟩ := Int.eq_ofNat_of_zero_le (show 0 ≤ y by omega)
  rw [absI_nat, gcdI_nat] at h5
  simp only [Int.toNat_natCast]
  exact Int.ofNat.inj h5
theorem bothE_zero {x y z w : Int} : (bothE x y z w != 0) = !(rightB x y && rightB z w) := by
  unfold bothE; cases rightB x y && rightB z w <;> rfl
theorem wU_nat {n : Nat} (h : n < 18446744073709551616) : wU (n : Int) = (n : Int) := wUl h
theorem quU_nat {a g : Nat} (ha : a < 18446744073709551616) : quU (a : Int) (g : Int) = ((a / g : Nat) : Int) := by
  unfold quU
  have : (a : Int).tdiv (g : Int) = ((a / g : Nat) : Int) := by rw [Int.tdiv_eq_ediv_of_nonneg (by omega)]; rfl
  rw [this, wU_nat (Nat.lt_of_le_of_lt (Nat.div_le_self _ _) ha)]
theorem hiP_nat (a b : Nat) : hiP (a : Int) (b : Int) = ((a * b / 18446744073709551616 : Nat) : Int) := by unfold hiP; rw [cm]; rfl
theorem loP_nat (a b : Nat) : loP (a : Int) (b : Int) = ((a * b % 18446744073709551616 : Nat) : Int) := by unfold loP; rw [cm]; rfl
theorem sgR_nat {p : Bool} {a b : Nat} (ha : a < 18446744073709551616) (hb : b < 18446744073709551616) : sgR p (a : Int) (b : Int) = some (ratAV (sgn p a b), []) := by
  unfold sgR; rw [isU_of ha, isU_of hb]; rfl
theorem nz {g : Nat} (h : 0 < g) : (!decide ((g : Int) = 0)) = true := by simp; omega
theorem sgn_norm {p : Bool} {n : Int} {a b : Nat} (h1 : n < 0 → p = true) (h2 : p = true → ¬ n < 0 → a = 0) : sgn p (a : Int) (b : Int) = bif decide ((a : Int) > 4611686018427387903) then (0, 0, 5) else bif decide ((b : Int) > 4611686018427387903) then (0, 0, 5) else (bif decide (n < 0) then -(a : Int) else a, (b : Int), 0) := by
  unfold sgn
  have : (bif p then -(a : Int) else a) = bif decide (n < 0) then -(a : Int) else a := by
    by_cases hn : n < 0
    · rw [decide_eq_true hn, h1 hn]
    · rw [decide_eq_false hn]
      cases p with
      | false => rfl
      | true =>
        have := h2 rfl hn
        subst this; rfl
  rw [this]
theorem ratR2 (X : Option Res) (Y : Int × Int × Int) : (bif !false then ratR 0 0 2 else X) = some (ratAV (bif !false then (0, 0, 2) else Y), []) := rfl
theorem ratR5 : ratR 0 0 5 = some (ratAV (0, 0, 5), []) := rfl
theorem mulC_nat {x z : Int} {a1 a2 b1 b2 : Nat} (hx0 : a1 = 0 → x = 0) (hz0 : a2 = 0 → z = 0) (hx1 : x = 0 → a1 = 0) (hz1 : z = 0 → a2 = 0) :
    mulC x z (a1 : Int) (a2 : Int) (b1 : Int) (b2 : Int) = some (ratAV (bif decide (((a1 * a2 : Nat) : Int) > 4611686018427387903) then (0, 0, 5) else bif decide (((b1 * b2 : Nat) : Int) > 4611686018427387903) then (0, 0, 5) else (bif decide (x * z < 0) then -((a1 * a2 : Nat) : Int) else ((a1 * a2 : Nat) : Int), ((b1 * b2 : Nat) : Int), 0)), []) := by
  unfold mulC
  rw [hiP_nat, hiP_nat, loP_nat, loP_nat]
  by_cases hh : 18446744073709551616 ≤ a1 * a2
  · have t1 : decide (((a1 * a2 / 18446744073709551616 : Nat) : Int) > 0) = true := by
      rw [decide_eq_true_eq]
      have := Nat.div_pos hh (by omega)
      omega
    have t2 : decide (((a1 * a2 : Nat) : Int) > 4611686018427387903) = true := by rw [decide_eq_true_eq]; omega
    rw [t1, t2, cond_true, cond_true]; exact ratR5
  · have t1 : decide (((a1 * a2 / 18446744073709551616 : Nat) : Int) > 0) = false := by
      rw [decide_eq_false_iff_not, Nat.div_eq_of_lt (by omega)]; omega
    rw [t1, cond_false]
    by_cases hl : 18446744073709551616 ≤ b1 * b2
    · have t3 : decide (((b1 * b2 / 18446744073709551616 : Nat) : Int) > 0) = true := by
        rw [decide_eq_true_eq]
        have := Nat.div_pos hl (by omega)
        omega
      have t2 : decide (((b1 * b2 : Nat) : Int) > 4611686018427387903) = true := by rw [decide_eq_true_eq]; omega
      rw [t3, t2]
      rw [cond_true, cond_true, Bool.cond_self]; exact ratR5
    · have t3 : decide (((b1 * b2 / 18446744073709551616 : Nat) : Int) > 0) = false := by
        rw [decide_eq_false_iff_not, Nat.div_eq_of_lt (by omega)]; omega
      rw [t3, cond_false, Nat.mod_eq_of_lt (by omega), Nat.mod_eq_of_lt (by omega)]
      unfold mulE
      have key : ∀ p : Bool, (x * z < 0 → p = true) → (p = true → ¬ x * z < 0 → a1 * a2 = 0) → sgR p ((a1 * a2 : Nat) : Int) ((b1 * b2 : Nat) : Int) =
          some (ratAV (bif decide (((a1 * a2 : Nat) : Int) > 4611686018427387903) then (0, 0, 5) else bif decide (((b1 * b2 : Nat) : Int) > 4611686018427387903) then (0, 0, 5) else (bif decide (x * z < 0) then -((a1 * a2 : Nat) : Int) else ((a1 * a2 : Nat) : Int), ((b1 * b2 : Nat) : Int), 0)), []) := fun p p1 p2 => by
        rw [sgR_nat (by omega) (by omega), sgn_norm p1 p2]
      have pos0 : ∀ hneg : x * z < 0, 0 < a1 * a2 := fun hneg => by
        refine Nat.mul_pos (Nat.pos_of_ne_zero fun h0 => ?_) (Nat.pos_of_ne_zero fun h0 => ?_)
        · rw [hx0 h0, Int.zero_mul] at hneg; omega
        · rw [hz0 h0, Int.mul_zero] at hneg; omega
      have tt : (!(true == true)) = false := rfl
      have tf : (!(true == false)) = true := rfl
      have ft : (!(false == true)) = true := rfl
      have ff : (!(false == false)) = false := rfl
      by_cases hx : x < 0 <;> by_cases hz : z < 0
      · rw [decide_eq_true hx, decide_eq_true hz, tt, cond_false]
        have hxz : ¬ x * z < 0 := by have := Int.mul_pos_of_neg_of_neg hx hz; omega
        exact key false (fun h => absurd h hxz) (fun h => by cases h)
      · rw [decide_eq_true hx, decide_eq_false hz, tf, cond_true]
        refine key _ (fun h => by rw [decide_eq_true_eq]; have := pos0 h; omega) (fun h h' => ?_)
        rw [decide_eq_true_eq] at h
        have hz' : z = 0 := by
          rcases Int.lt_or_eq_of_le (show 0 ≤ z by omega) with h0 | h0
          · exact absurd (Int.mul_neg_of_neg_of_pos hx h0) h'
          · exact h0.symm
        subst hz'
        rw [hz1 rfl, Nat.mul_zero]
      · rw [decide_eq_false hx, decide_eq_true hz, ft, cond_true]
        refine key _ (fun h => by rw [decide_eq_true_eq]; have := pos0 h; omega) (fun h h' => ?_)
        rw [decide_eq_true_eq] at h
        have hx' : x = 0 := by
          rcases Int.lt_or_eq_of_le (show 0 ≤ x by omega) with h0 | h0
          · exact absurd (Int.mul_neg_of_pos_of_neg h0 hz) h'
          · exact h0.symm
        subst hx'
        rw [hx1 rfl, Nat.zero_mul]
      · rw [decide_eq_false hx, decide_eq_false hz, ff, cond_false]
        have hxz : ¬ x * z < 0 := by have := Int.mul_nonneg (show 0 ≤ x by omega) (show 0 ≤ z by omega); omega
        exact key false (fun h => absurd h hxz) (fun h => by cases h)
theorem condT {α : Type} {b : Bool} {X Y : α} (h : b = true) : (bif b then X else Y) = X := by rw [h]; rfl
theorem condF {α : Type} {b : Bool} {X Y : α} (h : b = false) : (bif b then X else Y) = Y := by rw [h]; rfl
theorem andT {a b : Bool} (ha : a = true) (hb : b = true) : (a && b) = true := by rw [ha, hb]; rfl
theorem mulA_B {x z : Int} {d e : Nat} (h1 : isI x = true) (h3 : isI z = true) (d2 : d ≤ 4611686018427387903) (d3 : x.natAbs ≤ 4611686018427387903) (e2 : e ≤ 4611686018427387903) (e3 : z.natAbs ≤ 4611686018427387903) :
    mulA x (d : Int) z (e : Int) = mulB x (d : Int) z (e : Int) ((Nat.gcd x.natAbs e : Nat) : Int) ((Nat.gcd z.natAbs d : Nat) : Int) := by
  have u1 : isU (absI x) = true := absI_rng h1
  have u3 : isU (absI z) = true := absI_rng h3
  have w1 : wU (e : Int) = (e : Int) := wU_nat (by omega)
  have w2 : wU (d : Int) = (d : Int) := wU_nat (by omega)
  have u2 : isU (wU (e : Int)) = true := by rw [w1]; exact isU_of (by omega)
  have u4 : isU (wU (d : Int)) = true := by rw [w2]; exact isU_of (by omega)
  have g1 : gcdI (absI x) (wU (e : Int)) = ((Nat.gcd x.natAbs e : Nat) : Int) := by rw [w1, absI_nat, gcdI_nat]
  have g2 : gcdI (absI z) (wU (d : Int)) = ((Nat.gcd z.natAbs d : Nat) : Int) := by rw [w2, absI_nat, gcdI_nat]
  unfold mulA
  refine (condT h1).trans ((condT (andT u1 u2)).trans ((condT h3).trans ((condT (andT u3 u4)).trans ?_)))
  rw [g1, g2]
theorem mulB_eq {x z : Int} {d e : Nat} (h1 : isI x = true) (h3 : isI z = true) (d1 : 0 < d) (d2 : d ≤ 4611686018427387903) (d3 : x.natAbs ≤ 4611686018427387903) (e1 : 0 < e) (e2 : e ≤ 4611686018427387903) (e3 : z.natAbs ≤ 4611686018427387903) :
    mulB x (d : Int) z (e : Int) ((Nat.gcd x.natAbs e : Nat) : Int) ((Nat.gcd z.natAbs d : Nat) : Int) = mulC x z ((x.natAbs / Nat.gcd x.natAbs e : Nat) : Int) ((z.natAbs / Nat.gcd z.natAbs d : Nat) : Int) ((d / Nat.gcd z.natAbs d : Nat) : Int) ((e / Nat.gcd x.natAbs e : Nat) : Int) := by
  have g1 : 0 < Nat.gcd x.natAbs e := Nat.gcd_pos_of_pos_right _ e1
  have g2 : 0 < Nat.gcd z.natAbs d := Nat.gcd_pos_of_pos_right _ d1
  have q1 : x.natAbs / Nat.gcd x.natAbs e ≤ x.natAbs := Nat.div_le_self _ _
  have q2 : z.natAbs / Nat.gcd z.natAbs d ≤ z.natAbs := Nat.div_le_self _ _
  have q3 : d / Nat.gcd z.natAbs d ≤ d := Nat.div_le_self _ _
  have q4 : e / Nat.gcd x.natAbs e ≤ e := Nat.div_le_self _ _
  have w1 : wU (e : Int) = (e : Int) := wU_nat (by omega)
  have w2 : wU (d : Int) = (d : Int) := wU_nat (by omega)
  have p1 : quU (absI x) ((Nat.gcd x.natAbs e : Nat) : Int) = ((x.natAbs / Nat.gcd x.natAbs e : Nat) : Int) := by rw [absI_nat]; exact quU_nat (by omega)
  have p2 : quU (absI z) ((Nat.gcd z.natAbs d : Nat) : Int) = ((z.natAbs / Nat.gcd z.natAbs d : Nat) : Int) := by rw [absI_nat]; exact quU_nat (by omega)
  have p3 : quU (wU (d : Int)) ((Nat.gcd z.natAbs d : Nat) : Int) = ((d / Nat.gcd z.natAbs d : Nat) : Int) := by rw [w2]; exact quU_nat (by omega)
  have p4 : quU (wU (e : Int)) ((Nat.gcd x.natAbs e : Nat) : Int) = ((e / Nat.gcd x.natAbs e : Nat) : Int) := by rw [w1]; exact quU_nat (by omega)
  unfold mulB
  rw [p1, p2, p3, p4]
  exact (condT h1).trans ((condT (nz g1)).trans ((condT h3).trans ((condT (nz g2)).trans ((condT (andT (isU_of (by omega)) (isU_of (by omega)))).trans ((condT (nz g2)).trans ((condT (nz g1)).trans (condT (andT (isU_of (by omega)) (isU_of (by omega))))))))))
theorem mulA_eq {x y z w : Int} (h1 : isI x = true) (h3 : isI z = true) (r1 : rightB x y = true) (r2 : rightB z w = true) : mulA x y z w = some (ratAV (nrm (x * z) (y * w)), []) := by
  obtain ⟨d, rfl, d1, d2, d3, d4⟩ := right_nat h1 r1
  obtain ⟨e, rfl, e1, e2, e3, e4⟩ := right_nat h3 r2
  obtain ⟨c1, c2, c3⟩ := gcd_cross d4 e4 e1 d1
  have g1 : 0 < Nat.gcd x.natAbs e := Nat.gcd_pos_of_pos_right _ e1
  have g2 : 0 < Nat.gcd z.natAbs d := Nat.gcd_pos_of_pos_right _ d1
  have q1 : x.natAbs / Nat.gcd x.natAbs e ≤ x.natAbs := Nat.div_le_self _ _
  have q2 : z.natAbs / Nat.gcd z.natAbs d ≤ z.natAbs := Nat.div_le_self _ _
  have q3 : d / Nat.gcd z.natAbs d ≤ d := Nat.div_le_self _ _
  have q4 : e / Nat.gcd x.natAbs e ≤ e := Nat.div_le_self _ _
  have hx0 : x.natAbs / Nat.gcd x.natAbs e = 0 → x = 0 := fun h0 => by
    have := Nat.div_add_mod x.natAbs (Nat.gcd x.natAbs e)
    rw [h0, Nat.mul_zero, Nat.mod_eq_zero_of_dvd (Nat.gcd_dvd_left _ _)] at this
    omega
  have hz0 : z.natAbs / Nat.gcd z.natAbs d = 0 → z = 0 := fun h0 => by
    have := Nat.div_add_mod z.natAbs (Nat.gcd z.natAbs d)
    rw [h0, Nat.mul_zero, Nat.mod_eq_zero_of_dvd (Nat.gcd_dvd_left _ _)] at this
    omega
  have hn := nrm_nat (Int.natAbs_mul x z) c1 (Nat.mul_pos g1 g2) c2 c3
  rw [← cm] at hn
  rw [hn]
  refine ((mulA_B h1 h3 d2 d3 e2 e3).trans (mulB_eq h1 h3 d1 d2 d3 e1 e2 e3)).trans ?_
  generalize x.natAbs / Nat.gcd x.natAbs e = a1 at *
  generalize z.natAbs / Nat.gcd z.natAbs d = a2 at *
  generalize d / Nat.gcd z.natAbs d = b1 at *
  generalize e / Nat.gcd x.natAbs e = b2 at *
  exact mulC_nat hx0 hz0 (fun h => by subst h; have := q1; simpa using this) (fun h => by subst h; have := q2; simpa using this)
theorem told20 (args : List AV) (st : List AObj) (r : Res) (h : FMulR args st = some (true, r)) : ∃ k, ev sysB8 k 20 args st = some r := by
  unfold FMulR at h
  split at h
  · rename_i x y z w
    simp only [Option.some.injEq, Prod.mk.injEq, Bool.and_eq_true] at h
    obtain ⟨⟨h1, h2, h3, h4⟩, rfl⟩ := h
    refine ⟨0 + 1, (ev20 x y z w 0).trans ?_⟩
    rw [h1, h2, h3, h4]
    simp only [Bool.and_self, cond_true]
    unfold mulM
    rw [bothE_zero]
    cases hr : rightB x y && rightB z w with
    | false =>
      have : bothE x y z w = 2 := by unfold bothE; rw [hr]; rfl
      rw [this]
      exact ratR2 _ _
    | true =>
      simp only [Bool.not_true, cond_false]
      rw [Bool.and_eq_true] at hr
      exact mulA_eq h1 h3 hr.1 hr.2
  · cases h
noncomputable def sysC1 : FSys := sysB8.tell 20 FMulR
end Go.Proofs.Ytgcdiccbehiijaa.W
