/- A part of the proofs over these laws: what its functions come to. No conditions. -/
import Derived.Test.YtgcdiccbehiijaaGc
import Derived.Test.YtgcdiccbehiijaaGm
import Derived.Test.YtgcdiccbehiijaaGa
set_option linter.all false
namespace Go.Proofs.Ytgcdiccbehiijaa.W
open Go.Fw
set_option maxRecDepth 100000
noncomputable section
theorem sv_sum (s t : Bool) (n m : Nat) : sv (sgS s n t m) (vlS s n t m) = sv s n + sv t m := by
  unfold sgS vlS
  cases s <;> cases t
  · show ((n + m : Nat) : Int) = (n : Int) + (m : Int); omega
  · by_cases h : m ≤ n
    · rw [decide_eq_true h]; show ((n - m : Nat) : Int) = (n : Int) + -(m : Int); omega
    · rw [decide_eq_false h]; show -((m - n : Nat) : Int) = (n : Int) + -(m : Int); omega
  · by_cases h : m ≤ n
    · rw [decide_eq_true h]; show -((n - m : Nat) : Int) = -(n : Int) + (m : Int); omega
    · rw [decide_eq_false h]; show ((m - n : Nat) : Int) = -(n : Int) + (m : Int); omega
  · show -((n + m : Nat) : Int) = -(n : Int) + -(m : Int); omega
theorem sv_prod (s t : Bool) (n m : Nat) : sv (!(s == t)) (n * m) = sv s n * sv t m := by
  cases s <;> cases t
  · show ((n * m : Nat) : Int) = (n : Int) * (m : Int); simp
  · show -((n * m : Nat) : Int) = (n : Int) * -(m : Int); simp [Int.mul_neg]
  · show -((n * m : Nat) : Int) = -(n : Int) * (m : Int); simp [Int.neg_mul]
  · show ((n * m : Nat) : Int) = -(n : Int) * -(m : Int); rw [Int.neg_mul_neg]; simp
theorem sv_abs (x : Int) : sv (decide (x < 0)) x.natAbs = x := by
  by_cases h : x < 0
  · rw [decide_eq_true h]; show -((x.natAbs : Nat) : Int) = x; omega
  · rw [decide_eq_false h]; show ((x.natAbs : Nat) : Int) = x; omega
def aX (x : Int) : List (List AV) := dRw x.natAbs
def dn (x : Int) : Bool := decide (x < 0)
def rr (x y z w : Int) (F X : Option Res) : Option Res := nB (isI x && isI y) (bif !(rightB x y) then F else nB (isI z && isI w) (bif !(rightB z w) then F else X))
def sm4 (x y z w : Int) : Bool := (smD (aX x) && smD (aX y)) && (smD (aX z) && smD (aX w))
def sA (x y z w : Int) : Bool := sgS (!(dn x == dn w)) (valR (aX x) * valR (aX w)) (!(dn z == dn y)) (valR (aX z) * valR (aX y))
def vA (x y z w : Int) : List (List AV) := dRw (vlS (!(dn x == dn w)) (valR (aX x) * valR (aX w)) (!(dn z == dn y)) (valR (aX z) * valR (aX y)))
def pAB (x z : Int) : List (List AV) := dRw (valR (aX x) * valR (aX z))
def ok60 (D E : List (List AV)) : Bool := isDD D E && ((Nat.ble D.length 99999 && Nat.ble E.length 99999) && Nat.ble 1 (valR E))
def rd (s : Bool) (D E : List (List AV)) : Option Res := nB (ok60 D E) (some (ratAV (nrm (sv s (valR D)) ((valR E : Nat) : Int)), []))
def i4 (x y z w : Int) (X : Option Res) : Option Res := nB (isI6 x && isI6 y) (nB (isI6 z && isI6 w) (nB (sm4 x y z w) X))
def ngw (z : Int) : Int := IntKind.i64.wrap (0 - z)
def twR (a b : Int) : Option Res := some (.tup [i64 a, i64 b], [])
noncomputable def T7 : FSys := (T6.tell 26 (FRR addM)).tell 28 (FRR mulM)
section
variable (k : Nat) (x y z w : Int)
theorem e26 : ev T6 (k + 1) 26 [rt x y, rt z w] [] = rr x y z w (ratR 0 0 2) (i4 x y z w (rd (sA x y z w) (vA x y z w) (pAB y w))) := by kernel_rfl
theorem e28 : ev T6 (k + 1) 28 [rt x y, rt z w] [] = rr x y z w (ratR 0 0 2) (i4 x y z w (rd (!(dn x == dn z)) (pAB x z) (pAB y w))) := by kernel_rfl
theorem e31 : ev T6 (k + 1) 31 [rt x y, rt z w] [] = rr x y z w (twR 0 2) (i4 x y (ngw z) w (nB (isDR (vA x y (ngw z) w)) (twR (sgN (sA x y (ngw z) w) (valR (vA x y (ngw z) w))) 0))) := by kernel_rfl
theorem e24 : ev T6 (k + 1) 24 [i64 x, i64 y] [] = bif y == 0 then ratR 0 0 5 else nB (isI6 x) (nB (isI6 y) (rd (!(dn x == dn y)) (aX x) (aX y))) := by kernel_rfl
theorem e27 : ev T7 (k + 1) 27 [rt x y, rt z w] [] = rr x y z w (ratR 0 0 2) (nB (okI x y (ngw z) w) (some (ratAV (addM x y (ngw z) w), []))) := by kernel_rfl
theorem e29 : ev T7 (k + 1) 29 [rt x y, rt z w] [] = rr x y z w (ratR 0 0 2) (bif z == 0 then ratR 0 0 5 else bif decide (z < 0) then nB (okI (ngw x) y w (ngw z)) (some (ratAV (mulM (ngw x) y w (ngw z)), [])) else nB (okI x y w z) (some (ratAV (mulM x y w z), []))) := by kernel_rfl
end
theorem right_rng {x y : Int} (h : rightB x y = true) : 1 ≤ y ∧ y ≤ 4611686018427387903 ∧ -4611686018427387903 ≤ x ∧ x ≤ 4611686018427387903 := by
  unfold rightB at h
  simp only [Bool.and_eq_true, decide_eq_true_eq] at h
  exact ⟨h.1, h.2.1, h.2.2.1, h.2.2.2.1⟩
theorem rr_eq {x y z w : Int} {F X Y : Option Res} (h : okI x y z w = true) (hF : (rightB x y && rightB z w) = false → F = Y) (hX : rightB x y = true → rightB z w = true → X = Y) : rr x y z w F X = Y := by
  rw [okI_iff] at h
  obtain ⟨h1, h2, h3, h4⟩ := h
  unfold rr
  rw [h1, h2, h3, h4]
  cases r1 : rightB x y with
  | false => exact hF (by rw [r1]; rfl)
  | true =>
  cases r2 : rightB z w with
  | false => exact hF (by rw [r1, r2]; rfl)
  | true => exact hX r1 r2
theorem small_abs {x : Int} (h1 : -4611686018427387903 ≤ x) (h2 : x ≤ 4611686018427387903) : isI6 x = true ∧ smD (aX x) = true ∧ dlen x.natAbs ≤ 5 := by
  have hd : dlen x.natAbs ≤ 5 := dlen_small (by omega)
  refine ⟨?_, smD_of (by omega), hd⟩
  unfold isI6
  rw [decide_eq_true (by omega), decide_eq_true (by omega)]; rfl
theorem i4_eq {x y z w : Int} {X : Option Res} (hx : -4611686018427387903 ≤ x ∧ x ≤ 4611686018427387903) (hy : -4611686018427387903 ≤ y ∧ y ≤ 4611686018427387903) (hz : -4611686018427387903 ≤ z ∧ z ≤ 4611686018427387903) (hw : -4611686018427387903 ≤ w ∧ w ≤ 4611686018427387903) : i4 x y z w X = X := by
  obtain ⟨a1, a2, _⟩ := small_abs hx.1 hx.2
  obtain ⟨b1, b2, _⟩ := small_abs hy.1 hy.2
  obtain ⟨c1, c2, _⟩ := small_abs hz.1 hz.2
  obtain ⟨d1, d2, _⟩ := small_abs hw.1 hw.2
  unfold i4 sm4
  rw [a1, a2, b1, b2, c1, c2, d1, d2]; rfl
theorem rd_eq {s : Bool} {n m : Nat} (hn : dlen n ≤ 99999) (hm : dlen m ≤ 99999) (h0 : 1 ≤ m) : rd s (dRw n) (dRw m) = some (ratAV (nrm (sv s n) (m : Nat)), []) := by
  unfold rd ok60
  rw [isDD_of (by omega) (by omega), dRw_len, dRw_len, Nat.ble_eq_true_of_le hn, Nat.ble_eq_true_of_le hm, valR_dRw, valR_dRw, Nat.ble_eq_true_of_le h0]
  rfl
theorem val_aX (x : Int) : valR (aX x) = x.natAbs := valR_dRw _
theorem pAB_eq (x z : Int) : pAB x z = dRw (x.natAbs * z.natAbs) := by unfold pAB; rw [val_aX, val_aX]
theorem den_eq {y w : Int} (hy : 1 ≤ y) (hw : 1 ≤ w) : ((y.natAbs * w.natAbs : Nat) : Int) = y * w ∧ 1 ≤ y.natAbs * w.natAbs := by
  have e1 : ((y.natAbs : Nat) : Int) = y := by omega
  have e2 : ((w.natAbs : Nat) : Int) = w := by omega
  refine ⟨by rw [Int.natCast_mul, e1, e2], Nat.mul_pos (by omega) (by omega)⟩
theorem sum_eq (x y z w : Int) : sv (sA x y z w) (valR (vA x y z w)) = x * w + z * y := by
  unfold sA vA
  rw [valR_dRw, sv_sum, sv_prod, sv_prod, val_aX, val_aX, val_aX, val_aX]
  unfold dn
  rw [sv_abs, sv_abs, sv_abs, sv_abs]
theorem vA_low {x y z w : Int} (hx : dlen x.natAbs ≤ 5) (hy : dlen y.natAbs ≤ 5) (hz : dlen z.natAbs ≤ 5) (hw : dlen w.natAbs ≤ 5) : ∃ n, vA x y z w = dRw n ∧ dlen n ≤ 20 := by
  refine ⟨_, rfl, ?_⟩
  rw [val_aX, val_aX, val_aX, val_aX]
  have h1 := dlen_mul x.natAbs w.natAbs
  have h2 := dlen_mul z.natAbs y.natAbs
  have h3 := dlen_add (x.natAbs * w.natAbs) (z.natAbs * y.natAbs)
  unfold vlS
  cases (!(dn x == dn w)) == (!(dn z == dn y)) with
  | true => show dlen (x.natAbs * w.natAbs + z.natAbs * y.natAbs) ≤ 20; omega
  | false =>
    cases decide (z.natAbs * y.natAbs ≤ x.natAbs * w.natAbs) with
    | true => exact Nat.le_trans (dlen_mono (Nat.sub_le _ _)) (by omega)
    | false => exact Nat.le_trans (dlen_mono (Nat.sub_le _ _)) (by omega)
theorem right_facts {x y z w : Int} (r1 : rightB x y = true) (r2 : rightB z w = true) : dlen x.natAbs ≤ 5 ∧ dlen y.natAbs ≤ 5 ∧ dlen z.natAbs ≤ 5 ∧ dlen w.natAbs ≤ 5 := by
  obtain ⟨a, b, c, d⟩ := right_rng r1
  obtain ⟨a', b', c', d'⟩ := right_rng r2
  exact ⟨dlen_small (by omega), dlen_small (by omega), dlen_small (by omega), dlen_small (by omega)⟩
theorem t26 (x y z w : Int) (h : okI x y z w = true) : ∃ k, ev T6 k 26 [rt x y, rt z w] [] = some (ratAV (addM x y z w), []) := by
  refine ⟨0 + 1, (e26 0 x y z w).trans (rr_eq h (fun hr => ?_) fun r1 r2 => ?_)⟩
  · unfold addM; rw [both_ne hr]; exact ratR20
  · obtain ⟨a, b, c, d⟩ := right_rng r1
    obtain ⟨a', b', c', d'⟩ := right_rng r2
    obtain ⟨lx, ly, lz, lw⟩ := right_facts r1 r2
    rw [i4_eq ⟨c, d⟩ ⟨by omega, b⟩ ⟨c', d'⟩ ⟨by omega, b'⟩]
    obtain ⟨n, hn, hl⟩ := vA_low lx ly lz lw
    have hs := sum_eq x y z w
    rw [hn, valR_dRw] at hs
    have hd := dlen_mul y.natAbs w.natAbs
    obtain ⟨g1, g2⟩ := den_eq a a'
    rw [hn, pAB_eq, rd_eq (by omega) (by omega) g2, hs, g1]
    unfold addM
    rw [both_eq (by rw [r1, r2]; rfl)]; rfl
theorem t28 (x y z w : Int) (h : okI x y z w = true) : ∃ k, ev T6 k 28 [rt x y, rt z w] [] = some (ratAV (mulM x y z w), []) := by
  refine ⟨0 + 1, (e28 0 x y z w).trans (rr_eq h (fun hr => ?_) fun r1 r2 => ?_)⟩
  · unfold mulM; rw [both_ne hr]; exact ratR20
  · obtain ⟨a, b, c, d⟩ := right_rng r1
    obtain ⟨a', b', c', d'⟩ := right_rng r2
    obtain ⟨lx, ly, lz, lw⟩ := right_facts r1 r2
    rw [i4_eq ⟨c, d⟩ ⟨by omega, b⟩ ⟨c', d'⟩ ⟨by omega, b'⟩]
    have hd := dlen_mul y.natAbs w.natAbs
    have hn := dlen_mul x.natAbs z.natAbs
    obtain ⟨g1, g2⟩ := den_eq a a'
    rw [pAB_eq, pAB_eq, rd_eq (by omega) (by omega) g2, sv_prod, g1]
    unfold dn
    rw [sv_abs, sv_abs]
    unfold mulM
    rw [both_eq (by rw [r1, r2]; rfl)]; rfl
theorem t31 (x y z w : Int) (h : okI x y z w = true) : ∃ k, ev T6 k 31 [rt x y, rt z w] [] = some (twoAV (cmpM x y z w), []) := by
  refine ⟨0 + 1, (e31 0 x y z w).trans (rr_eq h (fun hr => ?_) fun r1 r2 => ?_)⟩
  · unfold cmpM; rw [both_ne hr]; rfl
  · obtain ⟨a, b, c, d⟩ := right_rng r1
    obtain ⟨a', b', c', d'⟩ := right_rng r2
    obtain ⟨lx, ly, lz, lw⟩ := right_facts r1 r2
    have en : ngw z = -z := by
      unfold ngw
      have : IntKind.i64.wrap (0 - z) = 0 - z := wrap64 (by omega) (by omega)
      rw [this]; omega
    have lz' : dlen (-z).natAbs ≤ 5 := by rw [Int.natAbs_neg]; exact lz
    rw [en, i4_eq ⟨c, d⟩ ⟨by omega, b⟩ ⟨by omega, by omega⟩ ⟨by omega, b'⟩]
    obtain ⟨n, hn, hl⟩ := vA_low lx ly lz' lw
    have hs := sum_eq x y (-z) w
    rw [hn, valR_dRw] at hs
    have e1 : x * w + -z * y = x * w - z * y := by rw [Int.neg_mul]; omega
    rw [e1] at hs
    rw [hn, isDR_of (by omega), valR_dRw]
    unfold cmpM
    rw [both_eq (by rw [r1, r2]; rfl), ← hs]
    have : sgN (sA x y (-z) w) n = sg1 (sv (sA x y (-z) w) n) := by
      unfold sgN sg1 sv
      by_cases h0 : n = 0
      · subst h0
        cases sA x y (-z) w <;> rfl
      · have e2 : Nat.beq n 0 = false := by rw [← Bool.not_eq_true, Nat.beq_eq]; exact h0
        rw [e2]
        cases sA x y (-z) w with
        | true =>
          have e3 : ((-(n : Int)) == 0) = false := by rw [beq_eq_false_iff_ne]; omega
          have e4 : decide (-(n : Int) < 0) = true := decide_eq_true (by omega)
          show (-1 : Int) = bif (-(n : Int)) == 0 then 0 else bif decide (-(n : Int) < 0) then -1 else 1
          rw [e3, e4]; rfl
        | false =>
          have e3 : (((n : Int)) == 0) = false := by rw [beq_eq_false_iff_ne]; omega
          have e4 : decide ((n : Int) < 0) = false := decide_eq_false (by omega)
          show (1 : Int) = bif (n : Int) == 0 then 0 else bif decide ((n : Int) < 0) then -1 else 1
          rw [e3, e4]; rfl
    rw [this]; rfl
end
end Go.Proofs.Ytgcdiccbehiijaa.W
namespace Go.Proofs.Ytgcdiccbehiijaa.W
open Go.Fw
set_option maxRecDepth 100000
noncomputable section
theorem ngw_eq {x : Int} (h : x.natAbs ≤ 4611686018427387903) : ngw x = -x := by unfold ngw; rw [wrapI (by omega) (by omega)]; omega
theorem right_neg {x y : Int} : rightB (-x) y = true ↔ rightB x y = true := by
  unfold rightB
  rw [absI_eq, absI_eq, Int.natAbs_neg]
  simp only [Bool.and_eq_true, decide_eq_true_eq]
  constructor
  · rintro ⟨a, b, c, d, e⟩; exact ⟨a, b, by omega, by omega, e⟩
  · rintro ⟨a, b, c, d, e⟩; exact ⟨a, b, by omega, by omega, e⟩
theorem t24 (x y : Int) (h1 : isI x = true) (h2 : isI y = true) : ∃ k, ev T6 k 24 [i64 x, i64 y] [] = some (ratAV (makeM x y), []) := by
  refine ⟨0 + 1, (e24 0 x y).trans ?_⟩
  unfold makeM
  by_cases hd : y = 0
  · subst hd; exact ratR5
  · have hd' : (y == 0) = false := by rw [beq_eq_false_iff_ne]; exact hd
    rw [condF hd', condF hd', isI6_eq, isI6_eq, h1, h2]
    rw [isI_iff] at h1 h2
    have lx := dlen_small (n := x.natAbs) (by omega)
    have ly := dlen_small (n := y.natAbs) (by omega)
    refine (rd_eq (by omega) (by omega) (by omega)).trans ?_
    have e1 : sv (!(dn x == dn y)) x.natAbs = bif decide (y < 0) then -x else x := by
      have hx := sv_abs x
      unfold dn
      cases decide (y < 0) with
      | false =>
        have : (!(decide (x < 0) == false)) = decide (x < 0) := by cases decide (x < 0) <;> rfl
        rw [this, hx]; rfl
      | true =>
        have : (!(decide (x < 0) == true)) = !decide (x < 0) := by cases decide (x < 0) <;> rfl
        rw [this]
        show _ = -x
        by_cases hn : x < 0
        · rw [decide_eq_true hn]; show ((x.natAbs : Nat) : Int) = -x; omega
        · rw [decide_eq_false hn]; show -((x.natAbs : Nat) : Int) = -x; omega
    rw [e1, absI_eq]
theorem told24R (args : List AV) (st : List AObj) (r : Res) (h : FMk args st = some (true, r)) : ∃ k, ev T6 k 24 args st = some r := by
  unfold FMk at h
  split at h
  · simp only [Option.some.injEq, Prod.mk.injEq, Bool.and_eq_true] at h
    obtain ⟨⟨h1, h2⟩, rfl⟩ := h
    exact t24 _ _ h1 h2
  · cases h
theorem told31R (args : List AV) (st : List AObj) (r : Res) (h : FCmp args st = some (true, r)) : ∃ k, ev T6 k 31 args st = some r := by
  unfold FCmp at h
  split at h
  · simp only [Option.some.injEq, Prod.mk.injEq] at h
    obtain ⟨h1, rfl⟩ := h
    exact t31 _ _ _ _ h1
  · cases h
theorem okI_of {x y z w : Int} (h1 : isI x = true) (h2 : isI y = true) (h3 : isI z = true) (h4 : isI w = true) : okI x y z w = true := okI_iff.2 ⟨h1, h2, h3, h4⟩
theorem t27 (x y z w : Int) (h : okI x y z w = true) : ∃ k, ev T7 k 27 [rt x y, rt z w] [] = some (ratAV (sbM x y z w), []) := by
  refine ⟨0 + 1, (e27 0 x y z w).trans (rr_eq h (fun hr => ?_) fun r1 r2 => ?_)⟩
  · unfold sbM; rw [both_ne hr]; exact ratR20
  · obtain ⟨a, b, c, d⟩ := right_rng r1
    obtain ⟨a', b', c', d'⟩ := right_rng r2
    obtain ⟨h1, h2, h3, h4⟩ := okI_iff.1 h
    rw [ngw_eq (by omega), okI_of h1 h2 (isI_of (x := -z) (by omega)) h4]
    unfold addM sbM
    rw [both_eq (x := x) (y := y) (z := -z) (w := w) (by rw [r1, right_neg.2 r2]; rfl), both_eq (by rw [r1, r2]; rfl), Int.neg_mul, ← Int.sub_eq_add_neg]
    rfl
theorem right_swap {z w : Int} (h : rightB z w = true) (hz : 0 < z) : rightB w z = true := by
  obtain ⟨a, b, c, d⟩ := right_rng h
  unfold rightB at h ⊢
  simp only [Bool.and_eq_true, decide_eq_true_eq] at h ⊢
  refine ⟨by omega, by omega, by omega, by omega, ?_⟩
  have hg := h.2.2.2.2
  have e1 : w = ((w.natAbs : Nat) : Int) := by omega
  have e2 : z = ((z.natAbs : Nat) : Int) := by omega
  rw [absI_eq] at hg ⊢
  rw [e1, gcdI_nat] at hg
  rw [e2, gcdI_nat, Nat.gcd_comm]
  exact hg
theorem t29 (x y z w : Int) (h : okI x y z w = true) : ∃ k, ev T7 k 29 [rt x y, rt z w] [] = some (ratAV (divM x y z w), []) := by
  refine ⟨0 + 1, (e29 0 x y z w).trans (rr_eq h (fun hr => ?_) fun r1 r2 => ?_)⟩
  · unfold divM; rw [both_ne hr]; exact ratR20
  · obtain ⟨a, b, c, d⟩ := right_rng r1
    obtain ⟨a', b', c', d'⟩ := right_rng r2
    obtain ⟨h1, h2, h3, h4⟩ := okI_iff.1 h
    unfold divM
    rw [both_eq (by rw [r1, r2]; rfl)]
    by_cases h0 : z = 0
    · subst h0; exact ratR5
    · have hz' : (z == 0) = false := by rw [beq_eq_false_iff_ne]; exact h0
      rw [hz']
      by_cases hn : z < 0
      · rw [decide_eq_true hn, ngw_eq (x := x) (by omega), ngw_eq (x := z) (by omega), okI_of (isI_of (x := -x) (by omega)) h2 h4 (isI_of (x := -z) (by omega))]
        unfold mulM
        have ez : absI z = -z := by rw [absI_eq]; omega
        rw [both_eq (x := -x) (y := y) (z := w) (w := -z) (by rw [right_neg.2 r1, right_swap (right_neg.2 r2) (by omega)]; rfl), Int.neg_mul, ez]
        rfl
      · rw [decide_eq_false hn, okI_of h1 h2 h4 h3]
        unfold mulM
        have ez : absI z = z := by rw [absI_eq]; omega
        rw [both_eq (x := x) (y := y) (z := w) (w := z) (by rw [r1, right_swap r2 (by omega)]; rfl), ez]
        rfl
theorem T7Ok (h : SysOk Try.prog sys) : SysOk Try.prog T7 :=
  SysOk.tellMore ((T6Ok h).tell 26 _ (toldRR t26)) ((T6Ok h).tell 28 _ (toldRR t28)) rfl rfl
theorem T7aOk (h : SysOk Try.prog sys) : SysOk Try.prog (T7.tell 27 (FRR sbM)) := (T7Ok h).tell 27 _ (toldRR t27)
theorem T7bOk (h : SysOk Try.prog sys) : SysOk Try.prog (T7.tell 29 (FRR divM)) := (T7Ok h).tell 29 _ (toldRR t29)
theorem T6aOk (h : SysOk Try.prog sys) : SysOk Try.prog (T6.tell 24 FMk) := (T6Ok h).tell 24 _ told24R
theorem T6bOk (h : SysOk Try.prog sys) : SysOk Try.prog (T6.tell 31 FCmp) := (T6Ok h).tell 31 _ told31R
end
end Go.Proofs.Ytgcdiccbehiijaa.W
namespace Go.Proofs.Ytgcdiccbehiijaa.W
open Go.Fw
set_option maxRecDepth 100000
noncomputable def sysL : FSys := (((((sysC4.tell 24 FMk).tell 26 (FRR addM)).tell 27 (FRR sbM)).tell 28 (FRR mulM)).tell 29 (FRR divM)).tell 31 FCmp
noncomputable section
def bRes (b : Bool) : Option Res := some (.k (.bool b), [])
def eqA (p q : Int × Int × Int) : Bool := (p.1 == q.1) && ((p.2.1 == q.2.1) && true)
def rStep (x y z w : Int) (m : Int × Int × Int) (ok : Bool) (K : Bool → Option Res) : Option Res :=
  bif okI x y z w then bif okI x y z w then (bif ok then (bif eqA m m then K (m.2.2 == m.2.2) else K false) else K false) else none else none
def rLast (x y z w : Int) (m : Int × Int) (ok : Bool) : Option Res :=
  bif okI x y z w then bif okI x y z w then (bif ok then (bif m.1 == m.1 then (bif m.2 == m.2 then bRes true else bRes false) else bRes false) else bRes false) else none else none
def rDiv (x y z w : Int) (ok : Bool) : Option Res := rStep x y z w (divM x y z w) ok (rLast x y z w (cmpM x y z w))
def rMul (x y z w : Int) (ok : Bool) : Option Res := rStep x y z w (mulM x y z w) ok (rDiv x y z w)
def rSub (x y z w : Int) (ok : Bool) : Option Res := rStep x y z w (sbM x y z w) ok (rMul x y z w)
def rAdd (x y z w : Int) : Option Res := rStep x y z w (addM x y z w) true (rSub x y z w)
def rMake (x y z w p q : Int) : Option Res := bif isI p && isI q then bif isI p && isI q then bif !eqA (makeM p q) (makeM p q) then bRes false else bif (makeM p q).2.2 != (makeM p q).2.2 then bRes false else rAdd x y z w else none else none
theorem law6 (x y z w p q : Int) (k : Nat) : ev sysL (k + 2) 6 [rt x y, rt z w, .agg [i64 p, i64 q]] [] = rMake x y z w p q := by kernel_rfl
theorem condT' {α : Type} {b : Bool} {X Y : α} (h : b = true) : (bif b then X else Y) = X := by rw [h]; rfl
theorem eqA_self (m : Int × Int × Int) : eqA m m = true := by unfold eqA; simp
theorem rStep_true {x y z w : Int} (h : okI x y z w = true) (m : Int × Int × Int) (K : Bool → Option Res) : rStep x y z w m true K = K true := by
  unfold rStep
  refine (condT' h).trans ((condT' h).trans ?_)
  show (bif eqA m m then K (m.2.2 == m.2.2) else K false) = K true
  rw [eqA_self, beq_self_eq_true]; rfl
theorem rLast_true {x y z w : Int} (h : okI x y z w = true) (m : Int × Int) : rLast x y z w m true = bRes true := by
  unfold rLast
  refine (condT' h).trans ((condT' h).trans ?_)
  rw [beq_self_eq_true, beq_self_eq_true]; rfl
theorem law6_true {x y z w p q : Int} (hx : isI x = true) (hy : isI y = true) (hz : isI z = true) (hw : isI w = true) (hp : isI p = true) (hq : isI q = true) (k : Nat) :
    ev sysL (k + 2) 6 [rt x y, rt z w, .agg [i64 p, i64 q]] [] = some (.k (.bool true), []) := by
  refine (law6 x y z w p q k).trans ?_
  have h : okI x y z w = true := okI_iff.2 ⟨hx, hy, hz, hw⟩
  have hpq : (isI p && isI q) = true := by rw [hp, hq]; rfl
  unfold rMake
  refine (condT' hpq).trans ((condT' hpq).trans ?_)
  rw [eqA_self, bne_self_eq_false]
  show rAdd x y z w = _
  unfold rAdd
  rw [rStep_true h]; unfold rSub
  rw [rStep_true h]; unfold rMul
  rw [rStep_true h]; unfold rDiv
  rw [rStep_true h, rLast_true h]; rfl
end
end Go.Proofs.Ytgcdiccbehiijaa.W
namespace Go.Proofs.Ytgcdiccbehiijaa.W
open Go.Fw
set_option maxRecDepth 100000
theorem sysLOk : SysOk Try.prog sysL :=
  SysOk.tellMore (SysOk.tellMore (SysOk.tellMore (SysOk.tellMore (SysOk.tellMore (SysOk.tellMore sysC4Ok (T6aOk sysOk) rfl rfl) ((T6Ok sysOk).tell 26 _ (toldRR t26)) rfl rfl) (T7aOk sysOk) rfl rfl) ((T6Ok sysOk).tell 28 _ (toldRR t28)) rfl rfl) (T7bOk sysOk) rfl rfl) (T6bOk sysOk) rfl rfl
theorem arg50 {av : AV} (h : ArgOf tab 50 av) : ∃ n d, av = .agg [i64 n, i64 d] ∧ isI n = true ∧ isI d = true := by
  have ht : ∃ ti, tab 50 = some ti ∧ ti.isAgg = true := ⟨_, rfl, by kernel_rfl⟩
  obtain ⟨ti, h1, h2⟩ := ht
  unfold ArgOf at h
  rw [h1] at h
  simp only [h2] at h
  obtain ⟨avs, rfl, hr, hf⟩ := h
  have hc : cts tab 50 = [.int .i64, .int .i64] := by kernel_rfl
  rw [hc] at hr
  obtain ⟨a, b, rfl, ha, hb⟩ := row_two hr
  obtain ⟨n, rfl, hn⟩ := int_cell ha (hf _ (by simp))
  obtain ⟨d, rfl, hd⟩ := int_cell hb (hf _ (by simp))
  exact ⟨n, d, rfl, hn, hd⟩
theorem pure6 (avs : List AV) (h : Args tab [42, 42, 50] avs) : ∃ k, ev sysL k 6 avs [] = some (.k (.bool true), []) := by
  match avs, h with
  | [a, b, c], ⟨ha, hb, hc, _⟩ =>
    obtain ⟨x, y, rfl, hx, hy⟩ := arg42 ha
    obtain ⟨z, w, rfl, hz, hw⟩ := arg42 hb
    obtain ⟨u, v, rfl, hu, hv⟩ := arg50 hc
    exact ⟨0 + 2, law6_true hx hy hz hw hu hv 0⟩
def nw6 : Value := .agg #[.int .i64 1, .int .i64 1]
end Go.Proofs.Ytgcdiccbehiijaa.W
