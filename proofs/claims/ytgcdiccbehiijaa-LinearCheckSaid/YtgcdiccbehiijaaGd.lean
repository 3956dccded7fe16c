/- A part of the proofs over these laws: what its functions come to. No conditions. -/
import Derived.Test.YtgcdiccbehiijaaGc
import Init
set_option linter.all false
namespace Go.Proofs.Ytgcdiccbehiijaa.W.U
open Go.Fw
set_option maxRecDepth 100000
noncomputable section
def bx (g : Bool) (a b : AV) : AObj := .box 90 [.k (.bool g), a, b]
def nl : AV := .sl 0 .nil []
def t72 (A : List (List AV)) (x : Int) (K : List (List AV) → Option Res) : Option Res := nN (isDR A && isU x) (K (dRw (valR A * x.toNat)))
def sgn2 (x z : Int) : Bool := !(decide (x < 0) == decide (z < 0))
def e48 (g s : Bool) (n2 d2 e2 : List (List AV)) (K : Bool → List (List AV) → List (List AV) → Option Res) : Option Res :=
  bif ((n2.length : Nat) : Int) == 0 then K s d2 e2 else
  bif g == s then nN (isDR n2 && isDR d2) (K g (dRw (valR n2 + valR d2)) e2) else
  nN (isDR n2 && isDR d2) (bif decide (cmpNat (valR n2) (valR d2) ≥ 0) then nN ((isDR n2 && isDR d2) && Nat.ble (valR d2) (valR n2)) (K g (dRw (valR n2 - valR d2)) e2)
    else nN ((isDR d2 && isDR n2) && Nat.ble (valR n2) (valR d2)) (K s (dRw (valR d2 - valR n2)) e2))
def a48 (g : Bool) (N D : List (List AV)) (x y z w : Int) (K : Bool → List (List AV) → List (List AV) → Option Res) (Z : Option Res) : Option Res :=
  bif x == 0 then Z else bif z == 0 then Z else
  nN (isI x) (t72 D (absI x) fun d1 => nN (isI z) (t72 d1 (absI z) fun d2 => t72 N (wU y) fun n1 => t72 n1 (wU w) fun n2 => t72 D (wU y) fun e1 => t72 e1 (wU w) fun e2 =>
    e48 g (sgn2 x z) n2 d2 e2 K))
def rbx (b : AObj) : Option Res := some (.tup [], [b])
section
variable (k : Nat) (N D : List (List AV)) (x y z w : Int) (g : Bool)
theorem ev48c : ev N2 (k + 1) 48 [.ptr 0 0, rt x y, rt z w] [bx g (slU N) (slU D)] = nN (!D.isEmpty) (a48 g N D x y z w (fun g n d => rbx (bx g (slU n) (slU d))) (rbx (bx g (slU N) (slU D)))) := by kernel_rfl
theorem ev48a : ev N2 (k + 1) 48 [.ptr 0 0, rt x y, rt z w] [bx g nl nl] = a48 g [] [[u64 1]] x y z w (fun g n d => rbx (bx g (slU n) (slU d))) (rbx (bx g (slU []) (slU [[u64 1]]))) := by kernel_rfl
def s49 (g : Bool) (N : List (List AV)) : Int := bif ((N.length : Nat) : Int) == 0 then 0 else bif g then -1 else 1
def r49 (g : Bool) (N : List (List AV)) (b : AObj) : Option Res := bif ((N.length : Nat) : Int) == 0 then some (i64 0, [b]) else bif g then some (i64 (-1), [b]) else some (i64 1, [b])
theorem ev49c : ev N2 (k + 1) 49 [.ptr 0 0] [bx g (slU N) (slU D)] = r49 g N (bx g (slU N) (slU D)) := by kernel_rfl
theorem ev49a : ev N2 (k + 1) 49 [.ptr 0 0] [bx g nl nl] = r49 g [] (bx g nl nl) := by kernel_rfl
end
end
end Go.Proofs.Ytgcdiccbehiijaa.W.U
namespace Go.Proofs.Ytgcdiccbehiijaa.W.U
def qq (p : Int × Int) : Rat := (p.1 : Rat) / (p.2 : Rat)
def sumR (f : Nat → Rat) : Nat → Rat
  | 0 => 0
  | n + 1 => sumR f n + f n
def geP (e : Bool) (s : Rat) : Prop := 0 ≤ s ∧ (e = true → s = 0)
def leP (e : Bool) (s : Rat) : Prop := s ≤ 0 ∧ (e = true → s = 0)
section
variable (n m : Nat) (F e : Nat → Bool) (c : Nat → Nat → Int × Int) (l x y : Nat → Int × Int)
def rowS (k : Nat) : Rat := sumR (fun i => qq (c k i) * qq (x i)) n + qq (l k) * qq (-1, 1)
def colS (i : Nat) : Rat := sumR (fun k => qq (c k i) * qq (y k)) m
def leaS (k : Nat) : Rat := sumR (fun k => qq (l k) * qq (y k)) k
end
theorem qpos {n d : Int} (hn : 0 < n) (hd : 0 < d) : 0 < qq (n, d) := by
  unfold qq
  have h1 : (0 : Rat) < n := by exact_mod_cast hn
  have h2 : (0 : Rat) < d := by exact_mod_cast hd
  generalize hq : (n : Rat) / (d : Rat) = s
  have h3 : (n : Rat) = s * d := by grind
  refine Rat.not_le.1 fun h => ?_
  have h4 := Rat.mul_nonneg (by grind : 0 ≤ -s) (by grind : (0 : Rat) ≤ d)
  grind
theorem qzero {n d : Int} (hn : n = 0) : qq (n, d) = 0 := by unfold qq; subst hn; grind
theorem qneg {n d : Int} (hn : n < 0) (hd : 0 < d) : qq (n, d) < 0 := by
  have h := qpos (n := -n) (d := d) (by omega) hd
  unfold qq at *
  have e1 : (((-n : Int)) : Rat) = -(n : Rat) := Rat.intCast_neg _
  have e2 : (0 : Rat) < (((-n : Int)) : Rat) / (d : Rat) := h
  rw [e1] at e2
  have e3 : -(n : Rat) / (d : Rat) = -((n : Rat) / d) := by grind
  rw [e3] at e2
  show (n : Rat) / (d : Rat) < 0
  grind
theorem qstep {a d x y z w : Int} (hd : 0 < d) (hy : 0 < y) (hw : 0 < w) : qq (a * (y * w) + d * (x * z), d * y * w) = qq (a, d) + qq (x, y) * qq (z, w) := by
  unfold qq
  have h1 : (d : Rat) ≠ 0 := by intro h; have : d = 0 := by exact_mod_cast h
                                omega
  have h2 : (y : Rat) ≠ 0 := by intro h; have : y = 0 := by exact_mod_cast h
                                omega
  have h3 : (w : Rat) ≠ 0 := by intro h; have : w = 0 := by exact_mod_cast h
                                omega
  simp only [Rat.intCast_add, Rat.intCast_mul]
  grind
end Go.Proofs.Ytgcdiccbehiijaa.W.U
namespace Go.Proofs.Ytgcdiccbehiijaa.W.U
open Go.Fw
set_option maxRecDepth 100000
noncomputable section
def sg (s : Bool) (n : Nat) : Int := bif s then -(n : Int) else (n : Int)
theorem wU_in {y : Int} (h : 0 ≤ y) (h2 : y < 18446744073709551616) : wU y = y := by
  unfold wU IntKind.wrap
  exact Int.emod_eq_of_lt h h2
theorem t72_on {n L : Nat} {x : Int} (hn : dlen n ≤ L) (hL : L ≤ 100000) (hx : 0 ≤ x) (hx2 : x < 18446744073709551616) (K : List (List AV) → Option Res) :
    t72 (dRw n) x K = K (dRw (n * x.toNat)) := by
  unfold t72
  have h : (isDR (dRw n) && isU x) = true := by
    rw [isDR_of (by omega)]
    have : isU x = true := by rw [isU_iff]; omega
    rw [this]; rfl
  rw [nN_on h, valR_dRw]
theorem dlen_word {n L : Nat} {x : Int} (hn : dlen n ≤ L) (hx : 0 ≤ x) (hx2 : x < 18446744073709551616) : dlen (n * x.toNat) ≤ L + 1 := by
  have h := dlen_mul n x.toNat
  have : dlen x.toNat ≤ 1 := dlen_le.2 (by omega)
  omega
def pl48 (g s : Bool) (a b e : Nat) : Bool × Nat × Nat := bif Nat.beq a 0 then (s, b, e) else bif g == s then (g, a + b, e) else bif Nat.ble b a then (g, a - b, e) else (s, b - a, e)
def st48 (g : Bool) (n d : Nat) (x y z w : Int) : Bool × Nat × Nat :=
  bif x == 0 then (g, n, d) else bif z == 0 then (g, n, d) else pl48 g (sgn2 x z) (n * y.toNat * w.toNat) (d * (absI x).toNat * (absI z).toNat) (d * y.toNat * w.toNat)
theorem e48_ok (g s : Bool) {a b e L : Nat} (ha : dlen a ≤ L) (hb : dlen b ≤ L) (hL : L ≤ 100000) (K : Bool → List (List AV) → List (List AV) → Option Res) :
    e48 g s (dRw a) (dRw b) (dRw e) K = K (pl48 g s a b e).1 (dRw (pl48 g s a b e).2.1) (dRw (pl48 g s a b e).2.2) := by
  have hA : (isDR (dRw a) && isDR (dRw b)) = true := by rw [isDR_of (by omega), isDR_of (by omega)]; rfl
  have hB : (isDR (dRw b) && isDR (dRw a)) = true := by rw [isDR_of (by omega), isDR_of (by omega)]; rfl
  unfold e48 pl48
  by_cases h0 : a = 0
  · subst h0
    rw [dRw_len, dlen_zero]; rfl
  · have hd : dlen a ≠ 0 := by
      intro h
      have := (dlen_spec a).1
      rw [h, Nat.pow_zero] at this
      omega
    have e0 : (((dlen a : Nat) : Int) == 0) = false := by
      rw [← Bool.not_eq_true, beq_iff_eq]; omega
    have e2 : Nat.beq a 0 = false := by rw [← Bool.not_eq_true, Nat.beq_eq]; exact h0
    rw [dRw_len, e0, e2]
    cases hg : (g == s) with
    | true => rw [nN_on hA, valR_dRw, valR_dRw]; rfl
    | false =>
      by_cases hc : b ≤ a
      · have e1 : decide (cmpNat a b ≥ 0) = true := by unfold cmpNat; rw [decide_eq_true_iff]; split <;> (try split) <;> omega
        rw [valR_dRw, valR_dRw, e1, Nat.ble_eq_true_of_le hc, hA]; rfl
      · have e1 : decide (cmpNat a b ≥ 0) = false := by unfold cmpNat; rw [decide_eq_false_iff_not]; split <;> (try split) <;> omega
        have e3 : Nat.ble b a = false := by rw [← Bool.not_eq_true]; intro h; exact hc (Nat.le_of_ble_eq_true h)
        rw [valR_dRw, valR_dRw, e1, e3, Nat.ble_eq_true_of_le (by omega : a ≤ b), hB, hA]; rfl
theorem sg_abs (x z : Int) (d : Nat) : sg (sgn2 x z) (d * (absI x).toNat * (absI z).toNat) = (d : Int) * (x * z) := by
  have e (x : Int) : x = bif decide (x < 0) then -((absI x).toNat : Int) else ((absI x).toNat : Int) := by
    unfold absI
    by_cases h : x < 0
    · rw [decide_eq_true h]
      show x = -((-x).toNat : Int)
      omega
    · rw [decide_eq_false h]
      show x = (x.toNat : Int)
      omega
  have ex := e x
  have ez := e z
  unfold sg sgn2
  generalize (absI x).toNat = p at *
  generalize (absI z).toNat = q at *
  cases hx : decide (x < 0) <;> cases hz : decide (z < 0) <;> rw [hx] at ex <;> rw [hz] at ez <;> simp only [cond_true, cond_false] at ex ez <;> subst ex <;> subst ez <;> simp [Int.mul_assoc, Int.mul_neg, Int.neg_mul]
structure RiQ (x y : Int) : Prop where
  i : isI x = true
  lo : 1 ≤ y
  hi : y ≤ 4611686018427387903
def riB (x y z w : Int) : Bool := isI x && (isI z && ((decide (1 ≤ y) && decide (y ≤ 4611686018427387903)) && (decide (1 ≤ w) && decide (w ≤ 4611686018427387903))))
theorem riB_iff {x y z w : Int} : riB x y z w = true ↔ RiQ x y ∧ RiQ z w := by
  unfold riB
  simp only [Bool.and_eq_true, decide_eq_true_iff]
  constructor
  · rintro ⟨h1, h2, ⟨h3, h4⟩, h5, h6⟩
    exact ⟨⟨h1, h3, h4⟩, ⟨h2, h5, h6⟩⟩
  · rintro ⟨⟨h1, h3, h4⟩, ⟨h2, h5, h6⟩⟩
    exact ⟨h1, h2, ⟨h3, h4⟩, h5, h6⟩
theorem absI_word {x : Int} (h : isI x = true) : 0 ≤ absI x ∧ absI x < 18446744073709551616 := by
  unfold isI at h
  rw [Bool.and_eq_true, decide_eq_true_iff, decide_eq_true_iff] at h
  unfold absI
  by_cases h0 : x < 0
  · rw [decide_eq_true h0]; simp only [cond_true]; omega
  · rw [decide_eq_false h0]; simp only [cond_false]; omega
theorem a48_ok (g : Bool) {n d L : Nat} {x y z w : Int} (hn : dlen n ≤ L) (hd : dlen d ≤ L) (hL : L ≤ 90000) (hx : RiQ x y) (hz : RiQ z w) (K : Bool → List (List AV) → List (List AV) → Option Res) :
    a48 g (dRw n) (dRw d) x y z w K (K g (dRw n) (dRw d)) = K (st48 g n d x y z w).1 (dRw (st48 g n d x y z w).2.1) (dRw (st48 g n d x y z w).2.2) := by
  have hxi := hx.i
  have hzi := hz.i
  have hxi2 := absI_word hxi
  have hzi2 := absI_word hzi
  have hy1 := hx.lo
  have hy2 := hx.hi
  have hw1 := hz.lo
  have hw2 := hz.hi
  have l1 := dlen_word hd hxi2.1 hxi2.2
  have l2 := dlen_word l1 hzi2.1 hzi2.2
  have m1 := dlen_word hn (x := y) (by omega) (by omega)
  have m2 := dlen_word m1 (x := w) (by omega) (by omega)
  have k1 := dlen_word hd (x := y) (by omega) (by omega)
  unfold a48 st48
  cases x == 0 with
  | true => rfl
  | false =>
    cases z == 0 with
    | true => rfl
    | false =>
      simp only [cond_false]
      rw [nN_on hxi, wU_in (by omega : 0 ≤ y) (by omega), wU_in (by omega : 0 ≤ w) (by omega)]
      rw [t72_on hd (by omega) hxi2.1 hxi2.2, nN_on hzi, t72_on l1 (by omega) hzi2.1 hzi2.2, t72_on hn (by omega) (by omega) (by omega), t72_on m1 (by omega) (by omega) (by omega), t72_on hd (by omega) (by omega) (by omega), t72_on k1 (by omega) (by omega) (by omega)]
      exact e48_ok g _ m2 l2 (by omega) K
theorem pl48_val (g s : Bool) (a b e : Nat) : sg (pl48 g s a b e).1 (pl48 g s a b e).2.1 = sg g a + sg s b ∧ (pl48 g s a b e).2.2 = e := by
  unfold pl48
  by_cases h0 : a = 0
  · subst h0
    refine ⟨?_, rfl⟩
    show sg s b = _
    unfold sg; cases g <;> cases s <;> simp
  · have e2 : Nat.beq a 0 = false := by rw [← Bool.not_eq_true, Nat.beq_eq]; exact h0
    rw [e2]
    cases hg : (g == s) with
    | true =>
      rw [beq_iff_eq] at hg
      subst hg
      refine ⟨?_, rfl⟩
      show sg g (a + b) = _
      unfold sg; cases g <;> simp <;> omega
    | false =>
      have hgs : s = !g := by revert hg; cases g <;> cases s <;> simp
      subst hgs
      by_cases hc : b ≤ a
      · rw [Nat.ble_eq_true_of_le hc]
        refine ⟨?_, rfl⟩
        show sg g (a - b) = _
        unfold sg; cases g <;> simp <;> omega
      · have e3 : Nat.ble b a = false := by rw [← Bool.not_eq_true]; intro h; exact hc (Nat.le_of_ble_eq_true h)
        rw [e3]
        refine ⟨?_, rfl⟩
        show sg (!g) (b - a) = _
        unfold sg; cases g <;> simp <;> omega
theorem pl48_len (g s : Bool) {a b e L : Nat} (ha : dlen a ≤ L) (hb : dlen b ≤ L) : dlen (pl48 g s a b e).2.1 ≤ L + 1 := by
  have h1 := dlen_add a b
  have h2 := dlen_mono (Nat.sub_le a b)
  have h3 := dlen_mono (Nat.sub_le b a)
  unfold pl48
  cases Nat.beq a 0 with
  | true => show dlen b ≤ _; omega
  | false => cases g == s with
    | true => show dlen (a + b) ≤ _; omega
    | false => cases Nat.ble b a with
      | true => show dlen (a - b) ≤ _; omega
      | false => show dlen (b - a) ≤ _; omega
theorem step_val (g : Bool) {n d : Nat} {x y z w : Int} (h1 : 1 ≤ d) (hx : RiQ x y) (hz : RiQ z w) :
    qq (sg (st48 g n d x y z w).1 (st48 g n d x y z w).2.1, ((st48 g n d x y z w).2.2 : Int)) = qq (sg g n, (d : Int)) + qq (x, y) * qq (z, w) ∧ 1 ≤ (st48 g n d x y z w).2.2 := by
  have hy1 := hx.lo
  have hw1 := hz.lo
  have e1 : ((y.toNat : Nat) : Int) = y := Int.toNat_of_nonneg (by omega)
  have e2 : ((w.toNat : Nat) : Int) = w := Int.toNat_of_nonneg (by omega)
  unfold st48
  by_cases hx0 : x = 0
  · have ex : (x == 0) = true := by rw [beq_iff_eq]; exact hx0
    rw [ex]
    refine ⟨?_, h1⟩
    show qq (sg g n, (d : Int)) = _
    rw [qzero hx0]; grind
  · have ex : (x == 0) = false := by rw [← Bool.not_eq_true, beq_iff_eq]; exact hx0
    by_cases hz0 : z = 0
    · have ez : (z == 0) = true := by rw [beq_iff_eq]; exact hz0
      rw [ex, ez]
      refine ⟨?_, h1⟩
      show qq (sg g n, (d : Int)) = _
      rw [qzero hz0]; grind
    · have ez : (z == 0) = false := by rw [← Bool.not_eq_true, beq_iff_eq]; exact hz0
      rw [ex, ez]
      have hv := pl48_val g (sgn2 x z) (n * y.toNat * w.toNat) (d * (absI x).toNat * (absI z).toNat) (d * y.toNat * w.toNat)
      simp only [cond_false]
      generalize pl48 g (sgn2 x z) (n * y.toNat * w.toNat) (d * (absI x).toNat * (absI z).toNat) (d * y.toNat * w.toNat) = r at hv ⊢
      rw [hv.1, hv.2, sg_abs]
      have e3 : sg g (n * y.toNat * w.toNat) = sg g n * (y * w) := by
        unfold sg
        cases g <;> simp only [cond_true, cond_false, Int.natCast_mul, e1, e2, Int.mul_assoc, Int.neg_mul]
      rw [e3, Int.natCast_mul, Int.natCast_mul, e1, e2]
      refine ⟨qstep (by omega) (by omega) (by omega), ?_⟩
      have := Nat.mul_pos (Nat.mul_pos (by omega : 0 < d) (by omega : 0 < y.toNat)) (by omega : 0 < w.toNat)
      omega
theorem step_len (g : Bool) {n d L : Nat} {x y z w : Int} (hn : dlen n ≤ L) (hd : dlen d ≤ L) (hx : RiQ x y) (hz : RiQ z w) :
    dlen (st48 g n d x y z w).2.1 ≤ L + 3 ∧ dlen (st48 g n d x y z w).2.2 ≤ L + 3 := by
  have hxi2 := absI_word hx.i
  have hzi2 := absI_word hz.i
  have hy1 := hx.lo
  have hy2 := hx.hi
  have hw1 := hz.lo
  have hw2 := hz.hi
  have l1 := dlen_word hd hxi2.1 hxi2.2
  have l2 := dlen_word l1 hzi2.1 hzi2.2
  have m1 := dlen_word hn (x := y) (by omega) (by omega)
  have m2 := dlen_word m1 (x := w) (by omega) (by omega)
  have k1 := dlen_word hd (x := y) (by omega) (by omega)
  have k2 := dlen_word k1 (x := w) (by omega) (by omega)
  have hp := pl48_len g (sgn2 x z) (e := d * y.toNat * w.toNat) m2 l2
  have hv := (pl48_val g (sgn2 x z) (n * y.toNat * w.toNat) (d * (absI x).toNat * (absI z).toNat) (d * y.toNat * w.toNat)).2
  unfold st48
  cases x == 0 with
  | true => show dlen n ≤ _ ∧ dlen d ≤ _; omega
  | false => cases z == 0 with
    | true => show dlen n ≤ _ ∧ dlen d ≤ _; omega
    | false =>
      simp only [cond_false]
      rw [hv]
      omega
inductive SumV : AObj → Rat → Nat → Prop
  | a {L : Nat} : SumV (bx false nl nl) 0 L
  | c {g : Bool} {n d L : Nat} : 1 ≤ d → dlen d ≤ L → dlen n ≤ L → SumV (bx g (slU (dRw n)) (slU (dRw d))) (qq (sg g n, (d : Int))) L
theorem dRw_one : dRw 1 = [[u64 1]] := by
  unfold dRw
  rw [digs_pos (by omega)]
  have : (1 : Nat) / 18446744073709551616 = 0 := rfl
  rw [this, digs_zero]; rfl
theorem dRw_ne {d : Nat} (h : 1 ≤ d) : (!(dRw d).isEmpty) = true := by
  unfold dRw
  rw [digs_pos (by omega)]; rfl
theorem dRw_nil : dRw 0 = [] := by unfold dRw; rw [digs_zero]; rfl
theorem dlen_one : dlen 1 ≤ 1 := dlen_le.2 (by omega)
theorem sg_zero (g : Bool) : sg g 0 = 0 := by cases g <;> rfl
theorem dlen_zero_le (L : Nat) : dlen 0 ≤ L := by rw [dlen_zero]; exact Nat.zero_le _
def bxN (r : Bool × Nat × Nat) : AObj := bx r.1 (slU (dRw r.2.1)) (slU (dRw r.2.2))
def okS (N D : List (List AV)) : Bool := (Nat.ble N.length 90000 && Nat.ble D.length 90000) && (isDR N && isDR D) && !D.isEmpty
def F48 : List AV → List AObj → Ab Res := fun args st => match args, st with
  | [.ptr 0 0, .agg [.k (.int .i64 x), .k (.int .i64 y)], .agg [.k (.int .i64 z), .k (.int .i64 w)]], [.box 90 [.k (.bool g), .sl 0 .nil [], .sl 0 .nil []]] => some (riB x y z w, (.tup [], [bxN (st48 g 0 1 x y z w)]))
  | [.ptr 0 0, .agg [.k (.int .i64 x), .k (.int .i64 y)], .agg [.k (.int .i64 z), .k (.int .i64 w)]], [.box 90 [.k (.bool g), .sl 93 .any N, .sl 93 .any D]] => some (okS N D && riB x y z w, (.tup [], [bxN (st48 g (valR N) (valR D) x y z w)]))
  | _, _ => none
theorem told48 (args : List AV) (st : List AObj) (r : Res) (h : F48 args st = some (true, r)) : ∃ k, ev N2 k 48 args st = some r := by
  unfold F48 at h
  split at h
  · rename_i x y z w g
    simp only [Option.some.injEq, Prod.mk.injEq] at h
    obtain ⟨h1, rfl⟩ := h
    rw [riB_iff] at h1
    refine ⟨0 + 1, (ev48a _ x y z w g).trans ?_⟩
    have h := a48_ok g (n := 0) (d := 1) (L := 1) (dlen_zero_le 1) dlen_one (by omega) h1.1 h1.2 (fun g n d => rbx (bx g (slU n) (slU d)))
    rw [dRw_nil, dRw_one] at h
    exact h
  · rename_i x y z w g N D
    simp only [Option.some.injEq, Prod.mk.injEq, Bool.and_eq_true] at h
    obtain ⟨⟨h0, h1⟩, rfl⟩ := h
    rw [riB_iff] at h1
    unfold okS at h0
    simp only [Bool.and_eq_true] at h0
    obtain ⟨⟨⟨hN, hD⟩, hn, hd⟩, he⟩ := h0
    obtain ⟨n, rfl, hn2⟩ := isDR_iff hn
    obtain ⟨d, rfl, hd2⟩ := isDR_iff hd
    have hN := Nat.le_of_ble_eq_true hN
    have hD := Nat.le_of_ble_eq_true hD
    rw [dRw_len] at hN hD
    refine ⟨0 + 1, (ev48c _ _ _ x y z w g).trans ?_⟩
    rw [nN_on he, valR_dRw, valR_dRw]
    exact a48_ok g (L := 90000) hN hD (by omega) h1.1 h1.2 (fun g n d => rbx (bx g (slU n) (slU d)))
  · cases h
def F49 : List AV → List AObj → Ab Res := fun args st => match args, st with
  | [.ptr 0 0], [.box 90 [.k (.bool g), .sl 0 .nil [], .sl 0 .nil []]] => some (true, (i64 0, [bx g nl nl]))
  | [.ptr 0 0], [.box 90 [.k (.bool g), .sl 93 .any N, .sl 93 .any D]] => some (true, (i64 (s49 g N), [bx g (slU N) (slU D)]))
  | _, _ => none
theorem told49 (args : List AV) (st : List AObj) (r : Res) (h : F49 args st = some (true, r)) : ∃ k, ev N2 k 49 args st = some r := by
  unfold F49 at h
  split at h
  · rename_i g
    simp only [Option.some.injEq, Prod.mk.injEq] at h
    obtain ⟨-, rfl⟩ := h
    exact ⟨0 + 1, (ev49a _ g).trans rfl⟩
  · rename_i g N D
    simp only [Option.some.injEq, Prod.mk.injEq] at h
    obtain ⟨-, rfl⟩ := h
    refine ⟨0 + 1, (ev49c _ N D g).trans ?_⟩
    unfold r49 s49
    cases ((N.length : Nat) : Int) == 0 with
    | true => rfl
    | false => cases g <;> rfl
  · cases h
theorem s49_val {g : Bool} {n d : Nat} (h1 : 1 ≤ d) : (s49 g (dRw n) = 0 ∧ qq (sg g n, (d : Int)) = 0) ∨ (s49 g (dRw n) = 1 ∧ 0 < qq (sg g n, (d : Int))) ∨ (s49 g (dRw n) = -1 ∧ qq (sg g n, (d : Int)) < 0) := by
  unfold s49
  rw [dRw_len]
  by_cases h0 : n = 0
  · subst h0
    rw [dlen_zero]
    exact .inl ⟨rfl, qzero (sg_zero g)⟩
  · have hd : dlen n ≠ 0 := by
      intro h
      have := (dlen_spec n).1
      rw [h, Nat.pow_zero] at this
      omega
    have e0 : (((dlen n : Nat) : Int) == 0) = false := by
      rw [← Bool.not_eq_true, beq_iff_eq]; omega
    rw [e0]
    cases g with
    | true => exact .inr (.inr ⟨rfl, qneg (by show -(n : Int) < 0; omega) (by omega)⟩)
    | false => exact .inr (.inl ⟨rfl, qpos (by show (0 : Int) < (n : Int); omega) (by omega)⟩)
end
end Go.Proofs.Ytgcdiccbehiijaa.W.U
namespace Go.Proofs.Ytgcdiccbehiijaa.W.U
open Go.Fw
set_option maxRecDepth 100000
noncomputable section
def sl42 (A : List (List AV)) : AV := .sl 42 .any A
def sys2 (F Rw : List (List AV)) : AV := .agg [.sl 4 .any F, .sl 44 .any Rw]
def rwA (Rw : List (List AV)) (i : Int) : List AV := Rw.getD i.toNat []
def cel (r : List AV) (j : Nat) : Int := (r.getD j .undef).toI
def ratO (r : List AV) : Int × Int := (cel r 0, cel r 1)
def rtsO (A : List (List AV)) : List (Int × Int) := A.map ratO
def okP (p : Int × Int) : Bool := isI p.1 && isI p.2
def riP (p : Int × Int) : Bool := rightB p.1 p.2
def formM (l : List (Int × Int)) : Int := bif l.all riP then 0 else 2
def okL (A : List (List AV)) : Bool := Nat.ble A.length 100000 && (rtsO A).all okP
def F41 : List AV → List AObj → Ab Res := fun args st => match args, st with
  | [.sl 42 .any A], [] => some (okL A, (i64 (formM (rtsO A)), []))
  | _, _ => none
section
variable (k : Nat) (F Rw X : List (List AV)) (R : St → Option Res) (l i : Int)
def σ41 (X : List (List AV)) (l i : Int) : St := ⟨tm 15 [(5, sl42 X), (6, i64 l), (7, i64 i)], [], []⟩
theorem b41 : ev N2 (k + 1) 41 [sl42 X] [] = loopAt N2 41 Try.f41 0 k [1,0,1,0] [] k (σ41 X (X.length : Nat) 0) := by kernel_rfl
theorem r41 : roundAt N2 41 Try.f41 0 k [1,0,1,0] [] R (σ41 X l i) = bif decide (i < l) then inR X i (nN (okP (ratO (rwA X i))) (bif !riP (ratO (rwA X i)) then r1 2 else R (σ41 X l (w64 (i + 1))))) else r1 0 := by kernel_rfl
end
noncomputable def N3 : FSys := N2.tell 41 F41
def coefs (r : List AV) : List (List AV) := (r.getD 0 .undef).rows
def leastR (r : List AV) : List AV := [i64 (cel r 1), i64 (cel r 2)]
def bxS (F Rw : List (List AV)) : AObj := .box 25 [.sl 4 .any F, .sl 44 .any Rw]
section
variable (k : Nat) (F Rw X : List (List AV)) (R : St → Option Res) (l i : Int)
def σ12 (F Rw : List (List AV)) (l i : Int) : St := ⟨tm 43 [(1, .ptr 0 0), (17, .sl 44 .any Rw), (18, i64 l), (19, i64 i)], [bxS F Rw], []⟩
theorem b12 : ev N3 (k + 1) 12 [sys2 F Rw] [] = bif decide (((F.length : Nat) : Int) > 32) then r1 6 else bif decide (((Rw.length : Nat) : Int) > 64) then r1 6 else loopAt N3 12 Try.f12 0 k [1,1,0,1,0] [] k (σ12 F Rw (Rw.length : Nat) 0) := by kernel_rfl
def ap12 (c : List (List AV)) (x : List AV) (K : List (List AV) → Option Res) : Option Res := nN (Nat.ble ((0 + c.length) * 16) 140737488355328) (nN (Nat.ble ((([] ++ c).length + [x].length) * 16) 140737488355328) (K ([] ++ c ++ [x])))
theorem r12 : roundAt N3 12 Try.f12 0 k [1,1,0,1,0] [] R (σ12 F Rw l i) = bif decide (i < l) then inR Rw i (bif (((coefs (rwA Rw i)).length : Nat) : Int) != ((F.length : Nat) : Int) then r1 4 else ap12 (coefs (rwA Rw i)) (leastR (rwA Rw i)) fun L => nN (okL L) (bif formM (rtsO L) != 0 then r1 (formM (rtsO L)) else R (σ12 F Rw l (w64 (i + 1))))) else r1 0 := by kernel_rfl
def σ9 (F Rw : List (List AV)) (i : Int) : St := ⟨tm 29 [(1, .ptr 0 0), (3, i64 i)], [bxS F Rw], []⟩
theorem b9 : ev N3 (k + 1) 9 [sys2 F Rw] [] = bif decide (((F.length : Nat) : Int) > 40) then some (.k (.bool true), []) else bif decide (((Rw.length : Nat) : Int) > 70) then some (.k (.bool true), []) else loopAt N3 9 Try.f9 0 k [1,1,0,1,0] [] k (σ9 F Rw 0) := by kernel_rfl
theorem r9 : roundAt N3 9 Try.f9 0 k [1,1,0,1,0] [] R (σ9 F Rw i) = bif decide (i < (Rw.length : Nat)) then inR Rw i (bif decide ((((coefs (rwA Rw i)).length : Nat) : Int) > 40) then some (.k (.bool true), []) else R (σ9 F Rw (w64 (i + 1)))) else some (.k (.bool false), []) := by kernel_rfl
end
end
end Go.Proofs.Ytgcdiccbehiijaa.W.U
namespace Go.Proofs.Ytgcdiccbehiijaa.W.U
open Go.Fw
set_option maxRecDepth 100000
noncomputable section
theorem rwA_nat {X : List (List AV)} {i : Nat} (h : i < X.length) : rwA X (i : Nat) = X[i] := by
  unfold rwA
  rw [Int.toNat_natCast]
  simp [List.getD, List.getElem?_eq_getElem h]
theorem map_drop {β : Type} (f : List AV → β) {X : List (List AV)} {i : Nat} (h : i < X.length) : (X.map f).drop i = f (rwA X (i : Nat)) :: (X.map f).drop (i + 1) := by
  rw [rwA_nat h, List.drop_eq_getElem_cons (by rw [List.length_map]; exact h), List.getElem_map]
theorem map_in {β : Type} (f : List AV → β) {X : List (List AV)} {i : Nat} (h : i < X.length) : f (rwA X (i : Nat)) ∈ X.map f := by
  rw [rwA_nat h]
  exact List.mem_map_of_mem (List.getElem_mem h)
theorem formM_cons (p : Int × Int) (l : List (Int × Int)) : formM (p :: l) = bif riP p then formM l else 2 := by
  unfold formM
  rw [List.all_cons]
  cases riP p <;> rfl
theorem told41 (args : List AV) (st : List AObj) (r : Res) (h : F41 args st = some (true, r)) : ∃ k, ev N2 k 41 args st = some r := by
  unfold F41 at h
  split at h
  · rename_i A
    simp only [Option.some.injEq, Prod.mk.injEq] at h
    obtain ⟨hA, rfl⟩ := h
    unfold okL at hA
    rw [Bool.and_eq_true] at hA
    have hl := Nat.le_of_ble_eq_true hA.1
    have hok : ∀ i, i < A.length → okP (ratO (rwA A (i : Nat))) = true := fun i hi => by
      have hA := hA.2
      rw [List.all_eq_true] at hA
      exact hA _ (map_in ratO hi)
    refine ⟨A.length + 1 + 1, (b41 _ _).trans ?_⟩
    have key := loop_up (S := N2) (f := 41) (fn := Try.f41) (m := 0) (k := A.length + 1) (p := [1,0,1,0]) (ms := []) (fun i => σ41 A ((A.length : Nat) : Int) ((i : Nat) : Int)) A.length (fun i => r1 (formM ((rtsO A).drop i)))
      (fun i hi R hR => by
        refine (r41 _ A R _ _).trans ?_
        rw [decide_eq_true (by omega : ((i : Nat) : Int) < ((A.length : Nat) : Int)), inR_on hi, nN_on (hok i hi)]
        rw [w64_suc (by omega)]
        unfold rtsO at hR ⊢
        rw [map_drop ratO hi, formM_cons]
        cases riP (ratO (rwA A (i : Nat))) with
        | false => rfl
        | true => exact hR)
      (fun R => by
        refine (r41 _ A R _ _).trans ?_
        rw [decide_eq_false (by omega : ¬ ((A.length : Nat) : Int) < ((A.length : Nat) : Int))]
        have : (rtsO A).drop A.length = [] := by unfold rtsO; rw [List.drop_eq_nil_of_le (by rw [List.length_map]; exact Nat.le_refl _)]
        rw [this]; rfl)
      (A.length + 1) 0 (Nat.zero_le _) (by omega)
    exact key
  · cases h
structure RowM where
  c : List (Int × Int)
  l : Int × Int
def rowO (r : List AV) : RowM := ⟨rtsO (coefs r), (cel r 1, cel r 2)⟩
def chkR (n : Nat) : List RowM → Int
  | [] => 0
  | r :: rs => bif Nat.beq r.c.length n then (bif (r.c ++ [r.l]).all riP then chkR n rs else 2) else 4
def chkM (n : Nat) (rs : List RowM) : Int := bif Nat.ble n 32 then (bif Nat.ble rs.length 64 then chkR n rs else 6) else 6
def okRow (r : RowM) : Bool := okP r.l && r.c.all okP
def F12 : List AV → List AObj → Ab Res := fun args st => match args, st with
  | [.agg [.sl 4 .any F, .sl 44 .any Rw]], [] => some ((Rw.map rowO).all okRow, (i64 (chkM F.length (Rw.map rowO)), []))
  | _, _ => none
theorem ap12_eq {n : Nat} (hn : n ≤ 40) (c : List (List AV)) (x : List AV) (h : c.length = n) (K : List (List AV) → Option Res) : ap12 c x K = K (c ++ [x]) := by
  unfold ap12
  have e1 : Nat.ble ((0 + c.length) * 16) 140737488355328 = true := Nat.ble_eq_true_of_le (by omega)
  have e2 : Nat.ble ((([] ++ c).length + [x].length) * 16) 140737488355328 = true := Nat.ble_eq_true_of_le (by
    have : [x].length = 1 := rfl
    rw [this, List.nil_append]; omega)
  rw [e1, e2]; rfl
theorem rts_app (c : List (List AV)) (r : List AV) : rtsO (c ++ [leastR r]) = rtsO c ++ [(cel r 1, cel r 2)] := by
  unfold rtsO
  rw [List.map_append]; rfl
theorem told12 (args : List AV) (st : List AObj) (r : Res) (h : F12 args st = some (true, r)) : ∃ k, ev N3 k 12 args st = some r := by
  unfold F12 at h
  split at h
  · rename_i F Rw
    simp only [Option.some.injEq, Prod.mk.injEq] at h
    obtain ⟨hR, rfl⟩ := h
    refine ⟨65 + 1, (b12 _ _ _).trans ?_⟩
    unfold chkM
    by_cases hn : F.length ≤ 32
    · rw [decide_eq_false (by omega : ¬ ((F.length : Nat) : Int) > 32), Nat.ble_eq_true_of_le hn]
      by_cases hm : Rw.length ≤ 64
      · rw [decide_eq_false (by omega : ¬ ((Rw.length : Nat) : Int) > 64), Nat.ble_eq_true_of_le (by rw [List.length_map]; exact hm)]
        have key := loop_up (S := N3) (f := 12) (fn := Try.f12) (m := 0) (k := 65) (p := [1,1,0,1,0]) (ms := []) (fun i => σ12 F Rw ((Rw.length : Nat) : Int) ((i : Nat) : Int)) Rw.length (fun i => r1 (chkR F.length ((Rw.map rowO).drop i)))
          (fun i hi R hRR => by
            refine (r12 _ F Rw R _ _).trans ?_
            rw [decide_eq_true (by omega : ((i : Nat) : Int) < ((Rw.length : Nat) : Int)), inR_on hi, map_drop rowO hi]
            have hrow : okRow (rowO (rwA Rw (i : Nat))) = true := by
              rw [List.all_eq_true] at hR
              exact hR _ (map_in rowO hi)
            generalize rwA Rw (i : Nat) = row at *
            have el : (rowO row).c.length = (coefs row).length := by unfold rowO rtsO; rw [List.length_map]
            unfold chkR
            rw [el]
            by_cases hc : (coefs row).length = F.length
            · have e1 : ((((coefs row).length : Nat) : Int) != ((F.length : Nat) : Int)) = false := by rw [hc]; simp
              have e2 : Nat.beq (coefs row).length F.length = true := by rw [hc]; exact Nat.beq_refl _
              rw [e1, e2, ap12_eq (by omega) _ _ hc]
              have e3 : rtsO (coefs row ++ [leastR row]) = (rowO row).c ++ [(rowO row).l] := rts_app _ _
              have e4 : okL (coefs row ++ [leastR row]) = true := by
                unfold okL
                rw [e3, Nat.ble_eq_true_of_le (by rw [List.length_append]; have : [leastR row].length = 1 := rfl; omega)]
                unfold okRow at hrow
                rw [Bool.and_eq_true] at hrow
                rw [List.all_append, hrow.2]
                show (true && (true && (okP (rowO row).l && true))) = true
                rw [hrow.1]; rfl
              rw [e4, e3, w64_suc (by omega)]
              unfold formM
              cases ((rowO row).c ++ [(rowO row).l]).all riP with
              | false => rfl
              | true => exact hRR
            · have e1 : ((((coefs row).length : Nat) : Int) != ((F.length : Nat) : Int)) = true := by
                rw [bne_iff_ne]; omega
              have e2 : Nat.beq (coefs row).length F.length = false := by rw [← Bool.not_eq_true, Nat.beq_eq]; exact hc
              rw [e1, e2]; rfl)
          (fun R => by
            refine (r12 _ F Rw R _ _).trans ?_
            rw [decide_eq_false (by omega : ¬ ((Rw.length : Nat) : Int) < ((Rw.length : Nat) : Int))]
            have : (Rw.map rowO).drop Rw.length = [] := by rw [List.drop_eq_nil_of_le (by rw [List.length_map]; exact Nat.le_refl _)]
            rw [this]; rfl)
          65 0 (Nat.zero_le _) (by omega)
        exact key
      · rw [decide_eq_true (by omega : ((Rw.length : Nat) : Int) > 64)]
        have : Nat.ble (Rw.map rowO).length 64 = false := by rw [List.length_map, ← Bool.not_eq_true]; intro h; exact hm (Nat.le_of_ble_eq_true h)
        rw [this]; rfl
    · rw [decide_eq_true (by omega : ((F.length : Nat) : Int) > 32)]
      have : Nat.ble F.length 32 = false := by rw [← Bool.not_eq_true]; intro h; exact hn (Nat.le_of_ble_eq_true h)
      rw [this]; rfl
  · cases h
end
end Go.Proofs.Ytgcdiccbehiijaa.W.U
namespace Go.Proofs.Ytgcdiccbehiijaa.W.U
open Go.Fw
set_option maxRecDepth 100000
noncomputable section
def lrgR : List RowM → Bool
  | [] => false
  | r :: rs => bif Nat.ble r.c.length 40 then lrgR rs else true
def largeM (n : Nat) (rs : List RowM) : Bool := bif Nat.ble n 40 then (bif Nat.ble rs.length 70 then lrgR rs else true) else true
def F9 : List AV → List AObj → Ab Res := fun args st => match args, st with
  | [.agg [.sl 4 .any F, .sl 44 .any Rw]], [] => some (true, (.k (.bool (largeM F.length (Rw.map rowO))), []))
  | _, _ => none
theorem nble_false {a b : Nat} (h : ¬ a ≤ b) : Nat.ble a b = false := by
  rw [← Bool.not_eq_true]; intro h2; exact h (Nat.le_of_ble_eq_true h2)
theorem largeM_in {n : Nat} {rs : List RowM} (h : n ≤ 40) (h2 : rs.length ≤ 70) : largeM n rs = lrgR rs := by
  unfold largeM
  rw [Nat.ble_eq_true_of_le h, Nat.ble_eq_true_of_le h2]; rfl
theorem largeM_one {n : Nat} {rs : List RowM} (h : ¬ n ≤ 40) : largeM n rs = true := by
  unfold largeM
  rw [nble_false h]; rfl
theorem largeM_two {n : Nat} {rs : List RowM} (h : ¬ rs.length ≤ 70) : largeM n rs = true := by
  unfold largeM
  rw [nble_false h]
  cases Nat.ble n 40 <;> rfl
theorem ff2 {α : Type} {A B X Y : α} (h : X = Y) : (bif false then A else bif false then B else X) = Y := h
theorem rowO_len (r : List AV) : (rowO r).c.length = (coefs r).length := by unfold rowO rtsO; rw [List.length_map]
theorem told9 (args : List AV) (st : List AObj) (r : Res) (h : F9 args st = some (true, r)) : ∃ k, ev N3 k 9 args st = some r := by
  unfold F9 at h
  split at h
  · rename_i F Rw
    simp only [Option.some.injEq, Prod.mk.injEq] at h
    obtain ⟨-, rfl⟩ := h
    refine ⟨71 + 1, (b9 _ _ _).trans ?_⟩
    by_cases hn : F.length ≤ 40
    · rw [decide_eq_false (by omega : ¬ ((F.length : Nat) : Int) > 40)]
      by_cases hm : Rw.length ≤ 70
      · rw [decide_eq_false (by omega : ¬ ((Rw.length : Nat) : Int) > 70), largeM_in hn (by rw [List.length_map]; exact hm)]
        have key := loop_up (S := N3) (f := 9) (fn := Try.f9) (m := 0) (k := 71) (p := [1,1,0,1,0]) (ms := []) (fun i => σ9 F Rw ((i : Nat) : Int)) Rw.length (fun i => some (.k (.bool (lrgR ((Rw.map rowO).drop i))), []))
          (fun i hi R hR => by
            refine (r9 _ F Rw R _).trans ?_
            rw [decide_eq_true (by omega : ((i : Nat) : Int) < ((Rw.length : Nat) : Int)), inR_on hi, map_drop rowO hi]
            generalize rwA Rw (i : Nat) = row at *
            unfold lrgR
            rw [rowO_len, w64_suc (by omega)]
            by_cases hc : (coefs row).length ≤ 40
            · rw [Nat.ble_eq_true_of_le hc, decide_eq_false (by omega : ¬ (((coefs row).length : Nat) : Int) > 40)]
              exact hR
            · rw [nble_false hc, decide_eq_true (by omega : (((coefs row).length : Nat) : Int) > 40)]; rfl)
          (fun R => by
            refine (r9 _ F Rw R _).trans ?_
            rw [decide_eq_false (by omega : ¬ ((Rw.length : Nat) : Int) < ((Rw.length : Nat) : Int))]
            have : (Rw.map rowO).drop Rw.length = [] := by rw [List.drop_eq_nil_of_le (by rw [List.length_map]; exact Nat.le_refl _)]
            rw [this]; rfl)
          71 0 (Nat.zero_le _) (by omega)
        exact ff2 (key.trans (congrArg (fun l => some (AV.k (.bool (lrgR l)), [])) List.drop_zero))
      · rw [decide_eq_true (by omega : ((Rw.length : Nat) : Int) > 70), largeM_two (by rw [List.length_map]; exact hm)]; rfl
    · rw [decide_eq_true (by omega : ((F.length : Nat) : Int) > 40), largeM_one hn]; rfl
  · cases h
noncomputable def N4 : FSys := (N3.tell 12 F12).tell 9 F9
theorem N3Ok (h : SysOk Try.prog sysC3) : SysOk Try.prog N3 := (N2Ok h).tell 41 _ told41
theorem N4Ok (h : SysOk Try.prog sysC3) : SysOk Try.prog N4 := SysOk.tellMore ((N3Ok h).tell 12 _ told12) ((N3Ok h).tell 9 _ told9) rfl rfl
end
end Go.Proofs.Ytgcdiccbehiijaa.W.U
namespace Go.Proofs.Ytgcdiccbehiijaa.W.U
open Go.Fw
set_option maxRecDepth 100000
noncomputable section
def askM (n : Nat) (rs : List RowM) (l : List (Int × Int)) (m : Int) : Int := bif chkM n rs != 0 then chkM n rs else bif ((l.length : Nat) : Int) != m then 4 else formM l
theorem ev47 (k : Nat) (F Rw X : List (List AV)) (n : Int) : ev N4 (k + 2) 47 [sys2 F Rw, sl42 X, i64 n] [] = nN ((Rw.map rowO).all okRow) (bif chkM F.length (Rw.map rowO) != 0 then r1 (chkM F.length (Rw.map rowO)) else bif ((X.length : Nat) : Int) != n then r1 4 else nN (okL X) (r1 (formM (rtsO X)))) := by kernel_rfl
def F47 : List AV → List AObj → Ab Res := fun args st => match args, st with
  | [.agg [.sl 4 .any F, .sl 44 .any Rw], .sl 42 .any X, .k (.int .i64 n)], [] => some ((Rw.map rowO).all okRow && okL X, (i64 (askM F.length (Rw.map rowO) (rtsO X) n), []))
  | _, _ => none
theorem told47 (args : List AV) (st : List AObj) (r : Res) (h : F47 args st = some (true, r)) : ∃ k, ev N4 k 47 args st = some r := by
  unfold F47 at h
  split at h
  · rename_i F Rw X n
    simp only [Option.some.injEq, Prod.mk.injEq, Bool.and_eq_true] at h
    obtain ⟨⟨h1, h2⟩, rfl⟩ := h
    refine ⟨0 + 2, (ev47 _ _ _ _ _).trans ?_⟩
    rw [nN_on h1, nN_on h2]
    unfold askM
    have e : (rtsO X).length = X.length := by unfold rtsO; rw [List.length_map]
    rw [e]
    cases chkM F.length (Rw.map rowO) != 0 with
    | true => rfl
    | false => cases ((X.length : Nat) : Int) != n <;> rfl
  · cases h
noncomputable def N5 : FSys := ((N4.tell 47 F47).tell 48 F48).tell 49 F49
theorem N5Ok (h : SysOk Try.prog sysC3) : SysOk Try.prog N5 := SysOk.tellMore (SysOk.tellMore ((N4Ok h).tell 47 _ told47) ((N2Ok h).tell 48 _ told48) rfl rfl) ((N2Ok h).tell 49 _ told49) rfl rfl
end
end Go.Proofs.Ytgcdiccbehiijaa.W.U
