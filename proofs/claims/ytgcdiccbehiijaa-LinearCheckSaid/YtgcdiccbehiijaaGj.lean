/- A part of the proofs over these laws: what its functions come to. No conditions. -/
import Derived.Test.YtgcdiccbehiijaaGi
import Derived.Test.YtgcdiccbehiijaaGe
import Derived.Test.YtgcdiccbehiijaaGf
set_option linter.all false
namespace Go.Proofs.Ytgcdiccbehiijaa.W.V
open Go.Fw U
set_option maxRecDepth 100000
noncomputable section
def dS (A B : List (List AV)) : Bool × Nat × Nat := dotS A B A.length
def S14 (r : Bool × Nat × Nat) (u v : Int) : Bool := aS r.1 (W.dRw r.2.1) false (W.dRw r.2.2) (decide (u < 0)) (W.dRw u.natAbs) (decide (v < 0)) (W.dRw v.natAbs)
def N14 (r : Bool × Nat × Nat) (u v : Int) : List (List AV) := aN r.1 (W.dRw r.2.1) false (W.dRw r.2.2) (decide (u < 0)) (W.dRw u.natAbs) (decide (v < 0)) (W.dRw v.natAbs)
def g14 (r : Bool × Nat × Nat) (u v : Int) : Int := sgN (S14 r u v) (W.valR (N14 r u v))
def g17 (r : Bool × Nat × Nat) : Int := sgN r.1 (W.valR (W.dRw r.2.1))
def P14b : List Nat := [1,1,1,1,0,1,0]
def σ14a (F Rw X : List (List AV)) (ok : Bool) (i : Int) : St := ⟨tm 86 [(1, sl52 X), (2, .ptr 0 0), (7, .k (.bool ok)), (8, i64 i)], [bx37 F Rw], []⟩
def σ14b (F Rw X : List (List AV)) (ok : Bool) (i : Int) : St := ⟨tm 86 [(1, sl52 X), (2, .ptr 0 0), (7, .k (.bool ok)), (9, i64 i)], [bx37 F Rw], []⟩
def lo14 (k n : Nat) (F Rw X : List (List AV)) (ok : Bool) (i : Int) : Option Res := loopAt S5 14 Try.f14 0 k P14b [] n (σ14b F Rw X ok i)
def in14 (C : List (List AV)) (u v : Int) (e ok : Bool) (X : List (List AV)) (K : Bool → Option Res) : Option Res :=
  nN (okD C X) (nN (c46 u v) (nN (c44 (W.dRw (dS C X).2.1) (W.dRw (dS C X).2.2) (W.dRw u.natAbs) (W.dRw v.natAbs)) (nN (W.isDR (N14 (dS C X) u v))
    (bif ok then (bif decide (g14 (dS C X) u v ≥ 0) then (bif !e then K true else K (g14 (dS C X) u v == 0)) else K false) else K false))))
section
variable (k m : Nat) (F Rw X O O2 : List (List AV)) (R : St → Option Res) (i j : Int) (ok : Bool)
theorem b14 : ev S5 (k + 1) 14 [sys3 F Rw, sl52 X] [] = nN ((Rw.map rowO).all okRow && okL X) (bif askM F.length (Rw.map rowO) (rtsO X) (F.length : Nat) != 0 then rE (askM F.length (Rw.map rowO) (rtsO X) (F.length : Nat)) else loopAt S5 14 Try.f14 0 k P42 [] k (σ14a F Rw X true 0)) := by kernel_rfl
theorem ra14 : roundAt S5 14 Try.f14 0 k P42 [] R (σ14a F Rw X ok i) = bif decide (i < (X.length : Nat)) then (bif ok then inR F i (bif bB F i then R (σ14a F Rw X true (w64 (i + 1))) else inR X i (R (σ14a F Rw X (decide (nI X i ≥ 0)) (w64 (i + 1))))) else R (σ14a F Rw X false (w64 (i + 1)))) else lo14 k k F Rw X ok 0 := by kernel_rfl
theorem rb14 : roundAt S5 14 Try.f14 0 k P14b [] R (σ14b F Rw X ok i) = bif decide (i < (Rw.length : Nat)) then inR Rw i (in14 (coefs (rwA Rw i)) (w64 (0 - cel (rwA Rw i) 1)) (cel (rwA Rw i) 2) (eqO (rwA Rw i)) ok X fun o => R (σ14b F Rw X o (w64 (i + 1)))) else rB ok := by kernel_rfl
def P17b : List Nat := [1,1,1,1,1,0,1,0]
def P17c : List Nat := [1,1,1,1,1,0,1,0,0,1,0,0,1,0,1,0]
def σ17a (F Rw X : List (List AV)) (kd : SK) (O : List (List AV)) (ok : Bool) (i : Int) : St := ⟨tm 114 [(1, sl52 X), (2, .ptr 0 0), (7, .k (.bool ok)), (8, .sr 1), (9, i64 i)], [bx37 F Rw, .arr 52 kd O], []⟩
def σ17b (F Rw X : List (List AV)) (kd : SK) (O : List (List AV)) (ok : Bool) (i : Int) : St := ⟨tm 114 [(1, sl52 X), (2, .ptr 0 0), (7, .k (.bool ok)), (8, .sr 1), (10, i64 i)], [bx37 F Rw, .arr 52 kd O], []⟩
def σ17c (F Rw X : List (List AV)) (kd : SK) (O : List (List AV)) (ok : Bool) (i : Int) (kd2 : SK) (O2 : List (List AV)) (j : Int) : St := ⟨tm 114 [(1, sl52 X), (2, .ptr 0 0), (7, .k (.bool ok)), (8, .sr 1), (10, i64 i), (11, .sr 2), (12, i64 j)], [bx37 F Rw, .arr 52 kd O, .arr 52 kd2 O2], []⟩
def lo17 (k n : Nat) (F Rw X : List (List AV)) (kd : SK) (O : List (List AV)) (ok : Bool) (i : Int) : Option Res := loopAt S5 17 Try.f17 0 k P17b [] n (σ17b F Rw X kd O ok i)
def li17 (k m n : Nat) (F Rw X : List (List AV)) (kd : SK) (O : List (List AV)) (ok : Bool) (i : Int) (kd2 : SK) (O2 : List (List AV)) (j : Int) : Option Res := loopAt S5 17 Try.f17 0 k P17c [m] n (σ17c F Rw X kd O ok i kd2 O2 j)
def lsR (r : List AV) : List AV := [i64 (cel r 1), i64 (cel r 2)]
def ap52 (O : List (List AV)) (x : List AV) (A : Option Res) : Option Res := nN (Nat.ble ((O.length + [x].length) * 16) 140737488355328) A
def in17a (F Rw X O : List (List AV)) (kd : SK) (k : Nat) (ok : Bool) (i : Int) (C : Bool → Option Res) : Option Res :=
  bif decide (i < (X.length : Nat)) then (bif ok then inR Rw i (bif eqO (rwA Rw i) then inR Rw i (C true) else inR X i (inR Rw i (C (decide (nI X i ≥ 0))))) else inR Rw i (C false)) else lo17 k k F Rw X kd O ok 0
def in17c (F O2 X : List (List AV)) (ok : Bool) (i : Int) (K : Bool → Option Res) : Option Res :=
  nN (okD O2 X) (nN (W.isDR (W.dRw (dS O2 X).2.1)) (bif ok then (bif decide (g17 (dS O2 X) ≤ 0) then inR F i (bif !bB F i then K true else K (g17 (dS O2 X) == 0)) else K false) else K false))
def cl17 (Rw : List (List AV)) (i j : Int) : List AV := cpR (rwA (coefs (rwA Rw j)) i)
theorem b17 : ev S5 (k + 1) 17 [sys3 F Rw, sl52 X] [] = nN ((Rw.map rowO).all okRow && okL X) (bif askM F.length (Rw.map rowO) (rtsO X) (Rw.length : Nat) != 0 then rE (askM F.length (Rw.map rowO) (rtsO X) (Rw.length : Nat)) else loopAt S5 17 Try.f17 0 k P14b [] k (σ17a F Rw X .full [] true 0)) := by kernel_rfl
theorem ra17a : roundAt S5 17 Try.f17 0 k P14b [] R (σ17a F Rw X .full [] ok 0) = in17a F Rw X [] .full k ok 0 fun o => R (σ17a F Rw X .fresh [lsR (rwA Rw 0)] o 1) := by kernel_rfl
theorem ra17b : roundAt S5 17 Try.f17 0 k P14b [] R (σ17a F Rw X .fresh O ok i) = in17a F Rw X O .fresh k ok i fun o => ap52 O (lsR (rwA Rw i)) (R (σ17a F Rw X .wide (O ++ [lsR (rwA Rw i)]) o (w64 (i + 1)))) := by kernel_rfl
theorem ra17c : roundAt S5 17 Try.f17 0 k P14b [] R (σ17a F Rw X .wide O ok i) = in17a F Rw X O .wide k ok i fun o => ap52 O (lsR (rwA Rw i)) (R (σ17a F Rw X .wide (O ++ [lsR (rwA Rw i)]) o (w64 (i + 1)))) := by kernel_rfl
theorem rb17 (kd : SK) (hk : kd = .full ∨ kd = .fresh ∨ kd = .wide) : roundAt S5 17 Try.f17 0 k P17b [] (loopAt S5 17 Try.f17 0 k P17b [] m) (σ17b F Rw X kd O ok i) = bif decide (i < (F.length : Nat)) then li17 k m k F Rw X kd O ok i .full [] 0 else bif ok then nN (okD O X) (nN (W.isDR (W.dRw (dS O X).2.1)) (rB (decide (g17 (dS O X) > 0)))) else rB false := by
  rcases hk with rfl | rfl | rfl
  · kernel_rfl
  · kernel_rfl
  · kernel_rfl
theorem rc17a (kd : SK) (hk : kd = .full ∨ kd = .fresh ∨ kd = .wide) : roundAt S5 17 Try.f17 0 k P17c [m] R (σ17c F Rw X kd O ok i .full [] 0) = bif decide ((0 : Int) < (Rw.length : Nat)) then inR Rw 0 (inR (coefs (rwA Rw 0)) i (R (σ17c F Rw X kd O ok i .fresh [cl17 Rw i 0] 1))) else in17c F [] X ok i fun o => lo17 k m F Rw X kd O o (w64 (i + 1)) := by
  rcases hk with rfl | rfl | rfl
  · kernel_rfl
  · kernel_rfl
  · kernel_rfl
def inC17 (k m : Nat) (F Rw X : List (List AV)) (kd : SK) (O : List (List AV)) (ok : Bool) (i : Int) (O2 : List (List AV)) (j : Int) (R : St → Option Res) : Option Res :=
  bif decide (j < (Rw.length : Nat)) then inR Rw j (inR (coefs (rwA Rw j)) i (ap52 O2 (cl17 Rw i j) (R (σ17c F Rw X kd O ok i .wide (O2 ++ [cl17 Rw i j]) (w64 (j + 1)))))) else in17c F O2 X ok i fun o => lo17 k m F Rw X kd O o (w64 (i + 1))
theorem rc17b (kd : SK) (hk : kd = .full ∨ kd = .fresh ∨ kd = .wide) : roundAt S5 17 Try.f17 0 k P17c [m] R (σ17c F Rw X kd O ok i .fresh O2 j) = inC17 k m F Rw X kd O ok i O2 j R := by
  rcases hk with rfl | rfl | rfl
  · kernel_rfl
  · kernel_rfl
  · kernel_rfl
theorem rc17c (kd : SK) (hk : kd = .full ∨ kd = .fresh ∨ kd = .wide) : roundAt S5 17 Try.f17 0 k P17c [m] R (σ17c F Rw X kd O ok i .wide O2 j) = inC17 k m F Rw X kd O ok i O2 j R := by
  rcases hk with rfl | rfl | rfl
  · kernel_rfl
  · kernel_rfl
  · kernel_rfl
end
end
end Go.Proofs.Ytgcdiccbehiijaa.W.V
namespace Go.Proofs.Ytgcdiccbehiijaa.W.V
open Go.Fw U
set_option maxRecDepth 100000
noncomputable section
theorem sgN_val {s : Bool} {n : Nat} {d : Int} (hd : 0 < d) : SgnOf (sgN s n) (qq (sv s n, d)) := by
  unfold sgN
  by_cases h0 : n = 0
  · subst h0
    exact .inl ⟨rfl, qzero (by cases s <;> rfl)⟩
  · have e2 : Nat.beq n 0 = false := by rw [← Bool.not_eq_true, Nat.beq_eq]; exact h0
    rw [e2]
    cases s with
    | true => exact .inr (.inr ⟨rfl, qneg (by show -(n : Int) < 0; omega) hd⟩)
    | false => exact .inr (.inl ⟨rfl, qpos (by show (0 : Int) < (n : Int); omega) hd⟩)
theorem g17_val {r : Bool × Nat × Nat} {q : Rat} {L : Nat} (h : GoodD r q L) : SgnOf (g17 r) q := by
  unfold g17
  rw [W.valR_dRw, ← h.val]
  exact sgN_val (by have := h.pos; omega)
theorem neg_ri {u v : Int} (h : RiP (u, v)) (h2 : riP (u, v) = true) : w64 (0 - u) = -u ∧ RiQ (-u) v := by
  have h3 := h.lo
  have h4 := h.hi
  unfold riP rightB at h2
  simp only [Bool.and_eq_true, decide_eq_true_iff] at h2
  obtain ⟨-, -, h5, h6, -⟩ := h2
  have e : w64 (0 - u) = -u := by rw [w64_in] <;> omega
  refine ⟨e, ?_, h3, h4⟩
  unfold isI
  rw [Bool.and_eq_true, decide_eq_true_iff, decide_eq_true_iff]; omega
theorem nf3 (s : Bool) : (!(s == false)) = s := by cases s <;> rfl
theorem N14_eq {r : Bool × Nat × Nat} {u v : Int} (hv : 1 ≤ v) : S14 r u v = sgS r.1 (r.2.1 * v.natAbs) (decide (u < 0)) (u.natAbs * r.2.2) ∧ N14 r u v = W.dRw (vlS r.1 (r.2.1 * v.natAbs) (decide (u < 0)) (u.natAbs * r.2.2)) := by
  unfold S14 N14 aS aN
  rw [decide_eq_false (by omega : ¬ v < 0), nf3, nf3, W.valR_dRw, W.valR_dRw, W.valR_dRw, W.valR_dRw]
  exact ⟨rfl, rfl⟩
theorem g14_val {r : Bool × Nat × Nat} {q : Rat} {L : Nat} (h : GoodD r q L) {u v : Int} (hv : 1 ≤ v) : SgnOf (g14 r u v) (q + qq (u, v)) := by
  unfold g14
  obtain ⟨e1, e2⟩ := N14_eq (r := r) (u := u) hv
  rw [e1, e2, W.valR_dRw]
  have hp := h.pos
  have hs := sgN_val (s := sgS r.1 (r.2.1 * v.natAbs) (decide (u < 0)) (u.natAbs * r.2.2)) (n := vlS r.1 (r.2.1 * v.natAbs) (decide (u < 0)) (u.natAbs * r.2.2)) (d := (r.2.2 : Int) * v * 1) (by
    have := Int.mul_pos (by omega : 0 < (r.2.2 : Int)) (by omega : 0 < v)
    omega)
  have e3 : ((v.natAbs : Nat) : Int) = v := by omega
  have hq : qq (sv (sgS r.1 (r.2.1 * v.natAbs) (decide (u < 0)) (u.natAbs * r.2.2)) (vlS r.1 (r.2.1 * v.natAbs) (decide (u < 0)) (u.natAbs * r.2.2)), (r.2.2 : Int) * v * 1) = q + qq (u, v) := by
    rw [sv_sum, sv_mul, sv_mul, sv_abs, e3, ← h.val]
    have := qstep (a := sv r.1 r.2.1) (d := (r.2.2 : Int)) (x := u) (y := v) (z := 1) (w := 1) (by omega) (by omega) (by omega)
    have e4 : qq (1, 1) = 1 := by unfold qq; grind
    rw [e4, Int.mul_one, Int.mul_one] at this
    rw [Int.mul_comm u]
    have e5 : qq (u, v) * 1 = qq (u, v) := by grind
    rw [e5] at this
    exact this
  rw [hq] at hs
  exact hs
theorem geK {s : Int} {q : Rat} (h : SgnOf s q) (ok e : Bool) (K : Bool → Option Res) : (bif ok then (bif decide (s ≥ 0) then (bif !e then K true else K (s == 0)) else K false) else K false) = K (ok && geB e q) := by
  cases ok with
  | false => rfl
  | true =>
    have hg : ∀ A B : Option Res, _ := geB_of (e := e) h
    rcases h with ⟨rfl, hq⟩ | ⟨rfl, hq⟩ | ⟨rfl, hq⟩
    · have : geB e q = true := by rw [geB_iff]; subst hq; exact ⟨Rat.le_refl, fun _ => rfl⟩
      rw [this]; cases e <;> rfl
    · cases e with
      | true =>
        have : geB true q = false := by
          rw [← Bool.not_eq_true, geB_iff]; rintro ⟨-, h⟩
          have := h rfl
          grind
        rw [this]; rfl
      | false =>
        have : geB false q = true := by rw [geB_iff]; exact ⟨by grind, fun h => by cases h⟩
        rw [this]; rfl
    · have : geB e q = false := by
        rw [← Bool.not_eq_true, geB_iff]; rintro ⟨h, -⟩
        grind
      rw [this]; rfl
theorem leK {s : Int} {q : Rat} (h : SgnOf s q) (ok e : Bool) (K : Bool → Option Res) : (bif ok then (bif decide (s ≤ 0) then (bif !e then K true else K (s == 0)) else K false) else K false) = K (ok && leB e q) := by
  cases ok with
  | false => rfl
  | true =>
    rcases h with ⟨rfl, hq⟩ | ⟨rfl, hq⟩ | ⟨rfl, hq⟩
    · have : leB e q = true := by rw [leB_iff]; subst hq; exact ⟨Rat.le_refl, fun _ => rfl⟩
      rw [this]; cases e <;> rfl
    · have : leB e q = false := by
        rw [← Bool.not_eq_true, leB_iff]; rintro ⟨h, -⟩
        grind
      rw [this]; rfl
    · cases e with
      | true =>
        have : leB true q = false := by
          rw [← Bool.not_eq_true, leB_iff]; rintro ⟨-, h⟩
          have := h rfl
          grind
        rw [this]; rfl
      | false =>
        have : leB false q = true := by rw [leB_iff]; exact ⟨by grind, fun h => by cases h⟩
        rw [this]; rfl
theorem in14_on {C X : List (List AV)} (h : OkD C X) {u v : Int} (hl : RiQ u v) (e ok : Bool) (K : Bool → Option Res) :
    in14 C u v e ok X K = K (ok && geB e (sumR (fun i => qq (xP C i) * qq (xP X i)) C.length + qq (u, v))) := by
  have hg : GoodD (dS C X) (sumR (fun i => qq (xP C i) * qq (xP X i)) C.length) (1 + 11 * C.length) := dotS_good h C.length (Nat.le_refl _)
  have la := h.la
  have l1 := hg.l1
  have l2 := hg.l2
  have d5 := den5 hl
  have hN : W.isDR (N14 (dS C X) u v) = true := by
    rw [(N14_eq hl.lo).2]
    have k1 := W.dlen_mul (dS C X).2.1 v.natAbs
    have k2 := W.dlen_mul u.natAbs (dS C X).2.2
    have k3 := W.dlen_add ((dS C X).2.1 * v.natAbs) (u.natAbs * (dS C X).2.2)
    have k4 := W.dlen_mono (vlS_le (dS C X).1 ((dS C X).2.1 * v.natAbs) (decide (u < 0)) (u.natAbs * (dS C X).2.2))
    exact W.isDR_of (by omega)
  have h44 : c44 (W.dRw (dS C X).2.1) (W.dRw (dS C X).2.2) (W.dRw u.natAbs) (W.dRw v.natAbs) = true := by
    unfold c44
    rw [smD_of (by omega), smD_of (by omega), smD_of (by omega), smD_of (by omega)]; rfl
  unfold in14
  rw [nN_on (okD_iff.2 h), nN_on (RiQ.c46 hl), nN_on h44, nN_on hN]
  exact geK (g14_val hg hl.lo) ok e K
theorem asked_ri {F Rw X : List (List AV)} {m : Nat} (h : askM F.length (Rw.map rowO) (rtsO X) (m : Nat) = 0) : ∀ k, k < Rw.length → riP (lP Rw k) = true := by
  intro k hk
  unfold askM at h
  cases h1 : chkM F.length (Rw.map rowO) != 0 with
  | true => rw [h1] at h; rw [bne_iff_ne] at h1; exact absurd h h1
  | false =>
    have h1 : chkM F.length (Rw.map rowO) = 0 := by simpa using h1
    exact (chkR_zero (chkM_zero h1).2.2 _ (map_in rowO hk)).2.2
theorem row_okD {F Rw X : List (List AV)} (hA : AskedP F Rw X F.length) {k : Nat} (hk : k < Rw.length) : OkD (coefs (rwA Rw (k : Nat))) X := by
  have h1 := hA.row k hk
  have h2 := hA.nx
  have h3 := hA.nf
  exact ⟨by omega, by omega, fun j hj => hA.rc k hk j (by omega), fun j hj => hA.rx j (by omega)⟩
theorem loop14b (k : Nat) (F Rw X : List (List AV)) (hA : AskedP F Rw X F.length) (hr : ∀ k, k < Rw.length → riP (lP Rw k) = true) : ∀ (n i : Nat) (ok : Bool), i ≤ Rw.length → Rw.length - i < n →
    lo14 k n F Rw X ok (i : Nat) = rB (ok && allF (rowB F Rw X) Rw.length i)
  | 0, i, ok, _, h => by omega
  | n + 1, i, ok, hi, h => by
    have nr := hA.nr
    unfold lo14
    refine (loopAt_succ _ _ _ _ _ _ _ n _).trans ((rb14 k F Rw X _ _ ok).trans ?_)
    rcases Nat.lt_or_eq_of_le hi with h1 | h1
    · rw [decide_eq_true (by omega : ((i : Nat) : Int) < ((Rw.length : Nat) : Int)), inR_on h1, w64_suc (by omega)]
      refine tt1 ?_
      obtain ⟨e1, e2⟩ := neg_ri (u := cel (rwA Rw (i : Nat)) 1) (v := cel (rwA Rw (i : Nat)) 2) (hA.rl i h1) (hr i h1)
      rw [e1, in14_on (row_okD hA h1) e2]
      have e3 : qq (-(cel (rwA Rw (i : Nat)) 1), cel (rwA Rw (i : Nat)) 2) = qq (lP Rw i) * qq (-1, 1) := by
        unfold qq lP
        have : (((-(cel (rwA Rw (i : Nat)) 1) : Int)) : Rat) = -((cel (rwA Rw (i : Nat)) 1 : Int) : Rat) := Rat.intCast_neg _
        simp only [this]
        grind
      have e4 : geB (eqO (rwA Rw (i : Nat))) (sumR (fun j => qq (xP (coefs (rwA Rw (i : Nat))) j) * qq (xP X j)) (coefs (rwA Rw (i : Nat))).length + qq (-(cel (rwA Rw (i : Nat)) 1), cel (rwA Rw (i : Nat)) 2)) = rowB F Rw X i := by
        rw [e3, hA.row i h1]; rfl
      rw [e4]
      have ih := loop14b k F Rw X hA hr n (i + 1) (ok && rowB F Rw X i) h1 (by omega)
      rw [allF_lt h1, ← Bool.and_assoc]
      exact ih
    · subst h1
      rw [decide_eq_false (by omega : ¬ ((Rw.length : Nat) : Int) < ((Rw.length : Nat) : Int)), allF_end (Nat.le_refl _), Bool.and_true]; rfl
theorem sgn14 (ok f : Bool) (v : Int) (K : Bool → Option Res) : (bif ok then (bif f then K true else K (decide (v ≥ 0))) else K false) = K (ok && (f || decide (0 ≤ v))) := by
  cases ok <;> cases f <;> rfl
theorem loop14a (k : Nat) (F Rw X : List (List AV)) (hA : AskedP F Rw X F.length) (hr : ∀ k, k < Rw.length → riP (lP Rw k) = true) (hk : 65 ≤ k) : ∀ (n i : Nat) (ok : Bool), i ≤ X.length → X.length - i < n →
    loopAt S5 14 Try.f14 0 k P42 [] n (σ14a F Rw X ok (i : Nat)) = rB ((ok && allF (sgnB F X) X.length i) && allF (rowB F Rw X) Rw.length 0)
  | 0, i, ok, _, h => by omega
  | n + 1, i, ok, hi, h => by
    have nf := hA.nf
    have nx := hA.nx
    refine (loopAt_succ _ _ _ _ _ _ _ n _).trans ((ra14 k F Rw X _ _ ok).trans ?_)
    rcases Nat.lt_or_eq_of_le hi with h1 | h1
    · have i2 : i < F.length := by omega
      rw [decide_eq_true (by omega : ((i : Nat) : Int) < ((X.length : Nat) : Int)), inR_on h1, inR_on i2, w64_suc (by omega)]
      refine tt1 ((sgn14 ok _ _ fun o => loopAt S5 14 Try.f14 0 k P42 [] n (σ14a F Rw X o ((i + 1 : Nat) : Int))).trans ?_)
      have ih := loop14a k F Rw X hA hr hk n (i + 1) (ok && sgnB F X i) h1 (by omega)
      rw [allF_lt h1, ← Bool.and_assoc]
      exact ih
    · subst h1
      rw [decide_eq_false (by omega : ¬ ((X.length : Nat) : Int) < ((X.length : Nat) : Int)), allF_end (p := sgnB F X) (Nat.le_refl _), Bool.and_true]
      exact ff1 (loop14b k F Rw X hA hr k 0 ok (Nat.zero_le _) (by have := hA.nr; omega))
def F14 : List AV → List AObj → Ab Res := fun args st => match args, st with
  | [.agg [.sl 4 .any F, .sl 77 .any Rw], .sl 52 .any X], [] => some ((Rw.map rowO).all okRow && okL X, (.tup [.k (.bool (res32 F Rw X)), i64 (ask32 F Rw X)], []))
  | _, _ => none
theorem told14 (args : List AV) (st : List AObj) (r : Res) (h : F14 args st = some (true, r)) : ∃ k, ev S5 k 14 args st = some r := by
  unfold F14 at h
  split at h
  · rename_i F Rw X
    simp only [Option.some.injEq, Prod.mk.injEq] at h
    obtain ⟨h1, rfl⟩ := h
    refine ⟨65 + 1, (b14 _ F Rw X).trans ?_⟩
    rw [nN_on h1]
    unfold res32
    show (bif ask32 F Rw X != 0 then rE (ask32 F Rw X) else _) = _
    cases h2 : ask32 F Rw X != 0 with
    | true => rfl
    | false =>
      have h3 : ask32 F Rw X = 0 := by simpa using h2
      rw [h3]
      have h := loop14a 65 F Rw X (asked_zero h3) (asked_ri h3) (by omega) 65 0 true (Nat.zero_le _) (by have h := asked_zero h3; have := h.nf; have := h.nx; omega)
      rw [Bool.true_and] at h
      exact ff1 h
  · cases h
end
end Go.Proofs.Ytgcdiccbehiijaa.W.V
namespace Go.Proofs.Ytgcdiccbehiijaa.W.V
open Go.Fw U
set_option maxRecDepth 100000
noncomputable section
theorem sumR_congr {f g : Nat → Rat} : ∀ n, (∀ i, i < n → f i = g i) → sumR f n = sumR g n
  | 0, _ => rfl
  | n + 1, h => by
    unfold sumR
    rw [sumR_congr n (fun i hi => h i (by omega)), h n (by omega)]
theorem rwA_map (f : List AV → List AV) {X : List (List AV)} {j : Nat} (h : j < X.length) : rwA (X.map f) (j : Nat) = f (rwA X (j : Nat)) := by
  rw [rwA_nat h, rwA_nat (by rw [List.length_map]; exact h), List.getElem_map]
def clR (i : Int) (r : List AV) : List AV := cpR (rwA (coefs r) i)
theorem xP_cl {Rw : List (List AV)} {i j : Nat} (h : j < Rw.length) : xP (Rw.map (clR (i : Nat))) j = cP Rw j i := by
  unfold xP
  rw [rwA_map _ h]; rfl
theorem xP_ls {Rw : List (List AV)} {j : Nat} (h : j < Rw.length) : xP (Rw.map lsR) j = lP Rw j := by
  unfold xP
  rw [rwA_map _ h]; rfl
theorem col_okD {F Rw X : List (List AV)} (hA : AskedP F Rw X Rw.length) {i : Nat} (hi : i < F.length) : OkD (Rw.map (clR (i : Nat))) X := by
  have h2 := hA.nx
  have h3 := hA.nr
  refine ⟨by rw [List.length_map]; exact h3, by rw [List.length_map]; omega, fun j hj => ?_, fun j hj => ?_⟩
  · rw [List.length_map] at hj
    rw [xP_cl hj]; exact hA.rc j hj i hi
  · rw [List.length_map] at hj
    exact hA.rx j (by omega)
theorem lea_okD {F Rw X : List (List AV)} (hA : AskedP F Rw X Rw.length) : OkD (Rw.map lsR) X := by
  have h2 := hA.nx
  have h3 := hA.nr
  refine ⟨by rw [List.length_map]; exact h3, by rw [List.length_map]; omega, fun j hj => ?_, fun j hj => ?_⟩
  · rw [List.length_map] at hj
    rw [xP_ls hj]; exact hA.rl j hj
  · rw [List.length_map] at hj
    exact hA.rx j (by omega)
theorem good_dS {A B : List (List AV)} (h : OkD A B) {f : Nat → Int × Int} {m : Nat} (hm : A.length = m) (hf : ∀ j, j < m → xP A j = f j) : GoodD (dS A B) (sumR (fun j => qq (f j) * qq (xP B j)) m) (1 + 11 * A.length) := by
  have hg := dotS_good h A.length (Nat.le_refl _)
  have e : sumR (fun i => qq (xP A i) * qq (xP B i)) A.length = sumR (fun j => qq (f j) * qq (xP B j)) m := by
    rw [hm]
    exact sumR_congr m fun j hj => by rw [hf j hj]
  rw [e] at hg
  exact hg
theorem isDR_dS {A B : List (List AV)} (h : OkD A B) : W.isDR (W.dRw (dS A B).2.1) = true := by
  have hg := (dotS_good h A.length (Nat.le_refl _)).l1
  have := h.la
  exact W.isDR_of (Nat.le_trans hg (by omega))
theorem in17c_on {F Rw X : List (List AV)} (hA : AskedP F Rw X Rw.length) {i : Nat} (hi : i < F.length) (ok : Bool) (K : Bool → Option Res) :
    in17c F (Rw.map (clR (i : Nat))) X ok (i : Nat) K = K (ok && colB F Rw X i) := by
  have hD := col_okD hA hi
  have hg := good_dS hD (f := fun j => cP Rw j i) (m := Rw.length) (List.length_map ..) (fun j hj => xP_cl hj)
  unfold in17c
  rw [nN_on (okD_iff.2 hD), nN_on (isDR_dS hD), inR_on hi]
  exact leK (g17_val hg) ok (bB F (i : Nat)) K
def Kd (kd : SK) : Prop := kd = .full ∨ kd = .fresh ∨ kd = .wide
theorem ap52_on {O : List (List AV)} {x : List AV} (h : O.length ≤ 1000) (A : Option Res) : ap52 O x A = A := by
  unfold ap52
  exact nN_on (Nat.ble_eq_true_of_le (by
    have : [x].length = 1 := rfl
    omega))
theorem inner17 (k m : Nat) (F Rw X : List (List AV)) (kd : SK) (hkd : Kd kd) (hA : AskedP F Rw X Rw.length) (O : List (List AV)) (ok : Bool) (i : Nat) (hi : i < F.length) (w : Option Res)
    (hR : lo17 k m F Rw X kd O (ok && colB F Rw X i) ((i + 1 : Nat) : Int) = w) : ∀ (n j : Nat) (kd2 : SK), (kd2 = .fresh ∨ kd2 = .wide) → j ≤ Rw.length → Rw.length - j < n →
    li17 k m n F Rw X kd O ok (i : Nat) kd2 ((Rw.map (clR (i : Nat))).take j) (j : Nat) = w
  | 0, j, _, _, _, h => by omega
  | n + 1, j, kd2, hkd2, hj, h => by
    have nf := hA.nf
    have nr := hA.nr
    have hin : inC17 k m F Rw X kd O ok (i : Nat) ((Rw.map (clR (i : Nat))).take j) (j : Nat) (loopAt S5 17 Try.f17 0 k P17c [m] n) = w := by
      unfold inC17
      rcases Nat.lt_or_eq_of_le hj with h1 | h1
      · have ih := inner17 k m F Rw X kd hkd hA O ok i hi w hR n (j + 1) .wide (.inr rfl) h1 (by omega)
        have i1 : i < (coefs (rwA Rw (j : Nat))).length := by rw [hA.row j h1]; exact hi
        rw [decide_eq_true (by omega : ((j : Nat) : Int) < ((Rw.length : Nat) : Int)), inR_on h1, inR_on i1, ap52_on (by rw [take_len _ hj]; omega), w64_suc (by omega)]
        refine tt1 ?_
        have e : (Rw.map (clR (i : Nat))).take j ++ [cl17 Rw (i : Nat) (j : Nat)] = (Rw.map (clR (i : Nat))).take (j + 1) := (take_map (clR (i : Nat)) h1).symm
        rw [e]
        exact ih
      · subst h1
        rw [decide_eq_false (by omega : ¬ ((Rw.length : Nat) : Int) < ((Rw.length : Nat) : Int)), take_all, in17c_on hA hi, w64_suc (n := i) (by omega)]
        exact ff1 hR
    unfold li17
    refine (loopAt_succ _ _ _ _ _ _ _ n _).trans ?_
    rcases hkd2 with rfl | rfl
    · exact (rc17b k m F Rw X O _ _ _ _ ok kd hkd).trans hin
    · exact (rc17c k m F Rw X O _ _ _ _ ok kd hkd).trans hin
theorem start17 (k m : Nat) (F Rw X : List (List AV)) (kd : SK) (hkd : Kd kd) (hA : AskedP F Rw X Rw.length) (O : List (List AV)) (ok : Bool) (i : Nat) (hi : i < F.length) (w : Option Res)
    (hR : lo17 k m F Rw X kd O (ok && colB F Rw X i) ((i + 1 : Nat) : Int) = w) (n : Nat) (hn : 65 ≤ n) : li17 k m n F Rw X kd O ok (i : Nat) .full [] 0 = w := by
  have nf := hA.nf
  have nr := hA.nr
  obtain ⟨n, rfl⟩ : ∃ n', n = n' + 1 := ⟨n - 1, by omega⟩
  unfold li17
  refine (loopAt_succ _ _ _ _ _ _ _ n _).trans ((rc17a k m F Rw X O _ _ ok kd hkd).trans ?_)
  rcases Nat.eq_zero_or_pos Rw.length with h0 | h0
  · have hc := in17c_on hA hi ok (fun o => lo17 k m F Rw X kd O o (w64 (((i : Nat) : Int) + 1)))
    have e : Rw = [] := List.eq_nil_of_length_eq_zero h0
    have e2 : Rw.map (clR (i : Nat)) = [] := by rw [e]; rfl
    rw [e2] at hc
    rw [hc, decide_eq_false (by omega : ¬ (0 : Int) < ((Rw.length : Nat) : Int)), w64_suc (by omega)]
    exact ff1 hR
  · have ih := inner17 k m F Rw X kd hkd hA O ok i hi w hR n 1 .fresh (.inl rfl) h0 (by omega)
    have e1 : (Rw.map (clR (i : Nat))).take 1 = [cl17 Rw (i : Nat) 0] := take_map (clR (i : Nat)) h0
    rw [e1] at ih
    have e2 : ∀ A, inR Rw 0 A = A := fun A => inR_on (i := 0) h0
    have i1 : i < (coefs (rwA Rw 0)).length := by rw [show (coefs (rwA Rw 0)).length = F.length from hA.row 0 h0]; exact hi
    rw [decide_eq_true (by omega : (0 : Int) < ((Rw.length : Nat) : Int)), e2, inR_on i1]
    exact tt1 ih
theorem loop17b (k : Nat) (F Rw X : List (List AV)) (kd : SK) (hkd : Kd kd) (hA : AskedP F Rw X Rw.length) (hk : 65 ≤ k) : ∀ (n i : Nat) (ok : Bool), i ≤ F.length → F.length - i < n →
    lo17 k n F Rw X kd (Rw.map lsR) ok (i : Nat) = rB ((ok && allF (colB F Rw X) F.length i) && leaB Rw X)
  | 0, i, ok, _, h => by omega
  | n + 1, i, ok, hi, h => by
    have nf := hA.nf
    unfold lo17
    refine (loopAt_succ _ _ _ _ _ _ _ n _).trans ((rb17 k n F Rw X _ _ ok kd hkd).trans ?_)
    rcases Nat.lt_or_eq_of_le hi with h1 | h1
    · rw [decide_eq_true (by omega : ((i : Nat) : Int) < ((F.length : Nat) : Int))]
      have ih := loop17b k F Rw X kd hkd hA hk n (i + 1) (ok && colB F Rw X i) h1 (by omega)
      have hs := start17 k n F Rw X kd hkd hA (Rw.map lsR) ok i h1 _ ih k hk
      rw [allF_lt h1, ← Bool.and_assoc]
      exact tt1 hs
    · subst h1
      have hD := lea_okD hA
      have hg := good_dS hD (f := lP Rw) (m := Rw.length) (List.length_map ..) (fun j hj => xP_ls hj)
      rw [decide_eq_false (by omega : ¬ ((F.length : Nat) : Int) < ((F.length : Nat) : Int)), allF_end (p := colB F Rw X) (Nat.le_refl _), Bool.and_true, nN_on (okD_iff.2 hD), nN_on (isDR_dS hD), gtB_of (g17_val hg)]
      refine ff1 ?_
      cases ok <;> rfl
theorem in17a_on (F Rw X O : List (List AV)) (kd : SK) (k : Nat) (ok : Bool) (i : Nat) (C : Bool → Option Res) (h : i < Rw.length) (hx : X.length = Rw.length) : in17a F Rw X O kd k ok (i : Nat) C = C (ok && U.mulB Rw X i) := by
  unfold in17a
  have i2 : i < X.length := by omega
  rw [decide_eq_true (by omega : ((i : Nat) : Int) < ((X.length : Nat) : Int)), inR_on h, inR_on h, inR_on h, inR_on h, inR_on i2]
  exact tt1 (sgn14 ok (eqO (rwA Rw (i : Nat))) (nI X (i : Nat)) C)
theorem end17a (F Rw X : List (List AV)) (kd : SK) (hkd : Kd kd) (hA : AskedP F Rw X Rw.length) (k : Nat) (hk : 65 ≤ k) (ok : Bool) (C : Bool → Option Res) : in17a F Rw X (Rw.map lsR) kd k ok ((Rw.length : Nat) : Int) C = rB ((ok && allF (U.mulB Rw X) Rw.length Rw.length) && (allF (colB F Rw X) F.length 0 && leaB Rw X)) := by
  unfold in17a
  rw [hA.nx, decide_eq_false (by omega : ¬ ((Rw.length : Nat) : Int) < ((Rw.length : Nat) : Int)), allF_end (p := U.mulB Rw X) (Nat.le_refl _), Bool.and_true, ← Bool.and_assoc]
  exact ff1 (loop17b k F Rw X kd hkd hA hk k 0 ok (Nat.zero_le _) (by have := hA.nf; omega))
theorem loop17a (k : Nat) (F Rw X : List (List AV)) (hA : AskedP F Rw X Rw.length) (hk : 65 ≤ k) : ∀ (n i : Nat) (kd : SK) (ok : Bool), (kd = .fresh ∨ kd = .wide) → i ≤ Rw.length → Rw.length - i < n →
    loopAt S5 17 Try.f17 0 k P14b [] n (σ17a F Rw X kd ((Rw.map lsR).take i) ok (i : Nat)) = rB ((ok && allF (U.mulB Rw X) Rw.length i) && (allF (colB F Rw X) F.length 0 && leaB Rw X))
  | 0, i, _, _, _, _, h => by omega
  | n + 1, i, kd, ok, hkd, hi, h => by
    have nr := hA.nr
    have hin : in17a F Rw X ((Rw.map lsR).take i) kd k ok (i : Nat) (fun o => ap52 ((Rw.map lsR).take i) (lsR (rwA Rw (i : Nat))) (loopAt S5 17 Try.f17 0 k P14b [] n (σ17a F Rw X .wide ((Rw.map lsR).take i ++ [lsR (rwA Rw (i : Nat))]) o (w64 (((i : Nat) : Int) + 1))))) = rB ((ok && allF (U.mulB Rw X) Rw.length i) && (allF (colB F Rw X) F.length 0 && leaB Rw X)) := by
      rcases Nat.lt_or_eq_of_le hi with h1 | h1
      · rw [in17a_on F Rw X _ kd k ok i _ h1 hA.nx, ap52_on (by rw [take_len _ hi]; omega), w64_suc (by omega), ← take_map lsR h1]
        have ih := loop17a k F Rw X hA hk n (i + 1) .wide (ok && U.mulB Rw X i) (.inr rfl) h1 (by omega)
        rw [allF_lt h1, ← Bool.and_assoc ok]
        exact ih
      · subst h1
        rw [take_all]
        exact end17a F Rw X kd (by rcases hkd with h | h <;> simp [Kd, h]) hA k hk ok _
    refine (loopAt_succ _ _ _ _ _ _ _ n _).trans ?_
    rcases hkd with rfl | rfl
    · exact (ra17b k F Rw X _ _ _ ok).trans hin
    · exact (ra17c k F Rw X _ _ _ ok).trans hin
theorem first17 (k : Nat) (F Rw X : List (List AV)) (hA : AskedP F Rw X Rw.length) (hk : 66 ≤ k) : loopAt S5 17 Try.f17 0 k P14b [] k (σ17a F Rw X .full [] true 0) = rB (refB F Rw X) := by
  have nr := hA.nr
  unfold refB
  have hgen : ∀ n, 65 ≤ n → loopAt S5 17 Try.f17 0 k P14b [] (n + 1) (σ17a F Rw X .full [] true 0) = rB (allF (U.mulB Rw X) Rw.length 0 && (allF (colB F Rw X) F.length 0 && leaB Rw X)) := fun n hn => by
    refine (loopAt_succ _ _ _ _ _ _ _ n _).trans ((ra17a k F Rw X _ true).trans ?_)
    rcases Nat.eq_zero_or_pos Rw.length with h0 | h0
    · have he := end17a F Rw X .full (.inl rfl) hA k (by omega) true (fun o => loopAt S5 17 Try.f17 0 k P14b [] n (σ17a F Rw X .fresh [lsR (rwA Rw 0)] o 1))
      have e : Rw = [] := List.eq_nil_of_length_eq_zero h0
      have e2 : Rw.map lsR = [] := by rw [e]; rfl
      have e3 : ((Rw.length : Nat) : Int) = 0 := by omega
      rw [e2, e3, Bool.true_and] at he
      rw [h0] at he ⊢
      exact he
    · have hl := in17a_on F Rw X [] .full k true 0 (fun o => loopAt S5 17 Try.f17 0 k P14b [] n (σ17a F Rw X .fresh [lsR (rwA Rw 0)] o 1)) h0 hA.nx
      have ih := loop17a k F Rw X hA (by omega) n 1 .fresh (true && U.mulB Rw X 0) (.inl rfl) h0 (by omega)
      have e1 : (Rw.map lsR).take 1 = [lsR (rwA Rw 0)] := take_map lsR h0
      rw [e1] at ih
      rw [allF_lt (p := U.mulB Rw X) h0, ← Bool.true_and (U.mulB Rw X 0)]
      exact hl.trans ih
  obtain ⟨n, rfl⟩ : ∃ n', k = n' + 1 := ⟨k - 1, by omega⟩
  exact hgen n (by omega)
def F17 : List AV → List AObj → Ab Res := fun args st => match args, st with
  | [.agg [.sl 4 .any F, .sl 77 .any Rw], .sl 52 .any X], [] => some ((Rw.map rowO).all okRow && okL X, (.tup [.k (.bool (res18 F Rw X)), i64 (ask18 F Rw X)], []))
  | _, _ => none
theorem told17 (args : List AV) (st : List AObj) (r : Res) (h : F17 args st = some (true, r)) : ∃ k, ev S5 k 17 args st = some r := by
  unfold F17 at h
  split at h
  · rename_i F Rw X
    simp only [Option.some.injEq, Prod.mk.injEq] at h
    obtain ⟨h1, rfl⟩ := h
    refine ⟨66 + 1, (b17 _ F Rw X).trans ?_⟩
    rw [nN_on h1]
    unfold res18
    show (bif ask18 F Rw X != 0 then rE (ask18 F Rw X) else _) = _
    cases h2 : ask18 F Rw X != 0 with
    | true => rfl
    | false =>
      have h3 : ask18 F Rw X = 0 := by simpa using h2
      rw [h3]
      exact ff1 (first17 66 F Rw X (asked_zero h3) (by omega))
  · cases h
end
end Go.Proofs.Ytgcdiccbehiijaa.W.V
namespace Go.Proofs.Ytgcdiccbehiijaa.W.V
open Go.Fw U
set_option maxRecDepth 100000
noncomputable section
noncomputable def L7 : FSys := (((((N6.tell 10 F10).tell 33 F33).tell 15 F15).tell 16 F16).tell 14 F14).tell 17 F17
def c15B (Rw : List (List AV)) : Bool := Nat.ble Rw.length 1000 && Rw.all fun r => Nat.ble (coefs r).length 100000
def c16B (X : List (List AV)) : Bool := Nat.ble X.length 100000
def kR (Rw X : List (List AV)) : Bool := (Rw.map rowO).all okRow && okL X
def chF (F Rw : List (List AV)) : Int := chkM F.length (Rw.map rowO)
def iB (b : Bool) (A : Option Res) : Option Res := bif b then A else bl false
theorem ev7 (k : Nat) (F Rw X Y : List (List AV)) : ev L7 (k + 1) 7 [sys2 F Rw, sl42 X, sl42 Y] [] = bif largeM F.length (Rw.map rowO) then bl true else bif decide (((X.length : Nat) : Int) > 80) then bl true else bif decide (((Y.length : Nat) : Int) > 80) then bl true else
    nN (kR Rw X) (nN (c15B Rw) (nN (c16B X) (nN (kR (Rw.map frR) (X.map cpR)) (nN (kR Rw Y) (nN (c15B Rw) (nN (c16B Y) (nN (kR (Rw.map frR) (Y.map cpR)) (nN ((Rw.map rowO).all okRow) (nN (c15B Rw) (nN (((Rw.map frR).map rowO).all okRow)
      (iB (chF F Rw == chF F (Rw.map frR)) (iB (res32 F Rw X == res32 F (Rw.map frR) (X.map cpR)) (iB (ask32 F Rw X == ask32 F (Rw.map frR) (X.map cpR)) (iB (res18 F Rw Y == res18 F (Rw.map frR) (Y.map cpR)) (iB (ask18 F Rw Y == ask18 F (Rw.map frR) (Y.map cpR)) (bl true)))))))))))))))) := by kernel_rfl
theorem rowO_fr (r : List AV) : rowO (frR r) = rowO r := by
  have h : ∀ C : List (List AV), rtsO (C.map cpR) = rtsO C := fun C => by
    unfold rtsO
    rw [List.map_map]; rfl
  show RowM.mk (rtsO ((coefs r).map cpR)) _ = RowM.mk (rtsO (coefs r)) _
  rw [h]; rfl
theorem rowsO_fr (Rw : List (List AV)) : (Rw.map frR).map rowO = Rw.map rowO := by
  rw [List.map_map]
  have : rowO ∘ frR = rowO := funext rowO_fr
  rw [this]
theorem rts_cp (X : List (List AV)) : rtsO (X.map cpR) = rtsO X := by
  unfold rtsO
  rw [List.map_map]; rfl
theorem rwA_out {X : List (List AV)} {i : Nat} (h : X.length ≤ i) : rwA X (i : Nat) = [] := by
  unfold rwA
  rw [Int.toNat_natCast]
  simp [List.getD, List.getElem?_eq_none h]
theorem xP_cp (X : List (List AV)) : xP (X.map cpR) = xP X := by
  funext i
  unfold xP
  rcases Nat.lt_or_ge i X.length with h | h
  · rw [rwA_map cpR h]; rfl
  · rw [rwA_out h, rwA_out (by rw [List.length_map]; exact h)]
theorem fr_at (Rw : List (List AV)) (k : Nat) : rwA (Rw.map frR) (k : Nat) = frR (rwA Rw (k : Nat)) ∨ (rwA (Rw.map frR) (k : Nat) = [] ∧ rwA Rw (k : Nat) = []) := by
  rcases Nat.lt_or_ge k Rw.length with h | h
  · exact .inl (rwA_map frR h)
  · exact .inr ⟨rwA_out (by rw [List.length_map]; exact h), rwA_out h⟩
theorem cP_fr (Rw : List (List AV)) : cP (Rw.map frR) = cP Rw := by
  funext k i
  unfold cP
  rcases fr_at Rw k with h | ⟨h1, h2⟩
  · rw [h]
    have := congrFun (xP_cp (coefs (rwA Rw (k : Nat)))) i
    exact this
  · rw [h1, h2]
theorem lP_fr (Rw : List (List AV)) : lP (Rw.map frR) = lP Rw := by
  funext k
  unfold lP
  rcases fr_at Rw k with h | ⟨h1, h2⟩
  · rw [h]; rfl
  · rw [h1, h2]
theorem eP_fr (Rw : List (List AV)) : eP (Rw.map frR) = eP Rw := by
  funext k
  unfold eP
  rcases fr_at Rw k with h | ⟨h1, h2⟩
  · rw [h]; rfl
  · rw [h1, h2]
theorem ask_fr (n : Nat) (Rw X : List (List AV)) (m : Int) : askM n ((Rw.map frR).map rowO) (rtsO (X.map cpR)) m = askM n (Rw.map rowO) (rtsO X) m := by rw [rowsO_fr, rts_cp]
theorem ask32_fr (F Rw X : List (List AV)) : ask32 F (Rw.map frR) (X.map cpR) = ask32 F Rw X := ask_fr _ _ _ _
theorem ask18_fr (F Rw X : List (List AV)) : ask18 F (Rw.map frR) (X.map cpR) = ask18 F Rw X := by
  unfold ask18
  rw [ask_fr, List.length_map]
theorem sol_fr (F Rw X : List (List AV)) : solB F (Rw.map frR) (X.map cpR) = solB F Rw X := by
  unfold solB
  have h1 : sgnB F (X.map cpR) = sgnB F X := by funext i; unfold sgnB; rw [xP_cp]
  have h2 : rowB F (Rw.map frR) (X.map cpR) = rowB F Rw X := by funext i; unfold rowB; rw [xP_cp, cP_fr, lP_fr, eP_fr]
  rw [h1, h2, List.length_map, List.length_map]
theorem ref_fr (F Rw X : List (List AV)) : refB F (Rw.map frR) (X.map cpR) = refB F Rw X := by
  unfold refB
  have h1 : U.mulB (Rw.map frR) (X.map cpR) = U.mulB Rw X := by funext i; unfold U.mulB; rw [xP_cp, eP_fr]
  have h2 : colB F (Rw.map frR) (X.map cpR) = colB F Rw X := by funext i; unfold colB; rw [xP_cp, cP_fr, List.length_map]
  have h3 : leaB (Rw.map frR) (X.map cpR) = leaB Rw X := by unfold leaB; rw [xP_cp, lP_fr, List.length_map]
  rw [h1, h2, h3, List.length_map]
theorem res32_fr (F Rw X : List (List AV)) : res32 F (Rw.map frR) (X.map cpR) = res32 F Rw X := by
  unfold res32
  rw [ask32_fr, sol_fr]
theorem res18_fr (F Rw X : List (List AV)) : res18 F (Rw.map frR) (X.map cpR) = res18 F Rw X := by
  unfold res18
  rw [ask18_fr, ref_fr]
theorem iB_int (a : Int) (A : Option Res) : iB (a == a) A = A := by
  unfold iB
  rw [beq_self_eq_true]; rfl
theorem iB_bool (a : Bool) (A : Option Res) : iB (a == a) A = A := by
  unfold iB
  rw [beq_self_eq_true]; rfl
theorem okL_cp {X : List (List AV)} (h : okL X = true) : okL (X.map cpR) = true := by
  unfold okL at h ⊢
  rw [rts_cp, List.length_map]; exact h
theorem large_no {n : Nat} {rs : List RowM} (h : largeM n rs = false) : rs.length ≤ 70 ∧ ∀ r, r ∈ rs → r.c.length ≤ 40 := by
  unfold largeM at h
  by_cases h1 : n ≤ 40
  · rw [Nat.ble_eq_true_of_le h1] at h
    by_cases h2 : rs.length ≤ 70
    · rw [Nat.ble_eq_true_of_le h2] at h
      refine ⟨h2, ?_⟩
      replace h : lrgR rs = false := h
      clear h1 h2
      induction rs with
      | nil => intro r hr; cases hr
      | cons x xs ih =>
        unfold lrgR at h
        by_cases h3 : x.c.length ≤ 40
        · rw [Nat.ble_eq_true_of_le h3] at h
          intro r hr
          rcases List.mem_cons.1 hr with rfl | hr
          · exact h3
          · exact ih h r hr
        · rw [nble_false h3] at h; cases h
    · rw [nble_false h2] at h; cases h
  · rw [nble_false h1] at h; cases h
theorem c15_of {F Rw : List (List AV)} (h : largeM F.length (Rw.map rowO) = false) : c15B Rw = true := by
  obtain ⟨h1, h2⟩ := large_no h
  rw [List.length_map] at h1
  unfold c15B
  rw [Nat.ble_eq_true_of_le (by omega), Bool.true_and, List.all_eq_true]
  intro r hr
  have := h2 _ (List.mem_map_of_mem hr)
  rw [rowO_len] at this
  exact Nat.ble_eq_true_of_le (by omega)
theorem law7_true (k : Nat) {F Rw X Y : List (List AV)} (hR : (Rw.map rowO).all okRow = true) (hX : X.length ≤ 80 → okL X = true) (hY : Y.length ≤ 80 → okL Y = true) : ev L7 (k + 1) 7 [sys2 F Rw, sl42 X, sl42 Y] [] = bl true := by
  rw [ev7]
  cases hl : largeM F.length (Rw.map rowO) with
  | true => rfl
  | false =>
    have h15 := c15_of hl
    by_cases h1 : X.length ≤ 80
    · rw [decide_eq_false (by omega : ¬ ((X.length : Nat) : Int) > 80)]
      by_cases h2 : Y.length ≤ 80
      · have k1 : kR Rw X = true := by unfold kR; rw [hR, hX h1]; rfl
        have k2 : kR (Rw.map frR) (X.map cpR) = true := by unfold kR; rw [rowsO_fr, hR, okL_cp (hX h1)]; rfl
        have k3 : kR Rw Y = true := by unfold kR; rw [hR, hY h2]; rfl
        have k4 : kR (Rw.map frR) (Y.map cpR) = true := by unfold kR; rw [rowsO_fr, hR, okL_cp (hY h2)]; rfl
        have k5 : c16B X = true := Nat.ble_eq_true_of_le (by omega)
        have k6 : c16B Y = true := Nat.ble_eq_true_of_le (by omega)
        have e : chF F (Rw.map frR) = chF F Rw := by unfold chF; rw [rowsO_fr]
        rw [decide_eq_false (by omega : ¬ ((Y.length : Nat) : Int) > 80), nN_on k1, nN_on h15, nN_on k5, nN_on k2, nN_on k3, nN_on h15, nN_on k6, nN_on k4, nN_on hR, nN_on h15, rowsO_fr, nN_on hR, e, res32_fr, ask32_fr, res18_fr, ask18_fr, iB_int, iB_bool, iB_int, iB_bool, iB_int]; rfl
      · rw [decide_eq_true (by omega : ((Y.length : Nat) : Int) > 80)]; rfl
    · rw [decide_eq_true (by omega : ((X.length : Nat) : Int) > 80)]; rfl
end
end Go.Proofs.Ytgcdiccbehiijaa.W.V
namespace Go.Proofs.Ytgcdiccbehiijaa.W.V
open Go.Fw U
set_option maxRecDepth 100000
theorem L7Ok : SysOk Try.prog L7 := by
  have h1 : SysOk Try.prog S1 := (T6Ok sysOk).tell 25 _ told25
  have h2 : SysOk Try.prog S2 := h1.tell 16 _ told16
  exact SysOk.tellMore (SysOk.tellMore (SysOk.tellMore (SysOk.tellMore (SysOk.tellMore N7Ok (h2.tell 33 _ told33) rfl rfl) (h2.tell 15 _ told15) rfl rfl) (h1.tell 16 _ told16) rfl rfl) ((S5Ok sysOk).tell 14 _ told14) rfl rfl) ((S5Ok sysOk).tell 17 _ told17) rfl rfl
theorem pure7 (avs : List AV) (h : Args tab [25, 28, 28] avs) : ∃ k, ev L7 k 7 avs [] = some (.k (.bool true), []) := by
  match avs, h with
  | [a, b, c], ⟨ha, hb, hc, _⟩ =>
    obtain ⟨F, Rw, rfl, hR⟩ := arg25 ha
    obtain ⟨X, rfl, hX⟩ := arg28 hb
    obtain ⟨Y, rfl, hY⟩ := arg28 hc
    exact ⟨0 + 1, law7_true 0 hR hX hY⟩
end Go.Proofs.Ytgcdiccbehiijaa.W.V
