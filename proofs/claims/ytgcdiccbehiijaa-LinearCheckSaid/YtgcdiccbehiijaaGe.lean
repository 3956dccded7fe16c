/- A part of the proofs over these laws: what its functions come to. No conditions. -/
import Derived.Test.YtgcdiccbehiijaaGd
set_option linter.all false
namespace Go.Proofs.Ytgcdiccbehiijaa.W.U
open Go.Fw
set_option maxRecDepth 100000
noncomputable section
def sl44 (A : List (List AV)) : AV := .sl 44 .any A
def bB (A : List (List AV)) (i : Int) : Bool := ((A.getD i.toNat []).getD 0 .undef).toB
def rB (b : Bool) : Option Res := some (.tup [.k (.bool b), i64 0], [])
def rE (e : Int) : Option Res := some (.tup [.k (.bool false), i64 e], [])
def bxR (C : List (List AV)) (u v : Int) (e : Bool) : AObj := .box 44 [sl42 C, i64 u, i64 v, .k (.bool e)]
def eqO (r : List AV) : Bool := (r.getD 3 .undef).toB
def P32a : List Nat := [1,1,0,1,0]
def P32b : List Nat := [1,1,1,0,1,0]
def P32c : List Nat := [1,1,1,0,1,0,0,1,1,0,0,1,1,0,1,0]
def σ32a (F Rw X : List (List AV)) (l i : Int) : St := ⟨tm 81 [(1, sl42 X), (2, .ptr 0 0), (24, sl42 X), (25, i64 l), (26, i64 i)], [bxS F Rw], []⟩
def σ32b (Rw X : List (List AV)) (l i : Int) : St := ⟨tm 81 [(1, sl42 X), (44, sl44 Rw), (45, i64 l), (46, i64 i)], [], []⟩
def σ32c (C : List (List AV)) (u v : Int) (e : Bool) (b : AObj) (Rw X : List (List AV)) (l i lc j : Int) : St := ⟨tm 81 [(1, sl42 X), (10, .ptr 0 0), (11, .ptr 1 0), (44, sl44 Rw), (45, i64 l), (46, i64 i), (51, sl42 C), (52, i64 lc), (53, i64 j)], [bxR C u v e, b], []⟩
def lo32 (k n : Nat) (Rw X : List (List AV)) (l i : Int) : Option Res := loopAt N5 32 Try.f32 0 k P32b [] n (σ32b Rw X l i)
def li32 (k m n : Nat) (C : List (List AV)) (u v : Int) (e : Bool) (b : AObj) (Rw X : List (List AV)) (l i lc j : Int) : Option Res := loopAt N5 32 Try.f32 0 k P32c [m] n (σ32c C u v e b Rw X l i lc j)
section
variable (k m : Nat) (F Rw X N D C : List (List AV)) (R : St → Option Res) (l i u v lc j : Int) (e g : Bool)
theorem b32 : ev N5 (k + 1) 32 [sys2 F Rw, sl42 X] [] = nN ((Rw.map rowO).all okRow && okL X) (bif askM F.length (Rw.map rowO) (rtsO X) (F.length : Nat) != 0 then rE (askM F.length (Rw.map rowO) (rtsO X) (F.length : Nat)) else loopAt N5 32 Try.f32 0 k P32a [] k (σ32a F Rw X (X.length : Nat) 0)) := by kernel_rfl
theorem ra32 : roundAt N5 32 Try.f32 0 k P32a [] R (σ32a F Rw X l i) = bif decide (i < l) then inR X i (inR F i (bif !bB F i then (bif decide (nI X i < 0) then rB false else R (σ32a F Rw X l (w64 (i + 1)))) else R (σ32a F Rw X l (w64 (i + 1))))) else lo32 k k Rw X (Rw.length : Nat) 0 := by kernel_rfl
theorem rb32 : roundAt N5 32 Try.f32 0 k P32b [] (loopAt N5 32 Try.f32 0 k P32b [] m) (σ32b Rw X l i) = bif decide (i < l) then inR Rw i (li32 k m k (coefs (rwA Rw i)) (cel (rwA Rw i) 1) (cel (rwA Rw i) 2) (eqO (rwA Rw i)) (bx false nl nl) Rw X l i ((coefs (rwA Rw i)).length : Nat) 0) else rB true := by kernel_rfl
def in32 (c : Bool) (nb : AObj) (c2 : Bool) (N2 : List (List AV)) (g2 : Bool) (k m : Nat) (C Rw X : List (List AV)) (R : St → Option Res) (l i u v lc j : Int) (e : Bool) : Option Res :=
  bif decide (j < lc) then inR C j (inR X j (nN c (R (σ32c C u v e nb Rw X l i lc (w64 (j + 1))))))
  else nN c2 (bif decide (s49 g2 N2 < 0) then rB false else bif e then (bif s49 g2 N2 != 0 then rB false else lo32 k m Rw X l (w64 (i + 1))) else lo32 k m Rw X l (w64 (i + 1)))
def cD (C X : List (List AV)) (j : Int) : Bool := riB (cel (rwA C j) 0) (cel (rwA C j) 1) (cel (rwA X j) 0) (cel (rwA X j) 1)
def cS (g : Bool) (n d : Nat) (C X : List (List AV)) (j : Int) : Bool × Nat × Nat := st48 g n d (cel (rwA C j) 0) (cel (rwA C j) 1) (cel (rwA X j) 0) (cel (rwA X j) 1)
theorem rc32a : roundAt N5 32 Try.f32 0 k P32c [m] R (σ32c C u v e (bx false nl nl) Rw X l i lc j) = in32 (cD C X j) (bxN (cS false 0 1 C X j)) (riB u v (-1) 1) (dRw (st48 false 0 1 u v (-1) 1).2.1) (st48 false 0 1 u v (-1) 1).1 k m C Rw X R l i u v lc j e := by kernel_rfl
theorem rc32c : roundAt N5 32 Try.f32 0 k P32c [m] R (σ32c C u v e (bx g (slU N) (slU D)) Rw X l i lc j) = in32 (okS N D && cD C X j) (bxN (cS g (valR N) (valR D) C X j)) (okS N D && riB u v (-1) 1) (dRw (st48 g (valR N) (valR D) u v (-1) 1).2.1) (st48 g (valR N) (valR D) u v (-1) 1).1 k m C Rw X R l i u v lc j e := by kernel_rfl
end
end
end Go.Proofs.Ytgcdiccbehiijaa.W.U
namespace Go.Proofs.Ytgcdiccbehiijaa.W.U
open Go.Fw
set_option maxRecDepth 100000
noncomputable section
def P18a : List Nat := [1,1,1,0,1,0]
def P18b : List Nat := [1,1,1,1,0,1,0]
def P18c : List Nat := [1,1,1,1,0,1,0,0,1,1,0,0,1,1,0,1,0]
def σ18a (b : AObj) (F Rw X : List (List AV)) (l i : Int) : St := ⟨tm 92 [(1, sl42 X), (2, .ptr 0 0), (7, .ptr 1 0), (26, sl44 Rw), (27, i64 l), (28, i64 i)], [bxS F Rw, b], []⟩
def σ18b (b : AObj) (F Rw X : List (List AV)) (l i : Int) : St := ⟨tm 92 [(1, sl42 X), (2, .ptr 0 0), (7, .ptr 1 0), (53, .sl 4 .any F), (54, i64 l), (55, i64 i)], [bxS F Rw, b], []⟩
def σ18c (fr : Bool) (b b2 : AObj) (F Rw X : List (List AV)) (l i lc j : Int) : St := ⟨tm 92 [(1, sl42 X), (2, .ptr 0 0), (7, .ptr 1 0), (10, i64 i), (11, .k (.bool fr)), (12, .ptr 2 0), (53, .sl 4 .any F), (54, i64 l), (55, i64 i), (61, sl44 Rw), (62, i64 lc), (63, i64 j)], [bxS F Rw, b, b2], []⟩
def lo18 (k n : Nat) (b : AObj) (F Rw X : List (List AV)) (l i : Int) : Option Res := loopAt N5 18 Try.f18 0 k P18b [] n (σ18b b F Rw X l i)
def li18 (k m n : Nat) (fr : Bool) (b b2 : AObj) (F Rw X : List (List AV)) (l i lc j : Int) : Option Res := loopAt N5 18 Try.f18 0 k P18c [m] n (σ18c fr b b2 F Rw X l i lc j)
def lD (Rw X : List (List AV)) (j : Int) : Bool := riB (cel (rwA Rw j) 1) (cel (rwA Rw j) 2) (cel (rwA X j) 0) (cel (rwA X j) 1)
def lS (g : Bool) (n d : Nat) (Rw X : List (List AV)) (j : Int) : Bool × Nat × Nat := st48 g n d (cel (rwA Rw j) 1) (cel (rwA Rw j) 2) (cel (rwA X j) 0) (cel (rwA X j) 1)
def oD (Rw X : List (List AV)) (i j : Int) : Bool := riB (cel (rwA (coefs (rwA Rw j)) i) 0) (cel (rwA (coefs (rwA Rw j)) i) 1) (cel (rwA X j) 0) (cel (rwA X j) 1)
def oS (g : Bool) (n d : Nat) (Rw X : List (List AV)) (i j : Int) : Bool × Nat × Nat := st48 g n d (cel (rwA (coefs (rwA Rw j)) i) 0) (cel (rwA (coefs (rwA Rw j)) i) 1) (cel (rwA X j) 0) (cel (rwA X j) 1)
def inA18 (c : Bool) (nb b : AObj) (k : Nat) (F Rw X : List (List AV)) (R : St → Option Res) (l i : Int) : Option Res :=
  bif decide (i < l) then inR Rw i (bif !eqO (rwA Rw i) then inR X i (bif decide (nI X i < 0) then rB false else inR X i (nN c (R (σ18a nb F Rw X l (w64 (i + 1)))))) else inR X i (nN c (R (σ18a nb F Rw X l (w64 (i + 1))))))
  else lo18 k k b F Rw X (F.length : Nat) 0
def inB18 (s : Int) (b : AObj) (k m : Nat) (F Rw X : List (List AV)) (l i : Int) : Option Res :=
  bif decide (i < l) then inR F i (li18 k m k (bB F i) b (bx false nl nl) F Rw X l i (Rw.length : Nat) 0) else rB (decide (s > 0))
def inC18 (c : Bool) (nb : AObj) (s : Int) (fr : Bool) (b : AObj) (k m : Nat) (F Rw X : List (List AV)) (R : St → Option Res) (l i lc j : Int) : Option Res :=
  bif decide (j < lc) then inR Rw j (inR (coefs (rwA Rw j)) i (inR X j (nN c (R (σ18c fr b nb F Rw X l i lc (w64 (j + 1)))))))
  else bif decide (s > 0) then rB false else bif fr then (bif s != 0 then rB false else lo18 k m b F Rw X l (w64 (i + 1))) else lo18 k m b F Rw X l (w64 (i + 1))
section
variable (k m : Nat) (F Rw X N D N' D' : List (List AV)) (R : St → Option Res) (l i lc j : Int) (fr g g' : Bool)
theorem b18 : ev N5 (k + 1) 18 [sys2 F Rw, sl42 X] [] = nN ((Rw.map rowO).all okRow && okL X) (bif askM F.length (Rw.map rowO) (rtsO X) (Rw.length : Nat) != 0 then rE (askM F.length (Rw.map rowO) (rtsO X) (Rw.length : Nat)) else loopAt N5 18 Try.f18 0 k P18a [] k (σ18a (bx false nl nl) F Rw X (Rw.length : Nat) 0)) := by kernel_rfl
theorem ra18a : roundAt N5 18 Try.f18 0 k P18a [] R (σ18a (bx false nl nl) F Rw X l i) = inA18 (lD Rw X i) (bxN (lS false 0 1 Rw X i)) (bx false nl nl) k F Rw X R l i := by kernel_rfl
theorem ra18c : roundAt N5 18 Try.f18 0 k P18a [] R (σ18a (bx g (slU N) (slU D)) F Rw X l i) = inA18 (okS N D && lD Rw X i) (bxN (lS g (valR N) (valR D) Rw X i)) (bx g (slU N) (slU D)) k F Rw X R l i := by kernel_rfl
theorem rb18a : roundAt N5 18 Try.f18 0 k P18b [] (loopAt N5 18 Try.f18 0 k P18b [] m) (σ18b (bx false nl nl) F Rw X l i) = inB18 0 (bx false nl nl) k m F Rw X l i := by kernel_rfl
theorem rb18c : roundAt N5 18 Try.f18 0 k P18b [] (loopAt N5 18 Try.f18 0 k P18b [] m) (σ18b (bx g (slU N) (slU D)) F Rw X l i) = inB18 (s49 g N) (bx g (slU N) (slU D)) k m F Rw X l i := by kernel_rfl
theorem rc18a (b : AObj) (hb : b = bx false nl nl ∨ ∃ g N D, b = bx g (slU N) (slU D)) : roundAt N5 18 Try.f18 0 k P18c [m] R (σ18c fr b (bx false nl nl) F Rw X l i lc j) = inC18 (oD Rw X i j) (bxN (oS false 0 1 Rw X i j)) 0 fr b k m F Rw X R l i lc j := by
  rcases hb with rfl | ⟨g, N, D, rfl⟩
  · kernel_rfl
  · kernel_rfl
theorem rc18c (b : AObj) (hb : b = bx false nl nl ∨ ∃ g N D, b = bx g (slU N) (slU D)) : roundAt N5 18 Try.f18 0 k P18c [m] R (σ18c fr b (bx g (slU N) (slU D)) F Rw X l i lc j) = inC18 (okS N D && oD Rw X i j) (bxN (oS g (valR N) (valR D) Rw X i j)) (s49 g N) fr b k m F Rw X R l i lc j := by
  rcases hb with rfl | ⟨g, N, D, rfl⟩
  · kernel_rfl
  · kernel_rfl
end
end
end Go.Proofs.Ytgcdiccbehiijaa.W.U
namespace Go.Proofs.Ytgcdiccbehiijaa.W.U
open Go.Fw
set_option maxRecDepth 100000
noncomputable section
open Classical in
def allF (p : Nat → Bool) (n i : Nat) : Bool := decide (∀ j, i ≤ j → j < n → p j = true)
open Classical in
theorem allF_iff {p : Nat → Bool} {n i : Nat} : allF p n i = true ↔ ∀ j, i ≤ j → j < n → p j = true := @decide_eq_true_iff _ _
theorem allF_lt {p : Nat → Bool} {n i : Nat} (h : i < n) : allF p n i = (p i && allF p n (i + 1)) := by
  rw [Bool.eq_iff_iff, Bool.and_eq_true, allF_iff, allF_iff]
  constructor
  · intro h1
    exact ⟨h1 i (Nat.le_refl _) h, fun j hj hn => h1 j (by omega) hn⟩
  · rintro ⟨h1, h2⟩ j hj hn
    rcases Nat.lt_or_eq_of_le hj with h3 | h3
    · exact h2 j h3 hn
    · subst h3; exact h1
theorem allF_end {p : Nat → Bool} {n i : Nat} (h : n ≤ i) : allF p n i = true := by
  rw [allF_iff]; intro j h1 h2; omega
structure GoodS (r : Bool × Nat × Nat) (q : Rat) (L : Nat) : Prop where
  val : qq (sg r.1 r.2.1, (r.2.2 : Int)) = q
  pos : 1 ≤ r.2.2
  l1 : dlen r.2.1 ≤ L
  l2 : dlen r.2.2 ≤ L
theorem GoodS.sumV {r : Bool × Nat × Nat} {q : Rat} {L : Nat} (h : GoodS r q L) : SumV (bxN r) q L := by
  rw [← h.val]; exact SumV.c h.pos h.l2 h.l1
theorem good_step (g : Bool) {n d L : Nat} {x y z w : Int} (h1 : 1 ≤ d) (hn : dlen n ≤ L) (hd : dlen d ≤ L) (hx : RiQ x y) (hz : RiQ z w) : GoodS (st48 g n d x y z w) (qq (sg g n, (d : Int)) + qq (x, y) * qq (z, w)) (L + 3) :=
  ⟨(step_val g h1 hx hz).1, (step_val g h1 hx hz).2, (step_len g hn hd hx hz).1, (step_len g hn hd hx hz).2⟩
theorem sum_st {b : AObj} {q : Rat} {L : Nat} (h : SumV b q L) (h1 : 1 ≤ L) (hL : L ≤ 89000) {x y z w : Int} (hx : RiQ x y) (hz : RiQ z w) :
    (b = bx false nl nl ∧ riB x y z w = true ∧ GoodS (st48 false 0 1 x y z w) (q + qq (x, y) * qq (z, w)) (L + 3)) ∨
    ∃ g n d, b = bx g (slU (dRw n)) (slU (dRw d)) ∧ (okS (dRw n) (dRw d) && riB x y z w) = true ∧ GoodS (st48 g (valR (dRw n)) (valR (dRw d)) x y z w) (q + qq (x, y) * qq (z, w)) (L + 3) := by
  have hr : riB x y z w = true := riB_iff.2 ⟨hx, hz⟩
  have hd1 := dlen_one
  cases h with
  | a =>
    refine .inl ⟨rfl, hr, ?_⟩
    have h := good_step false (n := 0) (d := 1) (L := L) (by omega) (dlen_zero_le L) (by omega) hx hz
    rw [qzero (sg_zero false)] at h
    exact h
  | @c g n d _ h3 h4 h5 =>
    refine .inr ⟨g, n, d, rfl, ?_, ?_⟩
    · unfold okS
      rw [hr, dRw_len, dRw_len, Nat.ble_eq_true_of_le (by omega), Nat.ble_eq_true_of_le (by omega), isDR_of (by omega), isDR_of (by omega), dRw_ne h3]; rfl
    · rw [valR_dRw, valR_dRw]
      exact good_step g h3 h5 h4 hx hz
theorem good_sign {r : Bool × Nat × Nat} {q : Rat} {L : Nat} (h : GoodS r q L) : (s49 r.1 (dRw r.2.1) = 0 ∧ q = 0) ∨ (s49 r.1 (dRw r.2.1) = 1 ∧ 0 < q) ∨ (s49 r.1 (dRw r.2.1) = -1 ∧ q < 0) := by
  rw [← h.val]
  exact s49_val h.pos
def RiP (p : Int × Int) : Prop := RiQ p.1 p.2
theorem riP_ri {p : Int × Int} (h : riP p = true) : RiP p := by
  unfold riP rightB at h
  simp only [Bool.and_eq_true, decide_eq_true_iff] at h
  obtain ⟨h1, h2, h3, h4, -⟩ := h
  refine ⟨?_, h1, h2⟩
  unfold isI
  rw [Bool.and_eq_true, decide_eq_true_iff, decide_eq_true_iff]
  omega
def cP (Rw : List (List AV)) (k i : Nat) : Int × Int := ratO (rwA (coefs (rwA Rw (k : Nat))) (i : Nat))
def lP (Rw : List (List AV)) (k : Nat) : Int × Int := (cel (rwA Rw (k : Nat)) 1, cel (rwA Rw (k : Nat)) 2)
def eP (Rw : List (List AV)) (k : Nat) : Bool := eqO (rwA Rw (k : Nat))
def xP (X : List (List AV)) (i : Nat) : Int × Int := ratO (rwA X (i : Nat))
def fP (F : List (List AV)) (i : Nat) : Bool := bB F (i : Nat)
structure AskedP (F Rw X : List (List AV)) (m : Nat) : Prop where
  nf : F.length ≤ 32
  nr : Rw.length ≤ 64
  nx : X.length = m
  row : ∀ k, k < Rw.length → (coefs (rwA Rw (k : Nat))).length = F.length
  rc : ∀ k, k < Rw.length → ∀ i, i < F.length → RiP (cP Rw k i)
  rl : ∀ k, k < Rw.length → RiP (lP Rw k)
  rx : ∀ i, i < X.length → RiP (xP X i)
theorem chkR_zero {n : Nat} : ∀ {rs : List RowM}, chkR n rs = 0 → ∀ r, r ∈ rs → r.c.length = n ∧ (∀ p, p ∈ r.c → riP p = true) ∧ riP r.l = true
  | [], _, r, h => by cases h
  | x :: xs, h, r, hr => by
    unfold chkR at h
    cases h1 : Nat.beq x.c.length n with
    | false => rw [h1] at h; simp at h
    | true =>
      rw [h1] at h
      cases h2 : (x.c ++ [x.l]).all riP with
      | false => rw [h2] at h; simp at h
      | true =>
        rw [h2] at h
        rcases List.mem_cons.1 hr with rfl | hr
        · refine ⟨Nat.eq_of_beq_eq_true h1, fun p hp => ?_, ?_⟩
          · rw [List.all_eq_true] at h2
            exact h2 p (List.mem_append_left _ hp)
          · rw [List.all_eq_true] at h2
            exact h2 _ (List.mem_append_right _ (List.mem_singleton.2 rfl))
        · exact chkR_zero h r hr
theorem chkM_zero {n : Nat} {rs : List RowM} (h : chkM n rs = 0) : n ≤ 32 ∧ rs.length ≤ 64 ∧ chkR n rs = 0 := by
  unfold chkM at h
  by_cases h1 : n ≤ 32
  · rw [Nat.ble_eq_true_of_le h1] at h
    by_cases h2 : rs.length ≤ 64
    · rw [Nat.ble_eq_true_of_le h2] at h
      exact ⟨h1, h2, h⟩
    · rw [nble_false h2] at h; simp at h
  · rw [nble_false h1] at h; simp at h
theorem formM_zero {l : List (Int × Int)} (h : formM l = 0) : ∀ p, p ∈ l → riP p = true := by
  unfold formM at h
  cases h1 : l.all riP with
  | false => rw [h1] at h; simp at h
  | true => rw [List.all_eq_true] at h1; exact h1
theorem asked_zero {F Rw X : List (List AV)} {m : Nat} (h : askM F.length (Rw.map rowO) (rtsO X) (m : Nat) = 0) : AskedP F Rw X m := by
  unfold askM at h
  cases h1 : chkM F.length (Rw.map rowO) != 0 with
  | true => rw [h1] at h; rw [bne_iff_ne] at h1; exact absurd h h1
  | false =>
    rw [h1] at h
    have h1 : chkM F.length (Rw.map rowO) = 0 := by simpa using h1
    obtain ⟨a1, a2, a3⟩ := chkM_zero h1
    rw [List.length_map] at a2
    have a4 := chkR_zero a3
    cases h2 : (((rtsO X).length : Nat) : Int) != ((m : Nat) : Int) with
    | true => rw [h2] at h; simp at h
    | false =>
      rw [h2] at h
      have h2 : (((rtsO X).length : Nat) : Int) = ((m : Nat) : Int) := by simpa using h2
      have h3 := formM_zero h
      have hx : X.length = m := by unfold rtsO at h2; rw [List.length_map] at h2; omega
      refine ⟨a1, a2, hx, fun k hk => ?_, fun k hk i hi => ?_, fun k hk => ?_, fun i hi => ?_⟩
      · rw [← rowO_len]; exact (a4 _ (map_in rowO hk)).1
      · have h5 := a4 _ (map_in rowO hk)
        have h6 : i < (coefs (rwA Rw (k : Nat))).length := by rw [← rowO_len, h5.1]; exact hi
        exact riP_ri (h5.2.1 _ (map_in ratO h6))
      · exact riP_ri (a4 _ (map_in rowO hk)).2.2
      · exact riP_ri (h3 _ (map_in ratO hi))
open Classical in
def geB (e : Bool) (s : Rat) : Bool := decide (geP e s)
open Classical in
def leB (e : Bool) (s : Rat) : Bool := decide (leP e s)
def rowB (F Rw X : List (List AV)) (k : Nat) : Bool := geB (eP Rw k) (rowS F.length (cP Rw) (lP Rw) (xP X) k)
def sgnB (F X : List (List AV)) (i : Nat) : Bool := fP F i || decide (0 ≤ (xP X i).1)
def solB (F Rw X : List (List AV)) : Bool := allF (sgnB F X) X.length 0 && allF (rowB F Rw X) Rw.length 0
open Classical in
theorem geB_iff {e : Bool} {q : Rat} : geB e q = true ↔ geP e q := @decide_eq_true_iff _ _
open Classical in
theorem leB_iff {e : Bool} {q : Rat} : leB e q = true ↔ leP e q := @decide_eq_true_iff _ _
theorem geB_of {e : Bool} {q : Rat} {s : Int} (h : (s = 0 ∧ q = 0) ∨ (s = 1 ∧ 0 < q) ∨ (s = -1 ∧ q < 0)) (A B : Option Res) :
    (bif decide (s < 0) then B else bif e then (bif s != 0 then B else A) else A) = bif geB e q then A else B := by
  rcases h with ⟨rfl, hq⟩ | ⟨rfl, hq⟩ | ⟨rfl, hq⟩
  · have : geB e q = true := by
      rw [geB_iff]; subst hq; exact ⟨Rat.le_refl, fun _ => rfl⟩
    rw [this]; cases e <;> rfl
  · cases e with
    | true =>
      have : geB true q = false := by
        rw [← Bool.not_eq_true, geB_iff]; rintro ⟨-, h⟩
        have := h rfl
        grind
      rw [this]; rfl
    | false =>
      have : geB false q = true := by
        rw [geB_iff]; exact ⟨by grind, fun h => by cases h⟩
      rw [this]; rfl
  · have : geB e q = false := by
      rw [← Bool.not_eq_true, geB_iff]; rintro ⟨h, -⟩
      grind
    rw [this]; rfl
theorem inner32 (F Rw X : List (List AV)) (kk : Nat) (hA : AskedP F Rw X F.length) (k : Nat) (hk : k < Rw.length) (m : Nat)
    (hR : lo32 kk m Rw X (Rw.length : Nat) ((k + 1 : Nat) : Int) = rB (allF (rowB F Rw X) Rw.length (k + 1))) : ∀ (n j : Nat) (b : AObj), SumV b (sumR (fun i => qq (cP Rw k i) * qq (xP X i)) j) (1 + 3 * j) → j ≤ F.length → F.length - j < n →
    loopAt N5 32 Try.f32 0 kk P32c [m] n (σ32c (coefs (rwA Rw (k : Nat))) (cel (rwA Rw (k : Nat)) 1) (cel (rwA Rw (k : Nat)) 2) (eqO (rwA Rw (k : Nat))) b Rw X (Rw.length : Nat) (k : Nat) (F.length : Nat) (j : Nat)) = rB (allF (rowB F Rw X) Rw.length k)
  | 0, j, b, _, _, h => by omega
  | n + 1, j, b, hb, hj, h => by
    have nf := hA.nf
    have nr := hA.nr
    have hc := hA.row k hk
    have hx := hA.nx
    rw [loopAt_succ]
    rcases Nat.lt_or_eq_of_le hj with h1 | h1
    · have ih := inner32 F Rw X kk hA k hk m hR n (j + 1)
      have r1 : RiQ (cel (rwA (coefs (rwA Rw (k : Nat))) (j : Nat)) 0) (cel (rwA (coefs (rwA Rw (k : Nat))) (j : Nat)) 1) := hA.rc k hk j h1
      have r2 : RiQ (cel (rwA X (j : Nat)) 0) (cel (rwA X (j : Nat)) 1) := hA.rx j (by omega)
      have i1 : j < (coefs (rwA Rw (k : Nat))).length := by omega
      have i2 : j < X.length := by omega
      rcases sum_st hb (by omega) (by omega) r1 r2 with ⟨rfl, h2, h3⟩ | ⟨g, a, d, rfl, h2, h3⟩
      · refine (rc32a kk m Rw X _ _ _ _ _ _ _ _ _).trans ?_
        unfold in32
        rw [decide_eq_true (by omega : ((j : Nat) : Int) < ((F.length : Nat) : Int)), inR_on i1, inR_on i2, nN_on (show cD _ _ _ = true from h2), w64_suc (n := j) (by omega)]
        exact ih _ h3.sumV h1 (by omega)
      · refine (rc32c kk m Rw X _ _ _ _ _ _ _ _ _ _ _ _).trans ?_
        unfold in32
        rw [decide_eq_true (by omega : ((j : Nat) : Int) < ((F.length : Nat) : Int)), inR_on i1, inR_on i2, nN_on (show (okS (dRw a) (dRw d) && cD (coefs (rwA Rw (k : Nat))) X (j : Nat)) = true from h2), w64_suc (n := j) (by omega)]
        exact ih _ h3.sumV h1 (by omega)
    · subst h1
      have r1 : RiQ (cel (rwA Rw (k : Nat)) 1) (cel (rwA Rw (k : Nat)) 2) := hA.rl k hk
      have r2 : RiQ (-1) 1 := ⟨rfl, by omega, by omega⟩
      have hal : ∀ q, q = rowS F.length (cP Rw) (lP Rw) (xP X) k → (bif geB (eqO (rwA Rw (k : Nat))) q then rB (allF (rowB F Rw X) Rw.length (k + 1)) else rB false) = rB (allF (rowB F Rw X) Rw.length k) := fun q hq => by
        rw [allF_lt hk]
        subst hq
        show (bif rowB F Rw X k then _ else _) = _
        cases rowB F Rw X k <;> rfl
      rcases sum_st hb (by omega) (by omega) r1 r2 with ⟨rfl, h2, h3⟩ | ⟨g, a, d, rfl, h2, h3⟩
      · refine (rc32a kk m Rw X _ _ _ _ _ _ _ _ _).trans ?_
        unfold in32
        rw [decide_eq_false (by omega : ¬ ((F.length : Nat) : Int) < ((F.length : Nat) : Int)), nN_on h2, w64_suc (n := k) (by omega), hR]
        exact (geB_of (good_sign h3) _ _).trans (hal _ rfl)
      · refine (rc32c kk m Rw X _ _ _ _ _ _ _ _ _ _ _ _).trans ?_
        unfold in32
        rw [decide_eq_false (by omega : ¬ ((F.length : Nat) : Int) < ((F.length : Nat) : Int)), nN_on h2, w64_suc (n := k) (by omega), hR]
        exact (geB_of (good_sign h3) _ _).trans (hal _ rfl)
end
end Go.Proofs.Ytgcdiccbehiijaa.W.U
namespace Go.Proofs.Ytgcdiccbehiijaa.W.U
open Go.Fw
set_option maxRecDepth 100000
noncomputable section
theorem outer32 (F Rw X : List (List AV)) (kk : Nat) (hA : AskedP F Rw X F.length) (hkk : 33 ≤ kk) : ∀ (n k : Nat), k ≤ Rw.length → Rw.length - k < n → lo32 kk n Rw X (Rw.length : Nat) (k : Nat) = rB (allF (rowB F Rw X) Rw.length k)
  | 0, k, _, h => by omega
  | n + 1, k, hk, h => by
    have nf := hA.nf
    unfold lo32
    refine (loopAt_succ _ _ _ _ _ _ _ n _).trans ((rb32 kk n Rw X _ _).trans ?_)
    rcases Nat.lt_or_eq_of_le hk with h1 | h1
    · have ih := outer32 F Rw X kk hA hkk n (k + 1) h1 (by omega)
      rw [decide_eq_true (by omega : ((k : Nat) : Int) < ((Rw.length : Nat) : Int)), inR_on h1, hA.row k h1]
      exact inner32 F Rw X kk hA k h1 n ih kk 0 _ SumV.a (Nat.zero_le _) (by omega)
    · subst h1
      rw [decide_eq_false (by omega : ¬ ((Rw.length : Nat) : Int) < ((Rw.length : Nat) : Int)), allF_end (Nat.le_refl _)]; rfl
theorem nI_xP (X : List (List AV)) (i : Nat) : nI X (i : Nat) = (xP X i).1 := rfl
theorem first32 (F Rw X : List (List AV)) (kk : Nat) (hA : AskedP F Rw X F.length) (hkk : 65 ≤ kk) : loopAt N5 32 Try.f32 0 kk P32a [] kk (σ32a F Rw X (X.length : Nat) 0) = rB (solB F Rw X) := by
  have nf := hA.nf
  have hx := hA.nx
  have hout := outer32 F Rw X kk hA (by omega) kk 0 (Nat.zero_le _) (by have := hA.nr; omega)
  exact loop_up (S := N5) (f := 32) (fn := Try.f32) (m := 0) (k := kk) (p := P32a) (ms := []) (fun i => σ32a F Rw X (X.length : Nat) ((i : Nat) : Int)) X.length (fun i => rB (allF (sgnB F X) X.length i && allF (rowB F Rw X) Rw.length 0))
    (fun i hi R hR => by
      refine (ra32 kk F Rw X R _ _).trans ?_
      have hi2 : i < F.length := by omega
      rw [decide_eq_true (by omega : ((i : Nat) : Int) < ((X.length : Nat) : Int)), inR_on hi, inR_on hi2, w64_suc (by omega), hR, allF_lt hi, nI_xP]
      show (bif !fP F i then _ else _) = _
      unfold sgnB
      cases fP F i with
      | true => rfl
      | false =>
        by_cases h0 : (xP X i).1 < 0
        · rw [decide_eq_true h0, decide_eq_false (by omega : ¬ 0 ≤ (xP X i).1)]; rfl
        · rw [decide_eq_false h0, decide_eq_true (by omega : 0 ≤ (xP X i).1)]; rfl)
    (fun R => by
      refine (ra32 kk F Rw X R _ _).trans ?_
      rw [decide_eq_false (by omega : ¬ ((X.length : Nat) : Int) < ((X.length : Nat) : Int)), allF_end (p := sgnB F X) (Nat.le_refl _)]
      exact hout)
    kk 0 (Nat.zero_le _) (by omega)
def ask32 (F Rw X : List (List AV)) : Int := askM F.length (Rw.map rowO) (rtsO X) (F.length : Nat)
def res32 (F Rw X : List (List AV)) : Bool := bif ask32 F Rw X != 0 then false else solB F Rw X
def F32 : List AV → List AObj → Ab Res := fun args st => match args, st with
  | [.agg [.sl 4 .any F, .sl 44 .any Rw], .sl 42 .any X], [] => some ((Rw.map rowO).all okRow && okL X, (.tup [.k (.bool (res32 F Rw X)), i64 (ask32 F Rw X)], []))
  | _, _ => none
theorem told32 (args : List AV) (st : List AObj) (r : Res) (h : F32 args st = some (true, r)) : ∃ k, ev N5 k 32 args st = some r := by
  unfold F32 at h
  split at h
  · rename_i F Rw X
    simp only [Option.some.injEq, Prod.mk.injEq] at h
    obtain ⟨h1, rfl⟩ := h
    refine ⟨65 + 1, (b32 _ F Rw X).trans ?_⟩
    rw [nN_on h1]
    unfold res32
    show (bif ask32 F Rw X != 0 then rE (ask32 F Rw X) else _) = _
    cases h2 : ask32 F Rw X != 0 with
    | true => rfl
    | false =>
      have h3 : ask32 F Rw X = 0 := by simpa using h2
      rw [h3]
      exact first32 F Rw X 65 (asked_zero h3) (by omega)
  · cases h
end
end Go.Proofs.Ytgcdiccbehiijaa.W.U
namespace Go.Proofs.Ytgcdiccbehiijaa.W.U
open Go.Fw
set_option maxRecDepth 100000
noncomputable section
def mulB (Rw X : List (List AV)) (k : Nat) : Bool := eP Rw k || decide (0 ≤ (xP X k).1)
def colB (F Rw X : List (List AV)) (i : Nat) : Bool := leB (fP F i) (colS Rw.length (cP Rw) (xP X) i)
open Classical in
def gtB (q : Rat) : Bool := decide (0 < q)
open Classical in
theorem gtB_iff {q : Rat} : gtB q = true ↔ 0 < q := @decide_eq_true_iff _ _
def leaB (Rw X : List (List AV)) : Bool := gtB (leaS (lP Rw) (xP X) Rw.length)
def refB (F Rw X : List (List AV)) : Bool := allF (mulB Rw X) Rw.length 0 && (allF (colB F Rw X) F.length 0 && leaB Rw X)
def SgnOf (s : Int) (q : Rat) : Prop := (s = 0 ∧ q = 0) ∨ (s = 1 ∧ 0 < q) ∨ (s = -1 ∧ q < 0)
theorem sumV_sign {b : AObj} {q : Rat} {L : Nat} (h : SumV b q L) : (b = bx false nl nl ∧ q = 0) ∨ ∃ g n d, b = bx g (slU (dRw n)) (slU (dRw d)) ∧ SgnOf (s49 g (dRw n)) q := by
  cases h with
  | a => exact .inl ⟨rfl, rfl⟩
  | @c g n d _ h3 h4 h5 => exact .inr ⟨g, n, d, rfl, s49_val h3⟩
theorem sumV_kind {b : AObj} {q : Rat} {L : Nat} (h : SumV b q L) : b = bx false nl nl ∨ ∃ g N D, b = bx g (slU N) (slU D) := by
  cases h with
  | a => exact .inl rfl
  | @c g n d _ h3 h4 h5 => exact .inr ⟨g, _, _, rfl⟩
theorem ff1 {α : Type} {A X Y : α} (h : X = Y) : (bif false then A else X) = Y := h
theorem tt1 {α : Type} {A X Y : α} (h : X = Y) : (bif true then X else A) = Y := h
theorem leB_of {e : Bool} {q : Rat} {s : Int} (h : SgnOf s q) (A B : Option Res) :
    (bif decide (s > 0) then B else bif e then (bif s != 0 then B else A) else A) = bif leB e q then A else B := by
  rcases h with ⟨rfl, hq⟩ | ⟨rfl, hq⟩ | ⟨rfl, hq⟩
  · have : leB e q = true := by
      rw [leB_iff]; subst hq; exact ⟨Rat.le_refl, fun _ => rfl⟩
    rw [this]; cases e <;> rfl
  · have : leB e q = false := by
      rw [← Bool.not_eq_true, leB_iff]; rintro ⟨h, -⟩
      grind
    rw [this]; rfl
  · cases e with
    | true =>
      have : leB true q = false := by
        rw [← Bool.not_eq_true, leB_iff]; rintro ⟨-, h⟩
        have := h rfl
        grind
      rw [this]; rfl
    | false =>
      have : leB false q = true := by
        rw [leB_iff]; exact ⟨by grind, fun h => by cases h⟩
      rw [this]; rfl
theorem gtB_of {q : Rat} {s : Int} (h : SgnOf s q) : decide (s > 0) = gtB q := by
  rcases h with ⟨rfl, hq⟩ | ⟨rfl, hq⟩ | ⟨rfl, hq⟩
  · have : gtB q = false := by rw [← Bool.not_eq_true, gtB_iff]; grind
    rw [this]; rfl
  · have : gtB q = true := by rw [gtB_iff]; exact hq
    rw [this]; rfl
  · have : gtB q = false := by rw [← Bool.not_eq_true, gtB_iff]; grind
    rw [this]; rfl
theorem inner18 (F Rw X : List (List AV)) (kk : Nat) (hA : AskedP F Rw X Rw.length) (b : AObj) (hb : b = bx false nl nl ∨ ∃ g N D, b = bx g (slU N) (slU D)) (w : Bool) (i : Nat) (hi : i < F.length) (m : Nat)
    (hR : lo18 kk m b F Rw X (F.length : Nat) ((i + 1 : Nat) : Int) = rB (allF (colB F Rw X) F.length (i + 1) && w)) : ∀ (n j : Nat) (b2 : AObj), SumV b2 (sumR (fun k => qq (cP Rw k i) * qq (xP X k)) j) (1 + 3 * j) → j ≤ Rw.length → Rw.length - j < n →
    loopAt N5 18 Try.f18 0 kk P18c [m] n (σ18c (bB F (i : Nat)) b b2 F Rw X (F.length : Nat) (i : Nat) (Rw.length : Nat) (j : Nat)) = rB (allF (colB F Rw X) F.length i && w)
  | 0, j, b2, _, _, h => by omega
  | n + 1, j, b2, hb2, hj, h => by
    have nf := hA.nf
    have nr := hA.nr
    have hx := hA.nx
    rw [loopAt_succ]
    rcases Nat.lt_or_eq_of_le hj with h1 | h1
    · have ih := inner18 F Rw X kk hA b hb w i hi m hR n (j + 1)
      have r1 : RiQ (cel (rwA (coefs (rwA Rw (j : Nat))) (i : Nat)) 0) (cel (rwA (coefs (rwA Rw (j : Nat))) (i : Nat)) 1) := hA.rc j h1 i hi
      have r2 : RiQ (cel (rwA X (j : Nat)) 0) (cel (rwA X (j : Nat)) 1) := hA.rx j (by omega)
      have i1 : i < (coefs (rwA Rw (j : Nat))).length := by rw [hA.row j h1]; exact hi
      have i2 : j < X.length := by omega
      rcases sum_st hb2 (by omega) (by omega) r1 r2 with ⟨rfl, h2, h3⟩ | ⟨g, a, d, rfl, h2, h3⟩
      · refine (rc18a kk m F Rw X _ _ _ _ _ _ b hb).trans ?_
        unfold inC18
        rw [decide_eq_true (by omega : ((j : Nat) : Int) < ((Rw.length : Nat) : Int)), inR_on h1, inR_on i1, inR_on i2, nN_on (show oD _ _ _ _ = true from h2), w64_suc (n := j) (by omega)]
        exact tt1 (ih _ h3.sumV h1 (by omega))
      · refine (rc18c kk m F Rw X _ _ _ _ _ _ _ _ _ b hb).trans ?_
        unfold inC18
        rw [decide_eq_true (by omega : ((j : Nat) : Int) < ((Rw.length : Nat) : Int)), inR_on h1, inR_on i1, inR_on i2, nN_on (show (okS (dRw a) (dRw d) && oD Rw X (i : Nat) (j : Nat)) = true from h2), w64_suc (n := j) (by omega)]
        exact tt1 (ih _ h3.sumV h1 (by omega))
    · subst h1
      have hal : (bif leB (bB F (i : Nat)) (colS Rw.length (cP Rw) (xP X) i) then rB (allF (colB F Rw X) F.length (i + 1) && w) else rB false) = rB (allF (colB F Rw X) F.length i && w) := by
        rw [allF_lt hi]
        show (bif colB F Rw X i then _ else _) = _
        cases colB F Rw X i <;> rfl
      rcases sumV_sign hb2 with ⟨rfl, h3⟩ | ⟨g, a, d, rfl, h3⟩
      · refine (rc18a kk m F Rw X _ _ _ _ _ _ b hb).trans ?_
        unfold inC18
        rw [decide_eq_false (by omega : ¬ ((Rw.length : Nat) : Int) < ((Rw.length : Nat) : Int)), w64_suc (n := i) (by omega), hR]
        exact ff1 ((leB_of (s := 0) (.inl ⟨rfl, h3⟩) _ _).trans hal)
      · refine (rc18c kk m F Rw X _ _ _ _ _ _ _ _ _ b hb).trans ?_
        unfold inC18
        rw [decide_eq_false (by omega : ¬ ((Rw.length : Nat) : Int) < ((Rw.length : Nat) : Int)), w64_suc (n := i) (by omega), hR]
        exact ff1 ((leB_of h3 _ _).trans hal)
theorem outer18 (F Rw X : List (List AV)) (kk : Nat) (hA : AskedP F Rw X Rw.length) (hkk : 65 ≤ kk) (b : AObj) {q : Rat} {L : Nat} (hb : SumV b q L) : ∀ (n i : Nat), i ≤ F.length → F.length - i < n → lo18 kk n b F Rw X (F.length : Nat) (i : Nat) = rB (allF (colB F Rw X) F.length i && gtB q)
  | 0, i, _, h => by omega
  | n + 1, i, hi, h => by
    have nr := hA.nr
    unfold lo18
    refine (loopAt_succ _ _ _ _ _ _ _ n _).trans ?_
    rcases Nat.lt_or_eq_of_le hi with h1 | h1
    · have ih := outer18 F Rw X kk hA hkk b hb n (i + 1) h1 (by omega)
      have hin := inner18 F Rw X kk hA b (sumV_kind hb) (gtB q) i h1 n ih kk 0 _ SumV.a (Nat.zero_le _) (by omega)
      rcases sumV_sign hb with ⟨rfl, h3⟩ | ⟨g, a, d, rfl, h3⟩
      · refine (rb18a kk n F Rw X _ _).trans ?_
        unfold inB18
        rw [decide_eq_true (by omega : ((i : Nat) : Int) < ((F.length : Nat) : Int)), inR_on h1]
        exact tt1 hin
      · refine (rb18c kk n F Rw X _ _ _ _ _).trans ?_
        unfold inB18
        rw [decide_eq_true (by omega : ((i : Nat) : Int) < ((F.length : Nat) : Int)), inR_on h1]
        exact tt1 hin
    · subst h1
      rw [allF_end (p := colB F Rw X) (Nat.le_refl _)]
      rcases sumV_sign hb with ⟨rfl, h3⟩ | ⟨g, a, d, rfl, h3⟩
      · refine (rb18a kk n F Rw X _ _).trans ?_
        unfold inB18
        rw [decide_eq_false (by omega : ¬ ((F.length : Nat) : Int) < ((F.length : Nat) : Int)), gtB_of (s := 0) (.inl ⟨rfl, h3⟩)]; rfl
      · refine (rb18c kk n F Rw X _ _ _ _ _).trans ?_
        unfold inB18
        rw [decide_eq_false (by omega : ¬ ((F.length : Nat) : Int) < ((F.length : Nat) : Int)), gtB_of h3]; rfl
theorem mul_alg (e : Bool) {v : Int} {A L : Option Res} (hL : A = L) : (bif !e then (bif decide (v < 0) then rB false else A) else A) = bif (e || decide (0 ≤ v)) then L else rB false := by
  subst hL
  cases e with
  | true => rfl
  | false =>
    by_cases h0 : v < 0
    · rw [decide_eq_true h0, decide_eq_false (by omega : ¬ 0 ≤ v)]; rfl
    · rw [decide_eq_false h0, decide_eq_true (by omega : 0 ≤ v)]; rfl
theorem first18 (F Rw X : List (List AV)) (kk : Nat) (hA : AskedP F Rw X Rw.length) (hkk : 65 ≤ kk) : ∀ (n k : Nat) (b : AObj), SumV b (leaS (lP Rw) (xP X) k) (1 + 3 * k) → k ≤ Rw.length → Rw.length - k < n →
    loopAt N5 18 Try.f18 0 kk P18a [] n (σ18a b F Rw X (Rw.length : Nat) (k : Nat)) = rB (allF (mulB Rw X) Rw.length k && (allF (colB F Rw X) F.length 0 && leaB Rw X))
  | 0, k, b, _, _, h => by omega
  | n + 1, k, b, hb, hk, h => by
    have nf := hA.nf
    have nr := hA.nr
    have hx := hA.nx
    rw [loopAt_succ]
    rcases Nat.lt_or_eq_of_le hk with h1 | h1
    · have ih := first18 F Rw X kk hA hkk n (k + 1)
      have r1 : RiQ (cel (rwA Rw (k : Nat)) 1) (cel (rwA Rw (k : Nat)) 2) := hA.rl k h1
      have r2 : RiQ (cel (rwA X (k : Nat)) 0) (cel (rwA X (k : Nat)) 1) := hA.rx k (by omega)
      have i2 : k < X.length := by omega
      have hal : (bif (eqO (rwA Rw (k : Nat)) || decide (0 ≤ nI X (k : Nat))) then rB (allF (mulB Rw X) Rw.length (k + 1) && (allF (colB F Rw X) F.length 0 && leaB Rw X)) else rB false) = rB (allF (mulB Rw X) Rw.length k && (allF (colB F Rw X) F.length 0 && leaB Rw X)) := by
        rw [allF_lt h1]
        show (bif mulB Rw X k then _ else _) = _
        cases mulB Rw X k <;> rfl
      rcases sum_st hb (by omega) (by omega) r1 r2 with ⟨rfl, h2, h3⟩ | ⟨g, a, d, rfl, h2, h3⟩
      · refine (ra18a kk F Rw X _ _ _).trans ?_
        unfold inA18
        rw [decide_eq_true (by omega : ((k : Nat) : Int) < ((Rw.length : Nat) : Int)), inR_on h1, inR_on i2, inR_on i2, nN_on (show lD _ _ _ = true from h2), w64_suc (n := k) (by omega)]
        exact tt1 ((mul_alg _ (ih _ h3.sumV h1 (by omega))).trans hal)
      · refine (ra18c kk F Rw X _ _ _ _ _ _).trans ?_
        unfold inA18
        rw [decide_eq_true (by omega : ((k : Nat) : Int) < ((Rw.length : Nat) : Int)), inR_on h1, inR_on i2, inR_on i2, nN_on (show (okS (dRw a) (dRw d) && lD Rw X (k : Nat)) = true from h2), w64_suc (n := k) (by omega)]
        exact tt1 ((mul_alg _ (ih _ h3.sumV h1 (by omega))).trans hal)
    · subst h1
      have hout := outer18 F Rw X kk hA hkk b hb kk 0 (Nat.zero_le _) (by omega)
      rw [allF_end (p := mulB Rw X) (Nat.le_refl _)]
      rcases sumV_kind hb with rfl | ⟨g, N, D, rfl⟩
      · refine (ra18a kk F Rw X _ _ _).trans ?_
        unfold inA18
        rw [decide_eq_false (by omega : ¬ ((Rw.length : Nat) : Int) < ((Rw.length : Nat) : Int))]
        exact ff1 hout
      · refine (ra18c kk F Rw X _ _ _ _ _ _).trans ?_
        unfold inA18
        rw [decide_eq_false (by omega : ¬ ((Rw.length : Nat) : Int) < ((Rw.length : Nat) : Int))]
        exact ff1 hout
def ask18 (F Rw X : List (List AV)) : Int := askM F.length (Rw.map rowO) (rtsO X) (Rw.length : Nat)
def res18 (F Rw X : List (List AV)) : Bool := bif ask18 F Rw X != 0 then false else refB F Rw X
def F18 : List AV → List AObj → Ab Res := fun args st => match args, st with
  | [.agg [.sl 4 .any F, .sl 44 .any Rw], .sl 42 .any X], [] => some ((Rw.map rowO).all okRow && okL X, (.tup [.k (.bool (res18 F Rw X)), i64 (ask18 F Rw X)], []))
  | _, _ => none
theorem told18 (args : List AV) (st : List AObj) (r : Res) (h : F18 args st = some (true, r)) : ∃ k, ev N5 k 18 args st = some r := by
  unfold F18 at h
  split at h
  · rename_i F Rw X
    simp only [Option.some.injEq, Prod.mk.injEq] at h
    obtain ⟨h1, rfl⟩ := h
    refine ⟨65 + 1, (b18 _ F Rw X).trans ?_⟩
    rw [nN_on h1]
    unfold res18
    show (bif ask18 F Rw X != 0 then rE (ask18 F Rw X) else _) = _
    cases h2 : ask18 F Rw X != 0 with
    | true => rfl
    | false =>
      have h3 : ask18 F Rw X = 0 := by simpa using h2
      rw [h3]
      have hA := asked_zero h3
      have h := first18 F Rw X 65 hA (by omega) 65 0 _ SumV.a (Nat.zero_le _) (by have := hA.nr; omega)
      exact ff1 ((congrArg (fun z : Int => loopAt N5 18 Try.f18 0 65 P18a [] 65 (σ18a (bx false nl nl) F Rw X (Rw.length : Nat) z)) (rfl : (0 : Int) = ((0 : Nat) : Int))).trans h)
  · cases h
noncomputable def N6 : FSys := (N5.tell 32 F32).tell 18 F18
theorem N6Ok (h : SysOk Try.prog sysC3) : SysOk Try.prog N6 := SysOk.tellMore ((N5Ok h).tell 32 _ told32) ((N5Ok h).tell 18 _ told18) rfl rfl
end
end Go.Proofs.Ytgcdiccbehiijaa.W.U
namespace Go.Proofs.Ytgcdiccbehiijaa.W.U
open Go.Fw
set_option maxRecDepth 100000
noncomputable section
def bl (b : Bool) : Option Res := some (.k (.bool b), [])
def F10 : List AV → List AObj → Ab Res
  | [], [] => some (true, .k (.bool true), [])
  | _, _ => none
noncomputable def N7 : FSys := N6.tell 10 F10
end
end Go.Proofs.Ytgcdiccbehiijaa.W.U
