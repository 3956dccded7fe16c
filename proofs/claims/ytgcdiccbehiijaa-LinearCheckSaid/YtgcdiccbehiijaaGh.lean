/- A part of the proofs over these laws: what its functions come to. No conditions. -/
import Derived.Test.YtgcdiccbehiijaaGb
import Derived.Test.YtgcdiccbehiijaaG3
set_option linter.all false
namespace Go.Proofs.Ytgcdiccbehiijaa.W
open Go.Fw
set_option maxRecDepth 100000
noncomputable section
noncomputable def T2 : FSys := (T1.tell 86 F86).tell 87 F87
def nB (c : Bool) (X : Option Res) : Option Res := bif c then X else none
def isDD (A B : List (List AV)) : Bool := isDR A && isDR B
section
variable (k m : Nat) (A B q r : List (List AV)) (R : St → Option Res) (i b : Int)
def σ81 (A B q r : List (List AV)) (i : Int) : St := ⟨tm 57 [(0, slR A), (1, slR B), (6, .sr 0), (7, slR r), (8, i64 i)], [.arr 3 .wide q], []⟩
def τ81 (A B q r : List (List AV)) (i b : Int) : St := ⟨tm 57 [(0, slR A), (1, slR B), (6, .sr 0), (7, slR r), (8, i64 i), (9, i64 b)], [.arr 3 .wide q], []⟩
def P81 : List Nat := [1,1,0,1,0]
def Q81 : List Nat := [1,1,0,1,0,0,1,0,0,1,0]
noncomputable def lo81 (k m : Nat) (A B q r : List (List AV)) (i : Int) : Option Res := loopAt T2 81 Try.f81 0 k P81 [] m (σ81 A B q r i)
noncomputable def li81 (k m n : Nat) (A B q r : List (List AV)) (i b : Int) : Option Res := loopAt T2 81 Try.f81 0 k Q81 [m] n (τ81 A B q r i b)
def mk81 (A : List (List AV)) : Int := ((A.length : Nat) : Int)
theorem b81 : ev T2 (k + 1) 81 [slR A, slR B] [] = bif decide (0 ≤ mk81 A) && (decide (mk81 A ≤ mk81 A) && decide (mk81 A * 8 ≤ 140737488355328)) then lo81 k k A B (zer (mk81 A)) [] (len1 A) else none := by kernel_rfl
theorem ro81 : roundAt T2 81 Try.f81 0 k P81 [] (loopAt T2 81 Try.f81 0 k P81 [] m) (σ81 A B q r i) = bif decide (i ≥ 0) then li81 k m k A B q r i 16384 else nB (isL q) (some (.tup [slR (rowsN (trimL (q.map digV))), slR r], [])) := by kernel_rfl
def st81 (q r B : List (List AV)) (i b : Int) (K : List (List AV) → List (List AV) → Option Res) : Option Res :=
  nB (isL r) (nB (isDD (rowsN (trimL (r.map digV))) B) (bif decide (cmpNat (valR (rowsN (trimL (r.map digV)))) (valR B) ≥ 0) then
    nB (isDD (rowsN (trimL (r.map digV))) B && Nat.ble (valR B) (valR (rowsN (trimL (r.map digV))))) (inR q i (inR q i (K (q.set i.toNat (putAt (q.getD i.toNat []) 0 [i64 (w64 (nI q i + b))])) (dRw (valR (rowsN (trimL (r.map digV))) - valR B)))))
    else K q (rowsN (trimL (r.map digV)))))
end
end
end Go.Proofs.Ytgcdiccbehiijaa.W
namespace Go.Proofs.Ytgcdiccbehiijaa.W
open Go.Fw
set_option maxRecDepth 100000
noncomputable section
def bitE (A : List (List AV)) (i b : Int) : Int := IntKind.i64.wrap (((BitVec.ofInt IntKind.i64.bits (nI A i) &&& BitVec.ofInt IntKind.i64.bits b).toNat : Nat) : Int)
def one1 : List (List AV) := [[i64 1]]
def dbl (r : List (List AV)) : List (List AV) := dRw (valR r + valR r)
def in81 (A B q r : List (List AV)) (i b : Int) (K : List (List AV) → List (List AV) → Option Res) : Option Res :=
  nB (isDD r r) (inR A i (bif bitE A i b != 0 then nB (isDD (dbl r) one1) (st81 q (dRw (valR (dbl r) + valR one1)) B i b K) else st81 q (dbl r) B i b K))
theorem ri81 (k m : Nat) (A B q r : List (List AV)) (R : St → Option Res) (i b : Int) : roundAt T2 81 Try.f81 0 k Q81 [m] R (τ81 A B q r i b) = bif decide (b > 0) then in81 A B q r i b (fun q r => R (τ81 A B q r i (w64 (Int.tdiv b 2)))) else lo81 k m A B q r (w64 (i - 1)) := by kernel_rfl
theorem li81_succ (k m F : Nat) (A B q r : List (List AV)) (i b : Int) : li81 k m (F + 1) A B q r i b = bif decide (b > 0) then in81 A B q r i b (fun q r => li81 k m F A B q r i (w64 (Int.tdiv b 2))) else lo81 k m A B q r (w64 (i - 1)) :=
  (loopAt_succ _ _ _ _ _ _ _ F _).trans (ri81 k m A B q r (loopAt T2 81 Try.f81 0 k Q81 [m] F) i b)
theorem lo81_succ (k m : Nat) (A B q r : List (List AV)) (i : Int) : lo81 k (m + 1) A B q r i = bif decide (i ≥ 0) then li81 k m k A B q r i 16384 else nB (isL q) (some (.tup [slR (rowsN (trimL (q.map digV))), slR r], [])) :=
  (loopAt_succ _ _ _ _ _ _ _ m _).trans (ro81 k m A B q r i)
theorem trim_digs (n : Nat) : trimL (digs n) = digs n := by
  have := trim_low (dlen n) n (Nat.le_refl _)
  rwa [← digs_eq] at this
theorem isL_dRw {n : Nat} (h : dlen n ≤ 200010) : isL (dRw n) = true := isL_of h
theorem isDD_of {n m : Nat} (h1 : dlen n ≤ 100000) (h2 : dlen m ≤ 100000) : isDD (dRw n) (dRw m) = true := by unfold isDD; rw [isDR_of h1, isDR_of h2]; rfl
theorem cmpNat_ge (s m : Nat) : decide (cmpNat s m ≥ 0) = decide (m ≤ s) := by
  unfold cmpNat
  by_cases h : s < m
  · rw [if_pos h, decide_eq_false (by omega : ¬ m ≤ s)]; rfl
  · rw [if_neg h, decide_eq_true (by omega : m ≤ s)]
    split <;> rfl
theorem st81_eq {q : List (List AV)} {s m : Nat} {i b : Int} (hs : dlen s ≤ 100000) (hm : dlen m ≤ 100000) (K : List (List AV) → List (List AV) → Option Res) :
    st81 q (dRw s) (dRw m) i b K = if m ≤ s then inR q i (inR q i (K (q.set i.toNat (putAt (q.getD i.toNat []) 0 [i64 (w64 (nI q i + b))])) (dRw (s - m)))) else K q (dRw s) := by
  have e : rowsN (trimL ((dRw s).map digV)) = dRw s := by
    have : (dRw s).map digV = digs s := digV_row _
    rw [this, trim_digs]; rfl
  unfold st81
  rw [e, isL_dRw (by omega), isDD_of hs hm, valR_dRw, valR_dRw, cmpNat_ge]
  by_cases h : m ≤ s
  · rw [decide_eq_true h, Nat.ble_eq_true_of_le h, if_pos h]; rfl
  · rw [decide_eq_false h, if_neg h]; rfl
theorem one1_eq : one1 = dRw 1 := by
  unfold one1 dRw
  have : digs 1 = [1] := by rw [digs_pos (by omega : (1 : Nat) ≠ 0)]; rw [show 1 / 32768 = 0 from rfl, digs_zero]
  rw [this]; rfl
theorem bitE_eq {n i j : Nat} (hi : i < dlen n) (hj : j < 15) : (bitE (dRw n) (i : Nat) ((2 ^ j : Nat) : Int) != 0) = decide (dg n i / 2 ^ j % 2 = 1) := by
  have hd := dgt_lt n i
  have h2 : 2 ^ j < 32768 := Nat.lt_of_lt_of_le (Nat.pow_lt_pow_right (by omega) hj) (by omega)
  unfold bitE
  rw [nI_dg hi]
  have e1 : (BitVec.ofInt IntKind.i64.bits ((dg n i : Nat) : Int) &&& BitVec.ofInt IntKind.i64.bits ((2 ^ j : Nat) : Int)).toNat = dg n i &&& 2 ^ j := by
    rw [BitVec.toNat_and, BitVec.ofInt_natCast, BitVec.ofInt_natCast, BitVec.toNat_ofNat, BitVec.toNat_ofNat]
    have hb : (2 : Nat) ^ IntKind.i64.bits = 18446744073709551616 := rfl
    rw [hb, Nat.mod_eq_of_lt (by omega), Nat.mod_eq_of_lt (by omega)]
  rw [e1]
  have hle : dg n i &&& 2 ^ j ≤ dg n i := Nat.and_le_left
  have ew : IntKind.i64.wrap ((dg n i &&& 2 ^ j : Nat) : Int) = ((dg n i &&& 2 ^ j : Nat) : Int) := w64_in (by omega) (by omega)
  have ht : Nat.testBit (dg n i) j = decide (dg n i / 2 ^ j % 2 = 1) := by rw [Nat.testBit_eq_decide_div_mod_eq]
  have hp : 0 < 2 ^ j := Nat.pow_pos (by omega)
  have ha : dg n i &&& 2 ^ j = if dg n i / 2 ^ j % 2 = 1 then 2 ^ j else 0 := by
    apply Nat.eq_of_testBit_eq
    intro q
    rw [Nat.testBit_and, Nat.testBit_two_pow]
    by_cases hq : j = q
    · subst hq
      rw [ht]
      split
      · rename_i h; simp [h]
      · rename_i h; simp [h]
    · split
      · rw [Nat.testBit_two_pow]; simp [hq]
      · simp [hq]
  rw [ew, ha]
  by_cases hh : dg n i / 2 ^ j % 2 = 1
  · rw [decide_eq_true hh, if_pos hh]
    generalize 2 ^ j = t at hp
    rw [bne_iff_ne]; omega
  · rw [decide_eq_false hh, if_neg hh]; rfl
def bv : Nat → Nat
  | 0 => 0
  | j + 1 => 2 ^ j
theorem bv_half (j : Nat) (hj : j < 15) : w64 (Int.tdiv ((2 ^ j : Nat) : Int) 2) = ((bv j : Nat) : Int) := by
  have h2 : 2 ^ j < 32768 := Nat.lt_of_lt_of_le (Nat.pow_lt_pow_right (by omega) hj) (by omega)
  have e : Int.tdiv ((2 ^ j : Nat) : Int) 2 = ((2 ^ j / 2 : Nat) : Int) := rfl
  have e2 : w64 ((2 ^ j / 2 : Nat) : Int) = ((2 ^ j / 2 : Nat) : Int) := by
    generalize 2 ^ j = t at h2
    exact w64_in (by omega) (by omega)
  rw [e, e2]
  cases j with
  | zero => rfl
  | succ j =>
    have : 2 ^ (j + 1) / 2 = 2 ^ j := by rw [Nat.pow_succ]; omega
    rw [this]; rfl
def qv (n m i j : Nat) : Nat := pre n i j / m * (32768 ^ i * 2 ^ j)
theorem qv_step0 {n m i j : Nat} (h : 2 * (pre n i (j + 1) / m) = pre n i j / m) : qv n m i j = qv n m i (j + 1) := by
  unfold qv
  rw [← h, Nat.pow_succ, ← Nat.mul_assoc (32768 ^ i), Nat.mul_comm (32768 ^ i * 2 ^ j) 2, Nat.mul_comm 2 (pre n i (j + 1) / m), Nat.mul_assoc]
theorem qv_step1 {n m i j : Nat} (h : 2 * (pre n i (j + 1) / m) + 1 = pre n i j / m) : qv n m i j = qv n m i (j + 1) + 2 ^ j * 32768 ^ i := by
  unfold qv
  rw [← h, Nat.add_mul, Nat.one_mul, Nat.mul_comm (2 ^ j) (32768 ^ i)]
  congr 1
  rw [Nat.pow_succ, ← Nat.mul_assoc (32768 ^ i), Nat.mul_comm (32768 ^ i * 2 ^ j) 2, Nat.mul_comm 2 (pre n i (j + 1) / m), Nat.mul_assoc]
theorem qv_dg {n m i j : Nat} (hj : j < 15) : dg (qv n m i (j + 1)) i + 2 ^ j < 32768 := by
  unfold dg qv
  have e1 : pre n i (j + 1) / m * (32768 ^ i * 2 ^ (j + 1)) / 32768 ^ i = pre n i (j + 1) / m * 2 ^ (j + 1) := by
    rw [Nat.mul_comm (32768 ^ i), ← Nat.mul_assoc, Nat.mul_div_cancel _ (pow_pos' i)]
  have e2 : (32768 : Nat) = 2 ^ (j + 1) * 2 ^ (14 - j) := by
    rw [← Nat.pow_add, show j + 1 + (14 - j) = 15 by omega]
  rw [e1]
  have e3 : pre n i (j + 1) / m * 2 ^ (j + 1) % 32768 = 2 ^ (j + 1) * (pre n i (j + 1) / m % 2 ^ (14 - j)) := by
    rw [Nat.mul_comm _ (2 ^ (j + 1))]
    conv => lhs; rw [e2]
    rw [Nat.mul_mod_mul_left]
  rw [e3]
  have hlt : pre n i (j + 1) / m % 2 ^ (14 - j) + 1 ≤ 2 ^ (14 - j) := Nat.mod_lt _ (Nat.pow_pos (by omega))
  have h4 := Nat.mul_le_mul_left (2 ^ (j + 1)) hlt
  rw [← e2, Nat.mul_add, Nat.mul_one] at h4
  have hp : 2 ^ j < 2 ^ (j + 1) := Nat.pow_lt_pow_right (by omega) (by omega)
  omega
theorem qset {L V i j : Nat} (hi : i < L) (hd : dg V i + 2 ^ j < 32768) : (lowR L V).set ((i : Nat) : Int).toNat (putAt ((lowR L V).getD ((i : Nat) : Int).toNat []) 0 [i64 (w64 (nI (lowR L V) (i : Nat) + ((2 ^ j : Nat) : Int)))]) = lowR L (V + 2 ^ j * 32768 ^ i) := by
  rw [Int.toNat_natCast, nI_low hi]
  have ew : w64 (((dg V i : Nat) : Int) + ((2 ^ j : Nat) : Int)) = ((dg V i + 2 ^ j : Nat) : Int) := by
    generalize 2 ^ j = t at hd
    rw [w64_in] <;> omega
  rw [ew, set_low hi hd]
  congr 1
  have := setD_eq V i (dg V i + 2 ^ j)
  rw [Nat.add_mul] at this
  omega
section
variable {n m L : Nat}
theorem in81_eq {i j : Nat} (hm : 0 < m) (hL : L = dlen n) (hn : dlen n ≤ 100000) (hmb : dlen m ≤ 99999) (hi : i < L) (hj : j < 15) (K : List (List AV) → List (List AV) → Option Res) :
    in81 (dRw n) (dRw m) (lowR L (qv n m i (j + 1))) (dRw (pre n i (j + 1) % m)) (i : Nat) ((2 ^ j : Nat) : Int) K = K (lowR L (qv n m i j)) (dRw (pre n i j % m)) := by
  have hin : i < dlen n := by omega
  have hl : i < (dRw n).length := by rw [dRw_len]; exact hin
  have hlq : i < (lowR L (qv n m i (j + 1))).length := by rw [lowR_len]; exact hi
  have hp : pre n i j = 2 * pre n i (j + 1) + dg n i / 2 ^ j % 2 := by
    rcases pre_step n i j with h | h
    · exact h
    · omega
  have hrm := Nat.mod_lt (pre n i (j + 1)) hm
  have hs := div_step (m := m) (p := pre n i (j + 1)) (bit := dg n i / 2 ^ j % 2) hm rfl (Nat.mod_lt _ (by omega))
  rw [← hp] at hs
  generalize hr : pre n i (j + 1) % m = r at *
  have b2 : dlen (2 * r + 1) ≤ 100000 := by
    have h1 := dlen_mono (by omega : 2 * r + 1 ≤ m + m)
    have h2 := dlen_add m m
    omega
  have b1 : dlen r ≤ 100000 := Nat.le_trans (dlen_mono (by omega : r ≤ 2 * r + 1)) b2
  have b3 : dlen (r + r) ≤ 100000 := Nat.le_trans (dlen_mono (by omega : r + r ≤ 2 * r + 1)) b2
  have b4 : dlen 1 ≤ 100000 := Nat.le_trans (dlen_le.2 (by omega : 1 < 32768 ^ 1)) (by omega)
  have key : ∀ s, dlen s ≤ 100000 → s = 2 * r + dg n i / 2 ^ j % 2 → st81 (lowR L (qv n m i (j + 1))) (dRw s) (dRw m) (i : Nat) ((2 ^ j : Nat) : Int) K = K (lowR L (qv n m i j)) (dRw (pre n i j % m)) := fun s hb he => by
    rw [st81_eq hb (by omega), he]
    split at hs
    · rename_i h
      rw [if_pos h, inR_on hlq, inR_on hlq, qset hi (qv_dg hj), ← qv_step1 hs.2, hs.1]
    · rename_i h
      rw [if_neg h, ← qv_step0 hs.2, hs.1]
  unfold in81 dbl
  rw [isDD_of b1 b1, inR_on hl, bitE_eq hin hj, valR_dRw, valR_dRw, one1_eq, valR_dRw, isDD_of b3 b4]
  by_cases hb : dg n i / 2 ^ j % 2 = 1
  · rw [decide_eq_true hb]
    exact key (r + r + 1) (by rw [show r + r + 1 = 2 * r + 1 by omega]; exact b2) (by omega)
  · rw [decide_eq_false hb]
    exact key (r + r) b3 (by omega)
theorem li81_ok {k mm i : Nat} (hm : 0 < m) (hL : L = dlen n) (hn : dlen n ≤ 100000) (hmb : dlen m ≤ 99999) (hi : i < L) : ∀ (F j : Nat), j ≤ 15 → j < F →
    li81 k mm F (dRw n) (dRw m) (lowR L (qv n m i j)) (dRw (pre n i j % m)) (i : Nat) ((bv j : Nat) : Int) = lo81 k mm (dRw n) (dRw m) (lowR L (qv n m i 0)) (dRw (pre n i 0 % m)) ((i : Int) - 1)
  | 0, j, _, h => by omega
  | F + 1, 0, _, _ => by
    have ew : w64 (((i : Nat) : Int) - 1) = ((i : Nat) : Int) - 1 := w64_in (by omega) (by omega)
    refine (li81_succ k mm F _ _ _ _ _ _).trans ((pickF' rfl).trans ?_)
    rw [ew]
  | F + 1, j + 1, hj, hF => by
    have hp : 0 < 2 ^ j := Nat.pow_pos (by omega)
    have d : decide (((bv (j + 1) : Nat) : Int) > 0) = true := decide_eq_true (by show ((2 ^ j : Nat) : Int) > 0; omega)
    refine (li81_succ k mm F _ _ _ _ _ _).trans ((pickT d).trans ((in81_eq hm hL hn hmb hi (by omega) _).trans ?_))
    have : w64 (Int.tdiv ((bv (j + 1) : Nat) : Int) 2) = ((bv j : Nat) : Int) := bv_half j (by omega)
    rw [this]
    exact li81_ok hm hL hn hmb hi F j (by omega) (by omega)
def pv (n m j : Nat) : Nat := n / 32768 ^ j / m * 32768 ^ j
theorem lo81_ok {k : Nat} (hm : 0 < m) (hL : L = dlen n) (hn : dlen n ≤ 100000) (hmb : dlen m ≤ 99999) (hk : 16 ≤ k) : ∀ (F j : Nat), j ≤ L → j < F →
    lo81 k F (dRw n) (dRw m) (lowR L (pv n m j)) (dRw (n / 32768 ^ j % m)) ((j : Int) - 1) = some (.tup [slR (dRw (n / m)), slR (dRw (n % m))], [])
  | 0, j, _, h => by omega
  | F + 1, 0, _, _ => by
    refine (lo81_succ k F _ _ _ _ _).trans ((pickF' (decide_eq_false (by omega))).trans ?_)
    have e1 : pv n m 0 = n / m := by unfold pv; simp
    have e2 : n / 32768 ^ 0 % m = n % m := by simp
    rw [e1, e2]
    have e : lowR L (n / m) = rowsN (lowD L (n / m)) := rfl
    have hl : isL (lowR L (n / m)) = true := by rw [e]; exact isL_of (by rw [lowD_len]; omega)
    rw [hl, e, digV_row, trim_low L (n / m) (by rw [hL]; exact dlen_mono (Nat.div_le_self n m))]
    rfl
  | F + 1, j + 1, hj, hF => by
    have ej : (((j + 1 : Nat) : Int) - 1) = ((j : Nat) : Int) := by omega
    refine (lo81_succ k F _ _ _ _ _).trans ((pickT (decide_eq_true (by omega))).trans ?_)
    rw [ej]
    have h0 := li81_ok (k := k) (mm := F) (i := j) hm hL hn hmb (by omega) k 15 (by omega) (by omega)
    have e1 : qv n m j 15 = pv n m (j + 1) := by
      unfold qv pv
      rw [pre_top, Nat.pow_succ 32768 j]
    have e2 : qv n m j 0 = pv n m j := by
      unfold qv pv
      rw [pre_low, Nat.pow_zero, Nat.mul_one]
    rw [pre_top, pre_low, e1, e2] at h0
    exact h0.trans (lo81_ok hm hL hn hmb hk F j (by omega) (by omega))
end
def F81 : List AV → List AObj → Ab Res := fun args st => match args, st with
  | [.sl 3 .any A, .sl 3 .any B], [] => some (isDD A B && (Nat.ble B.length 99999 && Nat.ble 1 (valR B)), (.tup [slR (dRw (valR A / valR B)), slR (dRw (valR A % valR B))], []))
  | _, _ => none
theorem told81 (args : List AV) (st : List AObj) (r : Res) (h : F81 args st = some (true, r)) : ∃ k, ev T2 k 81 args st = some r := by
  unfold F81 at h
  split at h
  · rename_i A B
    unfold isDD at h
    simp only [Option.some.injEq, Prod.mk.injEq, Bool.and_eq_true] at h
    obtain ⟨⟨⟨hA, hB⟩, h1, h2⟩, rfl⟩ := h
    obtain ⟨n, rfl, hn⟩ := isDR_iff hA
    obtain ⟨m, rfl, hm⟩ := isDR_iff hB
    rw [valR_dRw] at h2 ⊢
    rw [valR_dRw]
    have h1 := Nat.le_of_ble_eq_true h1
    rw [dRw_len] at h1
    have h2 := Nat.le_of_ble_eq_true h2
    refine ⟨(dlen n + 16) + 1, (b81 _ _ _).trans ?_⟩
    have ek : mk81 (dRw n) = ((dlen n : Nat) : Int) := by unfold mk81; rw [dRw_len]
    have el : len1 (dRw n) = ((dlen n : Nat) : Int) - 1 := by unfold len1; rw [dRw_len, w64_in] <;> omega
    rw [ek, el, zer_low]
    refine (pickT (by rw [decide_eq_true (by omega : 0 ≤ ((dlen n : Nat) : Int)), decide_eq_true (by omega : ((dlen n : Nat) : Int) ≤ ((dlen n : Nat) : Int)), decide_eq_true (by omega : ((dlen n : Nat) : Int) * 8 ≤ 140737488355328)]; rfl)).trans ?_
    have e0 : n / 32768 ^ dlen n = 0 := Nat.div_eq_of_lt (dlen_spec n).1
    have := lo81_ok (n := n) (m := m) (k := dlen n + 16) (by omega) rfl hn h1 (by omega) (dlen n + 16) (dlen n) (Nat.le_refl _) (by omega)
    have e1 : pv n m (dlen n) = 0 := by unfold pv; rw [e0]; simp
    have e2 : dRw (n / 32768 ^ dlen n % m) = [] := by rw [e0, Nat.zero_mod]; unfold dRw; rw [digs_zero]; rfl
    rw [e1, e2] at this
    exact this
  · cases h
end
end Go.Proofs.Ytgcdiccbehiijaa.W
namespace Go.Proofs.Ytgcdiccbehiijaa.W
open Go.Fw
set_option maxRecDepth 100000
noncomputable section
noncomputable def T3 : FSys := T2.tell 81 F81
def okDv (A B : List (List AV)) : Bool := isDD A B && (Nat.ble B.length 99999 && Nat.ble 1 (valR B))
def σ80 (A B : List (List AV)) : St := ⟨tm 19 [(0, slR A), (1, slR B)], [], []⟩
def tb (n : Int) (b : Bool) : Option Res := some (.tup [i64 n, .k (.bool b)], [])
def whA (neg : Bool) (D : List (List AV)) : AV := .agg [.k (.bool neg), slR D]
section
variable (k : Nat) (A B D out : List (List AV)) (y : List AV) (R : St → Option Res) (i c n u : Int) (neg : Bool)
theorem b80 : ev T3 (k + 1) 80 [slR A, slR B] [] = loopAt T3 80 Try.f80 0 k [1,0,0] [] k (σ80 A B) := by kernel_rfl
theorem r80 : roundAt T3 80 Try.f80 0 k [1,0,0] [] R (σ80 A B) = bif decide (((B.length : Nat) : Int) > 0) then nB (okDv A B) (R (σ80 B (dRw (valR A % valR B)))) else rL A := by kernel_rfl
def σ82 (neg : Bool) (D : List (List AV)) (c i : Int) : St := ⟨tm 36 [(1, .ptr 0 0), (4, i64 c), (5, i64 i)], [.box 80 [.k (.bool neg), slR D]], []⟩
theorem b82 : ev T3 (k + 1) 82 [whA neg D] [] = loopAt T3 82 Try.f82 0 k [1,1,0,1,0] [] k (σ82 neg D 0 (len1 D)) := by kernel_rfl
theorem r82 : roundAt T3 82 Try.f82 0 k [1,1,0,1,0] [] R (σ82 neg D c i) = bif decide (i ≥ 0) then inR D i (bif decide (c > w64 (Int.tdiv (w64 (4611686018427387903 - nI D i)) 32768)) then tb 0 false else inR D i (R (σ82 neg D (w64 (w64 (c * 32768) + nI D i)) (w64 (i - 1))))) else bif neg then tb (w64 (0 - c)) true else tb c true := by kernel_rfl
def z80 : List AV := [.k (.bool false), .sl 0 .nil []]
def σ59 (neg : Bool) (u : Int) : St := ⟨tm 27 [(2, .ptr 0 0), (3, .ptr 1 0), (4, u64 u)], [.box 80 z80, .box 80 [.k (.bool neg), .sl 0 .nil []]], []⟩
def τ59 (neg : Bool) (kd : SK) (out : List (List AV)) (u : Int) : St := ⟨tm 27 [(2, .ptr 0 0), (3, .ptr 1 0), (4, u64 u)], [.box 80 z80, .box 80 [.k (.bool neg), .sr 2], .arr 3 kd out], []⟩
def uw (n : Int) : Int := IntKind.u64.wrap n
def um (u : Int) : Int := IntKind.i64.wrap (Int.tmod u 32768)
def uq (u : Int) : Int := uw (Int.tdiv u 32768)
theorem b59 : ev T3 (k + 1) 59 [i64 n] [] = bif decide (n < 0) then loopAt T3 59 Try.f59 0 k [1,1,1,1,0,0] [] k (σ59 (decide (n < 0)) (uw (0 - uw n))) else loopAt T3 59 Try.f59 0 k [1,1,1,1,0,0] [] k (σ59 (decide (n < 0)) (uw n)) := by kernel_rfl
end
end
end Go.Proofs.Ytgcdiccbehiijaa.W
namespace Go.Proofs.Ytgcdiccbehiijaa.W
open Go.Fw
set_option maxRecDepth 100000
noncomputable section
section
variable (k : Nat) (out : List (List AV)) (R : St → Option Res) (u : Int) (neg : Bool)
def whO (neg : Bool) (D : List (List AV)) : Option Res := some (whA neg D, [])
theorem r59a : roundAt T3 59 Try.f59 0 k [1,1,1,1,0,0] [] R (σ59 neg u) = bif decide (u > 0) then R (τ59 neg .any [row1 (um u)] (uq u)) else whO neg [] := by kernel_rfl
theorem r59b : roundAt T3 59 Try.f59 0 k [1,1,1,1,0,0] [] R (τ59 neg .any out u) = bif decide (u > 0) then (bif Nat.ble ((out.length + [row1 (um u)].length) * 8) 140737488355328 then R (τ59 neg .any (out ++ [row1 (um u)]) (uq u)) else none) else whO neg out := by kernel_rfl
end
def F80 : List AV → List AObj → Ab Res := fun args st => match args, st with
  | [.sl 3 .any A, .sl 3 .any B], [] => some (isDD A B && (Nat.ble A.length 99999 && Nat.ble B.length 99999), (slR (dRw (Nat.gcd (valR A) (valR B))), []))
  | _, _ => none
theorem loop80 (k : Nat) : ∀ (F n m : Nat), m < F → dlen n ≤ 99999 → dlen m ≤ 99999 → loopAt T3 80 Try.f80 0 k [1,0,0] [] F (σ80 (dRw n) (dRw m)) = rL (dRw (Nat.gcd n m))
  | 0, n, m, h, _, _ => by omega
  | F + 1, n, m, h, hn, hm => by
    refine (loopAt_succ _ _ _ _ _ _ _ F _).trans ((r80 k (dRw n) (dRw m) _).trans ?_)
    by_cases h0 : m = 0
    · subst h0
      have : (dRw 0).length = 0 := by rw [dRw_len, dlen_zero]
      refine (pickF' (by rw [this]; rfl)).trans ?_
      rw [Nat.gcd_zero_right]
    · have hp : 0 < dlen m := by rw [dlen_gt]; simp; omega
      refine (pickT (decide_eq_true (by rw [dRw_len]; omega))).trans ?_
      have ho : okDv (dRw n) (dRw m) = true := by
        unfold okDv
        rw [isDD_of (by omega) (by omega), dRw_len, Nat.ble_eq_true_of_le hm, valR_dRw, Nat.ble_eq_true_of_le (by omega : 1 ≤ m)]; rfl
      rw [ho, valR_dRw, valR_dRw]
      have hlt := Nat.mod_lt n (Nat.pos_of_ne_zero h0)
      have hg : Nat.gcd n m = Nat.gcd m (n % m) := by rw [Nat.gcd_comm n m, Nat.gcd_rec m n, Nat.gcd_comm]
      rw [hg]
      exact loop80 k F m (n % m) (by omega) hm (Nat.le_trans (dlen_mono (by omega)) hm)
theorem told80 (args : List AV) (st : List AObj) (r : Res) (h : F80 args st = some (true, r)) : ∃ k, ev T3 k 80 args st = some r := by
  unfold F80 at h
  split at h
  · rename_i A B
    unfold isDD at h
    simp only [Option.some.injEq, Prod.mk.injEq, Bool.and_eq_true] at h
    obtain ⟨⟨⟨hA, hB⟩, h1, h2⟩, rfl⟩ := h
    obtain ⟨n, rfl, hn⟩ := isDR_iff hA
    obtain ⟨m, rfl, hm⟩ := isDR_iff hB
    have h1 := Nat.le_of_ble_eq_true h1
    have h2 := Nat.le_of_ble_eq_true h2
    rw [dRw_len] at h1 h2
    rw [valR_dRw, valR_dRw]
    exact ⟨m + 1 + 1, (b80 _ _ _).trans (loop80 _ _ n m (by omega) h1 h2)⟩
  · cases h
def MXn : Nat := 4611686018427387903
def smI (neg : Bool) (n : Nat) : Int := bif Nat.ble n MXn then (bif neg then -(n : Int) else (n : Int)) else 0
def F82 : List AV → List AObj → Ab Res := fun args st => match args, st with
  | [.agg [.k (.bool neg), .sl 3 .any D]], [] => some (isDR D, (.tup [i64 (smI neg (valR D)), .k (.bool (Nat.ble (valR D) MXn))], []))
  | _, _ => none
theorem loop82 (k n : Nat) (neg : Bool) (hn : dlen n ≤ 100000) : ∀ (F j : Nat), j ≤ dlen n → n / 32768 ^ j ≤ MXn → j < F →
    loopAt T3 82 Try.f82 0 k [1,1,0,1,0] [] F (σ82 neg (dRw n) ((n / 32768 ^ j : Nat) : Int) ((j : Int) - 1)) = tb (smI neg n) (Nat.ble n MXn)
  | 0, j, _, _, h => by omega
  | F + 1, 0, _, hq, _ => by
    refine (loopAt_succ _ _ _ _ _ _ _ F _).trans ((r82 k (dRw n) _ _ _ neg).trans ((pickF' (decide_eq_false (by omega))).trans ?_))
    have e : n / 32768 ^ 0 = n := by simp
    rw [e] at hq ⊢
    unfold smI
    rw [Nat.ble_eq_true_of_le hq]
    unfold MXn at hq
    cases neg with
    | false => rfl
    | true =>
      have : w64 (0 - (n : Int)) = -(n : Int) := by rw [w64_in] <;> omega
      rw [this]; rfl
  | F + 1, j + 1, hj, hq, hF => by
    have ej : (((j + 1 : Nat) : Int) - 1) = ((j : Nat) : Int) := by omega
    have hl : j < (dRw n).length := by rw [dRw_len]; omega
    have hd := dgt_lt n j
    have ht := top_split n j
    refine (loopAt_succ _ _ _ _ _ _ _ F _).trans ?_
    rw [ej]
    refine (r82 k (dRw n) _ _ _ neg).trans ((pickT (decide_eq_true (by omega))).trans ?_)
    generalize hP : n / 32768 ^ (j + 1) = P at *
    have hP2 : P ≤ 4611686018427387903 := hq
    have e1 : w64 (4611686018427387903 - ((dg n j : Nat) : Int)) = ((4611686018427387903 - dg n j : Nat) : Int) := by rw [w64_in] <;> omega
    have e2 : w64 (Int.tdiv ((4611686018427387903 - dg n j : Nat) : Int) 32768) = (((4611686018427387903 - dg n j) / 32768 : Nat) : Int) := by
      have : Int.tdiv ((4611686018427387903 - dg n j : Nat) : Int) 32768 = (((4611686018427387903 - dg n j) / 32768 : Nat) : Int) := rfl
      rw [this, w64_in] <;> omega
    rw [inR_on hl, nI_dg (by omega : j < dlen n), e1, e2]
    by_cases hc : (4611686018427387903 - dg n j) / 32768 < P
    · refine (pickT (decide_eq_true (by omega))).trans ?_
      have hbig : MXn < n / 32768 ^ j := by unfold MXn; omega
      have hle : n / 32768 ^ j ≤ n := Nat.div_le_self _ _
      have hf : Nat.ble n MXn = false := by
        rw [← Bool.not_eq_true, Nat.ble_eq]; omega
      unfold smI
      rw [hf]; rfl
    · refine (pickF' (decide_eq_false (by omega))).trans ?_
      have hsm : n / 32768 ^ j ≤ MXn := by unfold MXn; omega
      have hm2 : n / 32768 ^ j ≤ 4611686018427387903 := hsm
      have e3 : w64 (((P : Nat) : Int) * 32768) = ((P * 32768 : Nat) : Int) := by rw [w64_in] <;> omega
      have e4 : w64 (((P * 32768 : Nat) : Int) + ((dg n j : Nat) : Int)) = ((n / 32768 ^ j : Nat) : Int) := by rw [w64_in] <;> omega
      have e5 : w64 (((j : Nat) : Int) - 1) = ((j : Nat) : Int) - 1 := w64_in (by omega) (by omega)
      rw [inR_on hl, e3, e4, e5]
      exact loop82 k n neg hn F j (by omega) hsm (by omega)
theorem told82 (args : List AV) (st : List AObj) (r : Res) (h : F82 args st = some (true, r)) : ∃ k, ev T3 k 82 args st = some r := by
  unfold F82 at h
  split at h
  · rename_i neg D
    simp only [Option.some.injEq, Prod.mk.injEq] at h
    obtain ⟨hD, rfl⟩ := h
    obtain ⟨n, rfl, hn⟩ := isDR_iff hD
    rw [valR_dRw]
    refine ⟨dlen n + 1 + 1, (b82 _ _ neg).trans ?_⟩
    have el : len1 (dRw n) = ((dlen n : Nat) : Int) - 1 := by unfold len1; rw [dRw_len, w64_in] <;> omega
    have e0 : n / 32768 ^ dlen n = 0 := Nat.div_eq_of_lt (dlen_spec n).1
    have := loop82 (dlen n + 1) n neg hn (dlen n + 1) (dlen n) (Nat.le_refl _) (by rw [e0]; exact Nat.zero_le _) (by omega)
    rw [e0] at this
    rw [el]
    exact this
  · cases h
theorem um_nat (u : Nat) : um (u : Nat) = ((u % 32768 : Nat) : Int) := by
  have e : Int.tmod (u : Nat) 32768 = ((u % 32768 : Nat) : Int) := rfl
  unfold um
  rw [e]
  exact w64_in (by omega) (by omega)
theorem uw_in {n : Nat} (h : n < 18446744073709551616) : uw (n : Nat) = (n : Nat) := by
  unfold uw IntKind.wrap
  have h1 : ((n : Int) % (2 : Int) ^ IntKind.u64.bits) = (n : Int) := by
    have : (2 : Int) ^ IntKind.u64.bits = 18446744073709551616 := rfl
    rw [this]; omega
  rw [h1]; rfl
theorem uq_nat {u : Nat} (h : u < 18446744073709551616) : uq (u : Nat) = ((u / 32768 : Nat) : Int) := by
  have e : Int.tdiv (u : Nat) 32768 = ((u / 32768 : Nat) : Int) := rfl
  unfold uq
  rw [e, uw_in (by omega)]
theorem loop59 (k U : Nat) (neg : Bool) (hU : U < 18446744073709551616) (hk : dlen U < k) : loopAt T3 59 Try.f59 0 k [1,1,1,1,0,0] [] k (σ59 neg (U : Nat)) = whO neg (dRw U) := by
  have hl5 : dlen U ≤ 5 := dlen_le.2 (by omega)
  have hlt : ∀ i, U / 32768 ^ i < 18446744073709551616 := fun i => Nat.lt_of_le_of_lt (Nat.div_le_self _ _) hU
  have hpos : ∀ i, i < dlen U → 0 < U / 32768 ^ i := fun i hi => Nat.div_pos (dlen_gt.1 hi) (pow_pos' i)
  have hz : U / 32768 ^ dlen U = 0 := Nat.div_eq_of_lt (dlen_spec U).1
  have hstep : ∀ i, U / 32768 ^ i / 32768 = U / 32768 ^ (i + 1) := fun i => by rw [Nat.div_div_eq_div_mul, ← Nat.pow_succ]
  let σ : Nat → St := fun i => match i with
    | 0 => σ59 neg (U : Nat)
    | i + 1 => τ59 neg .any (lowR (i + 1) U) ((U / 32768 ^ (i + 1) : Nat) : Int)
  have key := loop_up (S := T3) (f := 59) (fn := Try.f59) (m := 0) (k := k) (p := [1,1,1,1,0,0]) (ms := []) σ (dlen U) (fun _ => whO neg (dRw U))
    (fun i hi R hR => by
      cases i with
      | zero =>
        have hp := hpos 0 hi
        rw [Nat.pow_zero, Nat.div_one] at hp
        refine (r59a k R _ neg).trans ((pickT (decide_eq_true (by omega))).trans ?_)
        rw [um_nat, uq_nat hU]
        have e1 : [row1 ((U % 32768 : Nat) : Int)] = lowR 1 U := by rw [lowR_snoc, dg_zero]; rfl
        have e2 : U / 32768 = U / 32768 ^ (0 + 1) := by simp
        rw [e1, e2]
        exact hR
      | succ i =>
        have hp := hpos (i + 1) hi
        refine (r59b k (lowR (i + 1) U) R _ neg).trans ((pickT (decide_eq_true (by omega))).trans ?_)
        have hb : Nat.ble (((lowR (i + 1) U).length + [row1 (um ((U / 32768 ^ (i + 1) : Nat) : Int))].length) * 8) 140737488355328 = true := by
          apply Nat.ble_eq_true_of_le
          have : [row1 (um ((U / 32768 ^ (i + 1) : Nat) : Int))].length = 1 := rfl
          rw [this, lowR_len]; omega
        refine (pickT hb).trans ?_
        rw [um_nat, uq_nat (hlt _), hstep]
        have e1 : lowR (i + 1) U ++ [row1 ((U / 32768 ^ (i + 1) % 32768 : Nat) : Int)] = lowR (i + 1 + 1) U := (lowR_snoc (i + 1) U).symm
        rw [e1]
        exact hR)
    (fun R => by
      cases hd : dlen U with
      | zero =>
        have h0 : U = 0 := by
          have := (dlen_spec U).1
          rw [hd] at this; simpa using this
        refine (r59a k R _ neg).trans ((pickF' (decide_eq_false (by omega))).trans ?_)
        subst h0
        unfold dRw
        rw [digs_zero]; rfl
      | succ i =>
        rw [hd] at hz
        refine (r59b k (lowR (i + 1) U) R _ neg).trans ((pickF' (decide_eq_false (by omega))).trans ?_)
        rw [dRw_low, hd])
    k 0 (Nat.zero_le _) (by omega)
  exact key
def isI6 (n : Int) : Bool := decide (-9223372036854775808 ≤ n) && decide (n ≤ 9223372036854775807)
def F59 : List AV → List AObj → Ab Res := fun args st => match args, st with
  | [.k (.int .i64 n)], [] => some (isI6 n, (whA (decide (n < 0)) (dRw n.natAbs), []))
  | _, _ => none
theorem uw_neg {n : Int} (h1 : -9223372036854775808 ≤ n) (h2 : n < 0) : uw (0 - uw n) = ((n.natAbs : Nat) : Int) := by
  have hb : (2 : Int) ^ IntKind.u64.bits = 18446744073709551616 := rfl
  have e1 : uw n = n + 18446744073709551616 := by
    unfold uw IntKind.wrap
    have h1 : (n % (2 : Int) ^ IntKind.u64.bits) = n + 18446744073709551616 := by rw [hb]; omega
    rw [h1]; rfl
  rw [e1]
  unfold uw IntKind.wrap
  have h1 : ((0 - (n + 18446744073709551616)) % (2 : Int) ^ IntKind.u64.bits) = ((n.natAbs : Nat) : Int) := by rw [hb]; omega
  rw [h1]; rfl
theorem told59 (args : List AV) (st : List AObj) (r : Res) (h : F59 args st = some (true, r)) : ∃ k, ev T3 k 59 args st = some r := by
  unfold F59 at h
  split at h
  · rename_i n
    unfold isI6 at h
    simp only [Option.some.injEq, Prod.mk.injEq, Bool.and_eq_true, decide_eq_true_eq] at h
    obtain ⟨⟨h1, h2⟩, rfl⟩ := h
    refine ⟨dlen n.natAbs + 1 + 1, (b59 _ n).trans ?_⟩
    by_cases hn : n < 0
    · refine (pickT (decide_eq_true hn)).trans ?_
      rw [uw_neg h1 hn]
      exact loop59 _ _ _ (by omega) (by omega)
    · refine (pickF' (decide_eq_false hn)).trans ?_
      have e : uw n = ((n.natAbs : Nat) : Int) := by
        have : n = ((n.natAbs : Nat) : Int) := by omega
        rw [this, uw_in (by omega), Int.natAbs_natCast]
      rw [e]
      exact loop59 _ _ _ (by omega) (by omega)
  · cases h
end
end Go.Proofs.Ytgcdiccbehiijaa.W
namespace Go.Proofs.Ytgcdiccbehiijaa.W
open Go.Fw
set_option maxRecDepth 100000
noncomputable section
noncomputable def T4 : FSys := ((T3.tell 80 F80).tell 82 F82).tell 59 F59
def bF : Option Res := some (.k (.bool false), [])
def G60 (D E : List (List AV)) : List (List AV) := dRw (Nat.gcd (valR E) (valR D))
def N60 (D E : List (List AV)) : List (List AV) := dRw (valR D / valR (G60 D E))
def M60 (D E : List (List AV)) : List (List AV) := dRw (valR E / valR (G60 D E))
section
variable (k : Nat) (D E : List (List AV)) (s t : Bool) (x y : Int)
theorem e70 : ev T4 (k + 1) 70 [whA s D, whA t E] [] = bif s == t then nB (isDD D E) (whO s (dRw (valR D + valR E))) else nB (isDD D E) (bif decide (cmpNat (valR D) (valR E) ≥ 0) then nB (isDD D E && Nat.ble (valR E) (valR D)) (whO s (dRw (valR D - valR E))) else nB (isDD E D && Nat.ble (valR D) (valR E)) (whO t (dRw (valR E - valR D)))) := by kernel_rfl
theorem e71 : ev T4 (k + 1) 71 [whA s D, whA t E] [] = nB (isDD D E) (whO (!(s == t)) (dRw (valR D * valR E))) := by kernel_rfl
theorem e43 : ev T4 (k + 1) 43 [whA s D] [] = bif ((D.length : Nat) : Int) == 0 then r1 0 else bif s then r1 (-1) else r1 1 := by kernel_rfl
theorem e46 : ev T4 (k + 1) 46 [.agg [i64 x, i64 y]] [] = nB (isI6 x) (nB (isI6 y) (some (.agg [.k (.bool (decide (x < 0))), slR (dRw x.natAbs), .k (.bool (decide (y < 0))), slR (dRw y.natAbs)], []))) := by kernel_rfl
theorem e60 : ev T4 (k + 1) 60 [.agg [.k (.bool s), slR D, .k (.bool t), slR E]] [] = nB (isDD E D && (Nat.ble E.length 99999 && Nat.ble D.length 99999)) (nB (okDv D (G60 D E)) (nB (okDv E (G60 D E)) (nB (isDR (N60 D E)) (nB (isDR (M60 D E))
  (bif !(Nat.ble (valR (N60 D E)) MXn) then ratR 0 0 5 else bif !(Nat.ble (valR (M60 D E)) MXn) then ratR 0 0 5 else ratR (smI s (valR (N60 D E))) (smI false (valR (M60 D E))) 0))))) := by kernel_rfl
def gR (x y : Int) : List (List AV) := dRw (Nat.gcd (valR (dRw y.natAbs)) (valR (dRw x.natAbs)))
theorem e61 : ev T4 (k + 1) 61 [rt x y] [] = bif decide (y < 1) then bF else bif decide (y > 4611686018427387903) then bF else bif decide (x > 4611686018427387903) then bF else bif decide (x < -4611686018427387903) then bF else
  nB (isI6 y) (nB (isI6 x) (nB (isDD (dRw y.natAbs) (dRw x.natAbs) && (Nat.ble (dRw y.natAbs).length 99999 && Nat.ble (dRw x.natAbs).length 99999)) (bif (((gR x y).length : Nat) : Int) == 1 then (bif decide ((0 : Int) ≤ 0) && decide ((0 : Int) < ((gR x y).length : Nat)) then some (.k (.bool (nI (gR x y) 0 == 1)), []) else none) else bF))) := by kernel_rfl
end
def sgS (s : Bool) (n : Nat) (t : Bool) (m : Nat) : Bool := bif s == t then s else bif decide (m ≤ n) then s else t
def vlS (s : Bool) (n : Nat) (t : Bool) (m : Nat) : Nat := bif s == t then n + m else bif decide (m ≤ n) then n - m else m - n
def F70 : List AV → List AObj → Ab Res := fun args st => match args, st with
  | [.agg [.k (.bool s), .sl 3 .any D], .agg [.k (.bool t), .sl 3 .any E]], [] => some (isDD D E, (whA (sgS s (valR D) t (valR E)) (dRw (vlS s (valR D) t (valR E))), []))
  | _, _ => none
theorem told70 (args : List AV) (st : List AObj) (r : Res) (h : F70 args st = some (true, r)) : ∃ k, ev T4 k 70 args st = some r := by
  unfold F70 at h
  split at h
  · rename_i s D t E
    simp only [Option.some.injEq, Prod.mk.injEq] at h
    obtain ⟨h1, rfl⟩ := h
    refine ⟨0 + 1, (e70 0 D E s t).trans ?_⟩
    have h2 : isDD E D = true := by
      unfold isDD at h1 ⊢
      rw [Bool.and_comm]; exact h1
    unfold sgS vlS
    rw [h1, h2, cmpNat_ge]
    cases s == t with
    | true => rfl
    | false =>
      by_cases hm : valR E ≤ valR D
      · rw [decide_eq_true hm, Nat.ble_eq_true_of_le hm]; rfl
      · rw [decide_eq_false hm, Nat.ble_eq_true_of_le (by omega : valR D ≤ valR E)]; rfl
  · cases h
def F71 : List AV → List AObj → Ab Res := fun args st => match args, st with
  | [.agg [.k (.bool s), .sl 3 .any D], .agg [.k (.bool t), .sl 3 .any E]], [] => some (isDD D E, (whA (!(s == t)) (dRw (valR D * valR E)), []))
  | _, _ => none
theorem told71 (args : List AV) (st : List AObj) (r : Res) (h : F71 args st = some (true, r)) : ∃ k, ev T4 k 71 args st = some r := by
  unfold F71 at h
  split at h
  · rename_i s D t E
    simp only [Option.some.injEq, Prod.mk.injEq] at h
    obtain ⟨h1, rfl⟩ := h
    exact ⟨0 + 1, (e71 0 D E s t).trans (by rw [h1]; rfl)⟩
  · cases h
def sgN (s : Bool) (n : Nat) : Int := bif Nat.beq n 0 then 0 else bif s then -1 else 1
def F43 : List AV → List AObj → Ab Res := fun args st => match args, st with
  | [.agg [.k (.bool s), .sl 3 .any D]], [] => some (isDR D, (i64 (sgN s (valR D)), []))
  | _, _ => none
theorem told43 (args : List AV) (st : List AObj) (r : Res) (h : F43 args st = some (true, r)) : ∃ k, ev T4 k 43 args st = some r := by
  unfold F43 at h
  split at h
  · rename_i s D
    simp only [Option.some.injEq, Prod.mk.injEq] at h
    obtain ⟨h1, rfl⟩ := h
    obtain ⟨n, rfl, hn⟩ := isDR_iff h1
    refine ⟨0 + 1, (e43 0 _ s).trans ?_⟩
    rw [valR_dRw, dRw_len]
    unfold sgN
    by_cases h0 : n = 0
    · subst h0
      rw [dlen_zero]; rfl
    · have hp : 0 < dlen n := by rw [dlen_gt]; simp; omega
      have e1 : (((dlen n : Nat) : Int) == 0) = false := by rw [beq_eq_false_iff_ne]; omega
      have e2 : Nat.beq n 0 = false := by rw [← Bool.not_eq_true, Nat.beq_eq]; exact h0
      rw [e1, e2]
      cases s <;> rfl
  · cases h
def F46 : List AV → List AObj → Ab Res := fun args st => match args, st with
  | [.agg [.k (.int .i64 x), .k (.int .i64 y)]], [] => some (isI6 x && isI6 y, (.agg [.k (.bool (decide (x < 0))), slR (dRw x.natAbs), .k (.bool (decide (y < 0))), slR (dRw y.natAbs)], []))
  | _, _ => none
theorem told46 (args : List AV) (st : List AObj) (r : Res) (h : F46 args st = some (true, r)) : ∃ k, ev T4 k 46 args st = some r := by
  unfold F46 at h
  split at h
  · rename_i x y
    simp only [Option.some.injEq, Prod.mk.injEq, Bool.and_eq_true] at h
    obtain ⟨⟨h1, h2⟩, rfl⟩ := h
    exact ⟨0 + 1, (e46 0 x y).trans (by rw [h1, h2]; rfl)⟩
  · cases h
def sv (s : Bool) (n : Nat) : Int := bif s then -(n : Int) else (n : Int)
def F60 : List AV → List AObj → Ab Res := fun args st => match args, st with
  | [.agg [.k (.bool s), .sl 3 .any D, .k (.bool _), .sl 3 .any E]], [] => some (isDD D E && ((Nat.ble D.length 99999 && Nat.ble E.length 99999) && Nat.ble 1 (valR E)), (ratAV (nrm (sv s (valR D)) ((valR E : Nat) : Int)), []))
  | _, _ => none
theorem told60 (args : List AV) (st : List AObj) (r : Res) (h : F60 args st = some (true, r)) : ∃ k, ev T4 k 60 args st = some r := by
  unfold F60 at h
  split at h
  · rename_i s D t E
    unfold isDD at h
    simp only [Option.some.injEq, Prod.mk.injEq, Bool.and_eq_true] at h
    obtain ⟨⟨⟨hD, hE⟩, ⟨l1, l2⟩, hm⟩, rfl⟩ := h
    obtain ⟨n, rfl, hn⟩ := isDR_iff hD
    obtain ⟨m, rfl, hmm⟩ := isDR_iff hE
    have l1 := Nat.le_of_ble_eq_true l1
    have l2 := Nat.le_of_ble_eq_true l2
    rw [dRw_len] at l1 l2
    rw [valR_dRw] at hm ⊢
    rw [valR_dRw]
    have hm := Nat.le_of_ble_eq_true hm
    refine ⟨0 + 1, (e60 0 _ _ s t).trans ?_⟩
    have hg : 0 < Nat.gcd m n := Nat.gcd_pos_of_pos_left n hm
    have hgl : dlen (Nat.gcd m n) ≤ 99999 := Nat.le_trans (dlen_mono (Nat.gcd_le_left n hm)) l2
    have eG : G60 (dRw n) (dRw m) = dRw (Nat.gcd m n) := by unfold G60; rw [valR_dRw, valR_dRw]
    have eN : N60 (dRw n) (dRw m) = dRw (n / Nat.gcd m n) := by unfold N60; rw [eG, valR_dRw, valR_dRw]
    have eM : M60 (dRw n) (dRw m) = dRw (m / Nat.gcd m n) := by unfold M60; rw [eG, valR_dRw, valR_dRw]
    have ok : ∀ q, dlen q ≤ 99999 → okDv (dRw q) (dRw (Nat.gcd m n)) = true := fun q hq => by
      unfold okDv
      rw [isDD_of (by omega) (by omega), dRw_len, Nat.ble_eq_true_of_le hgl, valR_dRw, Nat.ble_eq_true_of_le hg]; rfl
    have d1 : isDR (dRw (n / Nat.gcd m n)) = true := isDR_of (Nat.le_trans (dlen_mono (Nat.div_le_self _ _)) (by omega))
    have d2 : isDR (dRw (m / Nat.gcd m n)) = true := isDR_of (Nat.le_trans (dlen_mono (Nat.div_le_self _ _)) (by omega))
    rw [eG, eN, eM, isDD_of (by omega) (by omega), dRw_len, dRw_len, Nat.ble_eq_true_of_le l1, Nat.ble_eq_true_of_le l2, ok n l1, ok m l2, d1, d2, valR_dRw, valR_dRw]
    have hab : (sv s n).natAbs = n := by
      unfold sv
      cases s
      · show ((n : Int)).natAbs = n; omega
      · show (-(n : Int)).natAbs = n; omega
    have hnn := nrm_nat (n := sv s n) (B := m) hab rfl (by rw [Nat.gcd_comm]; exact hg) rfl rfl
    rw [hnn, Nat.gcd_comm n m]
    have ha0 : n = 0 → n / Nat.gcd m n = 0 := fun h => by rw [h, Nat.zero_div]
    generalize n / Nat.gcd m n = a at ha0 ⊢
    generalize m / Nat.gcd m n = b
    have bA : Nat.ble a MXn = !(decide ((a : Int) > 4611686018427387903)) := by
      by_cases h : a ≤ MXn
      · have h' : a ≤ 4611686018427387903 := h
        rw [Nat.ble_eq_true_of_le h, decide_eq_false (by omega)]; rfl
      · have h' : ¬ a ≤ 4611686018427387903 := h
        have : Nat.ble a MXn = false := by rw [← Bool.not_eq_true, Nat.ble_eq]; exact h
        rw [this, decide_eq_true (by omega)]; rfl
    have bB : Nat.ble b MXn = !(decide ((b : Int) > 4611686018427387903)) := by
      by_cases h : b ≤ MXn
      · have h' : b ≤ 4611686018427387903 := h
        rw [Nat.ble_eq_true_of_le h, decide_eq_false (by omega)]; rfl
      · have h' : ¬ b ≤ 4611686018427387903 := h
        have : Nat.ble b MXn = false := by rw [← Bool.not_eq_true, Nat.ble_eq]; exact h
        rw [this, decide_eq_true (by omega)]; rfl
    unfold smI
    rw [bA, bB]
    cases decide ((a : Int) > 4611686018427387903) with
    | true => rfl
    | false =>
    cases decide ((b : Int) > 4611686018427387903) with
    | true => rfl
    | false =>
      have e0 : (bif s then -(a : Int) else (a : Int)) = bif decide (sv s n < 0) then -(a : Int) else (a : Int) := by
        cases s with
        | false =>
          have : ¬ sv false n < 0 := by show ¬ ((n : Int) < 0); omega
          rw [decide_eq_false this]
        | true =>
          by_cases hn0 : n = 0
          · have : ¬ sv true n < 0 := by show ¬ (-(n : Int) < 0); omega
            rw [decide_eq_false this, ha0 hn0]; rfl
          · have : sv true n < 0 := by show -(n : Int) < 0; omega
            rw [decide_eq_true this]
      show ratR (bif s then -(a : Int) else (a : Int)) (b : Int) 0 = _
      rw [e0]; rfl
  · cases h
end
end Go.Proofs.Ytgcdiccbehiijaa.W
namespace Go.Proofs.Ytgcdiccbehiijaa.W
open Go.Fw
set_option maxRecDepth 100000
noncomputable section
theorem isI6_eq (n : Int) : isI6 n = isI n := by
  unfold isI6 isI
  congr 1
  exact decide_eq_decide.2 (by omega)
theorem dlen_small {n : Nat} (h : n ≤ 9223372036854775808) : dlen n ≤ 5 := dlen_le.2 (by omega)
theorem dlen_one : dlen 1 = 1 := by
  have h1 : dlen 1 ≤ 1 := dlen_le.2 (by omega)
  have h2 : 0 < dlen 1 := by rw [dlen_gt]; simp
  omega
theorem told61 (args : List AV) (st : List AObj) (r : Res) (h : FRight args st = some (true, r)) : ∃ k, ev T4 k 61 args st = some r := by
  unfold FRight at h
  split at h
  · rename_i x y
    simp only [Option.some.injEq, Prod.mk.injEq, Bool.and_eq_true] at h
    obtain ⟨⟨h1, h2⟩, rfl⟩ := h
    refine ⟨0 + 1, (e61 0 x y).trans ?_⟩
    rw [isI6_eq, isI6_eq, h1, h2]
    rw [isI_iff] at h1 h2
    unfold rightB
    by_cases y1 : y < 1
    · rw [decide_eq_true y1, decide_eq_false (by omega : ¬ y ≥ 1)]; rfl
    rw [decide_eq_false y1, decide_eq_true (by omega : y ≥ 1)]
    by_cases y2 : y > 4611686018427387903
    · rw [decide_eq_true y2, decide_eq_false (by omega : ¬ y ≤ 4611686018427387903)]; rfl
    rw [decide_eq_false y2, decide_eq_true (by omega : y ≤ 4611686018427387903)]
    by_cases x1 : x > 4611686018427387903
    · rw [decide_eq_true x1, decide_eq_false (by omega : ¬ x ≤ 4611686018427387903)]
      cases decide (x ≥ -4611686018427387903) <;> rfl
    rw [decide_eq_false x1, decide_eq_true (by omega : x ≤ 4611686018427387903)]
    by_cases x2 : x < -4611686018427387903
    · rw [decide_eq_true x2, decide_eq_false (by omega : ¬ x ≥ -4611686018427387903)]; rfl
    rw [decide_eq_false x2, decide_eq_true (by omega : x ≥ -4611686018427387903)]
    have ly := dlen_small (n := y.natAbs) (by omega)
    have lx := dlen_small (n := x.natAbs) (by omega)
    rw [isDD_of (by omega) (by omega), dRw_len, dRw_len, Nat.ble_eq_true_of_le (by omega : dlen y.natAbs ≤ 99999), Nat.ble_eq_true_of_le (by omega : dlen x.natAbs ≤ 99999)]
    have eg : gR x y = dRw (Nat.gcd y.natAbs x.natAbs) := by unfold gR; rw [valR_dRw, valR_dRw]
    have e1 : gcdI (absI x) y = ((Nat.gcd y.natAbs x.natAbs : Nat) : Int) := by
      have : y = ((y.natAbs : Nat) : Int) := by omega
      rw [absI_eq, this, gcdI_nat, Nat.gcd_comm, Int.natAbs_natCast]
    rw [eg, e1, dRw_len]
    have hg : 0 < Nat.gcd y.natAbs x.natAbs := Nat.gcd_pos_of_pos_left _ (by omega)
    generalize Nat.gcd y.natAbs x.natAbs = g at hg
    by_cases hd : dlen g = 1
    · have hlt : g < 32768 := by have := (dlen_spec g).1; rw [hd] at this; simpa using this
      have e2 : nI (dRw g) 0 = ((g : Nat) : Int) := by
        have := nI_dg (n := g) (i := 0) (by omega)
        rw [dg_zero, Nat.mod_eq_of_lt hlt] at this
        exact this
      rw [e2, hd]
      rfl
    · have e3 : (((dlen g : Nat) : Int) == 1) = false := by rw [beq_eq_false_iff_ne]; omega
      have e4 : (((g : Nat) : Int) == 1) = false := by
        rw [beq_eq_false_iff_ne]
        intro h
        have : g = 1 := by omega
        rw [this, dlen_one] at hd
        exact hd rfl
      rw [e3, e4]; rfl
  · cases h
noncomputable def T5 : FSys := (((((T4.tell 70 F70).tell 71 F71).tell 43 F43).tell 46 F46).tell 60 F60).tell 61 FRight
end
end Go.Proofs.Ytgcdiccbehiijaa.W
namespace Go.Proofs.Ytgcdiccbehiijaa.W
open Go.Fw
set_option maxRecDepth 100000
noncomputable section
theorem T5Ok (h : SysOk Try.prog sys) : SysOk Try.prog T5 := by
  have h1 : SysOk Try.prog T1 := SysOk.tellMore (.tellMore (h.tell 90 _ told90) (h.tell 85 _ told85) rfl rfl) (h.tell 84 _ told84) rfl rfl
  have h2 : SysOk Try.prog T2 := SysOk.tellMore (h1.tell 86 _ told86) (h1.tell 87 _ told87) rfl rfl
  have h3 : SysOk Try.prog T3 := h2.tell 81 _ told81
  have h4 : SysOk Try.prog T4 := SysOk.tellMore (.tellMore (h3.tell 80 _ told80) (h3.tell 82 _ told82) rfl rfl) (h3.tell 59 _ told59) rfl rfl
  exact SysOk.tellMore (.tellMore (.tellMore (.tellMore (.tellMore (h4.tell 70 _ told70) (h4.tell 71 _ told71) rfl rfl) (h4.tell 43 _ told43) rfl rfl) (h4.tell 46 _ told46) rfl rfl) (h4.tell 60 _ told60) rfl rfl) (h4.tell 61 _ told61) rfl rfl
def fr (s : Bool) (D : List (List AV)) (t : Bool) (E : List (List AV)) : AV := .agg [.k (.bool s), slR D, .k (.bool t), slR E]
def oF (v : AV) : Option Res := some (v, [])
section
variable (k : Nat) (D E D2 E2 : List (List AV)) (s t s2 t2 : Bool)
theorem e62 : ev T5 (k + 1) 62 [fr s D t E, fr s2 D2 t2 E2] [] = nB (isDD D D2) (nB (isDD E E2) (oF (fr (!(s == s2)) (dRw (valR D * valR D2)) (!(t == t2)) (dRw (valR E * valR E2))))) := by kernel_rfl
def P44 (D E2 : List (List AV)) : List (List AV) := dRw (valR D * valR E2)
theorem e44 : ev T5 (k + 1) 44 [fr s D t E, fr s2 D2 t2 E2] [] = nB (isDD D E2) (nB (isDD D2 E) (nB (isDD (P44 D E2) (P44 D2 E)) (nB (isDD E E2) (oF (fr (sgS (!(s == t2)) (valR (P44 D E2)) (!(s2 == t)) (valR (P44 D2 E))) (dRw (vlS (!(s == t2)) (valR (P44 D E2)) (!(s2 == t)) (valR (P44 D2 E)))) (!(t == t2)) (dRw (valR E * valR E2))))))) := by kernel_rfl
end
def smD (l : List (List AV)) : Bool := isDR l && Nat.ble l.length 40000
theorem smD_iff {l : List (List AV)} (h : smD l = true) : ∃ n, l = dRw n ∧ dlen n ≤ 40000 := by
  unfold smD at h
  rw [Bool.and_eq_true] at h
  obtain ⟨n, rfl, _⟩ := isDR_iff h.1
  have := Nat.le_of_ble_eq_true h.2
  rw [dRw_len] at this
  exact ⟨n, rfl, this⟩
theorem smD_of {n : Nat} (h : dlen n ≤ 40000) : smD (dRw n) = true := by
  unfold smD
  rw [isDR_of (by omega), dRw_len, Nat.ble_eq_true_of_le h]; rfl
def F62 : List AV → List AObj → Ab Res := fun args st => match args, st with
  | [.agg [.k (.bool s), .sl 3 .any D, .k (.bool t), .sl 3 .any E], .agg [.k (.bool s2), .sl 3 .any D2, .k (.bool t2), .sl 3 .any E2]], [] => some ((smD D && smD E) && (smD D2 && smD E2), (fr (!(s == s2)) (dRw (valR D * valR D2)) (!(t == t2)) (dRw (valR E * valR E2)), []))
  | _, _ => none
theorem told62 (args : List AV) (st : List AObj) (r : Res) (h : F62 args st = some (true, r)) : ∃ k, ev T5 k 62 args st = some r := by
  unfold F62 at h
  split at h
  · rename_i s D t E s2 D2 t2 E2
    simp only [Option.some.injEq, Prod.mk.injEq, Bool.and_eq_true] at h
    obtain ⟨⟨⟨h1, h2⟩, h3, h4⟩, rfl⟩ := h
    obtain ⟨n, rfl, hn⟩ := smD_iff h1
    obtain ⟨m, rfl, hm⟩ := smD_iff h2
    obtain ⟨n2, rfl, hn2⟩ := smD_iff h3
    obtain ⟨m2, rfl, hm2⟩ := smD_iff h4
    exact ⟨0 + 1, (e62 0 _ _ _ _ s t s2 t2).trans (by rw [isDD_of (by omega) (by omega), isDD_of (by omega) (by omega)]; rfl)⟩
  · cases h
def F44 : List AV → List AObj → Ab Res := fun args st => match args, st with
  | [.agg [.k (.bool s), .sl 3 .any D, .k (.bool t), .sl 3 .any E], .agg [.k (.bool s2), .sl 3 .any D2, .k (.bool t2), .sl 3 .any E2]], [] => some ((smD D && smD E) && (smD D2 && smD E2),
      (fr (sgS (!(s == t2)) (valR D * valR E2) (!(s2 == t)) (valR D2 * valR E)) (dRw (vlS (!(s == t2)) (valR D * valR E2) (!(s2 == t)) (valR D2 * valR E))) (!(t == t2)) (dRw (valR E * valR E2)), []))
  | _, _ => none
theorem told44 (args : List AV) (st : List AObj) (r : Res) (h : F44 args st = some (true, r)) : ∃ k, ev T5 k 44 args st = some r := by
  unfold F44 at h
  split at h
  · rename_i s D t E s2 D2 t2 E2
    simp only [Option.some.injEq, Prod.mk.injEq, Bool.and_eq_true] at h
    obtain ⟨⟨⟨h1, h2⟩, h3, h4⟩, rfl⟩ := h
    obtain ⟨n, rfl, hn⟩ := smD_iff h1
    obtain ⟨m, rfl, hm⟩ := smD_iff h2
    obtain ⟨n2, rfl, hn2⟩ := smD_iff h3
    obtain ⟨m2, rfl, hm2⟩ := smD_iff h4
    have b1 := dlen_mul n m2
    have b2 := dlen_mul n2 m
    refine ⟨0 + 1, (e44 0 _ _ _ _ s t s2 t2).trans ?_⟩
    unfold P44
    rw [valR_dRw, valR_dRw, valR_dRw, valR_dRw, valR_dRw, valR_dRw, isDD_of (by omega) (by omega), isDD_of (by omega) (by omega), isDD_of (by omega) (by omega), isDD_of (by omega) (by omega)]
    rfl
  · cases h
noncomputable def T6 : FSys := (T5.tell 62 F62).tell 44 F44
theorem T6Ok (h : SysOk Try.prog sys) : SysOk Try.prog T6 := SysOk.tellMore ((T5Ok h).tell 62 _ told62) ((T5Ok h).tell 44 _ told44) rfl rfl
end
end Go.Proofs.Ytgcdiccbehiijaa.W
namespace Go.Proofs.Ytgcdiccbehiijaa.W
open Go.Fw
set_option maxRecDepth 100000
noncomputable section
theorem sv_sum (s t : Bool) (n m : Nat) : sv (sgS s n t m) (vlS s n t m) = sv s n + sv t m := by
  unfold sgS vlS
  cases s <;> cases t
  · show ((n + m : Nat) : Int) = (n : Int) + (m : Int); omega
  · by_cases h : m ≤ n
    · rw [decide_eq_true h]; show ((n - m : Nat) : Int) = (n : Int) + -(m : Int); omega
    · rw [decide_eq_false h]; show -((m - n : Nat) : Int) = (n : Int) + -(m : Int); omega
  · by_cases h : m ≤ n
    · rw [decide_eq_true h]; show -((n - m : Nat) : Int) = -(n : Int) + (m : Int); omega
    · rw [decide_eq_false h]; show ((m - n : Nat) : Int) = -(n : Int) + (m : Int); omega
  · show -((n + m : Nat) : Int) = -(n : Int) + -(m : Int); omega
theorem sv_prod (s t : Bool) (n m : Nat) : sv (!(s == t)) (n * m) = sv s n * sv t m := by
  cases s <;> cases t
  · show ((n * m : Nat) : Int) = (n : Int) * (m : Int); simp
  · show -((n * m : Nat) : Int) = (n : Int) * -(m : Int); simp [Int.mul_neg]
  · show -((n * m : Nat) : Int) = -(n : Int) * (m : Int); simp [Int.neg_mul]
  · show ((n * m : Nat) : Int) = -(n : Int) * -(m : Int); rw [Int.neg_mul_neg]; simp
theorem sv_abs (x : Int) : sv (decide (x < 0)) x.natAbs = x := by
  by_cases h : x < 0
  · rw [decide_eq_true h]; show -((x.natAbs : Nat) : Int) = x; omega
  · rw [decide_eq_false h]; show ((x.natAbs : Nat) : Int) = x; omega
section
variable (k : Nat) (x y z w : Int)
end
end
end Go.Proofs.Ytgcdiccbehiijaa.W
