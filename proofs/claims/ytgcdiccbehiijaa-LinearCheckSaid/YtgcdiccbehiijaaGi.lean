/- A part of the proofs over these laws: what its functions come to. No conditions. -/
import Derived.Test.YtgcdiccbehiijaaGh
import Derived.Test.YtgcdiccbehiijaaGe
set_option linter.all false
namespace Go.Proofs.Ytgcdiccbehiijaa.W.V
open Go.Fw U
set_option maxRecDepth 100000
noncomputable section
def sl52 (A : List (List AV)) : AV := .sl 52 .any A
def sys3 (F Rw : List (List AV)) : AV := .agg [.sl 4 .any F, .sl 77 .any Rw]
def bx37 (F Rw : List (List AV)) : AObj := .box 37 [.sl 4 .any F, .sl 77 .any Rw]
def cpR (r : List AV) : List AV := [i64 (cel r 0), i64 (cel r 1)]
def frR (r : List AV) : List AV := [sl52 ((coefs r).map cpR), i64 (cel r 1), i64 (cel r 2), .k (.bool (eqO r))]
def F25 : List AV → List AObj → Ab Res := fun args st => match args, st with
  | [.agg [.k (.int .i64 a), .k (.int .i64 b)]], [] => some (true, (.agg [i64 a, i64 b], []))
  | _, _ => none
theorem ev25 (k : Nat) (a b : Int) : ev T6 (k + 1) 25 [.agg [i64 a, i64 b]] [] = some (.agg [i64 a, i64 b], []) := by kernel_rfl
theorem told25 (args : List AV) (st : List AObj) (r : Res) (h : F25 args st = some (true, r)) : ∃ k, ev T6 k 25 args st = some r := by
  unfold F25 at h
  split at h
  · simp only [Option.some.injEq, Prod.mk.injEq] at h
    obtain ⟨-, rfl⟩ := h
    exact ⟨0 + 1, ev25 _ _ _⟩
  · cases h
noncomputable def S1 : FSys := T6.tell 25 F25
section
variable (k m : Nat) (F Rw X O : List (List AV)) (R : St → Option Res) (i n : Int) (kd : SK)
def P16 : List Nat := [1,1,0,1,0]
def σ16 (X : List (List AV)) (kd : SK) (out : List (List AV)) (i : Int) : St := ⟨tm 21 [(0, sl42 X), (3, .sr 0), (4, i64 i)], [.arr 52 kd out], []⟩
theorem b16 : ev S1 (k + 1) 16 [sl42 X] [] = loopAt S1 16 Try.f16 0 k P16 [] k (σ16 X .full [] 0) := by kernel_rfl
theorem r16a : roundAt S1 16 Try.f16 0 k P16 [] R (σ16 X .full [] 0) = bif decide ((0 : Int) < (X.length : Nat)) then inR X 0 (R (σ16 X .fresh [cpR (rwA X 0)] 1)) else some (sl52 [], []) := by kernel_rfl
def in16 (X O : List (List AV)) (R : St → Option Res) (i : Int) : Option Res := bif decide (i < (X.length : Nat)) then inR X i (nN (Nat.ble ((O.length + [cpR (rwA X i)].length) * 16) 140737488355328) (R (σ16 X .wide (O ++ [cpR (rwA X i)]) (w64 (i + 1))))) else some (sl52 O, [])
theorem r16b : roundAt S1 16 Try.f16 0 k P16 [] R (σ16 X .fresh O i) = in16 X O R i := by kernel_rfl
theorem r16c : roundAt S1 16 Try.f16 0 k P16 [] R (σ16 X .wide O i) = in16 X O R i := by kernel_rfl
end
def F16 : List AV → List AObj → Ab Res := fun args st => match args, st with
  | [.sl 42 .any A], [] => some (Nat.ble A.length 100000, (sl52 (A.map cpR), []))
  | _, _ => none
noncomputable def S2 : FSys := S1.tell 16 F16
section
variable (k m : Nat) (F Rw X O C : List (List AV)) (R : St → Option Res) (i n j u v : Int) (e : Bool)
def z37 : AObj := .box 37 [.sl 0 .nil [], .sl 0 .nil []]
def σ15a (F Rw : List (List AV)) : St := ⟨tm 42 [(1, .ptr 0 0), (2, .ptr 1 0), (3, .ptr 2 0), (4, i64 0)], [bxS F Rw, z37, .box 37 [.sl 4 .any F, .sl 0 .nil []]], []⟩
def σ15b (F Rw O : List (List AV)) (i : Int) : St := ⟨tm 42 [(1, .ptr 0 0), (2, .ptr 1 0), (3, .ptr 2 0), (4, i64 i)], [bxS F Rw, z37, .box 37 [.sl 4 .any F, .sr 3], .arr 77 .any O], []⟩
theorem b15 : ev S2 (k + 1) 15 [sys2 F Rw] [] = loopAt S2 15 Try.f15 0 k P16 [] k (σ15a F Rw) := by kernel_rfl
theorem r15a : roundAt S2 15 Try.f15 0 k P16 [] R (σ15a F Rw) = bif decide ((0 : Int) < (Rw.length : Nat)) then inR Rw 0 (nN (Nat.ble (coefs (rwA Rw 0)).length 100000) (inR Rw 0 (inR Rw 0 (R (σ15b F Rw [frR (rwA Rw 0)] 1))))) else some (sys3 F [], []) := by kernel_rfl
theorem r15b : roundAt S2 15 Try.f15 0 k P16 [] R (σ15b F Rw O i) = bif decide (i < (Rw.length : Nat)) then inR Rw i (nN (Nat.ble (coefs (rwA Rw i)).length 100000) (inR Rw i (inR Rw i (nN (Nat.ble ((O.length + [frR (rwA Rw i)].length) * 48) 140737488355328) (R (σ15b F Rw (O ++ [frR (rwA Rw i)]) (w64 (i + 1)))))))) else some (sys3 F O, []) := by kernel_rfl
def bxR77 (C : List (List AV)) (u v : Int) (e : Bool) : AObj := .box 77 [sl52 C, i64 u, i64 v, .k (.bool e)]
def Q33 : List Nat := [1,1,0,1,0,0,1,0,0,1,1,0,1,0]
def σ33 (F Rw : List (List AV)) (i : Int) : St := ⟨tm 53 [(1, .ptr 0 0), (3, i64 i)], [bx37 F Rw], []⟩
def τ33 (F Rw : List (List AV)) (C : List (List AV)) (u v : Int) (e : Bool) (i j : Int) : St := ⟨tm 53 [(1, .ptr 0 0), (3, i64 i), (4, .ptr 1 0), (5, i64 j)], [bx37 F Rw, bxR77 C u v e], []⟩
def lo33 (k n : Nat) (F Rw : List (List AV)) (i : Int) : Option Res := loopAt S2 33 Try.f33 0 k P16 [] n (σ33 F Rw i)
def li33 (k m n : Nat) (F Rw C : List (List AV)) (u v : Int) (e : Bool) (i j : Int) : Option Res := loopAt S2 33 Try.f33 0 k Q33 [m] n (τ33 F Rw C u v e i j)
def riC (x y : Int) (A : Option Res) : Option Res := nN (isI x && isI y) (bif !rightB x y then r1 2 else A)
theorem b33 : ev S2 (k + 1) 33 [sys3 F Rw] [] = bif decide (((F.length : Nat) : Int) > 32) then r1 6 else bif decide (((Rw.length : Nat) : Int) > 64) then r1 6 else lo33 k k F Rw 0 := by kernel_rfl
theorem ro33 : roundAt S2 33 Try.f33 0 k P16 [] (loopAt S2 33 Try.f33 0 k P16 [] m) (σ33 F Rw i) = bif decide (i < (Rw.length : Nat)) then inR Rw i (bif (((coefs (rwA Rw i)).length : Nat) : Int) != ((F.length : Nat) : Int) then r1 4 else li33 k m k F Rw (coefs (rwA Rw i)) (cel (rwA Rw i) 1) (cel (rwA Rw i) 2) (eqO (rwA Rw i)) i 0) else r1 0 := by kernel_rfl
theorem ri33 : roundAt S2 33 Try.f33 0 k Q33 [m] R (τ33 F Rw C u v e i j) = bif decide (j < (C.length : Nat)) then inR C j (riC (cel (rwA C j) 0) (cel (rwA C j) 1) (R (τ33 F Rw C u v e i (w64 (j + 1))))) else riC u v (lo33 k m F Rw (w64 (i + 1))) := by kernel_rfl
end
def F33 : List AV → List AObj → Ab Res := fun args st => match args, st with
  | [.agg [.sl 4 .any F, .sl 77 .any Rw]], [] => some ((Rw.map rowO).all okRow, (i64 (chkM F.length (Rw.map rowO)), []))
  | _, _ => none
noncomputable def S3 : FSys := S2.tell 33 F33
section
variable (k m : Nat) (F Rw X : List (List AV)) (R : St → Option Res) (i n : Int)
def P42 : List Nat := [1,1,1,0,1,0]
def σ42 (X : List (List AV)) (i : Int) : St := ⟨tm 30 [(1, sl52 X), (8, i64 i)], [], []⟩
theorem b42 : ev S3 (k + 1) 42 [sys3 F Rw, sl52 X, i64 n] [] = nN ((Rw.map rowO).all okRow) (bif chkM F.length (Rw.map rowO) != 0 then r1 (chkM F.length (Rw.map rowO)) else bif ((X.length : Nat) : Int) != n then r1 4 else loopAt S3 42 Try.f42 0 k P42 [] k (σ42 X 0)) := by kernel_rfl
theorem r42 : roundAt S3 42 Try.f42 0 k P42 [] R (σ42 X i) = bif decide (i < (X.length : Nat)) then inR X i (riC (cel (rwA X i) 0) (cel (rwA X i) 1) (R (σ42 X (w64 (i + 1))))) else r1 0 := by kernel_rfl
end
end
end Go.Proofs.Ytgcdiccbehiijaa.W.V
namespace Go.Proofs.Ytgcdiccbehiijaa.W.V
open Go.Fw U
set_option maxRecDepth 100000
noncomputable section
theorem take_map {β : Type} (f : List AV → β) {X : List (List AV)} {i : Nat} (h : i < X.length) : (X.map f).take (i + 1) = (X.map f).take i ++ [f (rwA X (i : Nat))] := by
  rw [rwA_nat h, List.take_succ, List.getElem?_eq_getElem (by rw [List.length_map]; exact h), List.getElem_map]; rfl
theorem take_all {β : Type} (f : List AV → β) (X : List (List AV)) : (X.map f).take X.length = X.map f := by
  rw [List.take_of_length_le (by rw [List.length_map]; exact Nat.le_refl _)]
theorem take_len {β : Type} (f : List AV → β) {X : List (List AV)} {i : Nat} (h : i ≤ X.length) : ((X.map f).take i).length = i := by
  rw [List.length_take, List.length_map]; omega
theorem loop16 (k : Nat) (X : List (List AV)) (hX : X.length ≤ 100000) : ∀ (n i : Nat) (kd : SK), (kd = .fresh ∨ kd = .wide) → i ≤ X.length → X.length - i < n →
    loopAt S1 16 Try.f16 0 k P16 [] n (σ16 X kd ((X.map cpR).take i) (i : Nat)) = some (sl52 (X.map cpR), [])
  | 0, i, _, _, _, h => by omega
  | n + 1, i, kd, hkd, hi, h => by
    rw [loopAt_succ]
    have hin : in16 X ((X.map cpR).take i) (loopAt S1 16 Try.f16 0 k P16 [] n) (i : Nat) = some (sl52 (X.map cpR), []) := by
      unfold in16
      rcases Nat.lt_or_eq_of_le hi with h1 | h1
      · have ih := loop16 k X hX n (i + 1) .wide (.inr rfl) h1 (by omega)
        have hb : Nat.ble ((((X.map cpR).take i).length + [cpR (rwA X (i : Nat))].length) * 16) 140737488355328 = true := Nat.ble_eq_true_of_le (by
          rw [take_len cpR hi]
          have : [cpR (rwA X (i : Nat))].length = 1 := rfl
          omega)
        rw [decide_eq_true (by omega : ((i : Nat) : Int) < ((X.length : Nat) : Int)), inR_on h1, nN_on hb, w64_suc (by omega), ← take_map cpR h1]
        exact tt1 ih
      · subst h1
        rw [decide_eq_false (by omega : ¬ ((X.length : Nat) : Int) < ((X.length : Nat) : Int)), take_all]; rfl
    rcases hkd with rfl | rfl
    · exact (r16b k X _ _ _).trans hin
    · exact (r16c k X _ _ _).trans hin
theorem told16 (args : List AV) (st : List AObj) (r : Res) (h : F16 args st = some (true, r)) : ∃ k, ev S1 k 16 args st = some r := by
  unfold F16 at h
  split at h
  · rename_i X
    simp only [Option.some.injEq, Prod.mk.injEq] at h
    obtain ⟨h1, rfl⟩ := h
    have hX := Nat.le_of_ble_eq_true h1
    refine ⟨X.length + 1 + 1, (b16 _ X).trans ?_⟩
    rw [loopAt_succ]
    refine (r16a _ X _).trans ?_
    rcases Nat.eq_zero_or_pos X.length with h0 | h0
    · have : X = [] := List.eq_nil_of_length_eq_zero h0
      subst this
      rfl
    · have ih := loop16 (X.length + 1) X hX X.length 1 .fresh (.inl rfl) h0 (by omega)
      have e1 : (X.map cpR).take 1 = [cpR (rwA X 0)] := take_map cpR h0
      rw [e1] at ih
      have e2 : ∀ A, inR X 0 A = A := fun A => inR_on (i := 0) h0
      rw [decide_eq_true (by omega : (0 : Int) < ((X.length : Nat) : Int)), e2]
      exact tt1 ih
  · cases h
def F15 : List AV → List AObj → Ab Res := fun args st => match args, st with
  | [.agg [.sl 4 .any F, .sl 44 .any Rw]], [] => some (Nat.ble Rw.length 1000 && Rw.all fun r => Nat.ble (coefs r).length 100000, (sys3 F (Rw.map frR), []))
  | _, _ => none
theorem loop15 (k : Nat) (F Rw : List (List AV)) (hX : Rw.length ≤ 1000) (hC : ∀ i, i < Rw.length → Nat.ble (coefs (rwA Rw (i : Nat))).length 100000 = true) : ∀ (n i : Nat), i ≤ Rw.length → Rw.length - i < n →
    loopAt S2 15 Try.f15 0 k P16 [] n (σ15b F Rw ((Rw.map frR).take i) (i : Nat)) = some (sys3 F (Rw.map frR), [])
  | 0, i, _, h => by omega
  | n + 1, i, hi, h => by
    rw [loopAt_succ]
    refine (r15b k F Rw _ _ _).trans ?_
    rcases Nat.lt_or_eq_of_le hi with h1 | h1
    · have ih := loop15 k F Rw hX hC n (i + 1) h1 (by omega)
      have hb : Nat.ble ((((Rw.map frR).take i).length + [frR (rwA Rw (i : Nat))].length) * 48) 140737488355328 = true := Nat.ble_eq_true_of_le (by
        rw [take_len frR hi]
        have : [frR (rwA Rw (i : Nat))].length = 1 := rfl
        omega)
      rw [decide_eq_true (by omega : ((i : Nat) : Int) < ((Rw.length : Nat) : Int)), inR_on h1, inR_on h1, inR_on h1, nN_on (hC i h1), nN_on hb, w64_suc (by omega), ← take_map frR h1]
      exact tt1 ih
    · subst h1
      rw [decide_eq_false (by omega : ¬ ((Rw.length : Nat) : Int) < ((Rw.length : Nat) : Int)), take_all]; rfl
theorem told15 (args : List AV) (st : List AObj) (r : Res) (h : F15 args st = some (true, r)) : ∃ k, ev S2 k 15 args st = some r := by
  unfold F15 at h
  split at h
  · rename_i F Rw
    simp only [Option.some.injEq, Prod.mk.injEq, Bool.and_eq_true] at h
    obtain ⟨⟨h1, h2⟩, rfl⟩ := h
    have hX := Nat.le_of_ble_eq_true h1
    have hC : ∀ i, i < Rw.length → Nat.ble (coefs (rwA Rw (i : Nat))).length 100000 = true := fun i hi => by
      rw [List.all_eq_true] at h2
      rw [rwA_nat hi]
      exact h2 _ (List.getElem_mem hi)
    refine ⟨Rw.length + 1 + 1, (b15 _ F Rw).trans ?_⟩
    rw [loopAt_succ]
    refine (r15a _ F Rw _).trans ?_
    rcases Nat.eq_zero_or_pos Rw.length with h0 | h0
    · have : Rw = [] := List.eq_nil_of_length_eq_zero h0
      subst this
      rfl
    · have ih := loop15 (Rw.length + 1) F Rw hX hC Rw.length 1 h0 (by omega)
      have e1 : (Rw.map frR).take 1 = [frR (rwA Rw 0)] := take_map frR h0
      rw [e1] at ih
      have e2 : ∀ A, inR Rw 0 A = A := fun A => inR_on (i := 0) h0
      rw [decide_eq_true (by omega : (0 : Int) < ((Rw.length : Nat) : Int)), e2, e2, e2, nN_on (show Nat.ble (coefs (rwA Rw 0)).length 100000 = true from hC 0 h0)]
      exact tt1 ih
  · cases h
theorem riC_on {p : Int × Int} (h : U.okP p = true) (A : Option Res) : riC p.1 p.2 A = bif riP p then A else r1 2 := by
  unfold riC
  rw [nN_on (show (isI p.1 && isI p.2) = true from h)]
  show (bif !riP p then r1 2 else A) = _
  cases riP p <;> rfl
theorem inner33 (k m : Nat) (F Rw C : List (List AV)) (u v : Int) (e : Bool) (i : Nat) (w : Int) (hi : i ≤ 1000) (hR : lo33 k m F Rw ((i + 1 : Nat) : Int) = r1 w) (hC : (rtsO C).all U.okP = true) (hl : U.okP (u, v) = true) (hn : C.length ≤ 1000) : ∀ (n j : Nat), j ≤ C.length → C.length - j < n →
    li33 k m n F Rw C u v e (i : Nat) (j : Nat) = r1 (bif ((rtsO C).drop j ++ [(u, v)]).all riP then w else 2)
  | 0, j, _, h => by omega
  | n + 1, j, hj, h => by
    unfold li33
    refine (loopAt_succ _ _ _ _ _ _ _ n _).trans ((ri33 k m F Rw C _ _ _ _ _ e).trans ?_)
    rcases Nat.lt_or_eq_of_le hj with h1 | h1
    · have ih := inner33 k m F Rw C u v e i w hi hR hC hl hn n (j + 1) h1 (by omega)
      have ho : U.okP (ratO (rwA C (j : Nat))) = true := by
        rw [List.all_eq_true] at hC
        exact hC _ (map_in ratO h1)
      rw [decide_eq_true (by omega : ((j : Nat) : Int) < ((C.length : Nat) : Int)), inR_on h1, w64_suc (by omega)]
      refine tt1 ((riC_on ho _).trans ?_)
      unfold rtsO at ih ⊢
      rw [map_drop ratO h1, List.cons_append, List.all_cons]
      cases riP (ratO (rwA C (j : Nat))) with
      | false => rfl
      | true => exact ih
    · subst h1
      have : (rtsO C).drop C.length = [] := by unfold rtsO; rw [List.drop_eq_nil_of_le (by rw [List.length_map]; exact Nat.le_refl _)]
      rw [decide_eq_false (by omega : ¬ ((C.length : Nat) : Int) < ((C.length : Nat) : Int)), w64_suc (n := i) (by omega), hR, this]
      refine ff1 ((riC_on (p := (u, v)) hl _).trans ?_)
      rw [List.nil_append, List.all_cons, List.all_nil, Bool.and_true]
      cases riP (u, v) <;> rfl
theorem outer33 (k : Nat) (F Rw : List (List AV)) (hF : F.length ≤ 32) (hk : 33 ≤ k) (hR : (Rw.map rowO).all okRow = true) (hn : Rw.length ≤ 64) : ∀ (n i : Nat), i ≤ Rw.length → Rw.length - i < n →
    lo33 k n F Rw (i : Nat) = r1 (chkR F.length ((Rw.map rowO).drop i))
  | 0, i, _, h => by omega
  | n + 1, i, hi, h => by
    unfold lo33
    refine (loopAt_succ _ _ _ _ _ _ _ n _).trans ((ro33 k n F Rw _).trans ?_)
    rcases Nat.lt_or_eq_of_le hi with h1 | h1
    · have ih := outer33 k F Rw hF hk hR hn n (i + 1) h1 (by omega)
      have hrow : okRow (rowO (rwA Rw (i : Nat))) = true := by
        rw [List.all_eq_true] at hR
        exact hR _ (map_in rowO h1)
      unfold okRow at hrow
      rw [Bool.and_eq_true] at hrow
      rw [decide_eq_true (by omega : ((i : Nat) : Int) < ((Rw.length : Nat) : Int)), inR_on h1, map_drop rowO h1]
      refine tt1 ?_
      unfold chkR
      rw [rowO_len]
      by_cases hc : (coefs (rwA Rw (i : Nat))).length = F.length
      · have e1 : ((((coefs (rwA Rw (i : Nat))).length : Nat) : Int) != ((F.length : Nat) : Int)) = false := by rw [hc]; simp
        have e2 : Nat.beq (coefs (rwA Rw (i : Nat))).length F.length = true := by rw [hc]; exact Nat.beq_refl _
        rw [e1, e2]
        exact ff1 (inner33 k n F Rw _ _ _ _ i _ (by omega) ih hrow.2 hrow.1 (by omega) k 0 (Nat.zero_le _) (by omega))
      · have e1 : ((((coefs (rwA Rw (i : Nat))).length : Nat) : Int) != ((F.length : Nat) : Int)) = true := by rw [bne_iff_ne]; omega
        have e2 : Nat.beq (coefs (rwA Rw (i : Nat))).length F.length = false := by rw [← Bool.not_eq_true, Nat.beq_eq]; exact hc
        rw [e1, e2]; rfl
    · subst h1
      have : (Rw.map rowO).drop Rw.length = [] := by rw [List.drop_eq_nil_of_le (by rw [List.length_map]; exact Nat.le_refl _)]
      rw [decide_eq_false (by omega : ¬ ((Rw.length : Nat) : Int) < ((Rw.length : Nat) : Int)), this]; rfl
theorem told33 (args : List AV) (st : List AObj) (r : Res) (h : F33 args st = some (true, r)) : ∃ k, ev S2 k 33 args st = some r := by
  unfold F33 at h
  split at h
  · rename_i F Rw
    simp only [Option.some.injEq, Prod.mk.injEq] at h
    obtain ⟨hR, rfl⟩ := h
    refine ⟨65 + 1, (b33 _ F Rw).trans ?_⟩
    unfold chkM
    by_cases hn : F.length ≤ 32
    · rw [decide_eq_false (by omega : ¬ ((F.length : Nat) : Int) > 32), Nat.ble_eq_true_of_le hn]
      by_cases hm : Rw.length ≤ 64
      · rw [decide_eq_false (by omega : ¬ ((Rw.length : Nat) : Int) > 64), Nat.ble_eq_true_of_le (by rw [List.length_map]; exact hm)]
        exact ff2 (outer33 65 F Rw hn (by omega) hR hm 65 0 (Nat.zero_le _) (by omega))
      · rw [decide_eq_true (by omega : ((Rw.length : Nat) : Int) > 64), nble_false (by rw [List.length_map]; exact hm)]; rfl
    · rw [decide_eq_true (by omega : ((F.length : Nat) : Int) > 32), nble_false hn]; rfl
  · cases h
theorem loop42 (k : Nat) (X : List (List AV)) (hX : okL X = true) : ∀ (n i : Nat), i ≤ X.length → X.length - i < n →
    loopAt S3 42 Try.f42 0 k P42 [] n (σ42 X (i : Nat)) = r1 (formM ((rtsO X).drop i))
  | 0, i, _, h => by omega
  | n + 1, i, hi, h => by
    have hX2 := hX
    unfold okL at hX2
    rw [Bool.and_eq_true] at hX2
    have hl := Nat.le_of_ble_eq_true hX2.1
    refine (loopAt_succ _ _ _ _ _ _ _ n _).trans ((r42 k X _ _).trans ?_)
    rcases Nat.lt_or_eq_of_le hi with h1 | h1
    · have ih := loop42 k X hX n (i + 1) h1 (by omega)
      have ho : U.okP (ratO (rwA X (i : Nat))) = true := by
        have hC := hX2.2
        rw [List.all_eq_true] at hC
        exact hC _ (map_in ratO h1)
      rw [decide_eq_true (by omega : ((i : Nat) : Int) < ((X.length : Nat) : Int)), inR_on h1, w64_suc (by omega)]
      refine tt1 ((riC_on ho _).trans ?_)
      unfold rtsO at ih ⊢
      rw [map_drop ratO h1, formM_cons]
      cases riP (ratO (rwA X (i : Nat))) with
      | false => rfl
      | true => exact ih
    · subst h1
      have : (rtsO X).drop X.length = [] := by unfold rtsO; rw [List.drop_eq_nil_of_le (by rw [List.length_map]; exact Nat.le_refl _)]
      rw [decide_eq_false (by omega : ¬ ((X.length : Nat) : Int) < ((X.length : Nat) : Int)), this]; rfl
def F42 : List AV → List AObj → Ab Res := fun args st => match args, st with
  | [.agg [.sl 4 .any F, .sl 77 .any Rw], .sl 52 .any X, .k (.int .i64 n)], [] => some ((Rw.map rowO).all okRow && okL X, (i64 (askM F.length (Rw.map rowO) (rtsO X) n), []))
  | _, _ => none
theorem told42 (args : List AV) (st : List AObj) (r : Res) (h : F42 args st = some (true, r)) : ∃ k, ev S3 k 42 args st = some r := by
  unfold F42 at h
  split at h
  · rename_i F Rw X n
    simp only [Option.some.injEq, Prod.mk.injEq, Bool.and_eq_true] at h
    obtain ⟨⟨h1, h2⟩, rfl⟩ := h
    refine ⟨X.length + 1 + 1, (b42 _ F Rw X n).trans ?_⟩
    rw [nN_on h1]
    unfold askM
    have e : (rtsO X).length = X.length := by unfold rtsO; rw [List.length_map]
    rw [e]
    cases chkM F.length (Rw.map rowO) != 0 with
    | true => rfl
    | false =>
      cases ((X.length : Nat) : Int) != n with
      | true => rfl
      | false => exact ff2 (loop42 (X.length + 1) X h2 (X.length + 1) 0 (Nat.zero_le _) (by omega))
  · cases h
noncomputable def S4 : FSys := S3.tell 42 F42
theorem S4Ok (h : SysOk Try.prog sys) : SysOk Try.prog S4 := by
  have h1 : SysOk Try.prog S1 := (T6Ok h).tell 25 _ told25
  have h2 : SysOk Try.prog S2 := h1.tell 16 _ told16
  have h3 : SysOk Try.prog S3 := h2.tell 33 _ told33
  exact h3.tell 42 _ told42
end
end Go.Proofs.Ytgcdiccbehiijaa.W.V
namespace Go.Proofs.Ytgcdiccbehiijaa.W.V
open Go.Fw U
set_option maxRecDepth 100000
noncomputable section
def c46 (x y : Int) : Bool := isI6 x && isI6 y
def pS (x z : Int) : Bool := !(decide (x < 0) == decide (z < 0))
def pN (x z : Int) : List (List AV) := W.dRw (W.valR (W.dRw x.natAbs) * W.valR (W.dRw z.natAbs))
def c62 (x y z w : Int) : Bool := (smD (W.dRw x.natAbs) && smD (W.dRw y.natAbs)) && (smD (W.dRw z.natAbs) && smD (W.dRw w.natAbs))
def c44 (N E N2 E2 : List (List AV)) : Bool := (smD N && smD E) && (smD N2 && smD E2)
def aS (s : Bool) (N : List (List AV)) (t : Bool) (E : List (List AV)) (s2 : Bool) (N2 : List (List AV)) (t2 : Bool) (E2 : List (List AV)) : Bool := sgS (!(s == t2)) (W.valR N * W.valR E2) (!(s2 == t)) (W.valR N2 * W.valR E)
def aN (s : Bool) (N : List (List AV)) (t : Bool) (E : List (List AV)) (s2 : Bool) (N2 : List (List AV)) (t2 : Bool) (E2 : List (List AV)) : List (List AV) := W.dRw (vlS (!(s == t2)) (W.valR N * W.valR E2) (!(s2 == t)) (W.valR N2 * W.valR E))
def aT (t t2 : Bool) : Bool := !(t == t2)
def aE (E E2 : List (List AV)) : List (List AV) := W.dRw (W.valR E * W.valR E2)
def b82 (s : Bool) (N : List (List AV)) (t : Bool) (E : List (List AV)) : AObj := .box 82 [.k (.bool s), slR N, .k (.bool t), slR E]
def n82 : AObj := .box 82 [.k (.bool false), .sl 0 .nil [], .k (.bool false), slR [[i64 1]]]
def z82 : AObj := .box 82 [.k (.bool false), .sl 0 .nil [], .k (.bool false), .sl 0 .nil []]
def σ45 (A B : List (List AV)) (o : AObj) (i : Int) : St := ⟨tm 44 [(0, sl52 A), (1, sl52 B), (4, .ptr 0 0), (5, .ptr 1 0), (6, i64 i)], [z82, o], []⟩
def add45 (s : Bool) (N : List (List AV)) (t : Bool) (E : List (List AV)) (x y z w : Int) (K : AObj → Option Res) : Option Res :=
  nN (c62 x y z w) (nN (c44 N E (pN x z) (pN y w)) (K (b82 (aS s N t E (pS x z) (pN x z) (pS y w) (pN y w)) (aN s N t E (pS x z) (pN x z) (pS y w) (pN y w)) (aT t (pS y w)) (aE E (pN y w)))))
def in45 (o : AObj) (s : Bool) (N : List (List AV)) (t : Bool) (E : List (List AV)) (A B : List (List AV)) (R : St → Option Res) (i : Int) : Option Res :=
  bif decide (i < (A.length : Nat)) then inR A i (bif cel (rwA A i) 0 != 0 then inR B i (bif cel (rwA B i) 0 != 0 then
      inR A i (nN (c46 (cel (rwA A i) 0) (cel (rwA A i) 1)) (inR B i (nN (c46 (cel (rwA B i) 0) (cel (rwA B i) 1)) (add45 s N t E (cel (rwA A i) 0) (cel (rwA A i) 1) (cel (rwA B i) 0) (cel (rwA B i) 1) fun o' => R (σ45 A B o' (w64 (i + 1)))))))
    else R (σ45 A B o (w64 (i + 1)))) else R (σ45 A B o (w64 (i + 1))))
  else some (fr s N t E, [])
section
variable (k m : Nat) (A B N E : List (List AV)) (R : St → Option Res) (i : Int) (s t : Bool)
theorem b45 : ev S4 (k + 1) 45 [sl52 A, sl52 B] [] = loopAt S4 45 Try.f45 0 k P16 [] k (σ45 A B n82 0) := by kernel_rfl
theorem r45a : roundAt S4 45 Try.f45 0 k P16 [] R (σ45 A B n82 i) = in45 n82 false [] false [[i64 1]] A B R i := by kernel_rfl
theorem r45b : roundAt S4 45 Try.f45 0 k P16 [] R (σ45 A B (b82 s N t E) i) = in45 (b82 s N t E) s N t E A B R i := by kernel_rfl
end
end
end Go.Proofs.Ytgcdiccbehiijaa.W.V
namespace Go.Proofs.Ytgcdiccbehiijaa.W.V
open Go.Fw U
set_option maxRecDepth 100000
noncomputable section
def stR (r : Bool × Nat × Nat) (x y z w : Int) : Bool × Nat × Nat :=
  bif x != 0 then (bif z != 0 then (sgS r.1 (r.2.1 * (y.natAbs * w.natAbs)) (pS x z) (x.natAbs * z.natAbs * r.2.2), vlS r.1 (r.2.1 * (y.natAbs * w.natAbs)) (pS x z) (x.natAbs * z.natAbs * r.2.2), r.2.2 * (y.natAbs * w.natAbs)) else r) else r
def dotS (A B : List (List AV)) : Nat → Bool × Nat × Nat
  | 0 => (false, 0, 1)
  | j + 1 => stR (dotS A B j) (cel (rwA A (j : Nat)) 0) (cel (rwA A (j : Nat)) 1) (cel (rwA B (j : Nat)) 0) (cel (rwA B (j : Nat)) 1)
structure GoodD (r : Bool × Nat × Nat) (q : Rat) (L : Nat) : Prop where
  val : qq (sv r.1 r.2.1, (r.2.2 : Int)) = q
  pos : 1 ≤ r.2.2
  l1 : W.dlen r.2.1 ≤ L
  l2 : W.dlen r.2.2 ≤ L
theorem sv_mul (s : Bool) (n m : Nat) : sv s (n * m) = sv s n * (m : Int) := by
  unfold sv
  cases s <;> simp only [cond_true, cond_false, Int.natCast_mul, Int.neg_mul]
theorem sv_pS (x z : Int) : sv (pS x z) (x.natAbs * z.natAbs) = x * z := by
  unfold pS
  rw [sv_prod, sv_abs, sv_abs]
theorem den5 {x y : Int} (h : RiQ x y) : W.dlen x.natAbs ≤ 5 ∧ W.dlen y.natAbs ≤ 5 := by
  have h1 := h.i
  have h2 := h.lo
  have h3 := h.hi
  unfold isI at h1
  rw [Bool.and_eq_true, decide_eq_true_iff, decide_eq_true_iff] at h1
  exact ⟨dlen_small (by omega), dlen_small (by omega)⟩
theorem vlS_le (s : Bool) (n : Nat) (t : Bool) (m : Nat) : vlS s n t m ≤ n + m := by
  unfold vlS
  cases s == t with
  | true => exact Nat.le_refl _
  | false => cases decide (m ≤ n) with
    | true => show n - m ≤ _; omega
    | false => show m - n ≤ _; omega
theorem stR_good {r : Bool × Nat × Nat} {q : Rat} {L : Nat} {x y z w : Int} (h : GoodD r q L) (hx : RiQ x y) (hz : RiQ z w) : GoodD (stR r x y z w) (q + qq (x, y) * qq (z, w)) (L + 11) := by
  obtain ⟨s, n, d⟩ := r
  obtain ⟨hv, hp, h1, h2⟩ := h
  replace hv : qq (sv s n, (d : Int)) = q := hv
  replace hp : 1 ≤ d := hp
  replace h1 : W.dlen n ≤ L := h1
  replace h2 : W.dlen d ≤ L := h2
  have hy1 := hx.lo
  have hw1 := hz.lo
  have dx := den5 hx
  have dz := den5 hz
  unfold stR
  by_cases hx0 : x = 0
  · subst hx0
    refine ⟨?_, hp, by show W.dlen n ≤ _; omega, by show W.dlen d ≤ _; omega⟩
    show qq (sv s n, (d : Int)) = _
    rw [hv, qzero rfl]; grind
  · have ex : (x != 0) = true := by rw [bne_iff_ne]; exact hx0
    by_cases hz0 : z = 0
    · subst hz0
      rw [ex]
      refine ⟨?_, hp, by show W.dlen n ≤ _; omega, by show W.dlen d ≤ _; omega⟩
      show qq (sv s n, (d : Int)) = _
      rw [hv, qzero (n := 0) rfl]; grind
    · have ez : (z != 0) = true := by rw [bne_iff_ne]; exact hz0
      rw [ex, ez]
      have e1 : ((y.natAbs : Nat) : Int) = y := by omega
      have e2 : ((w.natAbs : Nat) : Int) = w := by omega
      have k1 := W.dlen_mul y.natAbs w.natAbs
      have k2 := W.dlen_mul n (y.natAbs * w.natAbs)
      have k3 := W.dlen_mul x.natAbs z.natAbs
      have k4 := W.dlen_mul (x.natAbs * z.natAbs) d
      have k5 := W.dlen_mul d (y.natAbs * w.natAbs)
      have k6 := W.dlen_add (n * (y.natAbs * w.natAbs)) (x.natAbs * z.natAbs * d)
      have k7 := W.dlen_mono (vlS_le s (n * (y.natAbs * w.natAbs)) (pS x z) (x.natAbs * z.natAbs * d))
      refine ⟨?_, ?_, ?_, ?_⟩
      · show qq (sv (sgS s (n * (y.natAbs * w.natAbs)) (pS x z) (x.natAbs * z.natAbs * d)) (vlS s (n * (y.natAbs * w.natAbs)) (pS x z) (x.natAbs * z.natAbs * d)), ((d * (y.natAbs * w.natAbs) : Nat) : Int)) = _
        have eE : ((y.natAbs * w.natAbs : Nat) : Int) = y * w := by rw [Int.natCast_mul, e1, e2]
        rw [sv_sum, sv_mul, sv_mul, sv_pS, Int.natCast_mul d, eE, ← hv]
        have := qstep (a := sv s n) (d := (d : Int)) (x := x) (z := z) (by omega) (by omega : 0 < y) (by omega : 0 < w)
        rw [← this, Int.mul_comm (x * z), Int.mul_assoc (d : Int)]
      · show 1 ≤ d * (y.natAbs * w.natAbs)
        have := Nat.mul_pos (by omega : 0 < d) (Nat.mul_pos (by omega : 0 < y.natAbs) (by omega : 0 < w.natAbs))
        omega
      · show W.dlen (vlS s (n * (y.natAbs * w.natAbs)) (pS x z) (x.natAbs * z.natAbs * d)) ≤ _
        omega
      · show W.dlen (d * (y.natAbs * w.natAbs)) ≤ _
        omega
structure OkD (A B : List (List AV)) : Prop where
  la : A.length ≤ 64
  lb : A.length ≤ B.length
  ra : ∀ j, j < A.length → RiP (xP A j)
  rb : ∀ j, j < A.length → RiP (xP B j)
theorem dotS_good {A B : List (List AV)} (h : OkD A B) : ∀ j, j ≤ A.length → GoodD (dotS A B j) (sumR (fun i => qq (xP A i) * qq (xP B i)) j) (1 + 11 * j)
  | 0, _ => ⟨qzero rfl, Nat.le_refl _, by show W.dlen 0 ≤ _; rw [W.dlen_zero]; omega, by show W.dlen 1 ≤ _; rw [W.dlen_one]; omega⟩
  | j + 1, hj => stR_good (dotS_good h j (by omega)) (h.ra j (by omega)) (h.rb j (by omega))
def BoxD (o : AObj) (r : Bool × Nat × Nat) : Prop := (o = n82 ∧ r = (false, 0, 1)) ∨ o = b82 r.1 (W.dRw r.2.1) false (W.dRw r.2.2)
theorem dr1 : W.dRw 1 = [[i64 1]] := by
  unfold W.dRw
  rw [W.digs_pos (by omega)]
  have : (1 : Nat) / 32768 = 0 := rfl
  rw [this, W.digs_zero]; rfl
theorem dr0 : W.dRw 0 = [] := by unfold W.dRw; rw [W.digs_zero]; rfl
theorem pS_den {y w : Int} (h1 : 1 ≤ y) (h2 : 1 ≤ w) : pS y w = false := by
  unfold pS
  rw [decide_eq_false (by omega : ¬ y < 0), decide_eq_false (by omega : ¬ w < 0)]; rfl
theorem RiQ.c46 {x y : Int} (h : RiQ x y) : c46 x y = true := by
  have h1 := h.lo
  have h2 := h.hi
  unfold V.c46
  rw [isI6_eq, isI6_eq, h.i]
  have : isI y = true := by
    unfold isI
    rw [Bool.and_eq_true, decide_eq_true_iff, decide_eq_true_iff]; omega
  rw [this]; rfl
theorem in45_on (k : Nat) (A B : List (List AV)) (h : OkD A B) (o : AObj) (i : Nat) (hi : i < A.length) (ho : BoxD o (dotS A B i)) (R : St → Option Res) (F : Option Res)
    (hR : ∀ o', BoxD o' (dotS A B (i + 1)) → R (σ45 A B o' ((i + 1 : Nat) : Int)) = F) :
    in45 o (dotS A B i).1 (W.dRw (dotS A B i).2.1) false (W.dRw (dotS A B i).2.2) A B R (i : Nat) = F := by
  have hg := dotS_good h i (by omega)
  have la := h.la
  have lb := h.lb
  have r1 : RiQ (cel (rwA A (i : Nat)) 0) (cel (rwA A (i : Nat)) 1) := h.ra i hi
  have r2 : RiQ (cel (rwA B (i : Nat)) 0) (cel (rwA B (i : Nat)) 1) := h.rb i hi
  have hd : dotS A B (i + 1) = stR (dotS A B i) (cel (rwA A (i : Nat)) 0) (cel (rwA A (i : Nat)) 1) (cel (rwA B (i : Nat)) 0) (cel (rwA B (i : Nat)) 1) := rfl
  rw [hd] at hR
  clear hd
  unfold in45
  generalize dotS A B i = r at *
  generalize cel (rwA A (i : Nat)) 0 = x at *
  generalize cel (rwA A (i : Nat)) 1 = y at *
  generalize cel (rwA B (i : Nat)) 0 = z at *
  generalize cel (rwA B (i : Nat)) 1 = w at *
  have i2 : i < B.length := by omega
  rw [decide_eq_true (by omega : ((i : Nat) : Int) < ((A.length : Nat) : Int)), inR_on hi, w64_suc (by omega)]
  refine tt1 ?_
  unfold stR at hR
  by_cases hx0 : x = 0
  · subst hx0
    exact hR o ho
  · have ex : (x != 0) = true := by rw [bne_iff_ne]; exact hx0
    rw [ex] at hR ⊢
    refine tt1 ?_
    rw [inR_on i2]
    by_cases hz0 : z = 0
    · subst hz0
      exact hR o ho
    · have ez : (z != 0) = true := by rw [bne_iff_ne]; exact hz0
      rw [ez] at hR ⊢
      refine tt1 ?_
      have d1 := den5 r1
      have d2 := den5 r2
      have g1 := hg.l1
      have g2 := hg.l2
      have k1 := W.dlen_mul x.natAbs z.natAbs
      have k2 := W.dlen_mul y.natAbs w.natAbs
      have h62 : c62 x y z w = true := by
        unfold c62
        rw [smD_of (by omega), smD_of (by omega), smD_of (by omega), smD_of (by omega)]; rfl
      have en : pN x z = W.dRw (x.natAbs * z.natAbs) := by unfold pN; rw [W.valR_dRw, W.valR_dRw]
      have ed : pN y w = W.dRw (y.natAbs * w.natAbs) := by unfold pN; rw [W.valR_dRw, W.valR_dRw]
      have h44 : c44 (W.dRw r.2.1) (W.dRw r.2.2) (pN x z) (pN y w) = true := by
        unfold c44
        rw [en, ed, smD_of (by omega), smD_of (by omega), smD_of (by omega), smD_of (by omega)]; rfl
      rw [inR_on hi, inR_on i2, nN_on (RiQ.c46 r1), nN_on (RiQ.c46 r2)]
      unfold add45
      rw [nN_on h62, nN_on h44, pS_den r1.lo r2.lo]
      refine hR _ (.inr ?_)
      unfold aS aN aT aE
      rw [en, ed, W.valR_dRw, W.valR_dRw, W.valR_dRw, W.valR_dRw]
      have e3 : ∀ s : Bool, (!(s == false)) = s := fun s => by cases s <;> rfl
      rw [e3, e3]; rfl
theorem loop45 (k : Nat) (A B : List (List AV)) (h : OkD A B) : ∀ (n i : Nat) (o : AObj), BoxD o (dotS A B i) → i ≤ A.length → A.length - i < n →
    loopAt S4 45 Try.f45 0 k P16 [] n (σ45 A B o (i : Nat)) = some (fr (dotS A B A.length).1 (W.dRw (dotS A B A.length).2.1) false (W.dRw (dotS A B A.length).2.2), [])
  | 0, i, _, _, _, h => by omega
  | n + 1, i, o, ho, hi, hh => by
    have hin : in45 o (dotS A B i).1 (W.dRw (dotS A B i).2.1) false (W.dRw (dotS A B i).2.2) A B (loopAt S4 45 Try.f45 0 k P16 [] n) (i : Nat) = some (fr (dotS A B A.length).1 (W.dRw (dotS A B A.length).2.1) false (W.dRw (dotS A B A.length).2.2), []) := by
      rcases Nat.lt_or_eq_of_le hi with h1 | h1
      · exact in45_on k A B h o i h1 ho _ _ fun o' ho' => loop45 k A B h n (i + 1) o' ho' h1 (by omega)
      · subst h1
        unfold in45
        rw [decide_eq_false (by omega : ¬ ((A.length : Nat) : Int) < ((A.length : Nat) : Int))]; rfl
    rw [loopAt_succ]
    rcases ho with ⟨h1, h2⟩ | h1
    · rw [h2, h1] at hin
      rw [h1]
      refine (r45a k A B _ _).trans ?_
      rw [← dr1]
      have : ([] : List (List AV)) = W.dRw 0 := dr0.symm
      rw [this]
      exact hin
    · rw [h1] at hin ⊢
      exact (r45b k A B _ _ _ _ _ _).trans hin
def okD (A B : List (List AV)) : Bool := allF (fun j => riB (cel (rwA A (j : Nat)) 0) (cel (rwA A (j : Nat)) 1) (cel (rwA B (j : Nat)) 0) (cel (rwA B (j : Nat)) 1)) A.length 0 && (Nat.ble A.length 64 && Nat.ble A.length B.length)
theorem okD_iff {A B : List (List AV)} : okD A B = true ↔ OkD A B := by
  unfold okD
  rw [Bool.and_eq_true, Bool.and_eq_true, allF_iff]
  constructor
  · rintro ⟨h1, h2, h3⟩
    exact ⟨Nat.le_of_ble_eq_true h2, Nat.le_of_ble_eq_true h3, fun j hj => (riB_iff.1 (h1 j (Nat.zero_le _) hj)).1, fun j hj => (riB_iff.1 (h1 j (Nat.zero_le _) hj)).2⟩
  · intro h
    exact ⟨fun j _ hj => riB_iff.2 ⟨h.ra j hj, h.rb j hj⟩, Nat.ble_eq_true_of_le h.la, Nat.ble_eq_true_of_le h.lb⟩
def F45 : List AV → List AObj → Ab Res := fun args st => match args, st with
  | [.sl 52 .any A, .sl 52 .any B], [] => some (okD A B, (fr (dotS A B A.length).1 (W.dRw (dotS A B A.length).2.1) false (W.dRw (dotS A B A.length).2.2), []))
  | _, _ => none
theorem told45 (args : List AV) (st : List AObj) (r : Res) (h : F45 args st = some (true, r)) : ∃ k, ev S4 k 45 args st = some r := by
  unfold F45 at h
  split at h
  · rename_i A B
    simp only [Option.some.injEq, Prod.mk.injEq] at h
    obtain ⟨h1, rfl⟩ := h
    rw [okD_iff] at h1
    have hl := loop45 65 A B h1 65 0 n82 (.inl ⟨rfl, rfl⟩) (Nat.zero_le _) (by have := h1.la; omega)
    exact ⟨65 + 1, (b45 _ A B).trans hl⟩
  · cases h
noncomputable def S5 : FSys := S4.tell 45 F45
theorem S5Ok (h : SysOk Try.prog sys) : SysOk Try.prog S5 := (S4Ok h).tell 45 _ told45
end
end Go.Proofs.Ytgcdiccbehiijaa.W.V
