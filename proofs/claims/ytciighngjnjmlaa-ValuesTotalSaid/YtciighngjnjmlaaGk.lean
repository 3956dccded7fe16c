/- A part of the proofs over these laws: what its functions come to. No conditions. -/
import Derived.Test.YtciighngjnjmlaaGj
import Derived.Test.YtciighngjnjmlaaGg
import Derived.Test.YtciighngjnjmlaaGi
set_option linter.all false
namespace Go.Proofs.Ytciighngjnjmlaa.W
open Go.Fw
set_option maxRecDepth 100000
noncomputable section
noncomputable def okL (m : Nat) (rows : List (List AV)) : Bool := rowsOk m rows && Nat.ble rows.length 20
noncomputable def tt : Option Res := some (bl true, [])
noncomputable def okE (m : Nat) (a b : List (List AV)) : Bool := rowsOk m a && rowsOk m b
theorem isVr_up {n m : Nat} {r : List AV} (h : isVr n r = true) (hm : n ≤ m) : isVr m r = true := isRow_le h hm
theorem eqR_self : ∀ {n : Nat} {r : List AV}, isVr n r = true → eqR n r r = true
  | 0, r, h => by rw [isVr_zero] at h; cases h
  | n + 1, r, h => by
    obtain ⟨a, b, s, rows, rfl, _, hr⟩ := isVr_succ h
    have hall : ∀ l : List (List AV), (∀ x ∈ l, isVr n x = true) → all2 (eqR n) l l = true := by
      intro l
      induction l with
      | nil => intro _; rfl
      | cons x xs ih =>
        intro h
        simp only [all2]
        rw [eqR_self (h x List.mem_cons_self), ih fun y hy => h y (List.mem_cons_of_mem _ hy)]
        rfl
    have e : eqR (n + 1) (VV a b s rows) (VV a b s rows) = (a == a && (b == b && (s == s && all2 (eqR n) rows rows))) := rfl
    rw [e, hall rows hr, ba_beq]
    simp
theorem all2_self {n : Nat} : ∀ {l : List (List AV)}, (∀ x ∈ l, isVr n x = true) → all2 (eqR n) l l = true
  | [], _ => rfl
  | x :: xs, h => by
    simp only [all2]
    rw [eqR_self (h x List.mem_cons_self), all2_self fun y hy => h y (List.mem_cons_of_mem _ hy)]
    rfl
theorem isort_mem {f : List AV → List AV → Int} {z : List AV} : ∀ (l p : List (List AV)), z ∈ l.foldl (ins f) p → z ∈ l ∨ z ∈ p
  | [], p, h => .inr h
  | x :: xs, p, h => by
    rcases isort_mem xs (ins f p x) h with h | h
    · exact .inl (List.mem_cons_of_mem _ h)
    · rcases ins_mem h with rfl | h
      · exact .inl List.mem_cons_self
      · exact .inr h
theorem compT_len (f : List AV → List AV → Int) : ∀ (l : List (List AV)) (p : List AV), (compT f p l).length ≤ l.length
  | [], _ => Nat.le_refl _
  | y :: ys, p => by
    simp only [compT]
    cases f y p == 0 with
    | true => have := compT_len f ys y; simp only [cond_true, List.length_cons]; omega
    | false => have := compT_len f ys y; simp only [cond_false, List.length_cons]; omega
theorem sortM_mem {n : Nat} {rows : List (List AV)} {z : List AV} (h : z ∈ sortM n rows) : z ∈ rows := by
  unfold sortM at h
  cases hs : sortsR n rows with
  | false => rw [hs] at h; cases h
  | true =>
    rw [hs] at h
    have h1 : z ∈ isort (ordR n) rows := compact_mem h
    rcases isort_mem rows [] h1 with h | h
    · exact h
    · cases h
theorem sortM_len (n : Nat) (rows : List (List AV)) : (sortM n rows).length ≤ rows.length := by
  unfold sortM
  cases sortsR n rows with
  | false => simp
  | true =>
    have e : (srt n rows).length = rows.length := isort_len _ _
    simp only [cond_true]
    unfold cmpt
    cases h : srt n rows with
    | nil => simp [compact]
    | cons x xs =>
      rw [h] at e
      have := compT_len (ordR n) xs x
      simp only [compact, List.length_cons] at e ⊢
      omega
end
end Go.Proofs.Ytciighngjnjmlaa.W
namespace Go.Proofs.Ytciighngjnjmlaa.W
open Go.Fw
noncomputable section
noncomputable def tidyR : Nat → List AV → Bool
  | 0, _ => false
  | n + 1, r => bif kd r == 1 || kd r == 2 then (tx r == ByteArray.empty && Nat.beq (kids r).length 0)
    else bif kd r == 3 then (nm r == 0 && Nat.beq (kids r).length 0)
    else bif kd r == 7 && !(nm r == 0) then false
    else (tx r == ByteArray.empty && (kids r).all (tidyR n))
theorem lex0 {f : List AV → List AV → Int} {g : List AV → List AV → Bool} : ∀ (l m : List (List AV)), (∀ x ∈ l, ∀ y ∈ m, f x y = 0 ↔ g x y = true) → (lexR f l m = 0 ↔ all2 g l m = true)
  | [], [], _ => by simp [lexR, all2]
  | [], _ :: _, _ => by simp [lexR, all2]
  | _ :: _, [], _ => by simp [lexR, all2]
  | x :: xs, y :: ys, h => by
    have h0 := h x List.mem_cons_self y List.mem_cons_self
    have ih := lex0 xs ys fun a ha b hb => h a (List.mem_cons_of_mem _ ha) b (List.mem_cons_of_mem _ hb)
    by_cases e : f x y = 0
    · rw [lexR_eq e, ih]
      simp only [all2, h0.1 e, Bool.true_and]
    · rw [lexR_ne e]
      have : g x y = false := by
        cases hg : g x y with
        | false => rfl
        | true => exact absurd (h0.2 hg) e
      simp only [all2, this, Bool.false_and]
      exact ⟨fun h => absurd h e, fun h => by cases h⟩
theorem cmpI_beq (a b : Int) : (cmpI a b == 0) = (a == b) := by
  rw [Bool.eq_iff_iff, beq_iff_eq, beq_iff_eq, cmpI_eq]
theorem ba_of {a b : ByteArray} (h : (a == b) = true) : a = b := by rw [ba_beq] at h; exact of_decide_eq_true h
theorem ba_self (a : ByteArray) : (a == a) = true := by rw [ba_beq]; exact decide_eq_true rfl
theorem cmpS_beq (a b : ByteArray) : (cmpS a b == 0) = (a == b) := by
  rw [Bool.eq_iff_iff, beq_iff_eq, ba_beq, decide_eq_true_iff, cmpS_zero]
theorem bif_zero {c : Bool} {x y : Int} (h : (y == 0) = c) : ((bif c then x else y) = 0) ↔ (c = true ∧ x = 0) := by
  cases c with
  | true => simp
  | false => simp at h ⊢; exact h
theorem len0 {l : List (List AV)} (h : Nat.beq l.length 0 = true) : l = [] := List.eq_nil_of_length_eq_zero (Nat.eq_of_beq_eq_true h)
theorem tidy_eq : ∀ (n : Nat) (x y : List AV), tidyR n x = true → tidyR n y = true → (ordR n x y = 0 ↔ eqR n x y = true)
  | 0, _, _, h, _ => by simp only [tidyR] at h; cases h
  | n + 1, x, y, hx, hy => by
    have e1 : ordR (n + 1) x y = bif cmpI (kd x) (kd y) == 0 then (bif headC x y == 0 then lexR (ordR n) (kids x) (kids y) else headC x y) else cmpI (kd x) (kd y) := rfl
    have e2 : eqR (n + 1) x y = (kd x == kd y && (nm x == nm y && (tx x == tx y && all2 (eqR n) (kids x) (kids y)))) := rfl
    rw [e1, bif_zero rfl, bif_zero rfl, cmpI_beq, e2, Bool.and_eq_true]
    by_cases hk : (kd x == kd y) = true
    case neg => simp [hk]
    simp only [hk, true_and]
    have hk' : kd x = kd y := eq_of_beq hk
    simp only [tidyR] at hx hy
    unfold headC
    rw [← hk'] at hy
    cases h12 : (kd x == 1 || kd x == 2) with
    | true =>
      rw [h12] at hx hy
      simp only [cond_true, Bool.and_eq_true] at hx hy
      have hn3 : (kd x == 3) = false := by
        simp only [Bool.or_eq_true, beq_iff_eq] at h12
        rcases h12 with h | h <;> rw [h] <;> rfl
      have hn7 : (kd x == 7) = false := by
        simp only [Bool.or_eq_true, beq_iff_eq] at h12
        rcases h12 with h | h <;> rw [h] <;> rfl
      rw [hn3, hn7, len0 hx.2, len0 hy.2, ba_of hx.1, ba_of hy.1]
      simp only [cond_false, cmpI_beq, lexR, all2, ba_self, and_true, Bool.and_true]
    | false =>
      rw [h12] at hx hy
      simp only [cond_false] at hx hy
      cases h3 : (kd x == 3) with
      | true =>
        rw [h3] at hx hy
        simp only [cond_true, Bool.and_eq_true] at hx hy
        rw [len0 hx.2, len0 hy.2, eq_of_beq hx.1, eq_of_beq hy.1]
        simp [cmpS_beq, lexR, all2]
      | false =>
        rw [h3] at hx hy
        simp only [cond_false] at hx hy
        have lex : ∀ (_ : (kids x).all (tidyR n) = true) (_ : (kids y).all (tidyR n) = true), (lexR (ordR n) (kids x) (kids y) = 0 ↔ all2 (eqR n) (kids x) (kids y) = true) := fun a b =>
          lex0 _ _ fun u hu v hv => tidy_eq n u v (List.all_eq_true.1 a u hu) (List.all_eq_true.1 b v hv)
        cases h7 : (kd x == 7) with
        | true =>
          rw [h7] at hx hy
          cases hnx : (nm x == 0) with
          | false => rw [hnx] at hx; cases hx
          | true =>
            cases hny : (nm y == 0) with
            | false => rw [hny] at hy; cases hy
            | true =>
              rw [hnx] at hx
              rw [hny] at hy
              simp only [Bool.not_true, Bool.and_false, cond_false, Bool.and_eq_true] at hx hy
              rw [eq_of_beq hnx, eq_of_beq hny, ba_of hx.1, ba_of hy.1, lex hx.2 hy.2]
              simp only [cond_true, cmpI_beq, ba_self, beq_self_eq_true, Bool.true_and]
              constructor
              · exact fun h => h.2
              · intro h
                refine ⟨?_, h⟩
                have hl : (kids x).length = (kids y).length := by
                  have : ∀ (l m : List (List AV)), all2 (eqR n) l m = true → l.length = m.length := by
                    intro l
                    induction l with
                    | nil => intro m h; cases m with
                      | nil => rfl
                      | cons _ _ => simp [all2] at h
                    | cons a l ih => intro m h; cases m with
                      | nil => simp [all2] at h
                      | cons b m => simp only [all2, Bool.and_eq_true] at h; simp [ih m h.2]
                  exact this _ _ h
                rw [hl]; simp [cmpI_eq]
        | false =>
          rw [h7] at hx hy
          simp only [Bool.false_and, cond_false, Bool.and_eq_true] at hx hy
          rw [ba_of hx.1, ba_of hy.1, lex hx.2 hy.2]
          simp only [cond_false, cmpI_beq, ba_self, Bool.true_and, Bool.and_eq_true]
section
variable {f : List AV → List AV → Int}
abbrev Lt (f : List AV → List AV → Int) (l : List (List AV)) : Prop := l.Pairwise fun a b => f a b < 0
theorem compT_lt (h : Tot f) : ∀ (l : List (List AV)) (p : List AV), Srt f (p :: l) → (∀ y ∈ compT f p l, f p y < 0) ∧ Lt f (compT f p l)
  | [], _, _ => ⟨fun y hy => (by cases hy), List.Pairwise.nil⟩
  | a :: l, p, hs => by
    have hs' := List.pairwise_cons.1 hs
    obtain ⟨i1, i2⟩ := compT_lt h l a hs'.2
    have hpa := hs'.1 a List.mem_cons_self
    have hfl := h.flip p a
    simp only [compT]
    cases hc : f a p == 0 with
    | true =>
      rw [cond_true]
      exact ⟨fun y hy => h.tr_lt eqvT trivial trivial hpa (i1 y hy), i2⟩
    | false =>
      have hne : f a p ≠ 0 := by simpa using hc
      have hlt : f p a < 0 := by omega
      rw [cond_false]
      refine ⟨fun y hy => ?_, List.pairwise_cons.2 ⟨i1, i2⟩⟩
      rcases List.mem_cons.1 hy with rfl | hy
      · exact hlt
      · exact h.lt_tr eqvT trivial trivial hlt (by have := i1 y hy; omega)
theorem compact_lt (h : Tot f) {l : List (List AV)} (hs : Srt f l) : Lt f (compact f l) := by
  cases l with
  | nil => exact List.Pairwise.nil
  | cons x xs =>
    obtain ⟨i1, i2⟩ := compT_lt h xs x hs
    exact List.pairwise_cons.2 ⟨i1, i2⟩
theorem compT_id (h : Tot f) : ∀ (l : List (List AV)) (p : List AV), Lt f (p :: l) → compT f p l = l
  | [], _, _ => rfl
  | a :: l, p, hs => by
    have hs' := List.pairwise_cons.1 hs
    have hpa := hs'.1 a List.mem_cons_self
    have hfl := h.flip p a
    have hc : (f a p == 0) = false := by
      have : f a p ≠ 0 := by omega
      simpa using this
    simp only [compT, hc, cond_false, compT_id h l a hs'.2]
theorem compact_id (h : Tot f) {l : List (List AV)} (hs : Lt f l) : compact f l = l := by
  cases l with
  | nil => rfl
  | cons x xs => rw [compact_cons, compT_id h xs x hs]
theorem isort_id (h : Tot f) : ∀ (l p : List (List AV)), Srt f (p ++ l) → l.foldl (ins f) p = p ++ l
  | [], p, _ => by simp
  | x :: l, p, hs => by
    have hs' := List.pairwise_append.1 hs
    have hall : ∀ a ∈ p, decide (f a x ≤ 0) = true := fun a ha => decide_eq_true (hs'.2.2 a ha x List.mem_cons_self)
    rw [List.foldl_cons, ins_srt h hs'.1, (tw_all hall).1, (tw_all hall).2, isort_id h l (p ++ [x]) (by simpa using hs)]
    simp
end
theorem sortM_lt {n : Nat} {rows : List (List AV)} (hs : sortsR n rows = true) : Lt (ordR n) (sortM n rows) := by
  unfold sortM; rw [hs]
  exact compact_lt (ordR_cmp n) (isort_srt (ordR_cmp n) rows)
theorem sorts_sub {n : Nat} {rows : List (List AV)} (hs : sortsR n rows = true) : sortsR n (sortM n rows) = true := by
  unfold sortsR at hs ⊢
  rw [List.all_eq_true] at hs ⊢
  exact fun x hx => hs x (sortM_mem hx)
theorem sortM_again {n : Nat} {rows : List (List AV)} (hs : sortsR n rows = true) : sortM n (sortM n rows) = sortM n rows := by
  have hl := sortM_lt hs
  have h2 := sorts_sub hs
  generalize sortM n rows = l at hl h2
  unfold sortM; rw [h2]
  have hsr : Srt (ordR n) ([] ++ l) := by
    rw [List.nil_append]
    exact hl.imp fun h => by omega
  have e : srt n l = l := (isort_id (ordR_cmp n) l [] hsr).trans (List.nil_append l)
  rw [e]
  exact compact_id (ordR_cmp n) hl
theorem sortM_ne {n : Nat} {x : List AV} {rows : List (List AV)} (hs : sortsR n (x :: rows) = true) : 0 < (sortM n (x :: rows)).length := by
  unfold sortM; rw [hs, cond_true]
  have e : (srt n (x :: rows)).length = (x :: rows).length := isort_len _ _
  unfold cmpt
  cases h : srt n (x :: rows) with
  | nil => rw [h] at e; cases e
  | cons y ys => simp [compact]
theorem sortE_ok {n : Nat} {rows : List (List AV)} (hs : sortsR n rows = true) : sortE n rows = 0 := by unfold sortE; rw [hs]; rfl
end
end Go.Proofs.Ytciighngjnjmlaa.W
namespace Go.Proofs.Ytciighngjnjmlaa.W
open Go.Fw
set_option maxRecDepth 100000
noncomputable section
noncomputable def tidyV (n : Nat) : AV → Bool := onB (tidyR n)
noncomputable def f68 : AV := .fn (.func 68) [] []
noncomputable def F89t (n : Nat) : List AV → List AObj → Ab Res := fun args st => match args, st with
  | [.sl 28 .any rows, .fn (.func h) [] []], [] => bif Nat.beq h 68 then some (rowsOk n rows, (i64 (idxL (fun x => !(tidyR n x)) rows 0), [])) else none
  | _, _ => none
noncomputable def hasUn (n : Nat) (rows : List (List AV)) : Bool := decide (idxL (fun x => !(tidyR n x)) rows 0 ≥ 0)
noncomputable def F40t (n : Nat) : List AV → List AObj → Ab Res := fun args st => match args, st with
  | [.sl 28 .any rows, .fn (.func h) [] []], [] => bif Nat.beq h 68 then some (rowsOk n rows, (bl (hasUn n rows), [])) else none
  | _, _ => none
noncomputable def L24 (N n : Nat) : FSys := (K4 N).tell 24 (lvB tidyV n)
noncomputable def L68 (N n : Nat) : FSys := (L24 N n).tell 68 (FVb (fun v => !(tidyV n v)) (isV n))
noncomputable def L89t (N n : Nat) : FSys := (L68 N n).tell 89 (F89t n)
noncomputable def X24 (N n : Nat) : FSys := (L89t N n).tell 40 (F40t n)
noncomputable def σ89t (rows : List (List AV)) (i : Int) : St := ⟨tm 19 [(0, .sl 28 .any rows), (1, f68), (7, i64 (rows.length : Nat)), (8, i64 i)], [], []⟩
section
variable (N n k : Nat) (rows : List (List AV)) (s : ByteArray) (R : St → Option Res) (a b i : Int)
noncomputable def P24 : Option Res := bif s == ByteArray.empty then some (bl (((rows.length : Nat) : Int) == 0), []) else some (bl false, [])
noncomputable def Z24 : Option Res := bif s == ByteArray.empty then (bif rowsOk n rows then some (bl (!(hasUn n rows)), []) else none) else some (bl false, [])
noncomputable def Q24 : Option Res := bif a == 3 then (bif b == 0 then some (bl (((rows.length : Nat) : Int) == 0), []) else some (bl false, [])) else (bif a == 7 then (bif b != 0 then some (bl false, []) else Z24 n rows s) else Z24 n rows s)
theorem b68 : ev (L24 N n) (k + 1) 68 [.agg (VV a b s rows)] [] = bif isV n (.agg (VV a b s rows)) then some (bl (!(tidyV n (.agg (VV a b s rows)))), []) else none := by kernel_rfl
theorem r89t : roundAt (L68 N n) 89 Try.f89 0 k [1,0,1,0] [] R (σ89t rows i) = bif decide (i < (rows.length : Nat)) then (bif decide (0 ≤ i) && decide (i < (rows.length : Nat)) then (bif isV n (.agg (nx rows i)) then (bif !(tidyV n (.agg (nx rows i))) then some (i64 i, []) else R (σ89t rows (IntKind.i64.wrap (i + 1)))) else none) else none) else some (i64 (-1), []) := by kernel_rfl
theorem b89t : ev (L68 N n) (k + 1) 89 [.sl 28 .any rows, f68] [] = loopAt (L68 N n) 89 Try.f89 0 k [1,0,1,0] [] k (σ89t rows 0) := by kernel_rfl
theorem b40t : ev (L89t N n) (k + 1) 40 [.sl 28 .any rows, f68] [] = bif rowsOk n rows then some (bl (hasUn n rows), []) else none := by kernel_rfl
theorem b24 : evTop (X24 N n) k 24 [.agg (VV a b s rows)] [] = bif a == 1 then (bif a == 1 then P24 rows s else Q24 n rows s a b) else (bif a == 2 then P24 rows s else Q24 n rows s a b) := by kernel_rfl
end
theorem hasUn_eq (n : Nat) (rows : List (List AV)) : (!(hasUn n rows)) = rows.all (tidyR n) := by
  unfold hasUn
  rw [idxL_any _ rows 0 (Int.le_refl _), List.any_eq_not_all_not]
  simp
theorem told68 (N n : Nat) (args : List AV) (st : List AObj) (r : Res) (h : FVb (fun v => !(tidyV n v)) (isV n) args st = some (true, r)) : ∃ k, ev (L24 N n) k 68 args st = some r := by
  obtain ⟨v, rfl, rfl, hv, rfl⟩ := FVb_inv h
  obtain ⟨a, b, s, rows, rfl⟩ := isV_ex hv
  exact ⟨0 + 1, (b68 N n 0 rows s a b).trans (by rw [hv]; rfl)⟩
theorem told89t (N n : Nat) (args : List AV) (st : List AObj) (r : Res) (h : F89t n args st = some (true, r)) : ∃ k, ev (L68 N n) k 89 args st = some r := by
  unfold F89t at h
  split at h
  · rename_i rows h'
    cases hb : Nat.beq h' 68 with
    | false => rw [hb] at h; cases h
    | true =>
      rw [hb] at h
      obtain rfl := Nat.eq_of_beq_eq_true hb
      simp only [cond_true, Option.some.injEq, Prod.mk.injEq] at h
      obtain ⟨h1, rfl⟩ := h
      obtain ⟨hl, hr⟩ := rowsOk_iff h1
      refine ⟨rows.length + 1 + 1, (b89t N n _ rows).trans ?_⟩
      have L := loop_idx (S := L68 N n) (f := 89) (fn := Try.f89) (m := 0) (k := rows.length + 1) (p := [1,0,1,0]) (ms := []) (rows := rows) (A := Unit)
        (fun _ i => σ89t rows i) (fun _ x => !(tidyR n x)) (fun _ i _ => some (i64 i, [])) (fun c _ => c) (fun _ => some (i64 (-1), []))
        (fun R c i hi => (r89t N n _ rows R i).trans (pass hr hl hi (fun x j => bif !(tidyR n x) then some (i64 i, []) else R (σ89t rows j)) _ _ _))
        (fun R c => (r89t N n _ rows R _).trans (stopped _ _ _)) (rows.length + 1) 0 () (Nat.zero_le _) (by omega)
      exact L.trans (foldI_idx _ rows 0)
  · cases h
theorem told40t (N n : Nat) (args : List AV) (st : List AObj) (r : Res) (h : F40t n args st = some (true, r)) : ∃ k, ev (L89t N n) k 40 args st = some r := by
  unfold F40t at h
  split at h
  · rename_i rows h'
    cases hb : Nat.beq h' 68 with
    | false => rw [hb] at h; cases h
    | true =>
      rw [hb] at h
      obtain rfl := Nat.eq_of_beq_eq_true hb
      simp only [cond_true, Option.some.injEq, Prod.mk.injEq] at h
      obtain ⟨h1, rfl⟩ := h
      exact ⟨0 + 1, (b40t N n 0 rows).trans (by rw [h1]; rfl)⟩
  · cases h
theorem X24Ok (N n : Nat) (h : SysOk Try.prog (L24 N n)) : SysOk Try.prog (X24 N n) :=
  ((h.tell 68 _ (told68 N n)).tell 89 _ (told89t N n)).tell 40 _ (told40t N n)
theorem len_beq (l : List (List AV)) : (((l.length : Nat) : Int) == 0) = Nat.beq l.length 0 := by
  cases l with
  | nil => rfl
  | cons x xs =>
    have h : Nat.beq (x :: xs).length 0 = false := rfl
    rw [h, beq_eq_false_iff_ne]
    simp only [List.length_cons]; omega
theorem tidy_out (n : Nat) (a b : Int) (s : ByteArray) (rows : List (List AV)) (h : rowsOk n rows = true) :
    (bif a == 1 then (bif a == 1 then P24 rows s else Q24 n rows s a b) else (bif a == 2 then P24 rows s else Q24 n rows s a b)) = some (bl (tidyV (n + 1) (.agg (VV a b s rows))), []) := by
  have e : tidyV (n + 1) (.agg (VV a b s rows)) = (bif a == 1 || a == 2 then (s == ByteArray.empty && Nat.beq rows.length 0)
    else bif a == 3 then (b == 0 && Nat.beq rows.length 0)
    else bif a == 7 && !(b == 0) then false
    else (s == ByteArray.empty && rows.all (tidyR n))) := rfl
  rw [e]
  unfold P24 Q24 Z24
  rw [len_beq, h, hasUn_eq, bne]
  cases a == 1 <;> cases a == 2 <;> cases a == 3 <;> cases a == 7 <;> cases b == 0 <;> cases s == ByteArray.empty <;> rfl
theorem top24 (N n : Nat) (v : AV) (h : isV (n + 1) v = true) : ∃ k, evTop (X24 N n) k 24 [v] [] = some (bl (tidyV (n + 1) v), []) := by
  obtain ⟨a, b, s, rows, rfl, hl, hr⟩ := isV_some h
  exact ⟨1, (b24 N n 1 rows s a b).trans (tidy_out n a b s rows (rowsOk_of hl hr))⟩
theorem K24 (N : Nat) (n : Nat) : SysOk Try.prog (L24 N n) :=
  (K4Ok N).lvRec 24 (lvB tidyV) (X24 N) (fun args st r hF => by obtain ⟨v, _, _, h1, _⟩ := FVb_inv hF; rw [isV_zero] at h1; cases h1) (fun n h => X24Ok N n h) (fun _ => rfl) (fun _ => rfl)
    (fun n args st r hF => by
      obtain ⟨v, rfl, rfl, h1, rfl⟩ := FVb_inv hF
      exact top24 N n v h1) n
end
end Go.Proofs.Ytciighngjnjmlaa.W
