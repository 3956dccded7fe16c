/- A part of the proofs over these laws: what its functions come to. No conditions. -/
import Derived.Test.YtciighngjnjmlaaGf
import Derived.Test.YtciighngjnjmlaaGe
set_option linter.all false
namespace Go.Proofs.Ytciighngjnjmlaa.W
open Go.Fw
noncomputable section
structure Cmp {α : Type} (E : α → α → Prop) (f : α → α → Int) : Prop where
  val : ∀ x y, f x y = -1 ∨ f x y = 0 ∨ f x y = 1
  anti : ∀ x y, E x y → f y x = - f x y
  tr : ∀ x y z, E x y → E y z → f x y ≤ 0 → f y z ≤ 0 → f x z ≤ 0
structure Eqv {α : Type} (E : α → α → Prop) : Prop where
  sy : ∀ x y, E x y → E y x
  tr : ∀ x y z, E x y → E y z → E x z
theorem Cmp.eq_tr {α : Type} {E : α → α → Prop} {f : α → α → Int} (hE : Eqv E) (h : Cmp E f) {x y z : α} (e1 : E x y) (e2 : E y z) (h1 : f x y = 0) (h2 : f y z = 0) : f x z = 0 := by
  have a1 := h.tr x y z e1 e2 (by omega) (by omega)
  have b1 := h.anti x y e1
  have b2 := h.anti y z e2
  have a2 := h.tr z y x (hE.sy _ _ e2) (hE.sy _ _ e1) (by omega) (by omega)
  have b3 := h.anti x z (hE.tr _ _ _ e1 e2)
  omega
theorem Cmp.lt_tr {α : Type} {E : α → α → Prop} {f : α → α → Int} (hE : Eqv E) (h : Cmp E f) {x y z : α} (e1 : E x y) (e2 : E y z) (h1 : f x y < 0) (h2 : f y z ≤ 0) : f x z < 0 := by
  have a1 := h.tr x y z e1 e2 (by omega) h2
  rcases Int.lt_or_eq_of_le a1 with h3 | h3
  · exact h3
  · have b3 := h.anti x z (hE.tr _ _ _ e1 e2)
    have a2 := h.tr y z x e2 (hE.sy _ _ (hE.tr _ _ _ e1 e2)) h2 (by omega)
    have b1 := h.anti x y e1
    omega
theorem Cmp.tr_lt {α : Type} {E : α → α → Prop} {f : α → α → Int} (hE : Eqv E) (h : Cmp E f) {x y z : α} (e1 : E x y) (e2 : E y z) (h1 : f x y ≤ 0) (h2 : f y z < 0) : f x z < 0 := by
  have a1 := h.tr x y z e1 e2 h1 (by omega)
  rcases Int.lt_or_eq_of_le a1 with h3 | h3
  · exact h3
  · have b3 := h.anti x z (hE.tr _ _ _ e1 e2)
    have a2 := h.tr z x y (hE.sy _ _ (hE.tr _ _ _ e1 e2)) e1 (by omega) h1
    have b1 := h.anti y z e2
    omega
def thenC {α : Type} (f g : α → α → Int) (x y : α) : Int := bif f x y == 0 then g x y else f x y
theorem thenC_eq {α : Type} {f g : α → α → Int} {x y : α} (h : f x y = 0) : thenC f g x y = g x y := by unfold thenC; rw [h]; rfl
theorem thenC_ne {α : Type} {f g : α → α → Int} {x y : α} (h : f x y ≠ 0) : thenC f g x y = f x y := by
  unfold thenC
  have : (f x y == 0) = false := by simpa using h
  rw [this]; rfl
theorem Cmp.then {α : Type} {E : α → α → Prop} {f g : α → α → Int} (hE : Eqv E) (h : Cmp E f) (k : Cmp (fun x y => E x y ∧ f x y = 0) g) : Cmp E (thenC f g) where
  val := fun x y => by
    by_cases e : f x y = 0
    · rw [thenC_eq e]; exact k.val x y
    · rw [thenC_ne e]; exact h.val x y
  anti := fun x y he => by
    have a := h.anti x y he
    by_cases e : f x y = 0
    · rw [thenC_eq e, thenC_eq (by omega)]; exact k.anti x y ⟨he, e⟩
    · rw [thenC_ne e, thenC_ne (by omega)]; exact a
  tr := fun x y z e1 e2 h1 h2 => by
    by_cases c1 : f x y = 0
    · rw [thenC_eq c1] at h1
      by_cases c2 : f y z = 0
      · rw [thenC_eq c2] at h2
        rw [thenC_eq (h.eq_tr hE e1 e2 c1 c2)]
        exact k.tr x y z ⟨e1, c1⟩ ⟨e2, c2⟩ h1 h2
      · rw [thenC_ne c2] at h2
        have := h.tr_lt hE e1 e2 (by omega) (by omega)
        rw [thenC_ne (by omega)]; omega
    · rw [thenC_ne c1] at h1
      by_cases c2 : f y z = 0
      · have := h.lt_tr hE e1 e2 (by omega) (by omega)
        rw [thenC_ne (by omega)]; omega
      · rw [thenC_ne c2] at h2
        have := h.lt_tr hE e1 e2 (by omega) h2
        rw [thenC_ne (by omega)]; omega
theorem cmpI_val (a b : Int) : cmpI a b = -1 ∨ cmpI a b = 0 ∨ cmpI a b = 1 := by
  unfold cmpI
  cases decide (a < b) <;> cases decide (a > b) <;> simp
theorem cmpI_le (a b : Int) : cmpI a b ≤ 0 ↔ a ≤ b := by
  unfold cmpI
  by_cases h1 : a < b
  · simp [h1]; omega
  · by_cases h2 : a > b
    · simp [h1, h2]
    · simp [h1, h2]; omega
theorem cmpI_eq (a b : Int) : cmpI a b = 0 ↔ a = b := by
  unfold cmpI
  by_cases h1 : a < b
  · simp [h1]; omega
  · by_cases h2 : a > b
    · simp [h1, h2]; omega
    · simp [h1, h2]; omega
theorem cmpI_anti (a b : Int) : cmpI b a = - cmpI a b := by
  have h1 := cmpI_val a b
  have h2 := cmpI_val b a
  have h3 := cmpI_le a b
  have h4 := cmpI_le b a
  have h5 := cmpI_eq a b
  have h6 := cmpI_eq b a
  by_cases e : a = b
  · subst e; have := h5.2 rfl; omega
  · have n1 : cmpI a b ≠ 0 := fun h => e (h5.1 h)
    have n2 : cmpI b a ≠ 0 := fun h => e (h6.1 h).symm
    omega
theorem cmpI_cmp {α : Type} (E : α → α → Prop) (k : α → Int) : Cmp E (fun x y => cmpI (k x) (k y)) where
  val := fun x y => cmpI_val _ _
  anti := fun x y _ => cmpI_anti _ _
  tr := fun x y z _ _ h1 h2 => by rw [cmpI_le] at h1 h2 ⊢; omega
theorem cmpS_val (a b : ByteArray) : cmpS a b = -1 ∨ cmpS a b = 0 ∨ cmpS a b = 1 := by rw [cmpS_eq]; exact compareBytes_or _ _
theorem cmpS_zero (a b : ByteArray) : cmpS a b = 0 ↔ a = b := by rw [cmpS_eq]; exact cmpB_eq a b
theorem cmpS_neg (a b : ByteArray) : cmpS a b < 0 ↔ ltB a b := by rw [cmpS_eq]; exact cmpB_lt a b
theorem ltB_tri (a b : ByteArray) : ltB a b ∨ a = b ∨ ltB b a := by
  rcases Classical.em (ltB a b) with h | h
  · exact .inl h
  · rcases Classical.em (ltB b a) with k | k
    · exact .inr (.inr k)
    · refine .inr (.inl ?_)
      unfold ltB at h k
      exact ByteArray.ext (Array.ext' (List.le_antisymm (List.not_lt.1 k) (List.not_lt.1 h)))
theorem cmpS_anti (a b : ByteArray) : cmpS b a = - cmpS a b := by
  have v1 := cmpS_val a b
  have v2 := cmpS_val b a
  rcases ltB_tri a b with h | rfl | h
  · have h1 := (cmpS_neg a b).2 h
    have h2 : ¬ cmpS b a < 0 := fun k => ltB_irrefl a (ltB_trans h ((cmpS_neg b a).1 k))
    have h3 : cmpS b a ≠ 0 := fun k => by have := (cmpS_zero b a).1 k; subst this; exact ltB_irrefl _ h
    omega
  · have := (cmpS_zero a a).2 rfl; omega
  · have h1 := (cmpS_neg b a).2 h
    have h2 : ¬ cmpS a b < 0 := fun k => ltB_irrefl b (ltB_trans h ((cmpS_neg a b).1 k))
    have h3 : cmpS a b ≠ 0 := fun k => by have := (cmpS_zero a b).1 k; subst this; exact ltB_irrefl _ h
    omega
theorem cmpS_le {a b : ByteArray} : cmpS a b ≤ 0 ↔ ltB a b ∨ a = b := by
  constructor
  · intro h
    rcases Int.lt_or_eq_of_le h with h | h
    · exact .inl ((cmpS_neg a b).1 h)
    · exact .inr ((cmpS_zero a b).1 h)
  · rintro (h | h)
    · have := (cmpS_neg a b).2 h; omega
    · have := (cmpS_zero a b).2 h; omega
theorem cmpS_tr {a b c : ByteArray} (h1 : cmpS a b ≤ 0) (h2 : cmpS b c ≤ 0) : cmpS a c ≤ 0 := by
  rw [cmpS_le] at h1 h2 ⊢
  rcases h1 with h1 | rfl
  · rcases h2 with h2 | rfl
    · exact .inl (ltB_trans h1 h2)
    · exact .inl h1
  · exact h2
theorem lexR_val {f : List AV → List AV → Int} (h : Cmp (fun _ _ => True) f) : ∀ l m, lexR f l m = -1 ∨ lexR f l m = 0 ∨ lexR f l m = 1
  | [], [] => .inr (.inl rfl)
  | [], _ :: _ => .inl rfl
  | _ :: _, [] => .inr (.inr rfl)
  | x :: xs, y :: ys => by
    simp only [lexR]
    cases f x y == 0
    · exact h.val x y
    · exact lexR_val h xs ys
theorem lexR_eq {f : List AV → List AV → Int} {x y : List AV} {xs ys : List (List AV)} (h : f x y = 0) : lexR f (x :: xs) (y :: ys) = lexR f xs ys := by
  simp only [lexR]; rw [h]; rfl
theorem lexR_ne {f : List AV → List AV → Int} {x y : List AV} {xs ys : List (List AV)} (h : f x y ≠ 0) : lexR f (x :: xs) (y :: ys) = f x y := by
  have : (f x y == 0) = false := by simpa using h
  simp only [lexR]; rw [this]; rfl
theorem lexR_anti {f : List AV → List AV → Int} (h : Cmp (fun _ _ => True) f) : ∀ l m, lexR f m l = - lexR f l m
  | [], [] => rfl
  | [], _ :: _ => rfl
  | _ :: _, [] => rfl
  | x :: xs, y :: ys => by
    have a := h.anti x y trivial
    by_cases e : f x y = 0
    · rw [lexR_eq e, lexR_eq (by omega)]; exact lexR_anti h xs ys
    · rw [lexR_ne e, lexR_ne (by omega)]; exact a
theorem eqvT {α : Type} : Eqv (fun (_ _ : α) => True) := ⟨fun _ _ _ => trivial, fun _ _ _ _ _ => trivial⟩
theorem lexR_tr {f : List AV → List AV → Int} (h : Cmp (fun _ _ => True) f) : ∀ l m k, lexR f l m ≤ 0 → lexR f m k ≤ 0 → lexR f l k ≤ 0
  | [], _, [], _, _ => Int.le_refl _
  | [], _, _ :: _, _, _ => by simp [lexR]
  | _ :: _, [], _, h1, _ => by simp [lexR] at h1
  | _ :: _, _ :: _, [], _, h2 => by simp [lexR] at h2
  | x :: xs, y :: ys, z :: zs, h1, h2 => by
    by_cases c1 : f x y = 0
    · rw [lexR_eq c1] at h1
      by_cases c2 : f y z = 0
      · rw [lexR_eq c2] at h2
        rw [lexR_eq (h.eq_tr eqvT trivial trivial c1 c2)]
        exact lexR_tr h xs ys zs h1 h2
      · rw [lexR_ne c2] at h2
        have := h.tr_lt (y := y) (z := z) eqvT trivial trivial (by omega : f x y ≤ 0) (by omega)
        rw [lexR_ne (by omega)]; omega
    · rw [lexR_ne c1] at h1
      by_cases c2 : f y z = 0
      · have := h.lt_tr (x := x) (y := y) eqvT trivial trivial (by omega) (by omega : f y z ≤ 0)
        rw [lexR_ne (by omega)]; omega
      · rw [lexR_ne c2] at h2
        have := h.lt_tr (x := x) (y := y) eqvT trivial trivial (by omega) h2
        rw [lexR_ne (by omega)]; omega
theorem lexR_cmp {α : Type} (E : α → α → Prop) {f : List AV → List AV → Int} (h : Cmp (fun _ _ => True) f) (g : α → List (List AV)) : Cmp E (fun x y => lexR f (g x) (g y)) where
  val := fun x y => lexR_val h _ _
  anti := fun x y _ => lexR_anti h _ _
  tr := fun x y z _ _ h1 h2 => lexR_tr h _ _ _ h1 h2
abbrev sameK (x y : List AV) : Prop := True ∧ cmpI (kd x) (kd y) = 0
theorem sameK_iff {x y : List AV} : sameK x y ↔ kd x = kd y := by unfold sameK; rw [cmpI_eq]; simp
theorem sameK_eqv : Eqv sameK := ⟨fun x y h => by rw [sameK_iff] at h ⊢; exact h.symm, fun x y z h k => by rw [sameK_iff] at h k ⊢; exact h.trans k⟩
theorem headC_cmp : Cmp sameK headC where
  val := fun x y => by
    unfold headC
    cases kd x == 3
    · cases kd x == 7
      · exact cmpI_val _ _
      · exact cmpI_val _ _
    · exact cmpS_val _ _
  anti := fun x y h => by
    rw [sameK_iff] at h
    unfold headC
    rw [h]
    cases kd y == 3
    · cases kd y == 7
      · exact cmpI_anti _ _
      · exact cmpI_anti _ _
    · exact cmpS_anti _ _
  tr := fun x y z h k h1 h2 => by
    rw [sameK_iff] at h k
    unfold headC at *
    rw [h] at h1 ⊢
    cases hk : kd y == 3
    · rw [hk] at h1 h2
      cases hj : kd y == 7
      · rw [hj] at h1 h2
        simp only [cond_false] at h1 h2 ⊢
        rw [cmpI_le] at h1 h2 ⊢; omega
      · rw [hj] at h1 h2
        simp only [cond_true, cond_false] at h1 h2 ⊢
        rw [cmpI_le] at h1 h2 ⊢; omega
    · rw [hk] at h1 h2
      simp only [cond_true] at h1 h2 ⊢
      exact cmpS_tr h1 h2
theorem ordR_then (n : Nat) : ordR (n + 1) = thenC (fun x y => cmpI (kd x) (kd y)) (thenC headC (fun x y => lexR (ordR n) (kids x) (kids y))) := rfl
theorem ordR_cmp : ∀ n, Cmp (fun _ _ => True) (ordR n)
  | 0 => ⟨fun _ _ => .inr (.inl rfl), fun _ _ _ => rfl, fun _ _ _ _ _ _ _ => Int.le_refl _⟩
  | n + 1 => by
    rw [ordR_then]
    exact (cmpI_cmp _ kd).then eqvT (headC_cmp.then sameK_eqv (lexR_cmp _ (ordR_cmp n) kids))
theorem ord_anti (n : Nat) (x y : List AV) : ordR n y x = - ordR n x y := (ordR_cmp n).anti x y trivial
theorem ord_tr {n : Nat} {x y z : List AV} (h1 : ordR n x y ≤ 0) (h2 : ordR n y z ≤ 0) : ordR n x z ≤ 0 := (ordR_cmp n).tr x y z trivial trivial h1 h2
theorem ord_val (n : Nat) (x y : List AV) : ordR n x y = -1 ∨ ordR n x y = 0 ∨ ordR n x y = 1 := (ordR_cmp n).val x y
theorem ord_self (n : Nat) (x : List AV) : ordR n x x = 0 := by have := ord_anti n x x; omega
end
end Go.Proofs.Ytciighngjnjmlaa.W
namespace Go.Proofs.Ytciighngjnjmlaa.W
open Go.Fw
set_option maxRecDepth 100000
noncomputable section
noncomputable def fO : AV := .fn (.func 64) [] []
noncomputable def pw (j : Int) : Int := IntKind.i64.wrap (j - 1)
noncomputable def chk (rows : List (List AV)) (j : Int) : Bool := decide (0 ≤ j) && decide (j < (rows.length : Nat))
noncomputable def swap1 (rows : List (List AV)) (j : Int) : List (List AV) := rows.set j.toNat (putAt (rows.getD j.toNat []) 0 (nx rows (pw j)))
noncomputable def swap2 (rows : List (List AV)) (j : Int) : List (List AV) := (swap1 rows j).set (pw j).toNat (putAt ((swap1 rows j).getD (pw j).toNat []) 0 (nx rows j))
section
variable (k n N m : Nat) (rows : List (List AV)) (R : St → Option Res) (a b i j : Int)
noncomputable def σo138 (rows : List (List AV)) (a b i : Int) : St := ⟨tm 53 [(0, .sr 0), (1, i64 a), (2, i64 b), (3, fO), (8, i64 i)], [.arr 28 .any rows], []⟩
noncomputable def σi138 (rows : List (List AV)) (a b i j : Int) : St := ⟨tm 53 [(0, .sr 0), (1, i64 a), (2, i64 b), (3, fO), (8, i64 i), (9, i64 j)], [.arr 28 .any rows], []⟩
noncomputable def lo138 (k N n : Nat) (m : Nat) (rows : List (List AV)) (a b i : Int) : Option Res := loopAt (L64 N n) 138 Try.f138 1 k [1,0] [] m (σo138 rows a b i)
theorem ri138 : roundAt (L64 N n) 138 Try.f138 1 k [1,0,0,1,0,0,1,0] [m] R (σi138 rows a b i j) =
  bif decide (j > a) then (bif chk rows j then (bif chk rows (pw j) then (bif ssN n (nx rows j) (nx rows (pw j)) then
    (bif decide (ordV n (.agg (nx rows j)) (.agg (nx rows (pw j))) < 0) then (bif chk rows (pw j) then (bif chk rows j then (bif chk rows j then (bif chk (swap1 rows j) (pw j) then R (σi138 (swap2 rows j) a b i (pw j)) else none) else none) else none) else none)
      else lo138 k N n m rows a b (IntKind.i64.wrap (i + 1))) else none) else none) else none) else lo138 k N n m rows a b (IntKind.i64.wrap (i + 1)) := by kernel_rfl
theorem ro138 : roundAt (L64 N n) 138 Try.f138 1 k [1,0] [] (loopAt (L64 N n) 138 Try.f138 1 k [1,0] [] m) (σo138 rows a b i) = bif decide (i < b) then loopAt (L64 N n) 138 Try.f138 1 k [1,0,0,1,0,0,1,0] [m] k (σi138 rows a b i i) else some (.tup [], [.arr 28 .any rows]) := by kernel_rfl
theorem b138 : ev (L64 N n) (k + 1) 138 [.sr 0, i64 a, i64 b, fO] [.arr 28 .any rows] = lo138 k N n k rows a b (IntKind.i64.wrap (a + 1)) := by kernel_rfl
end
end
end Go.Proofs.Ytciighngjnjmlaa.W
namespace Go.Proofs.Ytciighngjnjmlaa.W
open Go.Fw
set_option maxRecDepth 100000
noncomputable section
noncomputable def insR (f : List AV → List AV → Int) (x : List AV) : List (List AV) → List (List AV) → List (List AV)
  | [], tail => x :: tail
  | y :: rp, tail => bif decide (f x y < 0) then insR f x rp (y :: tail) else (y :: rp).reverse ++ x :: tail
noncomputable def ins (f : List AV → List AV → Int) (p : List (List AV)) (x : List AV) : List (List AV) := insR f x p.reverse []
noncomputable def isort (f : List AV → List AV → Int) (l : List (List AV)) : List (List AV) := l.foldl (ins f) []
theorem insR_tail (f : List AV → List AV → Int) (x : List AV) : ∀ (rp tail t2 : List (List AV)), insR f x rp (tail ++ t2) = insR f x rp tail ++ t2
  | [], _, _ => rfl
  | y :: rp, tail, t2 => by
    simp only [insR]
    cases decide (f x y < 0)
    · simp
    · exact insR_tail f x rp (y :: tail) t2
theorem insR_mem (f : List AV → List AV → Int) (x z : List AV) : ∀ (rp tail : List (List AV)), z ∈ insR f x rp tail → z = x ∨ z ∈ rp ∨ z ∈ tail
  | [], tail, h => by
    simp only [insR, List.mem_cons] at h
    rcases h with h | h
    · exact .inl h
    · exact .inr (.inr h)
  | y :: rp, tail, h => by
    simp only [insR] at h
    cases hc : decide (f x y < 0) with
    | true =>
      rw [hc] at h
      rcases insR_mem f x z rp (y :: tail) h with h | h | h
      · exact .inl h
      · exact .inr (.inl (List.mem_cons_of_mem _ h))
      · rcases List.mem_cons.1 h with h | h
        · exact .inr (.inl (by rw [h]; exact List.mem_cons_self))
        · exact .inr (.inr h)
    | false =>
      rw [hc] at h
      simp only [cond_false, List.mem_append, List.mem_reverse, List.mem_cons] at h ⊢
      rcases h with (h | h) | h | h
      · exact .inr (.inl (.inl h))
      · exact .inr (.inl (.inr h))
      · exact .inl h
      · exact .inr (.inr h)
theorem ins_mem {f : List AV → List AV → Int} {p : List (List AV)} {x z : List AV} (h : z ∈ ins f p x) : z = x ∨ z ∈ p := by
  rcases insR_mem f x z _ _ h with h | h | h
  · exact .inl h
  · exact .inr (List.mem_reverse.1 h)
  · cases h
theorem insR_len (f : List AV → List AV → Int) (x : List AV) : ∀ (rp tail : List (List AV)), (insR f x rp tail).length = rp.length + tail.length + 1
  | [], tail => by simp [insR]
  | y :: rp, tail => by
    simp only [insR]
    cases decide (f x y < 0)
    · simp; omega
    · simp only [cond_true]; rw [insR_len]; simp; omega
theorem ins_len (f : List AV → List AV → Int) (p : List (List AV)) (x : List AV) : (ins f p x).length = p.length + 1 := by unfold ins; rw [insR_len]; simp
def good (n : Nat) (x : List AV) : Prop := isVr n x = true ∧ sortR n x = true
theorem good_len {n : Nat} {x : List AV} (h : good n x) : x.length = 4 := by
  cases n with
  | zero => rw [good, isVr_zero] at h; cases h.1
  | succ n =>
    obtain ⟨a, b, s, rows, rfl, _⟩ := isVr_succ h.1
    rfl
theorem putAt_whole {x y : List AV} (h : x.length ≤ y.length) : putAt x 0 y = y := by
  unfold putAt
  have : List.drop (0 + y.length) x = [] := List.drop_eq_nil_of_le (by omega)
  rw [this]; simp
theorem set_mid (l t : List (List AV)) (a b : List AV) : (l ++ a :: t).set l.length b = l ++ b :: t := by simp
theorem get_mid (l t : List (List AV)) (a : List AV) : (l ++ a :: t).getD l.length [] = a := by
  rw [List.getD_eq_getElem?_getD, List.getElem?_append_right (by simp)]
  simp
theorem pw_eq {k : Nat} (h : k ≤ 140737488351232) : pw ((k + 1 : Nat) : Int) = (k : Nat) := by
  unfold pw
  rw [wrap64] <;> omega
theorem swap_eq {n : Nat} {l tail : List (List AV)} {x y : List AV} (hx : good n x) (hy : good n y) (hl : l.length ≤ 140737488351232) : swap2 (l ++ y :: x :: tail) ((l.length + 1 : Nat) : Int) = l ++ x :: y :: tail := by
  have hp := pw_eq hl
  have lx := good_len hx
  have ly := good_len hy
  have e0 : l ++ y :: x :: tail = (l ++ [y]) ++ x :: tail := by simp
  have g1 : (l ++ y :: x :: tail).getD l.length [] = y := get_mid _ _ _
  have g2 : (l ++ y :: x :: tail).getD (l.length + 1) [] = x := by
    rw [e0]
    have := get_mid (l ++ [y]) tail x
    rw [List.length_append] at this
    exact this
  have n1 : nx (l ++ y :: x :: tail) (pw ((l.length + 1 : Nat) : Int)) = y := by
    unfold nx; rw [hp, Int.toNat_natCast, g1, vrow_of hy.1]
  have n2 : nx (l ++ y :: x :: tail) ((l.length + 1 : Nat) : Int) = x := by
    unfold nx; rw [Int.toNat_natCast, g2, vrow_of hx.1]
  have s1 : swap1 (l ++ y :: x :: tail) ((l.length + 1 : Nat) : Int) = l ++ y :: y :: tail := by
    unfold swap1
    rw [n1, Int.toNat_natCast, g2, putAt_whole (by omega), e0]
    have := set_mid (l ++ [y]) tail x y
    rw [List.length_append] at this
    refine this.trans (by simp)
  unfold swap2
  rw [s1, n2, hp, Int.toNat_natCast, get_mid, putAt_whole (by omega), set_mid]
theorem inner138 (N n k m : Nat) (b i : Int) (x : List AV) (hx : good n x) : ∀ (rp tail : List (List AV)) (q : Nat), (∀ y ∈ rp, good n y) → rp.length ≤ 140737488351232 → rp.length < q →
    loopAt (L64 N n) 138 Try.f138 1 k [1,0,0,1,0,0,1,0] [m] q (σi138 (rp.reverse ++ x :: tail) 0 b i (rp.length : Nat)) = lo138 k N n m (insR (ordR n) x rp tail) 0 b (IntKind.i64.wrap (i + 1))
  | [], tail, 0, _, _, h => by omega
  | [], tail, q + 1, _, _, _ => by
    rw [loopAt_succ]
    exact (ri138 k n N m _ _ 0 b i _).trans rfl
  | y :: rp, tail, 0, _, _, h => by omega
  | y :: rp, tail, q + 1, hg, hl, hq => by
    rw [loopAt_succ]
    have hy : good n y := hg y List.mem_cons_self
    have hl' : rp.reverse.length ≤ 140737488351232 := by simp at hl ⊢; omega
    have e0 : (y :: rp).reverse ++ x :: tail = rp.reverse ++ y :: x :: tail := by simp
    have ej : (((y :: rp).length : Nat) : Int) = ((rp.reverse.length + 1 : Nat) : Int) := by simp
    rw [e0, ej]
    have hp := pw_eq hl'
    have hlen : (rp.reverse ++ y :: x :: tail).length = rp.reverse.length + tail.length + 2 := by simp; omega
    have c1 : chk (rp.reverse ++ y :: x :: tail) ((rp.reverse.length + 1 : Nat) : Int) = true := by
      unfold chk; rw [hlen, Bool.and_eq_true]; exact ⟨decide_eq_true (by omega), decide_eq_true (by omega)⟩
    have c2 : chk (rp.reverse ++ y :: x :: tail) (pw ((rp.reverse.length + 1 : Nat) : Int)) = true := by
      unfold chk; rw [hp, hlen, Bool.and_eq_true]; exact ⟨decide_eq_true (by omega), decide_eq_true (by omega)⟩
    have c3 : chk (swap1 (rp.reverse ++ y :: x :: tail) ((rp.reverse.length + 1 : Nat) : Int)) (pw ((rp.reverse.length + 1 : Nat) : Int)) = true := by
      unfold chk swap1; rw [hp, List.length_set, hlen, Bool.and_eq_true]; exact ⟨decide_eq_true (by omega), decide_eq_true (by omega)⟩
    have g1 : (rp.reverse ++ y :: x :: tail).getD rp.reverse.length [] = y := get_mid _ _ _
    have g2 : (rp.reverse ++ y :: x :: tail).getD (rp.reverse.length + 1) [] = x := by
      have := get_mid (rp.reverse ++ [y]) tail x
      rw [List.length_append] at this
      have e1 : rp.reverse ++ y :: x :: tail = (rp.reverse ++ [y]) ++ x :: tail := by simp
      rw [e1]; exact this
    have n1 : nx (rp.reverse ++ y :: x :: tail) (pw ((rp.reverse.length + 1 : Nat) : Int)) = y := by
      unfold nx; rw [hp, Int.toNat_natCast, g1, vrow_of hy.1]
    have n2 : nx (rp.reverse ++ y :: x :: tail) ((rp.reverse.length + 1 : Nat) : Int) = x := by
      unfold nx; rw [Int.toNat_natCast, g2, vrow_of hx.1]
    have d0 : decide (((rp.reverse.length + 1 : Nat) : Int) > 0) = true := decide_eq_true (by omega)
    refine (ri138 k n N m _ _ 0 b i _).trans ?_
    rw [d0, c1, c2, c3, n1, n2, ss_of hx.1 hy.1 hx.2 hy.2]
    change (bif decide (ordR n x y < 0) then loopAt (L64 N n) 138 Try.f138 1 k [1,0,0,1,0,0,1,0] [m] q (σi138 (swap2 (rp.reverse ++ y :: x :: tail) ((rp.reverse.length + 1 : Nat) : Int)) 0 b i (pw ((rp.reverse.length + 1 : Nat) : Int))) else lo138 k N n m (rp.reverse ++ y :: x :: tail) 0 b (IntKind.i64.wrap (i + 1))) = _
    simp only [insR]
    cases decide (ordR n x y < 0) with
    | false => simp
    | true =>
      rw [cond_true, cond_true, swap_eq hx hy hl', hp]
      have := inner138 N n k m b i x hx rp (y :: tail) q (fun z hz => hg z (List.mem_cons_of_mem _ hz)) (by simpa using hl') (by simp at hq; omega)
      rw [← this]
      simp
end
end Go.Proofs.Ytciighngjnjmlaa.W
namespace Go.Proofs.Ytciighngjnjmlaa.W
open Go.Fw
set_option maxRecDepth 100000
noncomputable section
theorem outer138 (N n k : Nat) (b : Nat) (hk : b < k) (hb : b ≤ 140737488351232) : ∀ (rest p : List (List AV)) (m : Nat), (∀ y ∈ p, good n y) → (∀ y ∈ rest, good n y) → p.length + rest.length = b → 0 < p.length → rest.length < m →
    lo138 k N n m (p ++ rest) 0 b (p.length : Nat) = some (.tup [], [.arr 28 .any (rest.foldl (ins (ordR n)) p)])
  | [], p, 0, _, _, _, _, h => by omega
  | [], p, m + 1, _, _, hl, _, _ => by
    unfold lo138
    rw [loopAt_succ]
    refine (ro138 k n N m _ 0 b _).trans ?_
    have d : decide (((p.length : Nat) : Int) < (b : Nat)) = false := by simp at hl ⊢; omega
    rw [d]; simp
  | x :: rest, p, 0, _, _, _, _, h => by omega
  | x :: rest, p, m + 1, hp, hr, hl, h0, hm => by
    unfold lo138
    rw [loopAt_succ]
    refine (ro138 k n N m _ 0 b _).trans ?_
    simp only [List.length_cons] at hl
    have d : decide (((p.length : Nat) : Int) < (b : Nat)) = true := by simp; omega
    rw [d, cond_true]
    have hx := hr x List.mem_cons_self
    have h1 := inner138 N n k m b (p.length : Nat) x hx p.reverse rest k (fun y hy => hp y (List.mem_reverse.1 hy)) (by simp; omega) (by simp; omega)
    rw [List.reverse_reverse, List.length_reverse] at h1
    refine h1.trans ?_
    have e1 : insR (ordR n) x p.reverse rest = ins (ordR n) p x ++ rest := by
      have := insR_tail (ordR n) x p.reverse [] rest
      simpa [ins] using this
    have hw : IntKind.i64.wrap (((p.length : Nat) : Int) + 1) = ((ins (ordR n) p x).length : Nat) := by rw [ins_len, wrap64] <;> omega
    rw [e1, hw]
    have := outer138 N n k b hk hb rest (ins (ordR n) p x) m (fun y hy => by
      rcases ins_mem hy with rfl | h
      · exact hx
      · exact hp y h) (fun y hy => hr y (List.mem_cons_of_mem _ hy)) (by rw [ins_len]; omega) (by rw [ins_len]; omega) (by simp only [List.length_cons] at hm; omega)
    rw [this]
    rfl
theorem isort_good {n : Nat} {l : List (List AV)} (h : ∀ y ∈ l, good n y) : ∀ y ∈ isort (ordR n) l, good n y := by
  have key : ∀ (l p : List (List AV)), (∀ y ∈ l, good n y) → (∀ y ∈ p, good n y) → ∀ y ∈ l.foldl (ins (ordR n)) p, good n y := by
    intro l
    induction l with
    | nil => intro p _ hp; exact hp
    | cons x xs ih =>
      intro p hl hp
      exact ih (ins (ordR n) p x) (fun y hy => hl y (List.mem_cons_of_mem _ hy)) (fun y hy => by
        rcases ins_mem hy with rfl | h
        · exact hl y List.mem_cons_self
        · exact hp y h)
  exact key l [] h (fun y hy => by cases hy)
theorem isort_len (f : List AV → List AV → Int) (l : List (List AV)) : (isort f l).length = l.length := by
  have key : ∀ (l p : List (List AV)), (l.foldl (ins f) p).length = p.length + l.length := by
    intro l
    induction l with
    | nil => intro p; simp
    | cons x xs ih => intro p; simp only [List.foldl_cons, ih, ins_len, List.length_cons]; omega
  simpa [isort] using key l []
noncomputable def goods (n : Nat) (rows : List (List AV)) : Bool := rowsOk n rows && sortsR n rows
theorem goods_iff {n : Nat} {rows : List (List AV)} (h : goods n rows = true) : rows.length * 56 ≤ 140737488351232 ∧ ∀ y ∈ rows, good n y := by
  unfold goods at h
  rw [Bool.and_eq_true] at h
  obtain ⟨h1, h2⟩ := rowsOk_iff h.1
  exact ⟨h1, fun y hy => ⟨h2 y hy, List.all_eq_true.1 h.2 y hy⟩⟩
theorem goods_of {n : Nat} {rows : List (List AV)} (h1 : rows.length * 56 ≤ 140737488351232) (h2 : ∀ y ∈ rows, good n y) : goods n rows = true := by
  unfold goods
  rw [Bool.and_eq_true]
  exact ⟨rowsOk_of h1 fun x hx => (h2 x hx).1, List.all_eq_true.2 fun x hx => (h2 x hx).2⟩
noncomputable def F138 (n : Nat) : List AV → List AObj → Ab Res := fun args st => match args, st with
  | [.sr 0, .k (.int .i64 a), .k (.int .i64 b), .fn (.func h) [] []], [.arr 28 .any rows] => bif Nat.beq h 64 then
      some (goods n rows && ((a == 0 && b == (rows.length : Nat)) || (a == 20 && b == 20)), (.tup [], [.arr 28 .any (bif a == b then rows else isort (ordR n) rows)])) else none
  | _, _ => none
theorem ev138 (N n : Nat) (rows : List (List AV)) (h : goods n rows = true) : ∃ k, ev (L64 N n) k 138 [.sr 0, i64 0, i64 (rows.length : Nat), fO] [.arr 28 .any rows] = some (.tup [], [.arr 28 .any (isort (ordR n) rows)]) := by
  obtain ⟨hl, hg⟩ := goods_iff h
  refine ⟨rows.length + 1 + 1, (b138 (rows.length + 1) n N rows 0 _).trans ?_⟩
  have hw : IntKind.i64.wrap ((0 : Int) + 1) = 1 := by rw [wrap64] <;> omega
  rw [hw]
  match rows, hl, hg with
  | [], _, _ =>
    unfold lo138
    rw [loopAt_succ]
    exact (ro138 _ n N 0 [] 0 0 1).trans rfl
  | x :: xs, hl, hg =>
    simp only [List.length_cons] at hl
    have := outer138 N n (xs.length + 1 + 1) (xs.length + 1) (by omega) (by omega) xs [x] (xs.length + 1 + 1) (fun y hy => by simp at hy; subst hy; exact hg y List.mem_cons_self) (fun y hy => hg y (List.mem_cons_of_mem _ hy)) (by simp; omega) (by simp) (by omega)
    exact this
theorem ev138s (N n : Nat) (rows : List (List AV)) : ev (L64 N n) (0 + 1 + 1) 138 [.sr 0, i64 20, i64 20, fO] [.arr 28 .any rows] = some (.tup [], [.arr 28 .any rows]) := by
  refine (b138 1 n N rows 20 20).trans ?_
  unfold lo138
  rw [loopAt_succ]
  exact (ro138 1 n N 0 rows 20 20 _).trans rfl
theorem told138 (N n : Nat) (args : List AV) (st : List AObj) (r : Res) (h : F138 n args st = some (true, r)) : ∃ k, ev (L64 N n) k 138 args st = some r := by
  unfold F138 at h
  split at h
  · rename_i a b h' rows
    cases hb : Nat.beq h' 64 with
    | false => rw [hb] at h; cases h
    | true =>
      rw [hb] at h
      obtain rfl := Nat.eq_of_beq_eq_true hb
      simp only [cond_true, Option.some.injEq, Prod.mk.injEq, Bool.and_eq_true, Bool.or_eq_true, beq_iff_eq] at h
      obtain ⟨⟨hg, hc⟩, rfl⟩ := h
      rcases hc with ⟨rfl, rfl⟩ | ⟨rfl, rfl⟩
      · obtain ⟨k, hk⟩ := ev138 N n rows hg
        refine ⟨k, hk.trans ?_⟩
        cases rows with
        | nil => rfl
        | cons x xs =>
          have : ((0 : Int) == (((x :: xs).length : Nat) : Int)) = false := by simp; omega
          rw [this]; rfl
      · exact ⟨_, ev138s N n rows⟩
  · cases h
noncomputable def M138 (N n : Nat) : FSys := (L64 N n).tell 138 (F138 n)
theorem M138Ok (N n : Nat) : SysOk Try.prog (M138 N n) := (K64 N n).tell 138 _ (told138 N n)
end
end Go.Proofs.Ytciighngjnjmlaa.W
namespace Go.Proofs.Ytciighngjnjmlaa.W
open Go.Fw
noncomputable section
section
variable {f : List AV → List AV → Int}
abbrev Tot (f : List AV → List AV → Int) : Prop := Cmp (fun _ _ => True) f
noncomputable def compT (f : List AV → List AV → Int) : List AV → List (List AV) → List (List AV)
  | _, [] => []
  | p, y :: ys => bif f y p == 0 then compT f y ys else y :: compT f y ys
noncomputable def compact (f : List AV → List AV → Int) : List (List AV) → List (List AV)
  | [] => []
  | x :: xs => x :: compT f x xs
noncomputable def insU (f : List AV → List AV → Int) (p : List (List AV)) (x : List AV) : List (List AV) :=
  bif (p.takeWhile fun y => decide (f y x ≤ 0)).any (fun y => f y x == 0) then p else p.takeWhile (fun y => decide (f y x ≤ 0)) ++ x :: p.dropWhile fun y => decide (f y x ≤ 0)
abbrev Srt (f : List AV → List AV → Int) (l : List (List AV)) : Prop := l.Pairwise fun a b => f a b ≤ 0
theorem Tot.flip (h : Tot f) (x y : List AV) : f y x = - f x y := h.anti x y trivial
theorem tw_all {p : List AV → Bool} : ∀ {l : List (List AV)}, (∀ a ∈ l, p a = true) → l.takeWhile p = l ∧ l.dropWhile p = []
  | [], _ => ⟨rfl, rfl⟩
  | a :: l, h => by
    have h1 := h a List.mem_cons_self
    obtain ⟨h2, h3⟩ := tw_all (p := p) (l := l) fun b hb => h b (List.mem_cons_of_mem _ hb)
    simp [List.takeWhile_cons, List.dropWhile_cons, h1, h2, h3]
theorem insR_srt (h : Tot f) (x : List AV) : ∀ (rp tail : List (List AV)), Srt f rp.reverse →
    insR f x rp tail = rp.reverse.takeWhile (fun y => decide (f y x ≤ 0)) ++ x :: (rp.reverse.dropWhile (fun y => decide (f y x ≤ 0)) ++ tail)
  | [], tail, _ => by simp [insR]
  | y :: rp, tail, hs => by
    simp only [List.reverse_cons] at hs ⊢
    have hs1 : Srt f rp.reverse := (List.pairwise_append.1 hs).1
    have hs2 : ∀ a ∈ rp.reverse, f a y ≤ 0 := fun a ha => (List.pairwise_append.1 hs).2.2 a ha y (by simp)
    have e := h.flip x y
    simp only [insR]
    by_cases c : f x y < 0
    · rw [decide_eq_true c, cond_true, insR_srt h x rp (y :: tail) hs1]
      have hy : decide (f y x ≤ 0) = false := decide_eq_false (by omega)
      rw [List.takeWhile_append, List.dropWhile_append]
      split
      · rename_i hl
        have hall : rp.reverse.takeWhile (fun y => decide (f y x ≤ 0)) = rp.reverse := (List.takeWhile_prefix _).eq_of_length hl
        have hd : rp.reverse.dropWhile (fun y => decide (f y x ≤ 0)) = [] := by
          have := List.takeWhile_append_dropWhile (p := fun y => decide (f y x ≤ 0)) (l := rp.reverse)
          rw [hall] at this
          simpa using this
        rw [hd]
        simp [hy]
        exact hall
      · rename_i hl
        have hd : rp.reverse.dropWhile (fun y => decide (f y x ≤ 0)) ≠ [] := fun hd => by
          have := List.takeWhile_append_dropWhile (p := fun y => decide (f y x ≤ 0)) (l := rp.reverse)
          rw [hd, List.append_nil] at this
          exact hl (by rw [this])
        have : (rp.reverse.dropWhile (fun y => decide (f y x ≤ 0))).isEmpty = false := by simpa using hd
        rw [this]
        simp
    · rw [decide_eq_false c, cond_false]
      have hy : f y x ≤ 0 := by omega
      have hall : ∀ a ∈ rp.reverse ++ [y], decide (f a x ≤ 0) = true := fun a ha => by
        rcases List.mem_append.1 ha with ha | ha
        · exact decide_eq_true (h.tr a y x trivial trivial (hs2 a ha) hy)
        · simp at ha; subst ha; exact decide_eq_true hy
      have ht : (rp.reverse ++ [y]).takeWhile (fun y => decide (f y x ≤ 0)) = rp.reverse ++ [y] := (tw_all hall).1
      have hd : (rp.reverse ++ [y]).dropWhile (fun y => decide (f y x ≤ 0)) = [] := (tw_all hall).2
      rw [ht, hd]
      simp
theorem ins_srt (h : Tot f) {p : List (List AV)} (hs : Srt f p) (x : List AV) : ins f p x = p.takeWhile (fun y => decide (f y x ≤ 0)) ++ x :: p.dropWhile (fun y => decide (f y x ≤ 0)) := by
  unfold ins
  rw [insR_srt h x p.reverse [] (by simpa using hs)]
  simp
theorem srt_split (h : Tot f) (x : List AV) : ∀ {p : List (List AV)}, Srt f p → ∃ A B, p = A ++ B ∧ p.takeWhile (fun y => decide (f y x ≤ 0)) = A ∧ p.dropWhile (fun y => decide (f y x ≤ 0)) = B ∧ (∀ a ∈ A, f a x ≤ 0) ∧ (∀ b ∈ B, f x b < 0)
  | [], _ => ⟨[], [], rfl, rfl, rfl, fun a ha => (by cases ha), fun b hb => (by cases hb)⟩
  | y :: p, hs => by
    have hs' := List.pairwise_cons.1 hs
    by_cases c : f y x ≤ 0
    · obtain ⟨A, B, e, h1, h2, h3, h4⟩ := srt_split h x hs'.2
      refine ⟨y :: A, B, by rw [e]; rfl, by simp [List.takeWhile_cons, c, h1], by simp [List.dropWhile_cons, c, h2], fun a ha => ?_, h4⟩
      rcases List.mem_cons.1 ha with rfl | ha
      · exact c
      · exact h3 a ha
    · have hxy : f x y < 0 := by have := h.flip x y; omega
      refine ⟨[], y :: p, rfl, by simp [List.takeWhile_cons, c], by simp [List.dropWhile_cons, c], fun a ha => (by cases ha), fun b hb => ?_⟩
      rcases List.mem_cons.1 hb with rfl | hb
      · exact hxy
      · exact h.lt_tr eqvT trivial trivial hxy (hs'.1 b hb)
theorem tw_split {A B : List (List AV)} {x : List AV} (hA : ∀ a ∈ A, f a x ≤ 0) (hB : ∀ b ∈ B, ¬ f b x ≤ 0) : (A ++ B).takeWhile (fun y => decide (f y x ≤ 0)) = A ∧ (A ++ B).dropWhile (fun y => decide (f y x ≤ 0)) = B := by
  induction A with
  | nil =>
    cases B with
    | nil => exact ⟨rfl, rfl⟩
    | cons b B => have := hB b List.mem_cons_self; simp [List.takeWhile_cons, List.dropWhile_cons, this]
  | cons a A ih =>
    have h1 := hA a List.mem_cons_self
    obtain ⟨h2, h3⟩ := ih fun b hb => hA b (List.mem_cons_of_mem _ hb)
    simp [List.takeWhile_cons, List.dropWhile_cons, h1, h2, h3]
theorem ins_keeps (h : Tot f) {p : List (List AV)} (hs : Srt f p) (x : List AV) : Srt f (ins f p x) := by
  rw [ins_srt h hs]
  obtain ⟨A, B, e, h1, h2, h3, h4⟩ := srt_split h x hs
  rw [h1, h2]
  rw [e] at hs
  obtain ⟨s1, s2, s3⟩ := List.pairwise_append.1 hs
  refine List.pairwise_append.2 ⟨s1, List.pairwise_cons.2 ⟨fun b hb => by have := h4 b hb; omega, s2⟩, fun a ha b hb => ?_⟩
  rcases List.mem_cons.1 hb with rfl | hb
  · exact h3 a ha
  · exact s3 a ha b hb
theorem compact_cons (x : List AV) (l : List (List AV)) : compact f (x :: l) = x :: compT f x l := rfl
def lst : List AV → List (List AV) → List AV
  | p, [] => p
  | _, a :: l => lst a l
theorem compT_append : ∀ (A B : List (List AV)) (p : List AV), compT f p (A ++ B) = compT f p A ++ compT f (lst p A) B
  | [], _, _ => rfl
  | a :: A, B, p => by
    simp only [List.cons_append, compT, lst]
    cases f a p == 0
    · simp [compT_append A B a]
    · exact compT_append A B a
theorem compT_mem : ∀ (l : List (List AV)) (p y : List AV), y ∈ compT f p l → y ∈ l
  | [], _, _, h => by cases h
  | a :: l, p, y, h => by
    simp only [compT] at h
    cases hc : f a p == 0 with
    | true => rw [hc] at h; exact List.mem_cons_of_mem _ (compT_mem l a y h)
    | false =>
      rw [hc] at h
      rcases List.mem_cons.1 h with rfl | h
      · exact List.mem_cons_self
      · exact List.mem_cons_of_mem _ (compT_mem l a y h)
theorem compact_mem {l : List (List AV)} {y : List AV} (h : y ∈ compact f l) : y ∈ l := by
  cases l with
  | nil => cases h
  | cons a l =>
    rcases List.mem_cons.1 h with rfl | h
    · exact List.mem_cons_self
    · exact List.mem_cons_of_mem _ (compT_mem l a y h)
theorem compT_last (h : Tot f) : ∀ (l : List (List AV)) (p : List AV), ∃ y ∈ p :: compT f p l, f y (lst p l) = 0
  | [], p => ⟨p, List.mem_cons_self, by have := h.flip p p; simp only [lst]; omega⟩
  | a :: l, p => by
    obtain ⟨y, hy, e⟩ := compT_last h l a
    simp only [compT, lst]
    cases hc : f a p == 0 with
    | true =>
      have hap : f a p = 0 := by simpa using hc
      rw [cond_true]
      rcases List.mem_cons.1 hy with rfl | hy
      · exact ⟨p, List.mem_cons_self, h.eq_tr eqvT trivial trivial (by have := h.flip y p; omega) e⟩
      · exact ⟨y, List.mem_cons_of_mem _ hy, e⟩
    | false => exact ⟨y, List.mem_cons_of_mem _ hy, e⟩
theorem compT_head {x : List AV} : ∀ {B : List (List AV)}, (∀ b ∈ B, f b x ≠ 0) → compT f x B = compact f B
  | [], _ => rfl
  | b :: B, h => by
    have : (f b x == 0) = false := by simpa using h b List.mem_cons_self
    simp only [compT, compact, this, cond_false]
theorem lst_mem : ∀ (l : List (List AV)) (p : List AV), lst p l ∈ p :: l
  | [], p => List.mem_cons_self
  | a :: l, p => List.mem_cons_of_mem _ (lst_mem l a)
theorem lst_top (h : Tot f) : ∀ (l : List (List AV)) (p : List AV), Srt f (p :: l) → ∀ a ∈ p :: l, f a (lst p l) ≤ 0
  | [], p, _, a, ha => by simp at ha; subst ha; have := h.flip a a; simp only [lst]; omega
  | b :: l, p, hs, a, ha => by
    have hs' := List.pairwise_cons.1 hs
    rcases List.mem_cons.1 ha with rfl | ha
    · exact h.tr a b _ trivial trivial (hs'.1 b List.mem_cons_self) (lst_top h l b hs'.2 b List.mem_cons_self)
    · exact lst_top h l b hs'.2 a ha
theorem compact_ins (h : Tot f) {p : List (List AV)} (hs : Srt f p) (x : List AV) : compact f (ins f p x) = insU f (compact f p) x := by
  rw [ins_srt h hs]
  obtain ⟨A, B, e, h1, h2, h3, h4⟩ := srt_split h x hs
  rw [h1, h2, e]
  have hBx : ∀ b ∈ B, f b x ≠ 0 := fun b hb => by have := h4 b hb; have := h.flip x b; omega
  have hBx2 : ∀ b ∈ compact f B, ¬ f b x ≤ 0 := fun b hb => by have := h4 b (compact_mem hb); have := h.flip x b; omega
  cases A with
  | nil =>
    have t := tw_split (f := f) (A := []) (B := compact f B) (x := x) (fun a ha => by cases ha) hBx2
    simp only [List.nil_append] at t ⊢
    unfold insU
    rw [t.1, t.2]
    rw [compact_cons, compT_head hBx]
    rfl
  | cons a l1 =>
    have hl3 := h3 _ (lst_mem l1 a)
    have hBl : ∀ b ∈ B, f b (lst a l1) ≠ 0 := fun b hb => by
      have := h.tr_lt eqvT (x := lst a l1) (y := x) (z := b) trivial trivial hl3 (h4 b hb)
      have := h.flip (lst a l1) b; omega
    have eQ : compact f (a :: l1 ++ B) = compact f ((a :: l1) ++ B) := rfl
    have eP : compact f ((a :: l1) ++ B) = (a :: compT f a l1) ++ compact f B := by
      rw [List.cons_append, compact_cons, compT_append, compT_head hBl]; rfl
    have eI : compact f ((a :: l1) ++ x :: B) = (a :: compT f a l1) ++ (bif f x (lst a l1) == 0 then compact f B else x :: compact f B) := by
      rw [List.cons_append, compact_cons, compT_append]
      have e1 : compT f (lst a l1) (x :: B) = bif f x (lst a l1) == 0 then compT f x B else x :: compT f x B := rfl
      rw [e1, compT_head hBx]; rfl
    have hA' : ∀ y ∈ a :: compT f a l1, f y x ≤ 0 := fun y hy => h3 y (by
      rcases List.mem_cons.1 hy with rfl | hy
      · exact List.mem_cons_self
      · exact List.mem_cons_of_mem _ (compT_mem l1 a y hy))
    have t := tw_split (f := f) (A := a :: compT f a l1) (B := compact f B) (x := x) hA' hBx2
    rw [eP, eI]
    unfold insU
    rw [t.1, t.2]
    have key : ((a :: compT f a l1).any fun y => f y x == 0) = (f x (lst a l1) == 0) := by
      rw [Bool.eq_iff_iff, List.any_eq_true, beq_iff_eq]
      constructor
      · rintro ⟨y, hy, e0⟩
        have e0 : f y x = 0 := by simpa using e0
        have hyA : y ∈ a :: l1 := by
          rcases List.mem_cons.1 hy with rfl | hy
          · exact List.mem_cons_self
          · exact List.mem_cons_of_mem _ (compT_mem l1 a y hy)
        have hs2 : Srt f (a :: l1) := (List.pairwise_append.1 (by rw [e] at hs; exact hs)).1
        have g1 := lst_top h l1 a hs2 y hyA
        have g2 := h.tr (lst a l1) x y trivial trivial hl3 (by have := h.flip y x; omega)
        have g3 := h.flip y (lst a l1)
        have g4 : f (lst a l1) y = 0 := by omega
        have g5 := h.eq_tr eqvT trivial trivial g4 e0
        have := h.flip (lst a l1) x; omega
      · intro e0
        obtain ⟨y, hy, e1⟩ := compT_last h l1 a
        refine ⟨y, hy, ?_⟩
        have := h.eq_tr eqvT trivial trivial e1 (by have := h.flip x (lst a l1); omega : f (lst a l1) x = 0)
        simpa using this
    rw [key]
    cases f x (lst a l1) == 0 <;> rfl
theorem sort_both (h : Tot f) : ∀ (l p : List (List AV)), Srt f p → compact f (l.foldl (ins f) p) = l.foldl (insU f) (compact f p)
  | [], _, _ => rfl
  | x :: l, p, hs => by
    simp only [List.foldl_cons]
    rw [sort_both h l _ (ins_keeps h hs x), compact_ins h hs]
theorem sort_eq_ref (h : Tot f) (l : List (List AV)) : compact f (isort f l) = l.foldl (insU f) [] := sort_both h l [] List.Pairwise.nil
theorem isort_srt (h : Tot f) (l : List (List AV)) : Srt f (isort f l) := by
  have key : ∀ (l p : List (List AV)), Srt f p → Srt f (l.foldl (ins f) p) := by
    intro l
    induction l with
    | nil => intro p hp; exact hp
    | cons x xs ih => intro p hp; exact ih _ (ins_keeps h hp x)
  exact key l [] List.Pairwise.nil
end
end
end Go.Proofs.Ytciighngjnjmlaa.W
namespace Go.Proofs.Ytciighngjnjmlaa.W
open Go.Fw
set_option maxRecDepth 100000
noncomputable section
noncomputable def F112 (n : Nat) : List AV → List AObj → Ab Res := fun args st => match args, st with
  | [u, v, .ptr 0 0], [.box 92 [y]] => some (isSS n u v && eqC y fO, (bl (ordV n u v == 0), [.box 92 [fO]]))
  | _, _ => none
noncomputable def f112 : AV := .fn (.func 112) [] [.ptr 1 0]
noncomputable def M112 (N n : Nat) : FSys := (L64 N n).tell 112 (F112 n)
noncomputable def σa111 (rows : List (List AV)) (i : Int) : St := ⟨tm 66 [(0, .sr 0), (1, f112), (5, i64 i)], [.arr 28 .any rows, .box 92 [fO]], []⟩
noncomputable def σb111 (rows : List (List AV)) (a l : Nat) (i j : Int) : St := ⟨tm 66 [(0, .sr 0), (1, f112), (5, i64 i), (6, .ss 0 a l), (7, i64 j)], [.arr 28 .any rows, .box 92 [fO]], []⟩
noncomputable def out111 (rows : List (List AV)) : Option Res := some (.sr 2, [.dead, .box 92 [fO], .arr 28 .any rows])
noncomputable def chl (l : Nat) (j : Int) : Bool := decide (0 ≤ j) && decide (j < (l : Nat))
noncomputable def okF : Bool := eqC fO fO
noncomputable def zrow : List AV := [.k (.int .i64 0), .k (.int .i64 0), .k (.string ByteArray.empty), .sl 28 .any []]
noncomputable def zs (rows : List (List AV)) (i : Nat) : List (List AV) := List.replicate (List.take (rows.length - i) (List.drop i rows)).length zrow
noncomputable def clr (rows : List (List AV)) (i : Nat) : List (List AV) := List.take i rows ++ zs rows i ++ List.drop (i + (zs rows i).length) rows
noncomputable def e111 (rows : List (List AV)) (i : Int) : Option Res := bif decide (0 ≤ i) && decide (i ≤ (rows.length : Nat)) then (bif Nat.ble (zs rows i.toNat).length (rows.length - i.toNat) && Nat.ble (i.toNat + (zs rows i.toNat).length) rows.length then
  (bif (decide (0 ≤ i) && decide (i ≤ ((clr rows i.toNat).length : Nat))) && true then out111 (List.take (i.toNat - 0) (List.drop 0 (clr rows i.toNat))) else none) else none) else none
section
variable (a b a2 b2 : Int) (s t : ByteArray) (k n N m p l : Nat) (rows rows2 : List (List AV)) (i j : Int) (R : St → Option Res)
theorem b112 : ev (L64 N n) (k + 1) 112 [.agg (VV a b s rows), .agg (VV a2 b2 t rows2), .ptr 0 0] [.box 92 [fO]] = bif isSS n (.agg (VV a b s rows)) (.agg (VV a2 b2 t rows2)) then some (bl (ordV n (.agg (VV a b s rows)) (.agg (VV a2 b2 t rows2)) == 0), [.box 92 [fO]]) else none := by kernel_rfl
theorem ra111 : roundAt (M112 N n) 111 Try.f111 2 k [1,1,0,1,0] [] (loopAt (M112 N n) 111 Try.f111 2 k [1,1,0,1,0] [] m) (σa111 rows i) = bif decide (i < (rows.length : Nat)) then (bif chk rows i then (bif chk rows (pw i) then (bif ssN n (nx rows i) (nx rows (pw i)) && okF then
  (bif ordV n (.agg (nx rows i)) (.agg (nx rows (pw i))) == 0 then (bif decide (0 ≤ i) && decide (i ≤ (rows.length : Nat)) then loopAt (M112 N n) 111 Try.f111 2 k [1,1,0,1,0,0,1,0,0,1,0,1,0,1,0] [m] k (σb111 rows i.toNat (rows.length - i.toNat) i 1) else none)
   else loopAt (M112 N n) 111 Try.f111 2 k [1,1,0,1,0] [] m (σa111 rows (IntKind.i64.wrap (i + 1)))) else none) else none) else none) else out111 rows := by kernel_rfl
theorem rb111 : roundAt (M112 N n) 111 Try.f111 2 k [1,1,0,1,0,0,1,0,0,1,0,1,0,1,0] [m] R (σb111 rows p l i j) = bif decide (j < (l : Nat)) then (bif chl l j then (bif chl l (pw j) then (bif ssN n (vrow (rows.getD (p + j.toNat) [])) (vrow (rows.getD (p + (pw j).toNat) [])) && okF then
  (bif !(ordV n (.agg (vrow (rows.getD (p + j.toNat) []))) (.agg (vrow (rows.getD (p + (pw j).toNat) []))) == 0) then (bif chl l j then (bif chk rows i then R (σb111 (rows.set i.toNat (putAt (rows.getD i.toNat []) 0 (vrow (rows.getD (p + j.toNat) [])))) p l (IntKind.i64.wrap (i + 1)) (IntKind.i64.wrap (j + 1))) else none) else none)
   else R (σb111 rows p l i (IntKind.i64.wrap (j + 1)))) else none) else none) else none) else e111 rows i := by kernel_rfl
theorem b111 : ev (M112 N n) (k + 1) 111 [.sr 0, f112] [.arr 28 .any rows, .box 92 [fO]] = bif decide (((rows.length : Nat) : Int) < 2) then out111 rows else loopAt (M112 N n) 111 Try.f111 2 k [1,1,0,1,0] [] k (σa111 rows 1) := by kernel_rfl
end
end
end Go.Proofs.Ytciighngjnjmlaa.W
namespace Go.Proofs.Ytciighngjnjmlaa.W
open Go.Fw
set_option maxRecDepth 100000
noncomputable section
theorem okF_self : okF = true := eqC_self _
theorem M112Ok (N n : Nat) : SysOk Try.prog (M112 N n) := (K64 N n).tell 112 _ fun args st r h => by
  unfold F112 at h
  split at h
  · rename_i u v y
    simp only [Option.some.injEq, Prod.mk.injEq, Bool.and_eq_true, eqC_iff] at h
    obtain ⟨⟨hs, rfl⟩, rfl⟩ := h
    obtain ⟨h1, h2, _, _⟩ := isSS_some hs
    obtain ⟨a, b, s, rows, rfl⟩ : ∃ a b s rows, u = .agg (VV a b s rows) := by
      cases n with
      | zero => rw [isV_zero] at h1; cases h1
      | succ n => obtain ⟨a, b, s, rows, rfl, _⟩ := isV_some h1; exact ⟨a, b, s, rows, rfl⟩
    obtain ⟨a2, b2, t, rows2, rfl⟩ : ∃ a b s rows, v = .agg (VV a b s rows) := by
      cases n with
      | zero => rw [isV_zero] at h2; cases h2
      | succ n => obtain ⟨a, b, s, rows, rfl, _⟩ := isV_some h2; exact ⟨a, b, s, rows, rfl⟩
    exact ⟨0 + 1, (b112 a b a2 b2 s t 0 n N rows rows2).trans (by rw [hs]; rfl)⟩
  · cases h
theorem e111_eq {rows : List (List AV)} {i : Nat} (h : i ≤ rows.length) : e111 rows i = out111 (rows.take i) := by
  have hz : (zs rows i).length = rows.length - i := by unfold zs; simp
  unfold e111
  have d1 : (decide (0 ≤ (i : Int)) && decide ((i : Int) ≤ (rows.length : Nat))) = true := by rw [Bool.and_eq_true]; exact ⟨decide_eq_true (by omega), decide_eq_true (by omega)⟩
  rw [d1, Int.toNat_natCast, cond_true, hz]
  have d2 : (Nat.ble (rows.length - i) (rows.length - i) && Nat.ble (i + (rows.length - i)) rows.length) = true := by
    rw [Bool.and_eq_true]; exact ⟨Nat.ble_eq_true_of_le (Nat.le_refl _), Nat.ble_eq_true_of_le (by omega)⟩
  rw [d2, cond_true]
  have hc : clr rows i = rows.take i ++ zs rows i := by
    unfold clr
    rw [hz, List.drop_of_length_le (by omega), List.append_nil]
  have hcl : (clr rows i).length = rows.length := by rw [hc, List.length_append, hz, List.length_take]; omega
  have d3 : ((decide (0 ≤ (i : Int)) && decide ((i : Int) ≤ ((clr rows i).length : Nat))) && true) = true := by
    rw [hcl, d1]; rfl
  rw [d3, cond_true]
  have ht : List.take (i - 0) (List.drop 0 (clr rows i)) = rows.take i := by
    rw [hc, List.drop_zero, Nat.sub_zero, List.take_append_of_le_length (by rw [List.length_take]; omega)]
    rw [List.take_of_length_le (by rw [List.length_take]; omega)]
  rw [ht]
theorem get_at {l t : List (List AV)} {a : List AV} {k : Nat} (h : k = l.length) : (l ++ a :: t).getD k [] = a := by subst h; exact get_mid _ _ _
theorem inner111 (N n k m : Nat) : ∀ (D P C : List (List AV)) (y : List AV) (o : List (List AV)) (a j q : Nat), o = P ++ y :: D → a + j = P.length + 1 → 1 ≤ j → C.length ≤ P.length → (∀ z ∈ o, good n z) → o.length ≤ 140737488351232 → D.length < q →
    loopAt (M112 N n) 111 Try.f111 2 k [1,1,0,1,0,0,1,0,0,1,0,1,0,1,0] [m] q (σb111 (C ++ o.drop C.length) a (o.length - a) (C.length : Nat) (j : Nat)) = out111 (C ++ compT (ordR n) y D)
  | _, _, _, _, _, _, _, 0, _, _, _, _, _, _, h => by omega
  | [], P, C, y, o, a, j, q + 1, ho, ha, hj, hC, hg, hl, _ => by
    rw [loopAt_succ]
    have hol : o.length = P.length + 1 := by rw [ho]; simp
    have d : decide (((j : Nat) : Int) < ((o.length - a : Nat) : Int)) = false := decide_eq_false (by omega)
    refine (rb111 k n N m a (o.length - a) _ _ _ _).trans ?_
    rw [d, cond_false, e111_eq (by simp)]
    simp [compT]
  | x :: D, P, C, y, o, a, j, q + 1, ho, ha, hj, hC, hg, hl, hq => by
    rw [loopAt_succ]
    have hol : o.length = P.length + 1 + (D.length + 1) := by rw [ho]; simp; omega
    have d : decide (((j : Nat) : Int) < ((o.length - a : Nat) : Int)) = true := decide_eq_true (by omega)
    obtain ⟨j', rfl⟩ : ∃ j', j = j' + 1 := ⟨j - 1, by omega⟩
    have hp : pw ((j' + 1 : Nat) : Int) = (j' : Nat) := pw_eq (by omega)
    have c1 : chl (o.length - a) ((j' + 1 : Nat) : Int) = true := by unfold chl; rw [Bool.and_eq_true]; exact ⟨decide_eq_true (by omega), decide_eq_true (by omega)⟩
    have c2 : chl (o.length - a) (pw ((j' + 1 : Nat) : Int)) = true := by rw [hp]; unfold chl; rw [Bool.and_eq_true]; exact ⟨decide_eq_true (by omega), decide_eq_true (by omega)⟩
    have hrl : (C ++ o.drop C.length).length = o.length := by simp; omega
    have c3 : chk (C ++ o.drop C.length) ((C.length : Nat) : Int) = true := by unfold chk; rw [hrl, Bool.and_eq_true]; exact ⟨decide_eq_true (by omega), decide_eq_true (by omega)⟩
    have gd : ∀ i, C.length ≤ i → (C ++ o.drop C.length).getD i [] = o.getD i [] := fun i hi => by
      rw [List.getD_eq_getElem?_getD, List.getElem?_append_right hi, List.getElem?_drop, List.getD_eq_getElem?_getD]
      congr 2; omega
    have g1 : (C ++ o.drop C.length).getD (a + ((j' + 1 : Nat) : Int).toNat) [] = x := by
      rw [Int.toNat_natCast, gd _ (by omega), ho]
      have e : P ++ y :: x :: D = (P ++ [y]) ++ x :: D := by simp
      rw [e]; exact get_at (by simp; omega)
    have g2 : (C ++ o.drop C.length).getD (a + (pw ((j' + 1 : Nat) : Int)).toNat) [] = y := by
      rw [hp, Int.toNat_natCast, gd _ (by omega), ho]
      exact get_at (by omega)
    have hx : good n x := hg x (by rw [ho]; simp)
    have hy : good n y := hg y (by rw [ho]; simp)
    have hw : IntKind.i64.wrap (((j' + 1 : Nat) : Int) + 1) = ((j' + 1 + 1 : Nat) : Int) := by rw [wrap64] <;> omega
    have hwC : IntKind.i64.wrap (((C.length : Nat) : Int) + 1) = ((C.length + 1 : Nat) : Int) := by rw [wrap64] <;> omega
    refine (rb111 k n N m a (o.length - a) _ _ _ _).trans ?_
    rw [d, c1, c2, g1, g2, vrow_of hx.1, vrow_of hy.1, ss_of hx.1 hy.1 hx.2 hy.2, okF_self, c3, hw, hwC]
    change (bif !(ordR n x y == 0) then loopAt (M112 N n) 111 Try.f111 2 k [1,1,0,1,0,0,1,0,0,1,0,1,0,1,0] [m] q (σb111 ((C ++ o.drop C.length).set ((C.length : Nat) : Int).toNat (putAt ((C ++ o.drop C.length).getD ((C.length : Nat) : Int).toNat []) 0 x)) a (o.length - a) ((C.length + 1 : Nat) : Int) ((j' + 1 + 1 : Nat) : Int))
      else loopAt (M112 N n) 111 Try.f111 2 k [1,1,0,1,0,0,1,0,0,1,0,1,0,1,0] [m] q (σb111 (C ++ o.drop C.length) a (o.length - a) (C.length : Nat) ((j' + 1 + 1 : Nat) : Int))) = _
    have ho2 : o = (P ++ [y]) ++ x :: D := by rw [ho]; simp
    simp only [compT]
    cases hc : ordR n x y == 0 with
    | true =>
      rw [Bool.not_true, cond_false, cond_true]
      exact inner111 N n k m D (P ++ [y]) C x o a (j' + 1 + 1) q ho2 (by simp; omega) (by omega) (by simp; omega) hg hl (by simp only [List.length_cons] at hq; omega)
    | false =>
      rw [Bool.not_false, cond_true, cond_false]
      obtain ⟨z, hz⟩ : ∃ z, o.drop C.length = z :: o.drop (C.length + 1) := ⟨o[C.length]'(by omega), List.drop_eq_getElem_cons (by omega)⟩
      have hzg : good n z := hg z (by
        have : z ∈ o.drop C.length := by rw [hz]; exact List.mem_cons_self
        exact List.mem_of_mem_drop this)
      have hset : (C ++ o.drop C.length).set ((C.length : Nat) : Int).toNat (putAt ((C ++ o.drop C.length).getD ((C.length : Nat) : Int).toNat []) 0 x) = (C ++ [x]) ++ o.drop (C ++ [x]).length := by
        rw [Int.toNat_natCast, hz, get_mid, putAt_whole (by rw [good_len hx, good_len hzg]; omega), set_mid]
        simp
      rw [hset]
      have := inner111 N n k m D (P ++ [y]) (C ++ [x]) x o a (j' + 1 + 1) q ho2 (by simp; omega) (by omega) (by simp; omega) hg hl (by simp only [List.length_cons] at hq; omega)
      have el : (((C ++ [x]).length : Nat) : Int) = ((C.length + 1 : Nat) : Int) := by simp
      rw [el] at this
      rw [this]
      simp
theorem outer111 (N n k : Nat) : ∀ (D Q : List (List AV)) (y : List AV) (o : List (List AV)) (q : Nat), o = Q ++ y :: D → (∀ z ∈ o, good n z) → o.length ≤ 140737488351232 → o.length < k → D.length < q →
    loopAt (M112 N n) 111 Try.f111 2 k [1,1,0,1,0] [] q (σa111 o ((Q.length + 1 : Nat) : Int)) = out111 (Q ++ y :: compT (ordR n) y D)
  | _, _, _, _, 0, _, _, _, _, h => by omega
  | [], Q, y, o, q + 1, ho, hg, hl, hk, _ => by
    rw [loopAt_succ]
    have hol : o.length = Q.length + 1 := by rw [ho]; simp
    have d : decide (((Q.length + 1 : Nat) : Int) < (o.length : Nat)) = false := decide_eq_false (by omega)
    refine (ra111 k n N q o _).trans ?_
    rw [d, cond_false, ho]
    rfl
  | x :: D, Q, y, o, q + 1, ho, hg, hl, hk, hq => by
    rw [loopAt_succ]
    have hol : o.length = Q.length + 1 + (D.length + 1) := by rw [ho]; simp; omega
    have d : decide (((Q.length + 1 : Nat) : Int) < (o.length : Nat)) = true := decide_eq_true (by omega)
    have hp : pw ((Q.length + 1 : Nat) : Int) = (Q.length : Nat) := pw_eq (by omega)
    have c1 : chk o ((Q.length + 1 : Nat) : Int) = true := by unfold chk; rw [Bool.and_eq_true]; exact ⟨decide_eq_true (by omega), decide_eq_true (by omega)⟩
    have c2 : chk o (pw ((Q.length + 1 : Nat) : Int)) = true := by rw [hp]; unfold chk; rw [Bool.and_eq_true]; exact ⟨decide_eq_true (by omega), decide_eq_true (by omega)⟩
    have hx : good n x := hg x (by rw [ho]; simp)
    have hy : good n y := hg y (by rw [ho]; simp)
    have g1 : nx o ((Q.length + 1 : Nat) : Int) = x := by
      unfold nx
      rw [Int.toNat_natCast]
      have e : o = (Q ++ [y]) ++ x :: D := by rw [ho]; simp
      rw [e, get_at (by simp), vrow_of hx.1]
    have g2 : nx o (pw ((Q.length + 1 : Nat) : Int)) = y := by
      unfold nx
      rw [hp, Int.toNat_natCast, ho, get_mid, vrow_of hy.1]
    have d4 : (decide (0 ≤ ((Q.length + 1 : Nat) : Int)) && decide (((Q.length + 1 : Nat) : Int) ≤ (o.length : Nat))) = true := by rw [Bool.and_eq_true]; exact ⟨decide_eq_true (by omega), decide_eq_true (by omega)⟩
    have hw : IntKind.i64.wrap (((Q.length + 1 : Nat) : Int) + 1) = ((Q.length + 1 + 1 : Nat) : Int) := by rw [wrap64] <;> omega
    refine (ra111 k n N q o _).trans ?_
    rw [d, c1, c2, g1, g2, ss_of hx.1 hy.1 hx.2 hy.2, okF_self, d4, hw, Int.toNat_natCast]
    change (bif ordR n x y == 0 then loopAt (M112 N n) 111 Try.f111 2 k [1,1,0,1,0,0,1,0,0,1,0,1,0,1,0] [q] k (σb111 o (Q.length + 1) (o.length - (Q.length + 1)) ((Q.length + 1 : Nat) : Int) 1) else loopAt (M112 N n) 111 Try.f111 2 k [1,1,0,1,0] [] q (σa111 o ((Q.length + 1 + 1 : Nat) : Int))) = _
    have ho2 : o = (Q ++ [y]) ++ x :: D := by rw [ho]; simp
    simp only [compT]
    cases hc : ordR n x y == 0 with
    | true =>
      rw [cond_true, cond_true]
      have := inner111 N n k q D (Q ++ [y]) (Q ++ [y]) x o (Q.length + 1) 1 k ho2 (by simp) (by omega) (by simp) hg hl (by omega)
      have e1 : (Q ++ [y]) ++ o.drop (Q ++ [y]).length = o := by rw [ho2]; simp
      have e2 : (((Q ++ [y]).length : Nat) : Int) = ((Q.length + 1 : Nat) : Int) := by simp
      rw [e1, e2] at this
      refine this.trans ?_
      simp
    | false =>
      rw [cond_false, cond_false]
      have := outer111 N n k D (Q ++ [y]) x o q ho2 hg hl hk (by simp only [List.length_cons] at hq; omega)
      have e2 : (((Q ++ [y]).length + 1 : Nat) : Int) = ((Q.length + 1 + 1 : Nat) : Int) := by simp
      rw [e2] at this
      refine this.trans ?_
      simp
noncomputable def F111 (n : Nat) : List AV → List AObj → Ab Res := fun args st => match args, st with
  | [.sr 0, .fn (.func h) [] [.ptr 1 0]], [.arr 28 .any rows, .box 92 [y]] => bif Nat.beq h 112 then some (goods n rows && eqC y fO, (.sr 2, [.dead, .box 92 [fO], .arr 28 .any (compact (ordR n) rows)])) else none
  | _, _ => none
theorem told111 (N n : Nat) (args : List AV) (st : List AObj) (r : Res) (h : F111 n args st = some (true, r)) : ∃ k, ev (M112 N n) k 111 args st = some r := by
  unfold F111 at h
  split at h
  · rename_i h' rows y
    cases hb : Nat.beq h' 112 with
    | false => rw [hb] at h; cases h
    | true =>
      rw [hb] at h
      obtain rfl := Nat.eq_of_beq_eq_true hb
      simp only [cond_true, Option.some.injEq, Prod.mk.injEq, Bool.and_eq_true, eqC_iff] at h
      obtain ⟨⟨hg, rfl⟩, rfl⟩ := h
      obtain ⟨hl, hgd⟩ := goods_iff hg
      refine ⟨rows.length + 1 + 1, (b111 _ n N rows).trans ?_⟩
      match rows, hl, hgd with
      | [], _, _ => rfl
      | [x], _, _ => rfl
      | x :: y :: l, hl, hgd =>
        have d : decide ((((x :: y :: l).length : Nat) : Int) < 2) = false := decide_eq_false (by simp; omega)
        rw [d, cond_false]
        exact outer111 N n _ (y :: l) [] x (x :: y :: l) _ rfl hgd (by omega) (by omega) (by simp)
  · cases h
end
end Go.Proofs.Ytciighngjnjmlaa.W
