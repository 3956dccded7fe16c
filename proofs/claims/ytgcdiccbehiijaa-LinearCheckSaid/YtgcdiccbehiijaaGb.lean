/- A part of the proofs over these laws: what its functions come to. No conditions. -/
import Derived.Test.YtgcdiccbehiijaaFwZg
import Derived.Test.YtgcdiccbehiijaaG1
set_option linter.all false
namespace Go.Proofs.Ytgcdiccbehiijaa.W
open Go.Fw
noncomputable section
theorem div_lt_self32 {n : Nat} (h : n ≠ 0) : n / 32768 < n := Nat.div_lt_self (Nat.pos_of_ne_zero h) (by omega)
def digs (n : Nat) : List Nat := if h : n = 0 then [] else (n % 32768) :: digs (n / 32768)
termination_by n
decreasing_by exact div_lt_self32 h
def dg (n i : Nat) : Nat := n / 32768 ^ i % 32768
def lowD (k n : Nat) : List Nat := (List.range k).map (dg n)
theorem digs_zero : digs 0 = [] := by rw [digs]; simp
theorem digs_pos {n : Nat} (h : n ≠ 0) : digs n = (n % 32768) :: digs (n / 32768) := by rw [digs]; simp [h]
theorem dg_zero (n : Nat) : dg n 0 = n % 32768 := by simp [dg]
theorem dg_succ (n i : Nat) : dg n (i + 1) = dg (n / 32768) i := by
  unfold dg
  rw [Nat.pow_succ, Nat.mul_comm, Nat.div_div_eq_div_mul]
theorem dgt_lt (n i : Nat) : dg n i < 32768 := Nat.mod_lt _ (by omega)
theorem lowD_succ (k n : Nat) : lowD (k + 1) n = (n % 32768) :: lowD k (n / 32768) := by
  unfold lowD
  rw [List.range_succ_eq_map, List.map_cons, List.map_map, dg_zero]
  congr 1
  exact List.map_congr_left fun i _ => dg_succ n i
theorem lowD_len (k n : Nat) : (lowD k n).length = k := by simp [lowD]
theorem lowD_get {k n i : Nat} (h : i < k) : (lowD k n)[i]'(by rw [lowD_len]; exact h) = dg n i := by simp [lowD]
theorem lowD_snoc (k n : Nat) : lowD (k + 1) n = lowD k n ++ [dg n k] := by
  unfold lowD
  rw [List.range_succ, List.map_append]; rfl
theorem digs_low : ∀ (k n : Nat), n < 32768 ^ k → (k = 0 ∨ 32768 ^ (k - 1) ≤ n) → digs n = lowD k n
  | 0, n, h, _ => by
    have : n = 0 := by simpa using h
    subst this
    rw [digs_zero]; rfl
  | k + 1, n, h, h2 => by
    have hle : 32768 ^ k ≤ n := by
      rcases h2 with h2 | h2
      · omega
      · simpa using h2
    have hp : 0 < 32768 ^ k := Nat.pow_pos (by omega)
    have hn : n ≠ 0 := by omega
    rw [digs_pos hn, lowD_succ]
    congr 1
    refine digs_low k (n / 32768) ?_ ?_
    · rw [Nat.div_lt_iff_lt_mul (by omega)]
      rw [Nat.pow_succ] at h; exact h
    · rcases Nat.eq_zero_or_pos k with hk | hk
      · exact .inl hk
      · right
        rw [Nat.le_div_iff_mul_le (by omega)]
        have : 32768 ^ (k - 1) * 32768 = 32768 ^ k := by rw [← Nat.pow_succ]; congr 1; omega
        rw [this]; exact hle
def dlen (n : Nat) : Nat := (digs n).length
theorem dlen_spec : ∀ (n : Nat), n < 32768 ^ dlen n ∧ (dlen n = 0 ∨ 32768 ^ (dlen n - 1) ≤ n) := by
  intro n
  induction n using Nat.strongRecOn with
  | ind n ih =>
    by_cases hn : n = 0
    · subst hn
      unfold dlen
      rw [digs_zero]
      exact ⟨by simp, .inl rfl⟩
    · have h1 : dlen n = dlen (n / 32768) + 1 := by unfold dlen; rw [digs_pos hn]; rfl
      obtain ⟨h2, h3⟩ := ih (n / 32768) (div_lt_self32 hn)
      rw [h1]
      refine ⟨?_, .inr ?_⟩
      · rw [Nat.pow_succ]
        exact (Nat.div_lt_iff_lt_mul (by omega)).1 h2
      · rw [Nat.add_sub_cancel]
        rcases h3 with h3 | h3
        · rw [h3]; simp; omega
        · rcases Nat.eq_zero_or_pos (dlen (n / 32768)) with hk | hk
          · rw [hk]; simp; omega
          · have : 32768 ^ (dlen (n / 32768) - 1) * 32768 = 32768 ^ dlen (n / 32768) := by rw [← Nat.pow_succ]; congr 1; omega
            rw [← this]
            exact (Nat.le_div_iff_mul_le (by omega)).1 h3
theorem dlen_le {n k : Nat} : dlen n ≤ k ↔ n < 32768 ^ k := by
  obtain ⟨h1, h2⟩ := dlen_spec n
  constructor
  · intro h; exact Nat.lt_of_lt_of_le h1 (Nat.pow_le_pow_right (by omega) h)
  · intro h
    rcases h2 with h2 | h2
    · omega
    · apply Nat.le_of_not_lt
      intro hlt
      have := Nat.pow_le_pow_right (n := 32768) (by omega) (by omega : k ≤ dlen n - 1)
      omega
theorem digs_eq (n : Nat) : digs n = lowD (dlen n) n := digs_low _ n (dlen_spec n).1 (dlen_spec n).2
theorem dg_big {n i : Nat} (h : dlen n ≤ i) : dg n i = 0 := by
  unfold dg
  rw [Nat.div_eq_of_lt (dlen_le.1 h)]
theorem dlen_zero : dlen 0 = 0 := by unfold dlen; rw [digs_zero]; rfl
theorem mod_succ (n i : Nat) : n % 32768 ^ (i + 1) = n % 32768 ^ i + dg n i * 32768 ^ i := by
  unfold dg
  rw [Nat.pow_succ, Nat.mod_mul, Nat.mul_comm (n / 32768 ^ i % 32768)]
theorem mod_dlen {n k : Nat} (h : dlen n ≤ k) : n % 32768 ^ k = n := Nat.mod_eq_of_lt (dlen_le.1 h)
theorem dg_mod {n k i : Nat} (h : i < k) : dg (n % 32768 ^ k) i = dg n i := by
  unfold dg
  have e : 32768 ^ k = 32768 ^ i * (32768 * 32768 ^ (k - i - 1)) := by
    rw [← Nat.mul_assoc, ← Nat.pow_succ, ← Nat.pow_add]
    congr 1; omega
  rw [e, Nat.mod_mul_right_div_self, Nat.mod_mul_right_mod]
def car (n m i : Nat) : Nat := (n % 32768 ^ i + m % 32768 ^ i) / 32768 ^ i
theorem car_zero (n m : Nat) : car n m 0 = 0 := by unfold car; simp [Nat.mod_one]
theorem sum_split (n m i : Nat) : n % 32768 ^ i + m % 32768 ^ i = car n m i * 32768 ^ i + (n + m) % 32768 ^ i := by
  unfold car
  have h := Nat.div_add_mod (n % 32768 ^ i + m % 32768 ^ i) (32768 ^ i)
  have e : (n % 32768 ^ i + m % 32768 ^ i) % 32768 ^ i = (n + m) % 32768 ^ i := by rw [← Nat.add_mod]
  rw [e, Nat.mul_comm] at h
  exact h.symm
theorem car_step (n m i : Nat) : car n m i + dg n i + dg m i = car n m (i + 1) * 32768 + dg (n + m) i := by
  have hp : 0 < 32768 ^ i := Nat.pow_pos (by omega)
  have h0 := sum_split n m i
  have h1 := sum_split n m (i + 1)
  rw [mod_succ n, mod_succ m, mod_succ (n + m)] at h1
  have hpow : 32768 ^ (i + 1) = 32768 * 32768 ^ i := by rw [Nat.pow_succ, Nat.mul_comm]
  rw [hpow] at h1
  generalize 32768 ^ i = P at *
  generalize car n m i = c at *
  generalize car n m (i + 1) = d at *
  generalize dg n i = a at *
  generalize dg m i = b at *
  generalize dg (n + m) i = s at *
  generalize n % P = x at *
  generalize m % P = y at *
  generalize (n + m) % P = z at *
  have e : (c + a + b) * P = (d * 32768 + s) * P := by
    rw [Nat.add_mul, Nat.add_mul, Nat.add_mul, Nat.mul_assoc d 32768 P]
    omega
  exact Nat.eq_of_mul_eq_mul_right hp e
theorem car_lt (n m i : Nat) : car n m i < 2 := by
  have hp : 0 < 32768 ^ i := Nat.pow_pos (by omega)
  unfold car
  rw [Nat.div_lt_iff_lt_mul hp]
  have h1 := Nat.mod_lt n hp
  have h2 := Nat.mod_lt m hp
  omega
end
end Go.Proofs.Ytgcdiccbehiijaa.W
namespace Go.Proofs.Ytgcdiccbehiijaa.W
open Go.Fw
noncomputable section
theorem top_split (n i : Nat) : n / 32768 ^ i = n / 32768 ^ (i + 1) * 32768 + dg n i := by
  unfold dg
  have e : n / 32768 ^ (i + 1) = n / 32768 ^ i / 32768 := by rw [Nat.pow_succ, Nat.div_div_eq_div_mul]
  rw [e]
  omega
def cmpNat (n m : Nat) : Int := if n < m then -1 else if m < n then 1 else 0
theorem cmp_step {n m i : Nat} (h : n / 32768 ^ (i + 1) = m / 32768 ^ (i + 1)) :
    (dg n i < dg m i → n < m) ∧ (dg m i < dg n i → m < n) ∧ (dg n i = dg m i → n / 32768 ^ i = m / 32768 ^ i) := by
  have h1 := top_split n i
  have h2 := top_split m i
  rw [h] at h1
  refine ⟨fun hd => ?_, fun hd => ?_, fun hd => by rw [h1, h2, hd]⟩
  · apply Nat.lt_of_not_le
    intro hle
    have := Nat.div_le_div_right (c := 32768 ^ i) hle
    omega
  · apply Nat.lt_of_not_le
    intro hle
    have := Nat.div_le_div_right (c := 32768 ^ i) hle
    omega
theorem cmp_len {n m : Nat} (h : dlen n < dlen m) : n < m := by
  apply Nat.lt_of_not_le
  intro hle
  have h1 := (dlen_spec n).1
  have : dlen m ≤ dlen n := dlen_le.2 (Nat.lt_of_le_of_lt hle h1)
  omega
def trimL (l : List Nat) : List Nat := (l.reverse.dropWhile (· == 0)).reverse
theorem trim_snoc0 (l : List Nat) : trimL (l ++ [0]) = trimL l := by simp [trimL]
theorem trim_snoc (l : List Nat) {d : Nat} (h : d ≠ 0) : trimL (l ++ [d]) = l ++ [d] := by simp [trimL, h]
theorem trim_low : ∀ (k s : Nat), dlen s ≤ k → trimL (lowD k s) = digs s
  | 0, s, h => by
    have h0 : dlen s = 0 := by omega
    rw [digs_eq, h0]; rfl
  | k + 1, s, h => by
    rw [lowD_snoc]
    by_cases hk : dlen s ≤ k
    · rw [dg_big hk, trim_snoc0, trim_low k s hk]
    · have hd : dlen s = k + 1 := by omega
      have hne : dg s k ≠ 0 := by
        intro h0
        have h2 := (dlen_spec s).2
        rw [hd] at h2
        have h3 : 32768 ^ k ≤ s := by
          rcases h2 with h2 | h2
          · omega
          · simpa using h2
        have h1 := (dlen_spec s).1
        rw [hd, Nat.pow_succ] at h1
        have hp : 0 < 32768 ^ k := Nat.pow_pos (by omega)
        have h4 : 1 ≤ s / 32768 ^ k := (Nat.le_div_iff_mul_le hp).2 (by omega)
        have h5 : s / 32768 ^ k < 32768 := (Nat.div_lt_iff_lt_mul hp).2 (by rw [Nat.mul_comm]; exact h1)
        unfold dg at h0
        rw [Nat.mod_eq_of_lt h5] at h0
        omega
      rw [trim_snoc _ hne, ← lowD_snoc, digs_eq, hd]
theorem pow_pos' (i : Nat) : 0 < 32768 ^ i := Nat.pow_pos (by omega)
def setD (n j d : Nat) : Nat := n / 32768 ^ (j + 1) * 32768 ^ (j + 1) + d * 32768 ^ j + n % 32768 ^ j
theorem parts3 (n j : Nat) : n = n / 32768 ^ (j + 1) * 32768 ^ (j + 1) + dg n j * 32768 ^ j + n % 32768 ^ j := by
  have h := Nat.div_add_mod n (32768 ^ (j + 1))
  rw [mod_succ, Nat.mul_comm] at h
  omega
theorem setD_eq (n j d : Nat) : setD n j d + dg n j * 32768 ^ j = n + d * 32768 ^ j := by
  have h := parts3 n j
  unfold setD
  omega
theorem dg_of {n j d q r : Nat} (hd : d < 32768) (hr : r < 32768 ^ j) (h : n = q * 32768 ^ (j + 1) + d * 32768 ^ j + r) : dg n j = d ∧ n % 32768 ^ j = r ∧ n / 32768 ^ (j + 1) = q := by
  have hp := pow_pos' j
  have e : n = (q * 32768 + d) * 32768 ^ j + r := by rw [h, Nat.pow_succ, Nat.add_mul, Nat.mul_assoc, Nat.mul_comm 32768 (32768 ^ j)]
  have h1 : n / 32768 ^ j = q * 32768 + d := by
    rw [e, Nat.mul_comm, Nat.mul_add_div hp, Nat.div_eq_of_lt hr, Nat.add_zero]
  have h2 : n % 32768 ^ j = r := by
    rw [e, Nat.mul_comm, Nat.mul_add_mod, Nat.mod_eq_of_lt hr]
  refine ⟨?_, h2, ?_⟩
  · unfold dg
    rw [h1]; omega
  · rw [Nat.pow_succ, ← Nat.div_div_eq_div_mul, h1]; omega
theorem dg_set_self (n j : Nat) {d : Nat} (hd : d < 32768) : dg (setD n j d) j = d := (dg_of hd (Nat.mod_lt _ (pow_pos' j)) rfl).1
theorem dg_set_ne (n : Nat) {j i d : Nat} (hd : d < 32768) (h : i ≠ j) : dg (setD n j d) i = dg n i := by
  obtain ⟨_, h2, h3⟩ := dg_of (n := setD n j d) hd (Nat.mod_lt n (pow_pos' j)) rfl
  rcases Nat.lt_or_gt_of_ne h with hlt | hgt
  · rw [← dg_mod (n := setD n j d) hlt, h2, dg_mod hlt]
  · have e : ∀ m, dg m i = dg (m / 32768 ^ (j + 1)) (i - (j + 1)) := fun m => by
      unfold dg
      rw [Nat.div_div_eq_div_mul, ← Nat.pow_add]
      congr 3; omega
    rw [e, e n, h3]
theorem lowD_set {k n j d : Nat} (hd : d < 32768) (hj : j < k) : (lowD k n).set j d = lowD k (setD n j d) := by
  apply List.ext_getElem
  · rw [List.length_set, lowD_len, lowD_len]
  · intro i h1 h2
    rw [List.length_set, lowD_len] at h1
    rw [lowD_get (by omega), List.getElem_set]
    split
    · rename_i h
      rw [← h, dg_set_self n j hd]
    · rename_i h
      rw [lowD_get h1, dg_set_ne n hd (fun e => h e.symm)]
end
end Go.Proofs.Ytgcdiccbehiijaa.W
namespace Go.Proofs.Ytgcdiccbehiijaa.W
open Go.Fw
noncomputable section
def mulI (a b i k X c : Nat) : Prop := X + c * 32768 ^ (i + k) = a % 32768 ^ i * b + dg a i * (b % 32768 ^ k) * 32768 ^ i
theorem mul_start (a b i : Nat) : mulI a b i 0 (a % 32768 ^ i * b) 0 := by
  unfold mulI
  simp [Nat.mod_one]
theorem mul_step {a b i k X c t : Nat} (h : mulI a b i k X c) (ht : t = c + dg X (i + k) + dg a i * dg b k) :
    mulI a b i (k + 1) (setD X (i + k) (t % 32768)) (t / 32768) := by
  unfold mulI at h ⊢
  have h1 := setD_eq X (i + k) (t % 32768)
  have h2 := Nat.div_add_mod t 32768
  rw [mod_succ b k]
  have e1 : 32768 ^ (i + (k + 1)) = 32768 * 32768 ^ (i + k) := by rw [← Nat.add_assoc, Nat.pow_succ, Nat.mul_comm]
  have e2 : 32768 ^ (i + k) = 32768 ^ k * 32768 ^ i := by rw [Nat.add_comm, Nat.pow_add]
  rw [e1]
  have e3 : dg a i * (b % 32768 ^ k + dg b k * 32768 ^ k) * 32768 ^ i = dg a i * (b % 32768 ^ k) * 32768 ^ i + dg a i * dg b k * 32768 ^ (i + k) := by
    rw [e2, Nat.mul_add, Nat.add_mul, Nat.mul_assoc (dg a i) (dg b k), Nat.mul_assoc (dg a i) (dg b k * 32768 ^ k), Nat.mul_assoc (dg b k), Nat.mul_assoc (dg a i)]
  rw [e3]
  have e4 : t / 32768 * (32768 * 32768 ^ (i + k)) + t % 32768 * 32768 ^ (i + k) = t * 32768 ^ (i + k) := by
    rw [← Nat.mul_assoc, ← Nat.add_mul, Nat.div_add_mod']
  have e5 : t * 32768 ^ (i + k) = c * 32768 ^ (i + k) + dg X (i + k) * 32768 ^ (i + k) + dg a i * dg b k * 32768 ^ (i + k) := by
    rw [ht, Nat.add_mul, Nat.add_mul]
  generalize setD X (i + k) (t % 32768) = Y at *
  generalize t / 32768 * (32768 * 32768 ^ (i + k)) = u1 at *
  generalize t % 32768 * 32768 ^ (i + k) = u2 at *
  generalize t * 32768 ^ (i + k) = u3 at *
  generalize c * 32768 ^ (i + k) = u4 at *
  generalize dg X (i + k) * 32768 ^ (i + k) = u5 at *
  generalize dg a i * dg b k * 32768 ^ (i + k) = u6 at *
  generalize dg a i * (b % 32768 ^ k) * 32768 ^ i = u7 at *
  generalize a % 32768 ^ i * b = u8 at *
  clear ht h2 e1 e2 e3
  omega
theorem mul_end {a b i k X : Nat} (h : mulI a b i k X 0) (hk : dlen b ≤ k) : X = a % 32768 ^ (i + 1) * b := by
  unfold mulI at h
  rw [mod_dlen hk] at h
  rw [mod_succ, Nat.add_mul]
  have : dg a i * 32768 ^ i * b = dg a i * b * 32768 ^ i := by rw [Nat.mul_assoc, Nat.mul_comm (32768 ^ i), ← Nat.mul_assoc]
  rw [this]
  omega
theorem mul_last {a b i X c : Nat} (h : mulI a b i (dlen b) X c) : c + dg X (i + dlen b) < 32768 := by
  unfold mulI at h
  rw [mod_dlen (Nat.le_refl _)] at h
  have hp := pow_pos' (i + dlen b)
  have hb := (dlen_spec b).1
  have ha : a % 32768 ^ i + dg a i * 32768 ^ i < 32768 ^ (i + 1) := by
    rw [← mod_succ]; exact Nat.mod_lt _ (pow_pos' _)
  have e : a % 32768 ^ i * b + dg a i * b * 32768 ^ i = (a % 32768 ^ i + dg a i * 32768 ^ i) * b := by
    rw [Nat.add_mul]
    congr 1
    rw [Nat.mul_assoc, Nat.mul_comm b, ← Nat.mul_assoc]
  rw [e] at h
  have hlt : (a % 32768 ^ i + dg a i * 32768 ^ i) * b < 32768 * 32768 ^ (i + dlen b) := by
    have e2 : 32768 * 32768 ^ (i + dlen b) = 32768 ^ (i + 1) * 32768 ^ dlen b := by rw [← Nat.pow_add, Nat.mul_comm, ← Nat.pow_succ]; congr 1; omega
    rw [e2]
    refine Nat.lt_of_le_of_lt (Nat.mul_le_mul_left _ (Nat.le_of_lt hb)) (Nat.mul_lt_mul_of_pos_right ha (pow_pos' _))
  rw [← h] at hlt
  have h1 : X / 32768 ^ (i + dlen b) + c < 32768 := by
    have : (X + c * 32768 ^ (i + dlen b)) / 32768 ^ (i + dlen b) < 32768 := (Nat.div_lt_iff_lt_mul hp).2 hlt
    rwa [Nat.add_mul_div_right _ _ hp] at this
  have h2 : dg X (i + dlen b) ≤ X / 32768 ^ (i + dlen b) := Nat.mod_le _ _
  omega
theorem carry_lt {c x u v : Nat} (hc : c < 32768) (hx : x < 32768) (hu : u < 32768) (hv : v < 32768) : (c + x + u * v) / 32768 < 32768 ∧ c + x + u * v < 1073741824 := by
  have h1 : u * v ≤ 32767 * 32767 := Nat.mul_le_mul (by omega) (by omega)
  constructor <;> omega
theorem div_step {m p r bit : Nat} (hm : 0 < m) (hr : r = p % m) (hb : bit < 2) :
    (if m ≤ 2 * r + bit then (2 * r + bit - m = (2 * p + bit) % m ∧ 2 * (p / m) + 1 = (2 * p + bit) / m) else (2 * r + bit = (2 * p + bit) % m ∧ 2 * (p / m) = (2 * p + bit) / m)) := by
  have hd := Nat.div_add_mod p m
  have hlt := Nat.mod_lt p hm
  rw [← hr] at hd hlt
  have e : 2 * p + bit = m * (2 * (p / m)) + (2 * r + bit) := by
    have : 2 * p = 2 * (m * (p / m)) + 2 * r := by omega
    rw [this, Nat.mul_left_comm, Nat.add_assoc]
  split
  · rename_i hle
    have e2 : 2 * p + bit = m * (2 * (p / m) + 1) + (2 * r + bit - m) := by
      rw [Nat.mul_add, Nat.mul_one]; omega
    have hl2 : 2 * r + bit - m < m := by omega
    rw [e2]
    exact ⟨by rw [Nat.mul_add_mod, Nat.mod_eq_of_lt hl2], by (first | (rw [Nat.mul_add_div hm, Nat.div_eq_of_lt hl2]; done) | (rw [Nat.mul_add_div hm, Nat.div_eq_of_lt hl2]; rfl))⟩
  · rename_i hle
    have hl2 : 2 * r + bit < m := by omega
    rw [e]
    exact ⟨by rw [Nat.mul_add_mod, Nat.mod_eq_of_lt hl2], by (first | (rw [Nat.mul_add_div hm, Nat.div_eq_of_lt hl2]; done) | (rw [Nat.mul_add_div hm, Nat.div_eq_of_lt hl2]; rfl))⟩
def pre (n i j : Nat) : Nat := n / (32768 ^ i * 2 ^ j)
theorem pre_step (n i j : Nat) : pre n i j = 2 * pre n i (j + 1) + dg n i / 2 ^ j % 2 ∨ 15 ≤ j := by
  by_cases hj : j < 15
  · left
    unfold pre dg
    have e1 : n / (32768 ^ i * 2 ^ (j + 1)) = n / (32768 ^ i * 2 ^ j) / 2 := by rw [Nat.pow_succ, ← Nat.mul_assoc, ← Nat.div_div_eq_div_mul]
    have e2 : n / 32768 ^ i % 32768 / 2 ^ j % 2 = n / (32768 ^ i * 2 ^ j) % 2 := by
      have : (32768 : Nat) = 2 ^ j * (2 * 2 ^ (14 - j)) := by
        rw [← Nat.mul_assoc, Nat.mul_comm (2 ^ j) 2, Nat.mul_assoc, ← Nat.pow_add, show j + (14 - j) = 14 by omega]
      rw [this, Nat.mod_mul_right_div_self, Nat.mod_mul_right_mod, Nat.div_div_eq_div_mul, ← this]
    rw [e1, e2]
    omega
  · right; omega
theorem pre_top (n i : Nat) : pre n i 15 = n / 32768 ^ (i + 1) := by
  unfold pre
  rw [Nat.pow_succ 32768 i]
theorem pre_low (n i : Nat) : pre n i 0 = n / 32768 ^ i := by unfold pre; simp
end
end Go.Proofs.Ytgcdiccbehiijaa.W
namespace Go.Proofs.Ytgcdiccbehiijaa.W
open Go.Fw
noncomputable section
def rowsN (l : List Nat) : List (List AV) := l.map fun (d : Nat) => [AV.k (.int .i64 (d : Int))]
def dRw (n : Nat) : List (List AV) := rowsN (digs n)
def digV (r : List AV) : Nat := ((r.getD 0 .undef).toI).toNat
def valR (rows : List (List AV)) : Nat := rows.foldr (fun r acc => digV r + 32768 * acc) 0
theorem rowsN_len (l : List Nat) : (rowsN l).length = l.length := by simp [rowsN]
theorem rowsN_get {l : List Nat} {i : Nat} (h : i < l.length) : (rowsN l)[i]'(by rw [rowsN_len]; exact h) = [AV.k (.int .i64 ((l[i] : Nat) : Int))] := by simp [rowsN]
theorem dRw_len (n : Nat) : (dRw n).length = dlen n := rowsN_len _
theorem valR_dRw : ∀ n : Nat, valR (dRw n) = n := by
  intro n
  induction n using Nat.strongRecOn with
  | ind n ih =>
    by_cases hn : n = 0
    · subst hn
      unfold dRw
      rw [digs_zero]; rfl
    · unfold dRw at ih ⊢
      rw [digs_pos hn]
      show digV [AV.k (.int .i64 ((n % 32768 : Nat) : Int))] + 32768 * valR (rowsN (digs (n / 32768))) = n
      rw [ih _ (div_lt_self32 hn)]
      have : digV [AV.k (.int .i64 ((n % 32768 : Nat) : Int))] = n % 32768 := by
        show ((n % 32768 : Nat) : Int).toNat = _
        exact Int.toNat_natCast _
      rw [this]; omega
def isDR (rows : List (List AV)) : Bool := Nat.ble rows.length 100000 && eqC rows (dRw (valR rows))
theorem isDR_iff {rows : List (List AV)} (h : isDR rows = true) : ∃ n, rows = dRw n ∧ dlen n ≤ 100000 := by
  unfold isDR at h
  rw [Bool.and_eq_true, eqC_iff] at h
  refine ⟨valR rows, h.2, ?_⟩
  rw [← dRw_len, ← h.2]
  exact Nat.le_of_ble_eq_true h.1
theorem isDR_of {n : Nat} (h : dlen n ≤ 100000) : isDR (dRw n) = true := by
  unfold isDR
  rw [valR_dRw, eqC_self, dRw_len, Nat.ble_eq_true_of_le h]; rfl
theorem dRw_get {n i : Nat} (h : i < dlen n) : (dRw n)[i]'(by rw [dRw_len]; exact h) = [AV.k (.int .i64 ((dg n i : Nat) : Int))] := by
  have h' : i < (digs n).length := h
  unfold dRw
  rw [rowsN_get h']
  have e : (digs n)[i] = dg n i := by
    have : ∀ (l : List Nat) (hl : i < l.length), l = lowD (dlen n) n → l[i] = dg n i := fun l hl e => by
      subst e
      exact lowD_get (by rw [lowD_len] at hl; exact hl)
    exact this _ _ (digs_eq n)
  rw [e]
theorem dRw_getD (n : Nat) (i : Nat) : (((dRw n).getD i []).getD 0 .undef).toI = if i < dlen n then ((dg n i : Nat) : Int) else AV.undef.toI := by
  by_cases h : i < dlen n
  · rw [if_pos h]
    have h2 : i < (dRw n).length := by rw [dRw_len]; exact h
    have : (dRw n).getD i [] = (dRw n)[i] := by simp [List.getD, List.getElem?_eq_getElem h2]
    rw [this, dRw_get h]; rfl
  · rw [if_neg h]
    have h2 : ¬ i < (dRw n).length := by rw [dRw_len]; exact h
    have : (dRw n).getD i [] = [] := by simp [List.getD, List.getElem?_eq_none (by omega : (dRw n).length ≤ i)]
    rw [this]; rfl
def lowR (k n : Nat) : List (List AV) := rowsN (lowD k n)
theorem lowR_len (k n : Nat) : (lowR k n).length = k := by unfold lowR; rw [rowsN_len, lowD_len]
theorem lowR_snoc (k n : Nat) : lowR (k + 1) n = lowR k n ++ [[AV.k (.int .i64 ((dg n k : Nat) : Int))]] := by unfold lowR rowsN; rw [lowD_snoc, List.map_append]; rfl
theorem dRw_low (n : Nat) : dRw n = lowR (dlen n) n := by
  have : ∀ l, l = lowD (dlen n) n → rowsN l = lowR (dlen n) n := fun l e => by subst e; rfl
  exact this _ (digs_eq n)
theorem lowR_getD {k n i : Nat} (h : i < k) : (((lowR k n).getD i []).getD 0 .undef).toI = ((dg n i : Nat) : Int) := by
  have h2 : i < (lowR k n).length := by rw [lowR_len]; exact h
  have h3 : i < (lowD k n).length := by rw [lowD_len]; exact h
  have : (lowR k n).getD i [] = (lowR k n)[i] := by simp [List.getD, List.getElem?_eq_getElem h2]
  have e : (lowR k n)[i] = [AV.k (.int .i64 (((lowD k n)[i] : Nat) : Int))] := rowsN_get h3
  rw [this, e, lowD_get h]; rfl
theorem lowR_set {k n j d : Nat} (hd : d < 32768) (hj : j < k) : (lowR k n).set j [AV.k (.int .i64 ((d : Nat) : Int))] = lowR k (setD n j d) := by
  unfold lowR
  rw [← lowD_set hd hj]
  unfold rowsN
  rw [List.map_set]
theorem dlen_add (n m : Nat) : dlen (n + m) ≤ max (dlen n) (dlen m) + 1 := by
  rw [dlen_le]
  have h1 := Nat.lt_of_lt_of_le (dlen_spec n).1 (Nat.pow_le_pow_right (n := 32768) (by omega) (Nat.le_max_left (dlen n) (dlen m)))
  have h2 := Nat.lt_of_lt_of_le (dlen_spec m).1 (Nat.pow_le_pow_right (n := 32768) (by omega) (Nat.le_max_right (dlen n) (dlen m)))
  rw [Nat.pow_succ]
  omega
theorem dlen_mul (n m : Nat) : dlen (n * m) ≤ dlen n + dlen m := by
  rw [dlen_le, Nat.pow_add]
  exact Nat.mul_lt_mul_of_lt_of_le (dlen_spec n).1 (Nat.le_of_lt (dlen_spec m).1) (pow_pos' _)
theorem dlen_mono {n m : Nat} (h : n ≤ m) : dlen n ≤ dlen m := dlen_le.2 (Nat.lt_of_le_of_lt h (dlen_spec m).1)
end
end Go.Proofs.Ytgcdiccbehiijaa.W
namespace Go.Proofs.Ytgcdiccbehiijaa.W
open Go.Fw
set_option maxRecDepth 100000
noncomputable section
def nI (rows : List (List AV)) (i : Int) : Int := ((rows.getD i.toNat []).getD 0 .undef).toI
def inR (rows : List (List AV)) (i : Int) (X : Option Res) : Option Res := bif decide (0 ≤ i) && decide (i < (rows.length : Nat)) then X else none
def slR (rows : List (List AV)) : AV := .sl 3 .any rows
def w64 (n : Int) : Int := IntKind.i64.wrap n
def rL (rows : List (List AV)) : Option Res := some (slR rows, [])
section
variable (k : Nat) (A B out : List (List AV)) (y : List AV) (R : St → Option Res) (i c : Int)
def σ90 (A : List (List AV)) : St := ⟨tm 21 [(0, slR A)], [], []⟩
def len1 (A : List (List AV)) : Int := w64 ((A.length : Nat) - 1)
theorem b90 : ev sys (k + 1) 90 [slR A] [] = loopAt sys 90 Try.f90 0 k [1,0,0] [] k (σ90 A) := by kernel_rfl
theorem r90 : roundAt sys 90 Try.f90 0 k [1,0,0] [] R (σ90 A) = bif decide (((A.length : Nat) : Int) > 0) then inR A (len1 A) (bif nI A (len1 A) == 0 then (bif (decide (0 ≤ len1 A) && decide (len1 A ≤ (A.length : Nat))) && true then R (σ90 ((A.drop 0).take ((len1 A).toNat - 0))) else none) else rL A) else rL A := by kernel_rfl
def σ85 (A B : List (List AV)) (i : Int) : St := ⟨tm 41 [(0, slR A), (1, slR B), (5, i64 i)], [], []⟩
def r1 (n : Int) : Option Res := some (i64 n, [])
theorem b85 : ev sys (k + 1) 85 [slR A, slR B] [] = bif !(((A.length : Nat) : Int) == ((B.length : Nat) : Int)) then (bif decide (((A.length : Nat) : Int) < ((B.length : Nat) : Int)) then r1 (-1) else r1 1) else loopAt sys 85 Try.f85 0 k [1,1,0,1,0] [] k (σ85 A B (len1 A)) := by kernel_rfl
theorem r85 : roundAt sys 85 Try.f85 0 k [1,1,0,1,0] [] R (σ85 A B i) = bif decide (i ≥ 0) then inR A i (inR B i (bif decide (nI A i < nI B i) then r1 (-1) else inR A i (inR B i (bif decide (nI A i > nI B i) then r1 1 else R (σ85 A B (w64 (i - 1))))))) else r1 0 := by kernel_rfl
def τ84 (A B : List (List AV)) (kd : SK) (out : List (List AV)) (c i : Int) : St := ⟨tm 53 [(0, slR A), (1, slR B), (5, .sr 0), (6, i64 c), (7, i64 i)], [.arr 3 kd out], []⟩
def row1 (n : Int) : List AV := [i64 n]
def ad84 (A : List (List AV)) (i c : Int) (K : Int → Option Res) : Option Res := bif decide (i < (A.length : Nat)) then inR A i (K (w64 (c + nI A i))) else K c
def bd84 (A B : List (List AV)) (i c : Int) (K : Int → Option Res) : Option Res := ad84 A i c fun c => ad84 B i c K
def cd84 (A B : List (List AV)) (i c : Int) (X F : Option Res) : Option Res := bif decide (i < (A.length : Nat)) then X else bif decide (i < (B.length : Nat)) then X else bif decide (c > 0) then X else F
def rm (c : Int) : Int := Int.tmod c 32768
def qo (c : Int) : Int := w64 (Int.tdiv c 32768)
theorem b84 : ev sys (k + 1) 84 [slR A, slR B] [] = loopAt sys 84 Try.f84 0 k [1,1,0,1,0] [] k (τ84 A B .full [] 0 0) := by kernel_rfl
theorem r84a : roundAt sys 84 Try.f84 0 k [1,1,0,1,0] [] R (τ84 A B .full [] c i) = cd84 A B i c (bd84 A B i c fun c => R (τ84 A B .fresh [row1 (rm c)] (qo c) (w64 (i + 1)))) (rL []) := by kernel_rfl
theorem r84b : roundAt sys 84 Try.f84 0 k [1,1,0,1,0] [] R (τ84 A B .fresh [y] c i) = cd84 A B i c (bd84 A B i c fun c => R (τ84 A B .wide [y, row1 (rm c)] (qo c) (w64 (i + 1)))) (rL [y]) := by kernel_rfl
theorem r84c : roundAt sys 84 Try.f84 0 k [1,1,0,1,0] [] R (τ84 A B .wide out c i) = cd84 A B i c (bd84 A B i c fun c => bif Nat.ble ((out.length + [row1 (rm c)].length) * 8) 140737488355328 then R (τ84 A B .wide (out ++ [row1 (rm c)]) (qo c) (w64 (i + 1))) else none) (rL out) := by kernel_rfl
end
end
end Go.Proofs.Ytgcdiccbehiijaa.W
namespace Go.Proofs.Ytgcdiccbehiijaa.W
open Go.Fw
set_option maxRecDepth 100000
noncomputable section
theorem w64_in {n : Int} (h1 : -9223372036854775808 ≤ n) (h2 : n ≤ 9223372036854775807) : w64 n = n := wrap64 h1 h2
theorem inR_on {rows : List (List AV)} {i : Nat} {X : Option Res} (h : i < rows.length) : inR rows (i : Int) X = X := by
  unfold inR
  rw [decide_eq_true (by omega : 0 ≤ (i : Int)), decide_eq_true (by omega : (i : Int) < (rows.length : Nat))]; rfl
def isL (A : List (List AV)) : Bool := Nat.ble A.length 200010 && eqC A (rowsN (A.map digV))
theorem digV_row (l : List Nat) : (rowsN l).map digV = l := by
  unfold rowsN
  rw [List.map_map]
  have : (digV ∘ fun (d : Nat) => [AV.k (.int .i64 (d : Int))]) = id := by
    funext d
    show ((d : Int)).toNat = d
    exact Int.toNat_natCast d
  rw [this, List.map_id]
theorem isL_of {l : List Nat} (h : l.length ≤ 200010) : isL (rowsN l) = true := by
  unfold isL
  rw [digV_row, eqC_self, rowsN_len, Nat.ble_eq_true_of_le h]; rfl
def F90 : List AV → List AObj → Ab Res := fun args st => match args, st with
  | [.sl 3 .any A], [] => some (isL A, (slR (rowsN (trimL (A.map digV))), []))
  | _, _ => none
theorem loop90 (k : Nat) : ∀ (n : Nat) (l : List Nat), l.length < n → l.length ≤ 200010 → loopAt sys 90 Try.f90 0 k [1,0,0] [] n (σ90 (rowsN l)) = rL (rowsN (trimL l))
  | 0, l, h, _ => by omega
  | n + 1, l, h, hb => by
    rw [loopAt_succ]
    refine (r90 k (rowsN l) _).trans ?_
    rcases List.eq_nil_or_concat l with rfl | ⟨l', d, rfl⟩
    · rfl
    · have hl : (l' ++ [d]).length = l'.length + 1 := by simp
      rw [List.concat_eq_append] at hb h ⊢
      have e1 : len1 (rowsN (l' ++ [d])) = (l'.length : Nat) := by
        unfold len1
        rw [rowsN_len, hl, w64_in] <;> omega
      have hlt : l'.length < (rowsN (l' ++ [d])).length := by rw [rowsN_len, hl]; omega
      have e2 : nI (rowsN (l' ++ [d])) (l'.length : Nat) = (d : Int) := by
        unfold nI
        rw [Int.toNat_natCast]
        have hh : l'.length < (l' ++ [d]).length := by omega
        have : (rowsN (l' ++ [d])).getD l'.length [] = (rowsN (l' ++ [d]))[l'.length] := by simp [List.getD, List.getElem?_eq_getElem hlt]
        rw [this, rowsN_get hh]
        simp
        rfl
      have e3 : ((rowsN (l' ++ [d])).drop 0).take (((l'.length : Nat) : Int).toNat - 0) = rowsN l' := by
        rw [Int.toNat_natCast, List.drop_zero, Nat.sub_zero]
        unfold rowsN
        rw [List.map_append, List.take_left' (by simp)]
      rw [e1, inR_on hlt, e2, e3, rowsN_len, hl, decide_eq_true (by omega : ((l'.length + 1 : Nat) : Int) > 0), decide_eq_true (by omega : 0 ≤ ((l'.length : Nat) : Int)), decide_eq_true (by omega : ((l'.length : Nat) : Int) ≤ ((l'.length + 1 : Nat) : Int))]
      by_cases hd : d = 0
      · subst hd
        have ih := loop90 k n l' (by omega) (by omega)
        rw [trim_snoc0]
        exact ih
      · have : (((d : Nat) : Int) == 0) = false := by rw [beq_eq_false_iff_ne]; omega
        rw [this, trim_snoc _ hd]; rfl
theorem told90 (args : List AV) (st : List AObj) (r : Res) (h : F90 args st = some (true, r)) : ∃ k, ev sys k 90 args st = some r := by
  unfold F90 at h
  split at h
  · rename_i A
    simp only [Option.some.injEq, Prod.mk.injEq] at h
    obtain ⟨h1, rfl⟩ := h
    unfold isL at h1
    rw [Bool.and_eq_true, eqC_iff] at h1
    obtain ⟨h1, h2⟩ := h1
    have h1 := Nat.le_of_ble_eq_true h1
    generalize A.map digV = l at h2
    subst h2
    rw [rowsN_len] at h1
    exact ⟨l.length + 1 + 1, (b90 _ _).trans (loop90 _ _ l (by omega) h1)⟩
  · cases h
theorem nI_dg {n i : Nat} (h : i < dlen n) : nI (dRw n) (i : Nat) = ((dg n i : Nat) : Int) := by
  unfold nI
  rw [Int.toNat_natCast, dRw_getD, if_pos h]
def F85 : List AV → List AObj → Ab Res := fun args st => match args, st with
  | [.sl 3 .any A, .sl 3 .any B], [] => some (isDR A && isDR B, (i64 (cmpNat (valR A) (valR B)), []))
  | _, _ => none
theorem loop85 (k n m : Nat) (he : dlen n = dlen m) (hb : dlen n ≤ 100000) : ∀ (j q : Nat), j ≤ dlen n → n / 32768 ^ j = m / 32768 ^ j → j < q →
    loopAt sys 85 Try.f85 0 k [1,1,0,1,0] [] q (σ85 (dRw n) (dRw m) ((j : Int) - 1)) = r1 (cmpNat n m)
  | _, 0, _, _, h => by omega
  | 0, q + 1, _, hq, _ => by
    rw [loopAt_succ]
    refine (r85 k (dRw n) (dRw m) _ _).trans ?_
    rw [decide_eq_false (by omega : ¬ (((0 : Nat) : Int) - 1 ≥ 0))]
    have : n = m := by simpa using hq
    subst this
    unfold cmpNat
    rw [if_neg (Nat.lt_irrefl _), if_neg (Nat.lt_irrefl _)]
    rfl
  | j + 1, q + 1, hj, hq, hlt => by
    rw [loopAt_succ]
    have ej : (((j + 1 : Nat) : Int) - 1) = ((j : Nat) : Int) := by omega
    rw [ej]
    refine (r85 k (dRw n) (dRw m) _ _).trans ?_
    have l1 : j < (dRw n).length := by rw [dRw_len]; omega
    have l2 : j < (dRw m).length := by rw [dRw_len]; omega
    rw [inR_on l1, inR_on l2, nI_dg (by omega : j < dlen n), nI_dg (by omega : j < dlen m), decide_eq_true (by omega : ((j : Nat) : Int) ≥ 0), inR_on l1, inR_on l2]
    obtain ⟨c1, c2, c3⟩ := cmp_step hq
    have ew : w64 (((j : Nat) : Int) - 1) = ((j : Nat) : Int) - 1 := w64_in (by omega) (by omega)
    rw [ew]
    by_cases h1 : dg n j < dg m j
    · rw [decide_eq_true (by omega : ((dg n j : Nat) : Int) < ((dg m j : Nat) : Int))]
      have := c1 h1
      unfold cmpNat
      rw [if_pos this]; rfl
    · rw [decide_eq_false (by omega : ¬ ((dg n j : Nat) : Int) < ((dg m j : Nat) : Int))]
      by_cases h2 : dg m j < dg n j
      · rw [decide_eq_true (by omega : ((dg n j : Nat) : Int) > ((dg m j : Nat) : Int))]
        have := c2 h2
        unfold cmpNat
        rw [if_neg (by omega), if_pos this]; rfl
      · rw [decide_eq_false (by omega : ¬ ((dg n j : Nat) : Int) > ((dg m j : Nat) : Int))]
        exact loop85 k n m he hb j q (by omega) (c3 (by omega)) (by omega)
theorem told85 (args : List AV) (st : List AObj) (r : Res) (h : F85 args st = some (true, r)) : ∃ k, ev sys k 85 args st = some r := by
  unfold F85 at h
  split at h
  · rename_i A B
    simp only [Option.some.injEq, Prod.mk.injEq, Bool.and_eq_true] at h
    obtain ⟨⟨hA, hB⟩, rfl⟩ := h
    obtain ⟨n, rfl, hn⟩ := isDR_iff hA
    obtain ⟨m, rfl, hm⟩ := isDR_iff hB
    rw [valR_dRw, valR_dRw]
    refine ⟨dlen n + 1 + 1, (b85 _ _ _).trans ?_⟩
    rw [dRw_len, dRw_len]
    by_cases he : dlen n = dlen m
    · have : (((dlen n : Nat) : Int) == ((dlen m : Nat) : Int)) = true := by rw [beq_iff_eq]; omega
      have e1 : len1 (dRw n) = ((dlen n : Nat) : Int) - 1 := by
        unfold len1
        rw [dRw_len, w64_in] <;> omega
      rw [this, e1]
      refine (loop85 _ n m he hn (dlen n) _ (Nat.le_refl _) ?_ (by omega))
      rw [Nat.div_eq_of_lt (dlen_spec n).1, he, Nat.div_eq_of_lt (dlen_spec m).1]
    · have : (((dlen n : Nat) : Int) == ((dlen m : Nat) : Int)) = false := by rw [beq_eq_false_iff_ne]; omega
      rw [this]
      by_cases h1 : dlen n < dlen m
      · rw [decide_eq_true (by omega : ((dlen n : Nat) : Int) < ((dlen m : Nat) : Int))]
        have := cmp_len h1
        unfold cmpNat
        rw [if_pos this]; rfl
      · rw [decide_eq_false (by omega : ¬ ((dlen n : Nat) : Int) < ((dlen m : Nat) : Int))]
        have := cmp_len (by omega : dlen m < dlen n)
        unfold cmpNat
        rw [if_neg (by omega), if_pos this]; rfl
  · cases h
end
end Go.Proofs.Ytgcdiccbehiijaa.W
namespace Go.Proofs.Ytgcdiccbehiijaa.W
open Go.Fw
set_option maxRecDepth 100000
noncomputable section
def kdl : List (List AV) → SK
  | [] => .full
  | [_] => .fresh
  | _ => .wide
theorem r84 (k : Nat) (A B out : List (List AV)) (R : St → Option Res) (c i : Int) (h : out.length ≤ 200000) : roundAt sys 84 Try.f84 0 k [1,1,0,1,0] [] R (τ84 A B (kdl out) out c i) =
    cd84 A B i c (bd84 A B i c fun c => R (τ84 A B (kdl (out ++ [row1 (rm c)])) (out ++ [row1 (rm c)]) (qo c) (w64 (i + 1)))) (rL out) := by
  match out, h with
  | [], _ => exact r84a k A B R i c
  | [y], _ => exact r84b k A B y R i c
  | x :: y :: xs, h =>
    refine (r84c k A B (x :: y :: xs) R i c).trans ?_
    have hb : Nat.ble (((x :: y :: xs).length + [row1 (rm c)].length) * 8) 140737488355328 = true := by
      apply Nat.ble_eq_true_of_le
      have : [row1 (rm c)].length = 1 := rfl
      rw [this]; omega
    have hb' : ∀ c : Int, Nat.ble (((x :: y :: xs).length + [row1 (rm c)].length) * 8) 140737488355328 = true := fun c => by
      apply Nat.ble_eq_true_of_le
      have : [row1 (rm c)].length = 1 := rfl
      rw [this]; omega
    congr 1
    have : (fun c => bif Nat.ble (((x :: y :: xs).length + [row1 (rm c)].length) * 8) 140737488355328 then R (τ84 A B .wide ((x :: y :: xs) ++ [row1 (rm c)]) (qo c) (w64 (i + 1))) else none) = fun c => R (τ84 A B (kdl ((x :: y :: xs) ++ [row1 (rm c)])) ((x :: y :: xs) ++ [row1 (rm c)]) (qo c) (w64 (i + 1))) := by
      funext c
      rw [hb' c]; rfl
    rw [this]
theorem ad84_dg {n : Nat} {i c : Nat} (hc : c < 100000) (K : Int → Option Res) : ad84 (dRw n) (i : Nat) (c : Nat) K = K ((c + dg n i : Nat) : Int) := by
  unfold ad84
  rw [dRw_len]
  by_cases h : i < dlen n
  · have hl : i < (dRw n).length := by rw [dRw_len]; exact h
    have := dgt_lt n i
    rw [decide_eq_true (by omega : ((i : Nat) : Int) < ((dlen n : Nat) : Int)), inR_on hl, nI_dg h, w64_in (by omega) (by omega)]
    have : ((c : Nat) : Int) + ((dg n i : Nat) : Int) = ((c + dg n i : Nat) : Int) := by omega
    rw [this]; rfl
  · rw [decide_eq_false (by omega : ¬ ((i : Nat) : Int) < ((dlen n : Nat) : Int)), dg_big (by omega)]
    rfl
theorem rm_nat (a : Nat) : rm (a : Nat) = ((a % 32768 : Nat) : Int) := rfl
theorem qo_nat {a : Nat} (h : a < 4611686018427387904) : qo (a : Nat) = ((a / 32768 : Nat) : Int) := by
  have e : Int.tdiv (a : Nat) 32768 = ((a / 32768 : Nat) : Int) := rfl
  unfold qo
  rw [e, w64_in] <;> omega
theorem car_pos {n m i : Nat} (h : 0 < car n m i) : 32768 ^ i ≤ n + m := by
  have hp := pow_pos' i
  unfold car at h
  have h1 : 32768 ^ i ≤ n % 32768 ^ i + m % 32768 ^ i := by
    apply Nat.le_of_not_lt
    intro hlt
    rw [Nat.div_eq_of_lt hlt] at h
    omega
  have h2 := Nat.mod_le n (32768 ^ i)
  have h3 := Nat.mod_le m (32768 ^ i)
  omega
theorem dlen_gt {n i : Nat} : i < dlen n ↔ 32768 ^ i ≤ n := by
  have := dlen_le (n := n) (k := i)
  omega
theorem plus_goes (n m i : Nat) : (i < dlen n ∨ i < dlen m ∨ 0 < car n m i) ↔ i < dlen (n + m) := by
  constructor
  · rintro (h | h | h)
    · rw [dlen_gt] at h ⊢; omega
    · rw [dlen_gt] at h ⊢; omega
    · rw [dlen_gt]; exact car_pos h
  · intro h
    by_cases h1 : i < dlen n
    · exact .inl h1
    · by_cases h2 : i < dlen m
      · exact .inr (.inl h2)
      · right; right
        apply Nat.pos_of_ne_zero
        intro h0
        have e := sum_split n m i
        rw [h0, mod_dlen (by omega : dlen n ≤ i), mod_dlen (by omega : dlen m ≤ i), Nat.zero_mul, Nat.zero_add] at e
        have : dlen (n + m) ≤ i := dlen_le.2 (by rw [e]; exact Nat.mod_lt _ (pow_pos' i))
        omega
theorem cd84_eq (n m i : Nat) (X F : Option Res) : cd84 (dRw n) (dRw m) (i : Nat) ((car n m i : Nat) : Int) X F = if i < dlen (n + m) then X else F := by
  unfold cd84
  rw [dRw_len, dRw_len]
  by_cases h1 : i < dlen n
  · rw [decide_eq_true (by omega : ((i : Nat) : Int) < ((dlen n : Nat) : Int)), if_pos ((plus_goes n m i).1 (.inl h1))]; rfl
  · rw [decide_eq_false (by omega : ¬ ((i : Nat) : Int) < ((dlen n : Nat) : Int))]
    by_cases h2 : i < dlen m
    · rw [decide_eq_true (by omega : ((i : Nat) : Int) < ((dlen m : Nat) : Int)), if_pos ((plus_goes n m i).1 (.inr (.inl h2)))]; rfl
    · rw [decide_eq_false (by omega : ¬ ((i : Nat) : Int) < ((dlen m : Nat) : Int))]
      by_cases h3 : 0 < car n m i
      · rw [decide_eq_true (by omega : ((car n m i : Nat) : Int) > 0), if_pos ((plus_goes n m i).1 (.inr (.inr h3)))]; rfl
      · rw [decide_eq_false (by omega : ¬ ((car n m i : Nat) : Int) > 0), if_neg (fun h => by
          rcases (plus_goes n m i).2 h with h | h | h <;> omega)]; rfl
def F84 : List AV → List AObj → Ab Res := fun args st => match args, st with
  | [.sl 3 .any A, .sl 3 .any B], [] => some (isDR A && isDR B, (slR (dRw (valR A + valR B)), []))
  | _, _ => none
theorem loop84 (k n m : Nat) (hn : dlen n ≤ 100000) (hm : dlen m ≤ 100000) (hk : dlen (n + m) < k) :
    loopAt sys 84 Try.f84 0 k [1,1,0,1,0] [] k (τ84 (dRw n) (dRw m) .full [] 0 0) = rL (dRw (n + m)) := by
  have hnm : dlen (n + m) ≤ 100001 := by have := dlen_add n m; omega
  have key := loop_up (S := sys) (f := 84) (fn := Try.f84) (m := 0) (k := k) (p := [1,1,0,1,0]) (ms := []) (fun i => τ84 (dRw n) (dRw m) (kdl (lowR i (n + m))) (lowR i (n + m)) ((car n m i : Nat) : Int) ((i : Nat) : Int)) (dlen (n + m)) (fun _ => rL (dRw (n + m)))
    (fun i hi R hR => by
      refine (r84 k (dRw n) (dRw m) (lowR i (n + m)) R _ _ (by rw [lowR_len]; omega)).trans ?_
      rw [cd84_eq, if_pos hi]
      unfold bd84
      have hc := car_lt n m i
      have h1 := dgt_lt n i
      have h2 := dgt_lt m i
      rw [ad84_dg (by omega), ad84_dg (by omega)]
      have hs := car_step n m i
      have h3 := dgt_lt (n + m) i
      have hc2 := car_lt n m (i + 1)
      rw [rm_nat, qo_nat (by omega)]
      have e1 : (car n m i + dg n i + dg m i) % 32768 = dg (n + m) i := by omega
      have e2 : (car n m i + dg n i + dg m i) / 32768 = car n m (i + 1) := by omega
      have e3 : w64 (((i : Nat) : Int) + 1) = ((i + 1 : Nat) : Int) := by rw [w64_in] <;> omega
      rw [e1, e2, e3]
      have e4 : lowR i (n + m) ++ [row1 ((dg (n + m) i : Nat) : Int)] = lowR (i + 1) (n + m) := (lowR_snoc i (n + m)).symm
      rw [e4]
      exact hR)
    (fun R => by
      refine (r84 k (dRw n) (dRw m) (lowR (dlen (n + m)) (n + m)) R _ _ (by rw [lowR_len]; omega)).trans ?_
      rw [cd84_eq, if_neg (by omega), ← dRw_low])
    k 0 (Nat.zero_le _) (by omega)
  have e0 : τ84 (dRw n) (dRw m) (kdl (lowR 0 (n + m))) (lowR 0 (n + m)) ((car n m 0 : Nat) : Int) ((0 : Nat) : Int) = τ84 (dRw n) (dRw m) .full [] 0 0 := by
    rw [car_zero]; rfl
  rw [← e0]
  exact key
theorem told84 (args : List AV) (st : List AObj) (r : Res) (h : F84 args st = some (true, r)) : ∃ k, ev sys k 84 args st = some r := by
  unfold F84 at h
  split at h
  · rename_i A B
    simp only [Option.some.injEq, Prod.mk.injEq, Bool.and_eq_true] at h
    obtain ⟨⟨hA, hB⟩, rfl⟩ := h
    obtain ⟨n, rfl, hn⟩ := isDR_iff hA
    obtain ⟨m, rfl, hm⟩ := isDR_iff hB
    rw [valR_dRw, valR_dRw]
    exact ⟨dlen (n + m) + 1 + 1, (b84 _ _ _).trans (loop84 _ n m hn hm (by omega))⟩
  · cases h
end
end Go.Proofs.Ytgcdiccbehiijaa.W
namespace Go.Proofs.Ytgcdiccbehiijaa.W
open Go.Fw
set_option maxRecDepth 100000
noncomputable section
noncomputable def T1 : FSys := ((sys.tell 90 F90).tell 85 F85).tell 84 F84
def tr90 (A : List (List AV)) : Option Res := bif isL A then rL (rowsN (trimL (A.map digV))) else none
section
variable (k m : Nat) (A B out : List (List AV)) (y : List AV) (R : St → Option Res) (i c q : Int)
def τ86 (A B : List (List AV)) (kd : SK) (out : List (List AV)) (c i : Int) : St := ⟨tm 42 [(0, slR A), (1, slR B), (5, .sr 0), (6, i64 c), (7, i64 i)], [.arr 3 kd out], []⟩
def sb86 (B : List (List AV)) (i d : Int) (K : Int → Option Res) : Option Res := bif decide (i < (B.length : Nat)) then inR B i (K (w64 (d - nI B i))) else K d
def bw86 (d : Int) (K : Int → Int → Option Res) : Option Res := bif decide (d < 0) then K (w64 (d + 32768)) 1 else K d 0
def rd86 (A B : List (List AV)) (i c : Int) (K : Int → Int → Option Res) (F : Option Res) : Option Res := bif decide (i < (A.length : Nat)) then inR A i (sb86 B i (w64 (nI A i - c)) fun d => bw86 d K) else F
theorem b86 : ev T1 (k + 1) 86 [slR A, slR B] [] = loopAt T1 86 Try.f86 0 k [1,1,0,1,0] [] k (τ86 A B .full [] 0 0) := by kernel_rfl
theorem r86a : roundAt T1 86 Try.f86 0 k [1,1,0,1,0] [] R (τ86 A B .full [] c i) = rd86 A B i c (fun d c => R (τ86 A B .fresh [row1 d] c (w64 (i + 1)))) (tr90 []) := by kernel_rfl
theorem r86b : roundAt T1 86 Try.f86 0 k [1,1,0,1,0] [] R (τ86 A B .fresh [y] c i) = rd86 A B i c (fun d c => R (τ86 A B .wide [y, row1 d] c (w64 (i + 1)))) (tr90 [y]) := by kernel_rfl
theorem r86c : roundAt T1 86 Try.f86 0 k [1,1,0,1,0] [] R (τ86 A B .wide out c i) = rd86 A B i c (fun d c => bif Nat.ble ((out.length + [row1 d].length) * 8) 140737488355328 then R (τ86 A B .wide (out ++ [row1 d]) c (w64 (i + 1))) else none) (tr90 out) := by kernel_rfl
def σ87 (A B out : List (List AV)) (i : Int) : St := ⟨tm 65 [(0, slR A), (1, slR B), (5, .sr 0), (6, i64 i)], [.arr 3 .wide out], []⟩
def τ87 (A B out : List (List AV)) (i c q : Int) : St := ⟨tm 65 [(0, slR A), (1, slR B), (5, .sr 0), (6, i64 i), (7, i64 c), (8, i64 q)], [.arr 3 .wide out], []⟩
def P87 : List Nat := [1,1,0,1,0]
def Q87 : List Nat := [1,1,0,1,0,0,1,0,0,1,1,0]
def sum87 (A B : List (List AV)) : Int := w64 ((A.length : Nat) + (B.length : Nat))
def zer (n : Int) : List (List AV) := List.replicate n.toNat [i64 0]
noncomputable def lo87 (k m : Nat) (A B out : List (List AV)) (i : Int) : Option Res := loopAt T1 87 Try.f87 0 k P87 [] m (σ87 A B out i)
noncomputable def li87 (k m n : Nat) (A B out : List (List AV)) (i c q : Int) : Option Res := loopAt T1 87 Try.f87 0 k Q87 [m] n (τ87 A B out i c q)
theorem b87 : ev T1 (k + 1) 87 [slR A, slR B] [] = bif decide (0 ≤ sum87 A B) && (decide (sum87 A B ≤ sum87 A B) && decide (sum87 A B * 8 ≤ 140737488355328)) then lo87 k k A B (zer (sum87 A B)) 0 else none := by kernel_rfl
theorem ro87 : roundAt T1 87 Try.f87 0 k P87 [] (loopAt T1 87 Try.f87 0 k P87 [] m) (σ87 A B out i) = bif decide (i < (A.length : Nat)) then li87 k m k A B out i 0 0 else tr90 out := by kernel_rfl
def mu87 (A B : List (List AV)) (i q c : Int) (K : Int → Option Res) : Option Res := bif decide (q < (B.length : Nat)) then inR A i (inR B q (K (w64 (c + w64 (nI A i * nI B q))))) else K c
def bd87 (A B out : List (List AV)) (i c q : Int) (K : List (List AV) → Int → Option Res) : Option Res :=
  inR out (w64 (i + q)) (mu87 A B i q (w64 (c + nI out (w64 (i + q)))) fun c => inR out (w64 (i + q)) (K (out.set (w64 (i + q)).toNat (putAt (out.getD (w64 (i + q)).toNat []) 0 [i64 (rm c)])) (qo c)))
theorem ri87 : roundAt T1 87 Try.f87 0 k Q87 [m] R (τ87 A B out i c q) = bif decide (q < (B.length : Nat)) then bd87 A B out i c q (fun out c => R (τ87 A B out i c (w64 (q + 1)))) else
  bif decide (c > 0) then bd87 A B out i c q (fun out c => R (τ87 A B out i c (w64 (q + 1)))) else lo87 k m A B out (w64 (i + 1)) := by kernel_rfl
end
end
end Go.Proofs.Ytgcdiccbehiijaa.W
namespace Go.Proofs.Ytgcdiccbehiijaa.W
open Go.Fw
set_option maxRecDepth 100000
noncomputable section
theorem r86 (k : Nat) (A B out : List (List AV)) (R : St → Option Res) (c i : Int) (h : out.length ≤ 200000) : roundAt T1 86 Try.f86 0 k [1,1,0,1,0] [] R (τ86 A B (kdl out) out c i) =
    rd86 A B i c (fun d c => R (τ86 A B (kdl (out ++ [row1 d])) (out ++ [row1 d]) c (w64 (i + 1)))) (tr90 out) := by
  match out, h with
  | [], _ => exact r86a k A B R i c
  | [y], _ => exact r86b k A B y R i c
  | x :: y :: xs, h =>
    refine (r86c k A B (x :: y :: xs) R i c).trans ?_
    have : (fun (d c : Int) => bif Nat.ble (((x :: y :: xs).length + [row1 d].length) * 8) 140737488355328 then R (τ86 A B .wide ((x :: y :: xs) ++ [row1 d]) c (w64 (i + 1))) else none) = fun d c => R (τ86 A B (kdl ((x :: y :: xs) ++ [row1 d])) ((x :: y :: xs) ++ [row1 d]) c (w64 (i + 1))) := by
      funext d c
      have hb : Nat.ble (((x :: y :: xs).length + [row1 d].length) * 8) 140737488355328 = true := by
        apply Nat.ble_eq_true_of_le
        have : [row1 d].length = 1 := rfl
        rw [this]; omega
      rw [hb]; rfl
    rw [this]
theorem tr90_low {k s : Nat} (h : dlen s ≤ k) (hk : k ≤ 200010) : tr90 (lowR k s) = rL (dRw s) := by
  unfold tr90
  have e : lowR k s = rowsN (lowD k s) := rfl
  have hl : isL (lowR k s) = true := by rw [e]; exact isL_of (by rw [lowD_len]; exact hk)
  rw [hl, e, digV_row, trim_low k s h]
  rfl
theorem rd86_eq {n m i : Nat} (hle : m ≤ n) (hi : i < dlen n) (K : Int → Int → Option Res) (F : Option Res) :
    rd86 (dRw n) (dRw m) (i : Nat) ((car (n - m) m i : Nat) : Int) K F = K ((dg (n - m) i : Nat) : Int) ((car (n - m) m (i + 1) : Nat) : Int) := by
  have hn : n - m + m = n := by omega
  have hs := car_step (n - m) m i
  rw [hn] at hs
  have b1 := dgt_lt n i
  have b2 := dgt_lt m i
  have b3 := dgt_lt (n - m) i
  have c1 := car_lt (n - m) m i
  have c2 := car_lt (n - m) m (i + 1)
  have hl : i < (dRw n).length := by rw [dRw_len]; exact hi
  unfold rd86
  rw [dRw_len, inR_on hl, nI_dg hi, decide_eq_true (by omega : ((i : Nat) : Int) < ((dlen n : Nat) : Int)), w64_in (by omega) (by omega)]
  have hsb : ∀ K2 : Int → Option Res, sb86 (dRw m) (i : Nat) (((dg n i : Nat) : Int) - ((car (n - m) m i : Nat) : Int)) K2 = K2 (((dg n i : Nat) : Int) - ((car (n - m) m i : Nat) : Int) - ((dg m i : Nat) : Int)) := fun K2 => by
    unfold sb86
    rw [dRw_len]
    by_cases h : i < dlen m
    · have hl2 : i < (dRw m).length := by rw [dRw_len]; exact h
      rw [decide_eq_true (by omega : ((i : Nat) : Int) < ((dlen m : Nat) : Int)), inR_on hl2, nI_dg h, w64_in (by omega) (by omega)]; rfl
    · rw [decide_eq_false (by omega : ¬ ((i : Nat) : Int) < ((dlen m : Nat) : Int)), dg_big (by omega : dlen m ≤ i)]
      have : (((dg n i : Nat) : Int) - ((car (n - m) m i : Nat) : Int) - ((0 : Nat) : Int)) = (((dg n i : Nat) : Int) - ((car (n - m) m i : Nat) : Int)) := by omega
      rw [this]; rfl
  rw [cond_true, hsb]
  unfold bw86
  by_cases h0 : car (n - m) m (i + 1) = 0
  · rw [decide_eq_false (by omega), h0]
    have : ((dg n i : Nat) : Int) - ((car (n - m) m i : Nat) : Int) - ((dg m i : Nat) : Int) = ((dg (n - m) i : Nat) : Int) := by omega
    rw [this]; rfl
  · have h1 : car (n - m) m (i + 1) = 1 := by omega
    rw [decide_eq_true (by omega), h1, w64_in (by omega) (by omega)]
    have : ((dg n i : Nat) : Int) - ((car (n - m) m i : Nat) : Int) - ((dg m i : Nat) : Int) + 32768 = ((dg (n - m) i : Nat) : Int) := by omega
    rw [this]; rfl
def F86 : List AV → List AObj → Ab Res := fun args st => match args, st with
  | [.sl 3 .any A, .sl 3 .any B], [] => some ((isDR A && isDR B) && Nat.ble (valR B) (valR A), (slR (dRw (valR A - valR B)), []))
  | _, _ => none
theorem loop86 (k n m : Nat) (hle : m ≤ n) (hn : dlen n ≤ 100000) (hk : dlen n < k) :
    loopAt T1 86 Try.f86 0 k [1,1,0,1,0] [] k (τ86 (dRw n) (dRw m) .full [] 0 0) = rL (dRw (n - m)) := by
  have key := loop_up (S := T1) (f := 86) (fn := Try.f86) (m := 0) (k := k) (p := [1,1,0,1,0]) (ms := []) (fun i => τ86 (dRw n) (dRw m) (kdl (lowR i (n - m))) (lowR i (n - m)) ((car (n - m) m i : Nat) : Int) ((i : Nat) : Int)) (dlen n) (fun _ => rL (dRw (n - m)))
    (fun i hi R hR => by
      refine (r86 k (dRw n) (dRw m) (lowR i (n - m)) R _ _ (by rw [lowR_len]; omega)).trans ?_
      rw [rd86_eq hle hi]
      have e3 : w64 (((i : Nat) : Int) + 1) = ((i + 1 : Nat) : Int) := by rw [w64_in] <;> omega
      have e4 : lowR i (n - m) ++ [row1 ((dg (n - m) i : Nat) : Int)] = lowR (i + 1) (n - m) := (lowR_snoc i (n - m)).symm
      rw [e3, e4]
      exact hR)
    (fun R => by
      refine (r86 k (dRw n) (dRw m) (lowR (dlen n) (n - m)) R _ _ (by rw [lowR_len]; omega)).trans ?_
      unfold rd86
      rw [dRw_len, decide_eq_false (by omega : ¬ ((dlen n : Nat) : Int) < ((dlen n : Nat) : Int))]
      exact tr90_low (dlen_mono (by omega)) (by omega))
    k 0 (Nat.zero_le _) (by omega)
  have e0 : τ86 (dRw n) (dRw m) (kdl (lowR 0 (n - m))) (lowR 0 (n - m)) ((car (n - m) m 0 : Nat) : Int) ((0 : Nat) : Int) = τ86 (dRw n) (dRw m) .full [] 0 0 := by
    rw [car_zero]; rfl
  rw [← e0]
  exact key
theorem told86 (args : List AV) (st : List AObj) (r : Res) (h : F86 args st = some (true, r)) : ∃ k, ev T1 k 86 args st = some r := by
  unfold F86 at h
  split at h
  · rename_i A B
    simp only [Option.some.injEq, Prod.mk.injEq, Bool.and_eq_true] at h
    obtain ⟨⟨⟨hA, hB⟩, hle⟩, rfl⟩ := h
    obtain ⟨n, rfl, hn⟩ := isDR_iff hA
    obtain ⟨m, rfl, hm⟩ := isDR_iff hB
    rw [valR_dRw, valR_dRw] at hle ⊢
    exact ⟨dlen n + 1 + 1, (b86 _ _ _).trans (loop86 _ n m (Nat.le_of_ble_eq_true hle) hn (by omega))⟩
  · cases h
theorem nI_low {L X j : Nat} (h : j < L) : nI (lowR L X) (j : Nat) = ((dg X j : Nat) : Int) := by
  unfold nI
  rw [Int.toNat_natCast, lowR_getD h]
theorem set_low {L X j d : Nat} (h : j < L) (hd : d < 32768) : (lowR L X).set j (putAt ((lowR L X).getD j []) 0 [i64 ((d : Nat) : Int)]) = lowR L (setD X j d) := by
  rw [← lowR_set hd h]
  congr 1
  have h2 : j < (lowR L X).length := by rw [lowR_len]; exact h
  have h3 : j < (lowD L X).length := by rw [lowD_len]; exact h
  have e1 : (lowR L X).getD j [] = (lowR L X)[j] := by simp [List.getD, List.getElem?_eq_getElem h2]
  have e2 : (lowR L X)[j] = [AV.k (.int .i64 (((lowD L X)[j] : Nat) : Int))] := rowsN_get h3
  rw [e1, e2]
  rfl
theorem zer_low (L : Nat) : zer (L : Nat) = lowR L 0 := by
  unfold zer lowR lowD rowsN
  rw [Int.toNat_natCast, List.map_map]
  have : ((fun (d : Nat) => [AV.k (.int .i64 (d : Int))]) ∘ dg 0) = fun _ => [i64 0] := by
    funext i
    have : dg 0 i = 0 := by unfold dg; simp
    show [AV.k (.int .i64 ((dg 0 i : Nat) : Int))] = _
    rw [this]; rfl
  rw [this, List.map_const', List.length_range]
section
variable {a b i L : Nat}
theorem bd87_eq {X c q : Nat} (hL : L = dlen a + dlen b) (hb : L ≤ 200000) (hi : i < dlen a) (hq : q ≤ dlen b) (hc : c < 32768) (K : List (List AV) → Int → Option Res) :
    bd87 (dRw a) (dRw b) (lowR L X) (i : Nat) (c : Nat) (q : Nat) K = K (lowR L (setD X (i + q) ((c + dg X (i + q) + dg a i * dg b q) % 32768))) (((c + dg X (i + q) + dg a i * dg b q) / 32768 : Nat) : Int) := by
  have hj : i + q < L := by omega
  have hj2 : i + q < (lowR L X).length := by rw [lowR_len]; exact hj
  have b1 := dgt_lt X (i + q)
  have b2 := dgt_lt a i
  have b3 := dgt_lt b q
  obtain ⟨k1, k2⟩ := carry_lt hc b1 b2 b3
  have ew : w64 (((i : Nat) : Int) + ((q : Nat) : Int)) = ((i + q : Nat) : Int) := by rw [w64_in] <;> omega
  unfold bd87
  rw [ew, inR_on hj2, nI_low hj]
  have hmu : ∀ K2 : Int → Option Res, mu87 (dRw a) (dRw b) (i : Nat) (q : Nat) (w64 (((c : Nat) : Int) + ((dg X (i + q) : Nat) : Int))) K2 = K2 ((c + dg X (i + q) + dg a i * dg b q : Nat) : Int) := fun K2 => by
    have ew1 : w64 (((c : Nat) : Int) + ((dg X (i + q) : Nat) : Int)) = ((c + dg X (i + q) : Nat) : Int) := by rw [w64_in] <;> omega
    unfold mu87
    rw [dRw_len, ew1]
    by_cases h : q < dlen b
    · have l1 : i < (dRw a).length := by rw [dRw_len]; exact hi
      have l2 : q < (dRw b).length := by rw [dRw_len]; exact h
      have hm : ((dg a i : Nat) : Int) * ((dg b q : Nat) : Int) = ((dg a i * dg b q : Nat) : Int) := by simp
      rw [decide_eq_true (by omega : ((q : Nat) : Int) < ((dlen b : Nat) : Int)), inR_on l1, inR_on l2, nI_dg hi, nI_dg h, hm, w64_in (n := ((dg a i * dg b q : Nat) : Int)) (by omega) (by omega), w64_in (by omega) (by omega)]
      have : ((c + dg X (i + q) : Nat) : Int) + ((dg a i * dg b q : Nat) : Int) = ((c + dg X (i + q) + dg a i * dg b q : Nat) : Int) := by omega
      rw [this]; rfl
    · rw [decide_eq_false (by omega : ¬ ((q : Nat) : Int) < ((dlen b : Nat) : Int)), dg_big (by omega : dlen b ≤ q), Nat.mul_zero, Nat.add_zero]
      rfl
  rw [hmu, inR_on hj2, rm_nat, qo_nat (by omega), Int.toNat_natCast, set_low hj (Nat.mod_lt _ (by omega))]
theorem bd87_last {X c : Nat} (hL : L = dlen a + dlen b) (hb : L ≤ 200000) (hi : i < dlen a) (hc : c < 32768) (hl : c + dg X (i + dlen b) < 32768) (K : List (List AV) → Int → Option Res) :
    bd87 (dRw a) (dRw b) (lowR L X) (i : Nat) (c : Nat) ((dlen b : Nat) : Int) K = K (lowR L (setD X (i + dlen b) ((c + dg X (i + dlen b)) % 32768))) 0 := by
  have h := bd87_eq (X := X) hL hb hi (Nat.le_refl (dlen b)) hc K
  have hdg : dg b (dlen b) = 0 := dg_big (Nat.le_refl _)
  have e0 : (c + dg X (i + dlen b)) / 32768 = 0 := Nat.div_eq_of_lt hl
  rw [hdg, Nat.mul_zero, Nat.add_zero, e0] at h
  exact h
theorem pickT {c : Bool} {X Y : Option Res} (h : c = true) : (bif c then X else Y) = X := by subst h; rfl
theorem pickF' {c : Bool} {X Y : Option Res} (h : c = false) : (bif c then X else Y) = Y := by subst h; rfl
theorem li87_succ (k m F : Nat) (A B out : List (List AV)) (i c q : Int) : li87 k m (F + 1) A B out i c q = bif decide (q < (B.length : Nat)) then bd87 A B out i c q (fun out c => li87 k m F A B out i c (w64 (q + 1))) else
    bif decide (c > 0) then bd87 A B out i c q (fun out c => li87 k m F A B out i c (w64 (q + 1))) else lo87 k m A B out (w64 (i + 1)) :=
  (loopAt_succ _ _ _ _ _ _ _ F _).trans (ri87 k m A B out (loopAt T1 87 Try.f87 0 k Q87 [m] F) i c q)
theorem li87_end {k m F X : Nat} (hb : L ≤ 200000) (hL : L = dlen a + dlen b) (hi : i < dlen a) {q : Nat} (hq : dlen b ≤ q) :
    li87 k m (F + 1) (dRw a) (dRw b) (lowR L X) (i : Nat) 0 (q : Nat) = lo87 k m (dRw a) (dRw b) (lowR L X) ((i + 1 : Nat) : Int) := by
  have ew : w64 (((i : Nat) : Int) + 1) = ((i + 1 : Nat) : Int) := by rw [w64_in] <;> omega
  have d1 : decide (((q : Nat) : Int) < ((dRw b).length : Nat)) = false := by rw [dRw_len]; exact decide_eq_false (by omega)
  have d2 : decide ((0 : Int) > 0) = false := rfl
  refine (li87_succ k m F _ _ _ _ _ _).trans ((pickF' d1).trans ((pickF' d2).trans ?_))
  rw [ew]
theorem li87_ok {k m : Nat} (hL : L = dlen a + dlen b) (hb : L ≤ 200000) (hi : i < dlen a) : ∀ (F q X c : Nat), q ≤ dlen b → c < 32768 → mulI a b i q X c → dlen b - q + 2 ≤ F →
    li87 k m F (dRw a) (dRw b) (lowR L X) (i : Nat) (c : Nat) (q : Nat) = lo87 k m (dRw a) (dRw b) (lowR L (a % 32768 ^ (i + 1) * b)) ((i + 1 : Nat) : Int)
  | 0, q, X, c, _, _, _, h => by omega
  | F + 1, q, X, c, hq, hc, hI, hF => by
    have hst := mul_step hI rfl
    have b1 := dgt_lt X (i + q)
    have b2 := dgt_lt a i
    have b3 := dgt_lt b q
    obtain ⟨k1, k2⟩ := carry_lt hc b1 b2 b3
    have eq1 : w64 (((q : Nat) : Int) + 1) = ((q + 1 : Nat) : Int) := by rw [w64_in] <;> omega
    by_cases h : q < dlen b
    · have d1 : decide (((q : Nat) : Int) < ((dRw b).length : Nat)) = true := by rw [dRw_len]; exact decide_eq_true (by omega)
      refine (li87_succ k m F _ _ _ _ _ _).trans ((pickT d1).trans ((bd87_eq hL hb hi hq hc _).trans ?_))
      rw [eq1]
      exact li87_ok hL hb hi F (q + 1) _ _ (by omega) k1 hst (by omega)
    · have hqe : q = dlen b := by omega
      subst hqe
      have d1 : decide (((dlen b : Nat) : Int) < ((dRw b).length : Nat)) = false := by rw [dRw_len]; exact decide_eq_false (by omega)
      by_cases h0 : c = 0
      · subst h0
        have := mul_end hI (Nat.le_refl _)
        rw [← this]
        exact li87_end hb hL hi (Nat.le_refl _)
      · have hl := mul_last hI
        have hdg : dg b (dlen b) = 0 := dg_big (Nat.le_refl _)
        rw [hdg, Nat.mul_zero] at hst
        have e0 : (c + dg X (i + dlen b) + 0) / 32768 = 0 := Nat.div_eq_of_lt hl
        rw [e0] at hst
        have hend := mul_end hst (Nat.le_succ _)
        have d2 : decide (((c : Nat) : Int) > 0) = true := decide_eq_true (by omega)
        refine (li87_succ k m F _ _ _ _ _ _).trans ((pickF' d1).trans ((pickT d2).trans ((bd87_last hL hb hi hc hl _).trans ?_)))
        rw [eq1]
        obtain ⟨F', rfl⟩ : ∃ F', F = F' + 1 := ⟨F - 1, by omega⟩
        have he := li87_end (k := k) (m := m) (F := F') (X := setD X (i + dlen b) ((c + dg X (i + dlen b)) % 32768)) hb hL hi (Nat.le_succ (dlen b))
        refine he.trans ?_
        have hend' : setD X (i + dlen b) ((c + dg X (i + dlen b)) % 32768) = a % 32768 ^ (i + 1) * b := hend
        rw [hend']
end
theorem lo87_succ (k m : Nat) (A B out : List (List AV)) (i : Int) : lo87 k (m + 1) A B out i = bif decide (i < (A.length : Nat)) then li87 k m k A B out i 0 0 else tr90 out :=
  (loopAt_succ _ _ _ _ _ _ _ m _).trans (ro87 k m A B out i)
theorem lo87_ok {a b L k : Nat} (hL : L = dlen a + dlen b) (hb : L ≤ 200000) (hk : dlen b + 2 ≤ k) : ∀ (m i : Nat), i ≤ dlen a → dlen a - i < m →
    lo87 k m (dRw a) (dRw b) (lowR L (a % 32768 ^ i * b)) (i : Nat) = rL (dRw (a * b))
  | 0, i, _, h => by omega
  | m + 1, i, hi, hm => by
    refine (lo87_succ k m (dRw a) (dRw b) (lowR L (a % 32768 ^ i * b)) _).trans ?_
    rw [dRw_len]
    by_cases h : i < dlen a
    · refine (pickT (decide_eq_true (by omega : ((i : Nat) : Int) < ((dlen a : Nat) : Int)))).trans ?_
      have := li87_ok (k := k) (m := m) hL hb h k 0 _ 0 (Nat.zero_le _) (by omega) (mul_start a b i) (by omega)
      exact this.trans (lo87_ok hL hb hk m (i + 1) h (by omega))
    · have he : i = dlen a := by omega
      subst he
      refine (pickF' (decide_eq_false (by omega : ¬ ((dlen a : Nat) : Int) < ((dlen a : Nat) : Int)))).trans ?_
      rw [mod_dlen (Nat.le_refl _)]
      exact tr90_low (by rw [hL]; exact dlen_mul a b) (by omega)
def F87 : List AV → List AObj → Ab Res := fun args st => match args, st with
  | [.sl 3 .any A, .sl 3 .any B], [] => some (isDR A && isDR B, (slR (dRw (valR A * valR B)), []))
  | _, _ => none
theorem told87 (args : List AV) (st : List AObj) (r : Res) (h : F87 args st = some (true, r)) : ∃ k, ev T1 k 87 args st = some r := by
  unfold F87 at h
  split at h
  · rename_i A B
    simp only [Option.some.injEq, Prod.mk.injEq, Bool.and_eq_true] at h
    obtain ⟨⟨hA, hB⟩, rfl⟩ := h
    obtain ⟨n, rfl, hn⟩ := isDR_iff hA
    obtain ⟨m, rfl, hm⟩ := isDR_iff hB
    rw [valR_dRw, valR_dRw]
    refine ⟨(dlen n + dlen m + 2) + 1, (b87 _ _ _).trans ?_⟩
    have es : sum87 (dRw n) (dRw m) = ((dlen n + dlen m : Nat) : Int) := by
      unfold sum87
      rw [dRw_len, dRw_len, w64_in] <;> omega
    rw [es, zer_low, decide_eq_true (by omega : 0 ≤ ((dlen n + dlen m : Nat) : Int)), decide_eq_true (by omega : ((dlen n + dlen m : Nat) : Int) ≤ ((dlen n + dlen m : Nat) : Int)), decide_eq_true (by omega : ((dlen n + dlen m : Nat) : Int) * 8 ≤ 140737488355328)]
    have e0 : lowR (dlen n + dlen m) 0 = lowR (dlen n + dlen m) (n % 32768 ^ 0 * m) := by simp [Nat.mod_one]
    rw [e0]
    refine (pickT rfl).trans ?_
    exact lo87_ok rfl (by omega) (by omega) _ 0 (Nat.zero_le _) (by omega)
  · cases h
end
end Go.Proofs.Ytgcdiccbehiijaa.W
