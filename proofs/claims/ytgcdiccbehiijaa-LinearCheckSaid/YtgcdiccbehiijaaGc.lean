/- A part of the proofs over these laws: what its functions come to. No conditions. -/
import Derived.Test.YtgcdiccbehiijaaFwZg
import Derived.Test.YtgcdiccbehiijaaGb
import Derived.Test.YtgcdiccbehiijaaG3
set_option linter.all false
namespace Go.Proofs.Ytgcdiccbehiijaa.W.U
open Go.Fw
noncomputable section
theorem div_lt_self64 {n : Nat} (h : n ≠ 0) : n / 18446744073709551616 < n := Nat.div_lt_self (Nat.pos_of_ne_zero h) (by omega)
def digs (n : Nat) : List Nat := if h : n = 0 then [] else (n % 18446744073709551616) :: digs (n / 18446744073709551616)
termination_by n
decreasing_by exact div_lt_self64 h
def dg (n i : Nat) : Nat := n / 18446744073709551616 ^ i % 18446744073709551616
def lowD (k n : Nat) : List Nat := (List.range k).map (dg n)
theorem digs_zero : digs 0 = [] := by rw [digs]; simp
theorem digs_pos {n : Nat} (h : n ≠ 0) : digs n = (n % 18446744073709551616) :: digs (n / 18446744073709551616) := by rw [digs]; simp [h]
theorem dg_zero (n : Nat) : dg n 0 = n % 18446744073709551616 := by simp [dg]
theorem dg_succ (n i : Nat) : dg n (i + 1) = dg (n / 18446744073709551616) i := by
  unfold dg
  rw [Nat.pow_succ, Nat.mul_comm, Nat.div_div_eq_div_mul]
theorem dgt_lt (n i : Nat) : dg n i < 18446744073709551616 := Nat.mod_lt _ (by omega)
theorem lowD_succ (k n : Nat) : lowD (k + 1) n = (n % 18446744073709551616) :: lowD k (n / 18446744073709551616) := by
  unfold lowD
  rw [List.range_succ_eq_map, List.map_cons, List.map_map, dg_zero]
  congr 1
  refine List.map_congr_left fun i _ => ?_
  rw [Function.comp_apply, Nat.succ_eq_add_one]
  exact dg_succ n i
theorem lowD_len (k n : Nat) : (lowD k n).length = k := by simp [lowD]
theorem lowD_get {k n i : Nat} (h : i < k) : (lowD k n)[i]'(by rw [lowD_len]; exact h) = dg n i := by simp [lowD]
theorem lowD_snoc (k n : Nat) : lowD (k + 1) n = lowD k n ++ [dg n k] := by
  unfold lowD
  rw [List.range_succ, List.map_append]; rfl
theorem digs_low : ∀ (k n : Nat), n < 18446744073709551616 ^ k → (k = 0 ∨ 18446744073709551616 ^ (k - 1) ≤ n) → digs n = lowD k n
  | 0, n, h, _ => by
    have : n = 0 := by simpa using h
    subst this
    rw [digs_zero]; rfl
  | k + 1, n, h, h2 => by
    have hle : 18446744073709551616 ^ k ≤ n := by
      rcases h2 with h2 | h2
      · omega
      · simpa using h2
    have hp : 0 < 18446744073709551616 ^ k := Nat.pow_pos (by omega)
    have hn : n ≠ 0 := by omega
    rw [digs_pos hn, lowD_succ]
    congr 1
    refine digs_low k (n / 18446744073709551616) ?_ ?_
    · rw [Nat.div_lt_iff_lt_mul (by omega)]
      rw [Nat.pow_succ] at h; exact h
    · rcases Nat.eq_zero_or_pos k with hk | hk
      · exact .inl hk
      · right
        rw [Nat.le_div_iff_mul_le (by omega)]
        have : 18446744073709551616 ^ (k - 1) * 18446744073709551616 = 18446744073709551616 ^ k := by rw [← Nat.pow_succ]; congr 1; omega
        rw [this]; exact hle
def dlen (n : Nat) : Nat := (digs n).length
theorem dlen_spec : ∀ (n : Nat), n < 18446744073709551616 ^ dlen n ∧ (dlen n = 0 ∨ 18446744073709551616 ^ (dlen n - 1) ≤ n) := by
  intro n
  induction n using Nat.strongRecOn with
  | ind n ih =>
    by_cases hn : n = 0
    · subst hn
      unfold dlen
      rw [digs_zero]
      exact ⟨by simp, .inl rfl⟩
    · have h1 : dlen n = dlen (n / 18446744073709551616) + 1 := by unfold dlen; rw [digs_pos hn]; rfl
      obtain ⟨h2, h3⟩ := ih (n / 18446744073709551616) (div_lt_self64 hn)
      rw [h1]
      refine ⟨?_, .inr ?_⟩
      · rw [Nat.pow_succ]
        exact (Nat.div_lt_iff_lt_mul (by omega)).1 h2
      · rw [Nat.add_sub_cancel]
        rcases h3 with h3 | h3
        · rw [h3]; simp; omega
        · rcases Nat.eq_zero_or_pos (dlen (n / 18446744073709551616)) with hk | hk
          · rw [hk]; simp; omega
          · have : 18446744073709551616 ^ (dlen (n / 18446744073709551616) - 1) * 18446744073709551616 = 18446744073709551616 ^ dlen (n / 18446744073709551616) := by rw [← Nat.pow_succ]; congr 1; omega
            rw [← this]
            exact (Nat.le_div_iff_mul_le (by omega)).1 h3
theorem dlen_le {n k : Nat} : dlen n ≤ k ↔ n < 18446744073709551616 ^ k := by
  obtain ⟨h1, h2⟩ := dlen_spec n
  constructor
  · intro h; exact Nat.lt_of_lt_of_le h1 (Nat.pow_le_pow_right (by omega) h)
  · intro h
    rcases h2 with h2 | h2
    · omega
    · apply Nat.le_of_not_lt
      intro hlt
      have := Nat.pow_le_pow_right (n := 18446744073709551616) (by omega) (by omega : k ≤ dlen n - 1)
      omega
theorem digs_eq (n : Nat) : digs n = lowD (dlen n) n := digs_low _ n (dlen_spec n).1 (dlen_spec n).2
theorem dg_big {n i : Nat} (h : dlen n ≤ i) : dg n i = 0 := by
  unfold dg
  rw [Nat.div_eq_of_lt (dlen_le.1 h)]
theorem dlen_zero : dlen 0 = 0 := by unfold dlen; rw [digs_zero]; rfl
theorem mod_succ (n i : Nat) : n % 18446744073709551616 ^ (i + 1) = n % 18446744073709551616 ^ i + dg n i * 18446744073709551616 ^ i := by
  unfold dg
  rw [Nat.pow_succ, Nat.mod_mul, Nat.mul_comm (n / 18446744073709551616 ^ i % 18446744073709551616)]
theorem mod_dlen {n k : Nat} (h : dlen n ≤ k) : n % 18446744073709551616 ^ k = n := Nat.mod_eq_of_lt (dlen_le.1 h)
theorem dg_mod {n k i : Nat} (h : i < k) : dg (n % 18446744073709551616 ^ k) i = dg n i := by
  unfold dg
  have e : 18446744073709551616 ^ k = 18446744073709551616 ^ i * (18446744073709551616 * 18446744073709551616 ^ (k - i - 1)) := by
    rw [← Nat.mul_assoc, ← Nat.pow_succ, ← Nat.pow_add]
    congr 1; omega
  rw [e, Nat.mod_mul_right_div_self, Nat.mod_mul_right_mod]
def car (n m i : Nat) : Nat := (n % 18446744073709551616 ^ i + m % 18446744073709551616 ^ i) / 18446744073709551616 ^ i
theorem car_zero (n m : Nat) : car n m 0 = 0 := by unfold car; simp [Nat.mod_one]
theorem sum_split (n m i : Nat) : n % 18446744073709551616 ^ i + m % 18446744073709551616 ^ i = car n m i * 18446744073709551616 ^ i + (n + m) % 18446744073709551616 ^ i := by
  unfold car
  have h := Nat.div_add_mod (n % 18446744073709551616 ^ i + m % 18446744073709551616 ^ i) (18446744073709551616 ^ i)
  have e : (n % 18446744073709551616 ^ i + m % 18446744073709551616 ^ i) % 18446744073709551616 ^ i = (n + m) % 18446744073709551616 ^ i := by rw [← Nat.add_mod]
  rw [e, Nat.mul_comm] at h
  exact h.symm
theorem car_step (n m i : Nat) : car n m i + dg n i + dg m i = car n m (i + 1) * 18446744073709551616 + dg (n + m) i := by
  have hp : 0 < 18446744073709551616 ^ i := Nat.pow_pos (by omega)
  have h0 := sum_split n m i
  have h1 := sum_split n m (i + 1)
  rw [mod_succ n, mod_succ m, mod_succ (n + m)] at h1
  have hpow : 18446744073709551616 ^ (i + 1) = 18446744073709551616 * 18446744073709551616 ^ i := by rw [Nat.pow_succ, Nat.mul_comm]
  rw [hpow] at h1
  generalize 18446744073709551616 ^ i = P at *
  generalize car n m i = c at *
  generalize car n m (i + 1) = d at *
  generalize dg n i = a at *
  generalize dg m i = b at *
  generalize dg (n + m) i = s at *
  generalize n % P = x at *
  generalize m % P = y at *
  generalize (n + m) % P = z at *
  have e : (c + a + b) * P = (d * 18446744073709551616 + s) * P := by
    rw [Nat.add_mul, Nat.add_mul, Nat.add_mul, Nat.mul_assoc d 18446744073709551616 P]
    omega
  exact Nat.eq_of_mul_eq_mul_right hp e
theorem car_lt (n m i : Nat) : car n m i < 2 := by
  have hp : 0 < 18446744073709551616 ^ i := Nat.pow_pos (by omega)
  unfold car
  rw [Nat.div_lt_iff_lt_mul hp]
  have h1 := Nat.mod_lt n hp
  have h2 := Nat.mod_lt m hp
  omega
theorem top_split (n i : Nat) : n / 18446744073709551616 ^ i = n / 18446744073709551616 ^ (i + 1) * 18446744073709551616 + dg n i := by
  unfold dg
  have e : n / 18446744073709551616 ^ (i + 1) = n / 18446744073709551616 ^ i / 18446744073709551616 := by rw [Nat.pow_succ, Nat.div_div_eq_div_mul]
  rw [e]
  omega
def cmpNat (n m : Nat) : Int := if n < m then -1 else if m < n then 1 else 0
theorem cmp_step {n m i : Nat} (h : n / 18446744073709551616 ^ (i + 1) = m / 18446744073709551616 ^ (i + 1)) :
    (dg n i < dg m i → n < m) ∧ (dg m i < dg n i → m < n) ∧ (dg n i = dg m i → n / 18446744073709551616 ^ i = m / 18446744073709551616 ^ i) := by
  have h1 := top_split n i
  have h2 := top_split m i
  rw [h] at h1
  refine ⟨fun hd => ?_, fun hd => ?_, fun hd => by rw [h1, h2, hd]⟩
  · apply Nat.lt_of_not_le
    intro hle
    have := Nat.div_le_div_right (c := 18446744073709551616 ^ i) hle
    omega
  · apply Nat.lt_of_not_le
    intro hle
    have := Nat.div_le_div_right (c := 18446744073709551616 ^ i) hle
    omega
theorem cmp_len {n m : Nat} (h : dlen n < dlen m) : n < m := by
  apply Nat.lt_of_not_le
  intro hle
  have h1 := (dlen_spec n).1
  have : dlen m ≤ dlen n := dlen_le.2 (Nat.lt_of_le_of_lt hle h1)
  omega
def trimL (l : List Nat) : List Nat := (l.reverse.dropWhile (· == 0)).reverse
theorem trim_snoc0 (l : List Nat) : trimL (l ++ [0]) = trimL l := by simp [trimL]
theorem trim_snoc (l : List Nat) {d : Nat} (h : d ≠ 0) : trimL (l ++ [d]) = l ++ [d] := by simp [trimL, h]
theorem trim_low : ∀ (k s : Nat), dlen s ≤ k → trimL (lowD k s) = digs s
  | 0, s, h => by
    have h0 : dlen s = 0 := by omega
    rw [digs_eq, h0]; rfl
  | k + 1, s, h => by
    rw [lowD_snoc]
    by_cases hk : dlen s ≤ k
    · rw [dg_big hk, trim_snoc0, trim_low k s hk]
    · have hd : dlen s = k + 1 := by omega
      have hne : dg s k ≠ 0 := by
        intro h0
        have h2 := (dlen_spec s).2
        rw [hd] at h2
        have h3 : 18446744073709551616 ^ k ≤ s := by
          rcases h2 with h2 | h2
          · omega
          · simpa using h2
        have h1 := (dlen_spec s).1
        rw [hd, Nat.pow_succ] at h1
        have hp : 0 < 18446744073709551616 ^ k := Nat.pow_pos (by omega)
        have h4 : 1 ≤ s / 18446744073709551616 ^ k := (Nat.le_div_iff_mul_le hp).2 (by omega)
        have h5 : s / 18446744073709551616 ^ k < 18446744073709551616 := (Nat.div_lt_iff_lt_mul hp).2 (by rw [Nat.mul_comm]; exact h1)
        unfold dg at h0
        rw [Nat.mod_eq_of_lt h5] at h0
        omega
      rw [trim_snoc _ hne, ← lowD_snoc, digs_eq, hd]
theorem pow_pos' (i : Nat) : 0 < 18446744073709551616 ^ i := Nat.pow_pos (by omega)
def setD (n j d : Nat) : Nat := n / 18446744073709551616 ^ (j + 1) * 18446744073709551616 ^ (j + 1) + d * 18446744073709551616 ^ j + n % 18446744073709551616 ^ j
theorem parts3 (n j : Nat) : n = n / 18446744073709551616 ^ (j + 1) * 18446744073709551616 ^ (j + 1) + dg n j * 18446744073709551616 ^ j + n % 18446744073709551616 ^ j := by
  have h := Nat.div_add_mod n (18446744073709551616 ^ (j + 1))
  rw [mod_succ, Nat.mul_comm] at h
  omega
theorem setD_eq (n j d : Nat) : setD n j d + dg n j * 18446744073709551616 ^ j = n + d * 18446744073709551616 ^ j := by
  have h := parts3 n j
  unfold setD
  omega
theorem dg_of {n j d q r : Nat} (hd : d < 18446744073709551616) (hr : r < 18446744073709551616 ^ j) (h : n = q * 18446744073709551616 ^ (j + 1) + d * 18446744073709551616 ^ j + r) : dg n j = d ∧ n % 18446744073709551616 ^ j = r ∧ n / 18446744073709551616 ^ (j + 1) = q := by
  have hp := pow_pos' j
  have e : n = (q * 18446744073709551616 + d) * 18446744073709551616 ^ j + r := by rw [h, Nat.pow_succ, Nat.add_mul, Nat.mul_assoc, Nat.mul_comm 18446744073709551616 (18446744073709551616 ^ j)]
  have h1 : n / 18446744073709551616 ^ j = q * 18446744073709551616 + d := by
    rw [e, Nat.mul_comm, Nat.mul_add_div hp, Nat.div_eq_of_lt hr, Nat.add_zero]
  have h2 : n % 18446744073709551616 ^ j = r := by
    rw [e, Nat.mul_comm, Nat.mul_add_mod, Nat.mod_eq_of_lt hr]
  refine ⟨?_, h2, ?_⟩
  · unfold dg
    rw [h1]; omega
  · rw [Nat.pow_succ, ← Nat.div_div_eq_div_mul, h1]; omega
theorem dg_set_self (n j : Nat) {d : Nat} (hd : d < 18446744073709551616) : dg (setD n j d) j = d := (dg_of hd (Nat.mod_lt _ (pow_pos' j)) rfl).1
theorem dg_set_ne (n : Nat) {j i d : Nat} (hd : d < 18446744073709551616) (h : i ≠ j) : dg (setD n j d) i = dg n i := by
  obtain ⟨_, h2, h3⟩ := dg_of (n := setD n j d) hd (Nat.mod_lt n (pow_pos' j)) rfl
  rcases Nat.lt_or_gt_of_ne h with hlt | hgt
  · rw [← dg_mod (n := setD n j d) hlt, h2, dg_mod hlt]
  · have e : ∀ m, dg m i = dg (m / 18446744073709551616 ^ (j + 1)) (i - (j + 1)) := fun m => by
      unfold dg
      rw [Nat.div_div_eq_div_mul, ← Nat.pow_add]
      congr 3; omega
    rw [e, e n, h3]
theorem lowD_set {k n j d : Nat} (hd : d < 18446744073709551616) (hj : j < k) : (lowD k n).set j d = lowD k (setD n j d) := by
  apply List.ext_getElem
  · rw [List.length_set, lowD_len, lowD_len]
  · intro i h1 h2
    rw [List.length_set, lowD_len] at h1
    rw [lowD_get (by omega), List.getElem_set]
    split
    · rename_i h
      rw [← h, dg_set_self n j hd]
    · rename_i h
      rw [lowD_get h1, dg_set_ne n hd (fun e => h e.symm)]
def rowsN (l : List Nat) : List (List AV) := l.map fun (d : Nat) => [AV.k (.int .u64 (d : Int))]
def dRw (n : Nat) : List (List AV) := rowsN (digs n)
def digV (r : List AV) : Nat := ((r.getD 0 .undef).toI).toNat
def valR (rows : List (List AV)) : Nat := rows.foldr (fun r acc => digV r + 18446744073709551616 * acc) 0
theorem rowsN_len (l : List Nat) : (rowsN l).length = l.length := by simp [rowsN]
theorem rowsN_get {l : List Nat} {i : Nat} (h : i < l.length) : (rowsN l)[i]'(by rw [rowsN_len]; exact h) = [AV.k (.int .u64 ((l[i] : Nat) : Int))] := by simp [rowsN]
theorem dRw_len (n : Nat) : (dRw n).length = dlen n := rowsN_len _
theorem valR_dRw : ∀ n : Nat, valR (dRw n) = n := by
  intro n
  induction n using Nat.strongRecOn with
  | ind n ih =>
    by_cases hn : n = 0
    · subst hn
      unfold dRw
      rw [digs_zero]; rfl
    · unfold dRw at ih ⊢
      rw [digs_pos hn]
      show digV [AV.k (.int .u64 ((n % 18446744073709551616 : Nat) : Int))] + 18446744073709551616 * valR (rowsN (digs (n / 18446744073709551616))) = n
      rw [ih _ (div_lt_self64 hn)]
      have : digV [AV.k (.int .u64 ((n % 18446744073709551616 : Nat) : Int))] = n % 18446744073709551616 := by
        show ((n % 18446744073709551616 : Nat) : Int).toNat = _
        exact Int.toNat_natCast _
      rw [this]; omega
def isDR (rows : List (List AV)) : Bool := Nat.ble rows.length 100000 && eqC rows (dRw (valR rows))
theorem isDR_iff {rows : List (List AV)} (h : isDR rows = true) : ∃ n, rows = dRw n ∧ dlen n ≤ 100000 := by
  unfold isDR at h
  rw [Bool.and_eq_true, eqC_iff] at h
  refine ⟨valR rows, h.2, ?_⟩
  rw [← dRw_len, ← h.2]
  exact Nat.le_of_ble_eq_true h.1
theorem isDR_of {n : Nat} (h : dlen n ≤ 100000) : isDR (dRw n) = true := by
  unfold isDR
  rw [valR_dRw, eqC_self, dRw_len, Nat.ble_eq_true_of_le h]; rfl
theorem dRw_get {n i : Nat} (h : i < dlen n) : (dRw n)[i]'(by rw [dRw_len]; exact h) = [AV.k (.int .u64 ((dg n i : Nat) : Int))] := by
  have h' : i < (digs n).length := h
  unfold dRw
  rw [rowsN_get h']
  have e : (digs n)[i] = dg n i := by
    have : ∀ (l : List Nat) (hl : i < l.length), l = lowD (dlen n) n → l[i] = dg n i := fun l hl e => by
      subst e
      exact lowD_get (by rw [lowD_len] at hl; exact hl)
    exact this _ _ (digs_eq n)
  rw [e]
theorem dRw_getD (n : Nat) (i : Nat) : (((dRw n).getD i []).getD 0 .undef).toI = if i < dlen n then ((dg n i : Nat) : Int) else AV.undef.toI := by
  by_cases h : i < dlen n
  · rw [if_pos h]
    have h2 : i < (dRw n).length := by rw [dRw_len]; exact h
    have : (dRw n).getD i [] = (dRw n)[i] := by simp [List.getD, List.getElem?_eq_getElem h2]
    rw [this, dRw_get h]; rfl
  · rw [if_neg h]
    have h2 : ¬ i < (dRw n).length := by rw [dRw_len]; exact h
    have : (dRw n).getD i [] = [] := by simp [List.getD, List.getElem?_eq_none (by omega : (dRw n).length ≤ i)]
    rw [this]; rfl
def lowR (k n : Nat) : List (List AV) := rowsN (lowD k n)
theorem lowR_len (k n : Nat) : (lowR k n).length = k := by unfold lowR; rw [rowsN_len, lowD_len]
theorem lowR_snoc (k n : Nat) : lowR (k + 1) n = lowR k n ++ [[AV.k (.int .u64 ((dg n k : Nat) : Int))]] := by unfold lowR rowsN; rw [lowD_snoc, List.map_append]; rfl
theorem dRw_low (n : Nat) : dRw n = lowR (dlen n) n := by
  have : ∀ l, l = lowD (dlen n) n → rowsN l = lowR (dlen n) n := fun l e => by subst e; rfl
  exact this _ (digs_eq n)
theorem lowR_getD {k n i : Nat} (h : i < k) : (((lowR k n).getD i []).getD 0 .undef).toI = ((dg n i : Nat) : Int) := by
  have h2 : i < (lowR k n).length := by rw [lowR_len]; exact h
  have h3 : i < (lowD k n).length := by rw [lowD_len]; exact h
  have : (lowR k n).getD i [] = (lowR k n)[i] := by simp [List.getD, List.getElem?_eq_getElem h2]
  have e : (lowR k n)[i] = [AV.k (.int .u64 (((lowD k n)[i] : Nat) : Int))] := rowsN_get h3
  rw [this, e, lowD_get h]; rfl
theorem lowR_set {k n j d : Nat} (hd : d < 18446744073709551616) (hj : j < k) : (lowR k n).set j [AV.k (.int .u64 ((d : Nat) : Int))] = lowR k (setD n j d) := by
  unfold lowR
  rw [← lowD_set hd hj]
  unfold rowsN
  rw [List.map_set]
theorem dlen_add (n m : Nat) : dlen (n + m) ≤ max (dlen n) (dlen m) + 1 := by
  rw [dlen_le]
  have h1 := Nat.lt_of_lt_of_le (dlen_spec n).1 (Nat.pow_le_pow_right (n := 18446744073709551616) (by omega) (Nat.le_max_left (dlen n) (dlen m)))
  have h2 := Nat.lt_of_lt_of_le (dlen_spec m).1 (Nat.pow_le_pow_right (n := 18446744073709551616) (by omega) (Nat.le_max_right (dlen n) (dlen m)))
  rw [Nat.pow_succ]
  omega
theorem dlen_mul (n m : Nat) : dlen (n * m) ≤ dlen n + dlen m := by
  rw [dlen_le, Nat.pow_add]
  exact Nat.mul_lt_mul_of_lt_of_le (dlen_spec n).1 (Nat.le_of_lt (dlen_spec m).1) (pow_pos' _)
theorem dlen_mono {n m : Nat} (h : n ≤ m) : dlen n ≤ dlen m := dlen_le.2 (Nat.lt_of_le_of_lt h (dlen_spec m).1)
end
end Go.Proofs.Ytgcdiccbehiijaa.W.U
namespace Go.Proofs.Ytgcdiccbehiijaa.W.U
open Go.Fw
set_option maxRecDepth 100000
noncomputable section
def slU (rows : List (List AV)) : AV := .sl 93 .any rows
def rU (rows : List (List AV)) : Option Res := some (slU rows, [])
section
variable (k : Nat) (A B out : List (List AV)) (y : List AV) (R : St → Option Res) (i c : Int)
def σ88 (A : List (List AV)) : St := ⟨tm 21 [(0, slU A)], [], []⟩
theorem b88 : ev sysC3 (k + 1) 88 [slU A] [] = loopAt sysC3 88 Try.f88 0 k [1,0,0] [] k (σ88 A) := by kernel_rfl
theorem r88 : roundAt sysC3 88 Try.f88 0 k [1,0,0] [] R (σ88 A) = bif decide (((A.length : Nat) : Int) > 0) then inR A (len1 A) (bif nI A (len1 A) == 0 then (bif (decide (0 ≤ len1 A) && decide (len1 A ≤ (A.length : Nat))) && true then R (σ88 ((A.drop 0).take ((len1 A).toNat - 0))) else none) else rU A) else rU A := by kernel_rfl
def σ74 (A B : List (List AV)) (i : Int) : St := ⟨tm 43 [(0, slU A), (1, slU B), (5, i64 i)], [], []⟩
theorem b74 : ev sysC3 (k + 1) 74 [slU A, slU B] [] = bif !(((A.length : Nat) : Int) == ((B.length : Nat) : Int)) then (bif decide (((A.length : Nat) : Int) < ((B.length : Nat) : Int)) then r1 (-1) else r1 1) else loopAt sysC3 74 Try.f74 0 k [1,1,0,1,0] [] k (σ74 A B (len1 A)) := by kernel_rfl
theorem r74 : roundAt sysC3 74 Try.f74 0 k [1,1,0,1,0] [] R (σ74 A B i) = bif decide (i ≥ 0) then inR A i (inR B i (bif decide (nI A i < nI B i) then r1 (-1) else inR A i (inR B i (bif decide (nI A i > nI B i) then r1 1 else R (σ74 A B (w64 (i - 1))))))) else r1 0 := by kernel_rfl
end
end
end Go.Proofs.Ytgcdiccbehiijaa.W.U
namespace Go.Proofs.Ytgcdiccbehiijaa.W.U
open Go.Fw
set_option maxRecDepth 100000
noncomputable section
def isL (A : List (List AV)) : Bool := Nat.ble A.length 200010 && eqC A (rowsN (A.map digV))
theorem digV_row (l : List Nat) : (rowsN l).map digV = l := by
  unfold rowsN
  rw [List.map_map]
  have : (digV ∘ fun (d : Nat) => [AV.k (.int .u64 (d : Int))]) = id := by
    funext d
    show ((d : Int)).toNat = d
    exact Int.toNat_natCast d
  rw [this, List.map_id]
theorem isL_of {l : List Nat} (h : l.length ≤ 200010) : isL (rowsN l) = true := by
  unfold isL
  rw [digV_row, eqC_self, rowsN_len, Nat.ble_eq_true_of_le h]; rfl
def F88 : List AV → List AObj → Ab Res := fun args st => match args, st with
  | [.sl 93 .any A], [] => some (isL A, (slU (rowsN (trimL (A.map digV))), []))
  | _, _ => none
theorem loop88 (k : Nat) : ∀ (n : Nat) (l : List Nat), l.length < n → l.length ≤ 200010 → loopAt sysC3 88 Try.f88 0 k [1,0,0] [] n (σ88 (rowsN l)) = rU (rowsN (trimL l))
  | 0, l, h, _ => by omega
  | n + 1, l, h, hb => by
    rw [loopAt_succ]
    refine (r88 k (rowsN l) _).trans ?_
    rcases List.eq_nil_or_concat l with rfl | ⟨l', d, rfl⟩
    · rfl
    · have hl : (l' ++ [d]).length = l'.length + 1 := by simp
      rw [List.concat_eq_append] at hb h ⊢
      have e1 : len1 (rowsN (l' ++ [d])) = (l'.length : Nat) := by
        unfold len1
        rw [rowsN_len, hl, w64_in] <;> omega
      have hlt : l'.length < (rowsN (l' ++ [d])).length := by rw [rowsN_len, hl]; omega
      have e2 : nI (rowsN (l' ++ [d])) (l'.length : Nat) = (d : Int) := by
        unfold nI
        rw [Int.toNat_natCast]
        have hh : l'.length < (l' ++ [d]).length := by omega
        have : (rowsN (l' ++ [d])).getD l'.length [] = (rowsN (l' ++ [d]))[l'.length] := by simp [List.getD, List.getElem?_eq_getElem hlt]
        rw [this, rowsN_get hh]
        simp
        rfl
      have e3 : ((rowsN (l' ++ [d])).drop 0).take (((l'.length : Nat) : Int).toNat - 0) = rowsN l' := by
        rw [Int.toNat_natCast, List.drop_zero, Nat.sub_zero]
        unfold rowsN
        rw [List.map_append, List.take_left' (by simp)]
      rw [e1, inR_on hlt, e2, e3, rowsN_len, hl, decide_eq_true (by omega : ((l'.length + 1 : Nat) : Int) > 0), decide_eq_true (by omega : 0 ≤ ((l'.length : Nat) : Int)), decide_eq_true (by omega : ((l'.length : Nat) : Int) ≤ ((l'.length + 1 : Nat) : Int))]
      by_cases hd : d = 0
      · subst hd
        have ih := loop88 k n l' (by omega) (by omega)
        rw [trim_snoc0]
        exact ih
      · have : (((d : Nat) : Int) == 0) = false := by rw [beq_eq_false_iff_ne]; omega
        rw [this, trim_snoc _ hd]; rfl
theorem told88 (args : List AV) (st : List AObj) (r : Res) (h : F88 args st = some (true, r)) : ∃ k, ev sysC3 k 88 args st = some r := by
  unfold F88 at h
  split at h
  · rename_i A
    simp only [Option.some.injEq, Prod.mk.injEq] at h
    obtain ⟨h1, rfl⟩ := h
    unfold isL at h1
    rw [Bool.and_eq_true, eqC_iff] at h1
    obtain ⟨h1, h2⟩ := h1
    have h1 := Nat.le_of_ble_eq_true h1
    generalize A.map digV = l at h2
    subst h2
    rw [rowsN_len] at h1
    exact ⟨l.length + 1 + 1, (b88 _ _).trans (loop88 _ _ l (by omega) h1)⟩
  · cases h
theorem nI_dg {n i : Nat} (h : i < dlen n) : nI (dRw n) (i : Nat) = ((dg n i : Nat) : Int) := by
  unfold nI
  rw [Int.toNat_natCast, dRw_getD, if_pos h]
def F74 : List AV → List AObj → Ab Res := fun args st => match args, st with
  | [.sl 93 .any A, .sl 93 .any B], [] => some (isDR A && isDR B, (i64 (cmpNat (valR A) (valR B)), []))
  | _, _ => none
theorem loop74 (k n m : Nat) (he : dlen n = dlen m) (hb : dlen n ≤ 100000) : ∀ (j q : Nat), j ≤ dlen n → n / 18446744073709551616 ^ j = m / 18446744073709551616 ^ j → j < q →
    loopAt sysC3 74 Try.f74 0 k [1,1,0,1,0] [] q (σ74 (dRw n) (dRw m) ((j : Int) - 1)) = r1 (cmpNat n m)
  | _, 0, _, _, h => by omega
  | 0, q + 1, _, hq, _ => by
    rw [loopAt_succ]
    refine (r74 k (dRw n) (dRw m) _ _).trans ?_
    rw [decide_eq_false (by omega : ¬ (((0 : Nat) : Int) - 1 ≥ 0))]
    have : n = m := by simpa using hq
    subst this
    unfold cmpNat
    rw [if_neg (Nat.lt_irrefl _), if_neg (Nat.lt_irrefl _)]
    rfl
  | j + 1, q + 1, hj, hq, hlt => by
    rw [loopAt_succ]
    have ej : (((j + 1 : Nat) : Int) - 1) = ((j : Nat) : Int) := by omega
    rw [ej]
    refine (r74 k (dRw n) (dRw m) _ _).trans ?_
    have l1 : j < (dRw n).length := by rw [dRw_len]; omega
    have l2 : j < (dRw m).length := by rw [dRw_len]; omega
    rw [inR_on l1, inR_on l2, nI_dg (by omega : j < dlen n), nI_dg (by omega : j < dlen m), decide_eq_true (by omega : ((j : Nat) : Int) ≥ 0), inR_on l1, inR_on l2]
    obtain ⟨c1, c2, c3⟩ := cmp_step hq
    have ew : w64 (((j : Nat) : Int) - 1) = ((j : Nat) : Int) - 1 := w64_in (by omega) (by omega)
    rw [ew]
    by_cases h1 : dg n j < dg m j
    · rw [decide_eq_true (by omega : ((dg n j : Nat) : Int) < ((dg m j : Nat) : Int))]
      have := c1 h1
      unfold cmpNat
      rw [if_pos this]; rfl
    · rw [decide_eq_false (by omega : ¬ ((dg n j : Nat) : Int) < ((dg m j : Nat) : Int))]
      by_cases h2 : dg m j < dg n j
      · rw [decide_eq_true (by omega : ((dg n j : Nat) : Int) > ((dg m j : Nat) : Int))]
        have := c2 h2
        unfold cmpNat
        rw [if_neg (by omega), if_pos this]; rfl
      · rw [decide_eq_false (by omega : ¬ ((dg n j : Nat) : Int) > ((dg m j : Nat) : Int))]
        exact loop74 k n m he hb j q (by omega) (c3 (by omega)) (by omega)
theorem told74 (args : List AV) (st : List AObj) (r : Res) (h : F74 args st = some (true, r)) : ∃ k, ev sysC3 k 74 args st = some r := by
  unfold F74 at h
  split at h
  · rename_i A B
    simp only [Option.some.injEq, Prod.mk.injEq, Bool.and_eq_true] at h
    obtain ⟨⟨hA, hB⟩, rfl⟩ := h
    obtain ⟨n, rfl, hn⟩ := isDR_iff hA
    obtain ⟨m, rfl, hm⟩ := isDR_iff hB
    rw [valR_dRw, valR_dRw]
    refine ⟨dlen n + 1 + 1, (b74 _ _ _).trans ?_⟩
    rw [dRw_len, dRw_len]
    by_cases he : dlen n = dlen m
    · have : (((dlen n : Nat) : Int) == ((dlen m : Nat) : Int)) = true := by rw [beq_iff_eq]; omega
      have e1 : len1 (dRw n) = ((dlen n : Nat) : Int) - 1 := by
        unfold len1
        rw [dRw_len, w64_in] <;> omega
      rw [this, e1]
      refine (loop74 _ n m he hn (dlen n) _ (Nat.le_refl _) ?_ (by omega))
      rw [Nat.div_eq_of_lt (dlen_spec n).1, he, Nat.div_eq_of_lt (dlen_spec m).1]
    · have : (((dlen n : Nat) : Int) == ((dlen m : Nat) : Int)) = false := by rw [beq_eq_false_iff_ne]; omega
      rw [this]
      by_cases h1 : dlen n < dlen m
      · rw [decide_eq_true (by omega : ((dlen n : Nat) : Int) < ((dlen m : Nat) : Int))]
        have := cmp_len h1
        unfold cmpNat
        rw [if_pos this]; rfl
      · rw [decide_eq_false (by omega : ¬ ((dlen n : Nat) : Int) < ((dlen m : Nat) : Int))]
        have := cmp_len (by omega : dlen m < dlen n)
        unfold cmpNat
        rw [if_neg (by omega), if_pos this]; rfl
  · cases h
end
end Go.Proofs.Ytgcdiccbehiijaa.W.U
namespace Go.Proofs.Ytgcdiccbehiijaa.W.U
open Go.Fw
set_option maxRecDepth 100000
noncomputable section
noncomputable def N1 : FSys := (sysC3.tell 88 F88).tell 74 F74
def tr88 (A : List (List AV)) : Option Res := bif isL A then rU (rowsN (trimL (A.map digV))) else none
def stU (out : List (List AV)) (i v : Int) : List (List AV) := out.set i.toNat (putAt (out.getD i.toNat []) 0 [u64 v])
def zerU (n : Int) : List (List AV) := List.replicate n.toNat [u64 0]
def mkU (n : Int) (X : Option Res) : Option Res := bif decide (0 ≤ n) && (decide (n ≤ n) && decide (n * 8 ≤ 140737488355328)) then X else none
def adC (x y c : Int) : Bool := decide (0 ≤ x) && (decide (0 ≤ y) && (decide (0 ≤ c) && decide (c ≤ 1)))
def sbC (x y c : Int) : Bool := decide (0 ≤ x) && (decide (0 ≤ y) && (decide (y < 18446744073709551616) && (decide (0 ≤ c) && decide (c ≤ 1))))
def nN (b : Bool) (X : Option Res) : Option Res := bif b then X else none
def yB (B : List (List AV)) (i : Int) (K : Int → Option Res) : Option Res := bif decide (i < (B.length : Nat)) then inR B i (K (nI B i)) else K 0
def P72 : List Nat := [1,1,1,0,1,0]
def P73 : List Nat := [1,1,1,1,0,1,0]
section
variable (k : Nat) (A B out : List (List AV)) (R : St → Option Res) (i c l x : Int)
def σ72 (A : List (List AV)) (x : Int) (out : List (List AV)) (c l i : Int) : St := ⟨tm 49 [(0, slU A), (1, u64 x), (5, .sr 0), (6, u64 c), (16, slU A), (17, i64 l), (18, i64 i)], [.arr 93 .wide out], []⟩
theorem b72 : ev N1 (k + 1) 72 [slU A, u64 x] [] = mkU (w64 ((A.length : Nat) + 1)) (loopAt N1 72 Try.f72 0 k P72 [] k (σ72 A x (zerU (w64 ((A.length : Nat) + 1))) 0 (A.length : Nat) 0)) := by kernel_rfl
def pl72 (y x c : Int) : Int := y * x % 18446744073709551616 + c + 0
theorem r72 : roundAt N1 72 Try.f72 0 k P72 [] R (σ72 A x out c l i) = bif decide (i < l) then inR A i (nN (isU (nI A i) && isU x) (nN (adC (nI A i * x % 18446744073709551616) c 0) (inR out i (R (σ72 A x (stU out i (pl72 (nI A i) x c % 18446744073709551616)) (wU (nI A i * x / 18446744073709551616 + pl72 (nI A i) x c / 18446744073709551616)) l (w64 (i + 1))))))) else inR out (A.length : Nat) (tr88 (stU out (A.length : Nat) c)) := by kernel_rfl
def σ75 (A B : List (List AV)) (out : List (List AV)) (c l i : Int) : St := ⟨tm 41 [(1, slU B), (5, .sr 0), (6, u64 c), (13, slU A), (14, i64 l), (15, i64 i)], [.arr 93 .wide out], []⟩
theorem b75 : ev N1 (k + 1) 75 [slU A, slU B] [] = mkU ((A.length : Nat) : Int) (loopAt N1 75 Try.f75 0 k P72 [] k (σ75 A B (zerU (A.length : Nat)) 0 (A.length : Nat) 0)) := by kernel_rfl
theorem r75 : roundAt N1 75 Try.f75 0 k P72 [] R (σ75 A B out c l i) = bif decide (i < l) then inR A i (yB B i fun y => nN (sbC (nI A i) y c) (inR out i (R (σ75 A B (stU out i ((nI A i + 18446744073709551616 - y - c) % 18446744073709551616)) (bif decide (nI A i < y + c) then 1 else 0) l (w64 (i + 1)))))) else tr88 out := by kernel_rfl
def σ73 (A B : List (List AV)) (out : List (List AV)) (c l i : Int) : St := ⟨tm 54 [(0, slU A), (1, slU B), (5, .sr 0), (6, u64 c), (21, slU A), (22, i64 l), (23, i64 i)], [.arr 93 .wide out], []⟩
noncomputable def go73 (k : Nat) (A B : List (List AV)) : Option Res := mkU (w64 ((A.length : Nat) + 1)) (loopAt N1 73 Try.f73 0 k P73 [] k (σ73 A B (zerU (w64 ((A.length : Nat) + 1))) 0 (A.length : Nat) 0))
theorem b73 : ev N1 (k + 1) 73 [slU A, slU B] [] = bif decide (((A.length : Nat) : Int) < ((B.length : Nat) : Int)) then go73 k B A else go73 k A B := by kernel_rfl
theorem r73 : roundAt N1 73 Try.f73 0 k P73 [] R (σ73 A B out c l i) = bif decide (i < l) then inR A i (yB B i fun y => nN (adC (nI A i) y c) (inR out i (R (σ73 A B (stU out i ((nI A i + y + c) % 18446744073709551616)) ((nI A i + y + c) / 18446744073709551616) l (w64 (i + 1)))))) else inR out (A.length : Nat) (tr88 (stU out (A.length : Nat) c)) := by kernel_rfl
end
end
end Go.Proofs.Ytgcdiccbehiijaa.W.U
namespace Go.Proofs.Ytgcdiccbehiijaa.W.U
open Go.Fw
set_option maxRecDepth 100000
noncomputable section
theorem nI_low {L X j : Nat} (h : j < L) : nI (lowR L X) (j : Nat) = ((dg X j : Nat) : Int) := by
  unfold nI
  rw [Int.toNat_natCast, lowR_getD h]
theorem stU_low {L X j d : Nat} (h : j < L) (hd : d < 18446744073709551616) : stU (lowR L X) (j : Nat) ((d : Nat) : Int) = lowR L (setD X j d) := by
  unfold stU
  rw [Int.toNat_natCast, ← lowR_set hd h]
  congr 1
  have h2 : j < (lowR L X).length := by rw [lowR_len]; exact h
  have h3 : j < (lowD L X).length := by rw [lowD_len]; exact h
  have e1 : (lowR L X).getD j [] = (lowR L X)[j] := by simp [List.getD, List.getElem?_eq_getElem h2]
  have e2 : (lowR L X)[j] = [AV.k (.int .u64 (((lowD L X)[j] : Nat) : Int))] := rowsN_get h3
  rw [e1, e2]
  rfl
theorem zer_low (L : Nat) : zerU (L : Nat) = lowR L 0 := by
  unfold zerU lowR lowD rowsN
  rw [Int.toNat_natCast, List.map_map]
  have : ((fun (d : Nat) => [AV.k (.int .u64 (d : Int))]) ∘ dg 0) = fun _ => [u64 0] := by
    funext i
    show [AV.k (.int .u64 ((dg 0 i : Nat) : Int))] = _
    have : dg 0 i = 0 := by unfold dg; rw [Nat.zero_div, Nat.zero_mod]
    rw [this]; rfl
  rw [this, List.map_const', List.length_range]
theorem mod_set {X i : Nat} : setD (X % 18446744073709551616 ^ i) i (dg X i) = X % 18446744073709551616 ^ (i + 1) := by
  have h := setD_eq (X % 18446744073709551616 ^ i) i (dg X i)
  have h0 : dg (X % 18446744073709551616 ^ i) i = 0 := by
    unfold dg
    rw [Nat.div_eq_of_lt (Nat.mod_lt _ (pow_pos' i)), Nat.zero_mod]
  rw [h0, Nat.zero_mul, Nat.add_zero] at h
  rw [h, mod_succ]
theorem stU_dg {L X i : Nat} (h : i < L) : stU (lowR L (X % 18446744073709551616 ^ i)) (i : Nat) ((dg X i : Nat) : Int) = lowR L (X % 18446744073709551616 ^ (i + 1)) := by
  rw [stU_low h (dgt_lt X i), mod_set]
theorem tr88_low {L s : Nat} (h : dlen s ≤ L) (hk : L ≤ 200010) : tr88 (lowR L s) = rU (dRw s) := by
  unfold tr88
  have e : lowR L s = rowsN (lowD L s) := rfl
  have hl : isL (lowR L s) = true := by rw [e]; exact isL_of (by rw [lowD_len]; exact hk)
  rw [hl, e, digV_row, trim_low L s h]
  rfl
theorem mkU_on {n : Nat} {X : Option Res} (h : n ≤ 200010) : mkU (n : Nat) X = X := by
  unfold mkU
  rw [decide_eq_true (by omega : 0 ≤ ((n : Nat) : Int)), decide_eq_true (by omega : ((n : Nat) : Int) ≤ ((n : Nat) : Int)), decide_eq_true (by omega : ((n : Nat) : Int) * 8 ≤ 140737488355328)]; rfl
theorem nN_on {b : Bool} {X : Option Res} (h : b = true) : nN b X = X := by subst h; rfl
theorem yB_dg {m i : Nat} (K : Int → Option Res) : yB (dRw m) (i : Nat) K = K ((dg m i : Nat) : Int) := by
  unfold yB
  rw [dRw_len]
  by_cases h : i < dlen m
  · have hl : i < (dRw m).length := by rw [dRw_len]; exact h
    rw [decide_eq_true (by omega : ((i : Nat) : Int) < ((dlen m : Nat) : Int)), inR_on hl, nI_dg h]; rfl
  · rw [decide_eq_false (by omega : ¬ ((i : Nat) : Int) < ((dlen m : Nat) : Int)), dg_big (by omega : dlen m ≤ i)]; rfl
theorem w64_suc {n : Nat} (h : n ≤ 200010) : w64 (((n : Nat) : Int) + 1) = ((n + 1 : Nat) : Int) := by rw [w64_in] <;> omega
theorem lowR_zero_mod (L X : Nat) : lowR L (X % 18446744073709551616 ^ 0) = zerU (L : Nat) := by rw [zer_low, Nat.pow_zero, Nat.mod_one]
theorem adC_on {x y c : Nat} (h : c ≤ 1) : adC (x : Nat) (y : Nat) (c : Nat) = true := by
  unfold adC
  rw [decide_eq_true (by omega : 0 ≤ ((x : Nat) : Int)), decide_eq_true (by omega : 0 ≤ ((y : Nat) : Int)), decide_eq_true (by omega : 0 ≤ ((c : Nat) : Int)), decide_eq_true (by omega : ((c : Nat) : Int) ≤ 1)]; rfl
theorem loop73 (k n m : Nat) (hle : dlen m ≤ dlen n) (hn : dlen n ≤ 100000) (hk : dlen n < k) :
    loopAt N1 73 Try.f73 0 k P73 [] k (σ73 (dRw n) (dRw m) (zerU ((dlen n + 1 : Nat) : Int)) 0 ((dlen n : Nat) : Int) 0) = rU (dRw (n + m)) := by
  have key := loop_up (S := N1) (f := 73) (fn := Try.f73) (m := 0) (k := k) (p := P73) (ms := []) (fun i => σ73 (dRw n) (dRw m) (lowR (dlen n + 1) ((n + m) % 18446744073709551616 ^ i)) ((car n m i : Nat) : Int) ((dlen n : Nat) : Int) ((i : Nat) : Int)) (dlen n) (fun _ => rU (dRw (n + m)))
    (fun i hi R hR => by
      refine (r73 k (dRw n) (dRw m) _ R _ _ _).trans ?_
      have hl : i < (dRw n).length := by rw [dRw_len]; exact hi
      have ho : i < (lowR (dlen n + 1) ((n + m) % 18446744073709551616 ^ i)).length := by rw [lowR_len]; omega
      have hc := car_lt n m i
      rw [decide_eq_true (by omega : ((i : Nat) : Int) < ((dlen n : Nat) : Int)), inR_on hl, yB_dg, nI_dg hi, nN_on (adC_on (by omega)), inR_on ho, w64_suc (by omega)]
      have hs := car_step n m i
      have hd := dgt_lt (n + m) i
      have e1 : (((dg n i : Nat) : Int) + ((dg m i : Nat) : Int) + ((car n m i : Nat) : Int)) % 18446744073709551616 = ((dg (n + m) i : Nat) : Int) := by omega
      have e2 : (((dg n i : Nat) : Int) + ((dg m i : Nat) : Int) + ((car n m i : Nat) : Int)) / 18446744073709551616 = ((car n m (i + 1) : Nat) : Int) := by omega
      rw [e1, e2, stU_dg (by omega)]
      exact hR)
    (fun R => by
      refine (r73 k (dRw n) (dRw m) _ R _ _ _).trans ?_
      have ho : dlen n < (lowR (dlen n + 1) ((n + m) % 18446744073709551616 ^ dlen n)).length := by rw [lowR_len]; omega
      rw [decide_eq_false (by omega : ¬ ((dlen n : Nat) : Int) < ((dlen n : Nat) : Int)), dRw_len, inR_on ho]
      have hb := dlen_add n m
      have hnm : dlen (n + m) ≤ dlen n + 1 := by omega
      have hcd : car n m (dlen n) = dg (n + m) (dlen n) := by
        have hs := car_step n m (dlen n)
        rw [dg_big (Nat.le_refl _), dg_big hle] at hs
        have h1 := car_lt n m (dlen n)
        have h2 := dgt_lt (n + m) (dlen n)
        omega
      rw [hcd, stU_dg (by omega), mod_dlen hnm]
      exact tr88_low hnm (by omega))
    k 0 (Nat.zero_le _) (by omega)
  have e0 : σ73 (dRw n) (dRw m) (lowR (dlen n + 1) ((n + m) % 18446744073709551616 ^ 0)) ((car n m 0 : Nat) : Int) ((dlen n : Nat) : Int) ((0 : Nat) : Int) = σ73 (dRw n) (dRw m) (zerU ((dlen n + 1 : Nat) : Int)) 0 ((dlen n : Nat) : Int) 0 := by
    rw [lowR_zero_mod, car_zero]; rfl
  rw [← e0]
  exact key
theorem go73_eq (k n m : Nat) (hle : dlen m ≤ dlen n) (hn : dlen n ≤ 100000) (hk : dlen n < k) : go73 k (dRw n) (dRw m) = rU (dRw (n + m)) := by
  unfold go73
  rw [dRw_len, w64_suc (by omega), mkU_on (by omega)]
  exact loop73 k n m hle hn hk
def F73 : List AV → List AObj → Ab Res := fun args st => match args, st with
  | [.sl 93 .any A, .sl 93 .any B], [] => some (isDR A && isDR B, (slU (dRw (valR A + valR B)), []))
  | _, _ => none
theorem told73 (args : List AV) (st : List AObj) (r : Res) (h : F73 args st = some (true, r)) : ∃ k, ev N1 k 73 args st = some r := by
  unfold F73 at h
  split at h
  · rename_i A B
    simp only [Option.some.injEq, Prod.mk.injEq, Bool.and_eq_true] at h
    obtain ⟨⟨hA, hB⟩, rfl⟩ := h
    obtain ⟨n, rfl, hn⟩ := isDR_iff hA
    obtain ⟨m, rfl, hm⟩ := isDR_iff hB
    rw [valR_dRw, valR_dRw]
    refine ⟨dlen n + dlen m + 1 + 1, (b73 _ _ _).trans ?_⟩
    rw [dRw_len, dRw_len]
    by_cases hlt : dlen n < dlen m
    · rw [decide_eq_true (by omega : ((dlen n : Nat) : Int) < ((dlen m : Nat) : Int))]
      rw [Nat.add_comm n m]
      exact go73_eq _ m n (by omega) hm (by omega)
    · rw [decide_eq_false (by omega : ¬ ((dlen n : Nat) : Int) < ((dlen m : Nat) : Int))]
      exact go73_eq _ n m (by omega) hn (by omega)
  · cases h
theorem loop75 (k n m : Nat) (hle : m ≤ n) (hn : dlen n ≤ 100000) (hk : dlen n < k) :
    loopAt N1 75 Try.f75 0 k P72 [] k (σ75 (dRw n) (dRw m) (zerU ((dlen n : Nat) : Int)) 0 ((dlen n : Nat) : Int) 0) = rU (dRw (n - m)) := by
  have key := loop_up (S := N1) (f := 75) (fn := Try.f75) (m := 0) (k := k) (p := P72) (ms := []) (fun i => σ75 (dRw n) (dRw m) (lowR (dlen n) ((n - m) % 18446744073709551616 ^ i)) ((car (n - m) m i : Nat) : Int) ((dlen n : Nat) : Int) ((i : Nat) : Int)) (dlen n) (fun _ => rU (dRw (n - m)))
    (fun i hi R hR => by
      refine (r75 k (dRw n) (dRw m) _ R _ _ _).trans ?_
      have hl : i < (dRw n).length := by rw [dRw_len]; exact hi
      have ho : i < (lowR (dlen n) ((n - m) % 18446744073709551616 ^ i)).length := by rw [lowR_len]; omega
      have hc := car_lt (n - m) m i
      have hc2 := car_lt (n - m) m (i + 1)
      have hmd := dgt_lt m i
      have hs := car_step (n - m) m i
      have hnm : n - m + m = n := by omega
      rw [hnm] at hs
      have hd := dgt_lt (n - m) i
      have hnd := dgt_lt n i
      have hb : sbC ((dg n i : Nat) : Int) ((dg m i : Nat) : Int) ((car (n - m) m i : Nat) : Int) = true := by
        unfold sbC
        rw [decide_eq_true (by omega : 0 ≤ ((dg n i : Nat) : Int)), decide_eq_true (by omega : 0 ≤ ((dg m i : Nat) : Int)), decide_eq_true (by omega : ((dg m i : Nat) : Int) < 18446744073709551616), decide_eq_true (by omega : 0 ≤ ((car (n - m) m i : Nat) : Int)), decide_eq_true (by omega : ((car (n - m) m i : Nat) : Int) ≤ 1)]; rfl
      rw [decide_eq_true (by omega : ((i : Nat) : Int) < ((dlen n : Nat) : Int)), inR_on hl, yB_dg, nI_dg hi, nN_on hb, inR_on ho, w64_suc (by omega)]
      have e1 : (((dg n i : Nat) : Int) + 18446744073709551616 - ((dg m i : Nat) : Int) - ((car (n - m) m i : Nat) : Int)) % 18446744073709551616 = ((dg (n - m) i : Nat) : Int) := by omega
      have e2 : (bif decide (((dg n i : Nat) : Int) < ((dg m i : Nat) : Int) + ((car (n - m) m i : Nat) : Int)) then (1 : Int) else 0) = ((car (n - m) m (i + 1) : Nat) : Int) := by
        by_cases h0 : car (n - m) m (i + 1) = 0
        · rw [decide_eq_false (by omega), h0]; rfl
        · rw [decide_eq_true (by omega)]
          have : car (n - m) m (i + 1) = 1 := by omega
          rw [this]; rfl
      rw [e1, e2, stU_dg (by omega)]
      exact hR)
    (fun R => by
      refine (r75 k (dRw n) (dRw m) _ R _ _ _).trans ?_
      have hnm : dlen (n - m) ≤ dlen n := dlen_mono (Nat.sub_le _ _)
      rw [decide_eq_false (by omega : ¬ ((dlen n : Nat) : Int) < ((dlen n : Nat) : Int)), mod_dlen hnm]
      exact tr88_low hnm (by omega))
    k 0 (Nat.zero_le _) (by omega)
  have e0 : σ75 (dRw n) (dRw m) (lowR (dlen n) ((n - m) % 18446744073709551616 ^ 0)) ((car (n - m) m 0 : Nat) : Int) ((dlen n : Nat) : Int) ((0 : Nat) : Int) = σ75 (dRw n) (dRw m) (zerU ((dlen n : Nat) : Int)) 0 ((dlen n : Nat) : Int) 0 := by
    rw [lowR_zero_mod, car_zero]; rfl
  rw [← e0]
  exact key
def F75 : List AV → List AObj → Ab Res := fun args st => match args, st with
  | [.sl 93 .any A, .sl 93 .any B], [] => some ((isDR A && isDR B) && Nat.ble (valR B) (valR A), (slU (dRw (valR A - valR B)), []))
  | _, _ => none
theorem told75 (args : List AV) (st : List AObj) (r : Res) (h : F75 args st = some (true, r)) : ∃ k, ev N1 k 75 args st = some r := by
  unfold F75 at h
  split at h
  · rename_i A B
    simp only [Option.some.injEq, Prod.mk.injEq, Bool.and_eq_true] at h
    obtain ⟨⟨⟨hA, hB⟩, hle⟩, rfl⟩ := h
    obtain ⟨n, rfl, hn⟩ := isDR_iff hA
    obtain ⟨m, rfl, hm⟩ := isDR_iff hB
    rw [valR_dRw, valR_dRw] at hle ⊢
    have hle := Nat.le_of_ble_eq_true hle
    refine ⟨dlen n + 1 + 1, (b75 _ _ _).trans ?_⟩
    rw [dRw_len, mkU_on (by omega)]
    exact loop75 _ n m hle hn (by omega)
  · cases h
end
end Go.Proofs.Ytgcdiccbehiijaa.W.U
namespace Go.Proofs.Ytgcdiccbehiijaa.W.U
open Go.Fw
set_option maxRecDepth 100000
noncomputable section
def mulC (n x i : Nat) : Nat := n % 18446744073709551616 ^ i * x / 18446744073709551616 ^ i
theorem mulC_zero (n x : Nat) : mulC n x 0 = 0 := by unfold mulC; rw [Nat.pow_zero, Nat.mod_one, Nat.zero_mul, Nat.zero_div]
theorem mulC_split (n x i : Nat) : n % 18446744073709551616 ^ i * x = mulC n x i * 18446744073709551616 ^ i + n * x % 18446744073709551616 ^ i := by
  unfold mulC
  have h := Nat.div_add_mod (n % 18446744073709551616 ^ i * x) (18446744073709551616 ^ i)
  have e : (n % 18446744073709551616 ^ i * x) % 18446744073709551616 ^ i = n * x % 18446744073709551616 ^ i := by rw [Nat.mod_mul_mod]
  rw [e, Nat.mul_comm (18446744073709551616 ^ i)] at h
  exact h.symm
theorem mulC_step (n x i : Nat) : mulC n x i + dg n i * x = mulC n x (i + 1) * 18446744073709551616 + dg (n * x) i := by
  have hp := pow_pos' i
  have h0 := mulC_split n x i
  have h1 := mulC_split n x (i + 1)
  rw [mod_succ n, mod_succ (n * x), Nat.add_mul] at h1
  have hpow : 18446744073709551616 ^ (i + 1) = 18446744073709551616 * 18446744073709551616 ^ i := by rw [Nat.pow_succ, Nat.mul_comm]
  rw [hpow] at h1
  have e3 : dg n i * 18446744073709551616 ^ i * x = dg n i * x * 18446744073709551616 ^ i := by rw [Nat.mul_assoc, Nat.mul_comm _ x, ← Nat.mul_assoc]
  rw [e3] at h1
  generalize 18446744073709551616 ^ i = P at *
  have e : (mulC n x i + dg n i * x) * P = (mulC n x (i + 1) * 18446744073709551616 + dg (n * x) i) * P := by
    rw [Nat.add_mul, Nat.add_mul, Nat.mul_assoc (mulC n x (i + 1))]
    generalize dg n i * x * P = u1 at *
    generalize mulC n x (i + 1) * (18446744073709551616 * P) = u2 at *
    generalize dg (n * x) i * P = u3 at *
    generalize mulC n x i * P = u4 at *
    generalize n % P * x = u5 at *
    generalize n * x % P = u6 at *
    clear hpow e3
    omega
  exact Nat.eq_of_mul_eq_mul_right hp e
theorem mulC_le (n x i : Nat) : mulC n x i ≤ x := by
  unfold mulC
  have hp := pow_pos' i
  apply Nat.div_le_of_le_mul
  exact Nat.mul_le_mul_right _ (Nat.le_of_lt (Nat.mod_lt _ hp))
theorem loop72 (k n x : Nat) (hx : x < 18446744073709551616) (hn : dlen n ≤ 100000) (hk : dlen n < k) :
    loopAt N1 72 Try.f72 0 k P72 [] k (σ72 (dRw n) (x : Nat) (zerU ((dlen n + 1 : Nat) : Int)) 0 ((dlen n : Nat) : Int) 0) = rU (dRw (n * x)) := by
  have hux : isU ((x : Nat) : Int) = true := by rw [isU_iff]; omega
  have key := loop_up (S := N1) (f := 72) (fn := Try.f72) (m := 0) (k := k) (p := P72) (ms := []) (fun i => σ72 (dRw n) (x : Nat) (lowR (dlen n + 1) ((n * x) % 18446744073709551616 ^ i)) ((mulC n x i : Nat) : Int) ((dlen n : Nat) : Int) ((i : Nat) : Int)) (dlen n) (fun _ => rU (dRw (n * x)))
    (fun i hi R hR => by
      refine (r72 k (dRw n) _ R _ _ _ _).trans ?_
      have hl : i < (dRw n).length := by rw [dRw_len]; exact hi
      have ho : i < (lowR (dlen n + 1) ((n * x) % 18446744073709551616 ^ i)).length := by rw [lowR_len]; omega
      have hc := mulC_le n x i
      have hc2 := mulC_le n x (i + 1)
      have hnd := dgt_lt n i
      have hs := mulC_step n x i
      have hd := dgt_lt (n * x) i
      have hud : (isU ((dg n i : Nat) : Int) && isU ((x : Nat) : Int)) = true := by
        rw [hux]
        have : isU ((dg n i : Nat) : Int) = true := by rw [isU_iff]; omega
        rw [this]; rfl
      have em : ((dg n i : Nat) : Int) * ((x : Nat) : Int) = ((dg n i * x : Nat) : Int) := (Int.natCast_mul _ _).symm
      have ha : adC (((dg n i : Nat) : Int) * ((x : Nat) : Int) % 18446744073709551616) ((mulC n x i : Nat) : Int) 0 = true := by
        unfold adC
        rw [em]
        rw [decide_eq_true (by omega : 0 ≤ ((dg n i * x : Nat) : Int) % 18446744073709551616), decide_eq_true (by omega : 0 ≤ ((mulC n x i : Nat) : Int))]; rfl
      rw [decide_eq_true (by omega : ((i : Nat) : Int) < ((dlen n : Nat) : Int)), inR_on hl, nI_dg hi, nN_on hud, nN_on ha, inR_on ho, w64_suc (by omega)]
      unfold pl72
      rw [em]
      generalize dg n i * x = t at *
      have e1 : (((t : Nat) : Int) % 18446744073709551616 + ((mulC n x i : Nat) : Int) + 0) % 18446744073709551616 = ((dg (n * x) i : Nat) : Int) := by omega
      have e2 : ((t : Nat) : Int) / 18446744073709551616 + (((t : Nat) : Int) % 18446744073709551616 + ((mulC n x i : Nat) : Int) + 0) / 18446744073709551616 = ((mulC n x (i + 1) : Nat) : Int) := by omega
      have e3 : wU ((mulC n x (i + 1) : Nat) : Int) = ((mulC n x (i + 1) : Nat) : Int) := wrapUl (by omega)
      rw [e1, e2, e3, stU_dg (by omega)]
      exact hR)
    (fun R => by
      refine (r72 k (dRw n) _ R _ _ _ _).trans ?_
      have ho : dlen n < (lowR (dlen n + 1) ((n * x) % 18446744073709551616 ^ dlen n)).length := by rw [lowR_len]; omega
      rw [decide_eq_false (by omega : ¬ ((dlen n : Nat) : Int) < ((dlen n : Nat) : Int)), cond_false, dRw_len, inR_on ho]
      have hx1 : dlen x ≤ 1 := dlen_le.2 (by rw [Nat.pow_one]; exact hx)
      have hb := dlen_mul n x
      have hnm : dlen (n * x) ≤ dlen n + 1 := by omega
      have hcd : mulC n x (dlen n) = dg (n * x) (dlen n) := by
        have hs := mulC_step n x (dlen n)
        rw [dg_big (Nat.le_refl _), Nat.zero_mul] at hs
        have h1 := mulC_le n x (dlen n)
        have h2 := dgt_lt (n * x) (dlen n)
        omega
      rw [hcd, stU_dg (by omega), mod_dlen hnm]
      exact tr88_low hnm (by omega))
    k 0 (Nat.zero_le _) (by omega)
  have e0 : σ72 (dRw n) (x : Nat) (lowR (dlen n + 1) ((n * x) % 18446744073709551616 ^ 0)) ((mulC n x 0 : Nat) : Int) ((dlen n : Nat) : Int) ((0 : Nat) : Int) = σ72 (dRw n) (x : Nat) (zerU ((dlen n + 1 : Nat) : Int)) 0 ((dlen n : Nat) : Int) 0 := by
    rw [lowR_zero_mod, mulC_zero]; rfl
  rw [← e0]
  exact key
def F72 : List AV → List AObj → Ab Res := fun args st => match args, st with
  | [.sl 93 .any A, .k (.int .u64 x)], [] => some (isDR A && isU x, (slU (dRw (valR A * x.toNat)), []))
  | _, _ => none
theorem told72 (args : List AV) (st : List AObj) (r : Res) (h : F72 args st = some (true, r)) : ∃ k, ev N1 k 72 args st = some r := by
  unfold F72 at h
  split at h
  · rename_i A x
    simp only [Option.some.injEq, Prod.mk.injEq, Bool.and_eq_true] at h
    obtain ⟨⟨hA, hx⟩, rfl⟩ := h
    obtain ⟨n, rfl, hn⟩ := isDR_iff hA
    obtain ⟨x, rfl, hx'⟩ := isU_nat hx
    rw [valR_dRw, Int.toNat_natCast]
    refine ⟨dlen n + 1 + 1, (b72 _ _ _).trans ?_⟩
    rw [dRw_len, w64_suc (by omega), mkU_on (by omega)]
    exact loop72 _ n x hx' hn (by omega)
  · cases h
noncomputable def N2 : FSys := ((N1.tell 72 F72).tell 73 F73).tell 75 F75
theorem N1Ok (h : SysOk Try.prog sysC3) : SysOk Try.prog N1 := SysOk.tellMore (h.tell 88 _ told88) (h.tell 74 _ told74) rfl rfl
theorem N2Ok (h : SysOk Try.prog sysC3) : SysOk Try.prog N2 := SysOk.tellMore (SysOk.tellMore ((N1Ok h).tell 72 _ told72) ((N1Ok h).tell 73 _ told73) rfl rfl) ((N1Ok h).tell 75 _ told75) rfl rfl
end
end Go.Proofs.Ytgcdiccbehiijaa.W.U
