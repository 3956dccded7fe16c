/- A part of the proofs over these laws: what its functions come to. No conditions. -/
import Derived.Test.YtciighngjnjmlaaGj
set_option linter.all false
namespace Go.Proofs.Ytciighngjnjmlaa.W
open Go.Fw
set_option maxRecDepth 100000
noncomputable section
noncomputable def sE : AV := .k (.string ByteArray.empty)
noncomputable def nilR : List AV := [i64 4, i64 0, sE, .sl 28 .any []]
noncomputable def nil0 : List AV := [i64 4, i64 0, sE, .sl 0 .nil []]
noncomputable def lc (ks : List (List AV)) : List AV := [i64 4, i64 1, sE, .sl 28 .any ks]
noncomputable def σ46 (rows : List (List AV)) (i : Int) : St := ⟨tm 22 [(0, .sl 28 .any rows), (2, .ptr 0 0), (3, .ptr 1 0), (4, i64 i)], [.box 28 e28, .box 28 nil0], []⟩
noncomputable def τ46 (rows ks : List (List AV)) (i : Int) : St := ⟨tm 22 [(0, .sl 28 .any rows), (2, .ptr 0 0), (3, .ptr 1 0), (4, i64 i)], [.box 28 e28, .box 28 [i64 4, i64 1, sE, .sr 2], .arr 28 .full ks], []⟩
section
variable (n k m : Nat) (rows : List (List AV)) (x y : List AV) (R : St → Option Res) (i : Int)
theorem r46a : roundAt (QV n) 46 Try.f46 0 k [1,1,0,1,0] [] R (σ46 rows i) = bif decide (i ≥ 0) then (bif chk rows i then (bif isV n (.agg (nx rows i)) then R (τ46 rows [nx rows i, nilR] (pw i)) else none) else none) else some (.agg nilR, []) := by kernel_rfl
theorem r46b : roundAt (QV n) 46 Try.f46 0 k [1,1,0,1,0] [] R (τ46 rows [x, y] i) = bif decide (i ≥ 0) then (bif chk rows i then (bif isV n (.agg (nx rows i)) then R (τ46 rows [nx rows i, lc [x, y]] (pw i)) else none) else none) else some (.agg (lc [x, y]), []) := by kernel_rfl
theorem b46 : ev (QV n) (k + 1) 46 [.sl 28 .any rows] [] = loopAt (QV n) 46 Try.f46 0 k [1,1,0,1,0] [] k (σ46 rows (pw (rows.length : Nat))) := by kernel_rfl
end
noncomputable def tm45 : List AV := [.undef, .undef, .ptr 2 0, .ptr 3 0, .undef, .undef, .undef, .undef, .fn (.func 117) [] [.ptr 1 0], .undef, .undef, .undef, .undef, .undef, .undef, .undef, .undef]
noncomputable def lo45 : AObj := lob 45 Try.f45 false .skip tm45 [9, 10]
noncomputable def st45 (rows : List (List AV)) : List AObj := [lo45, .box 26 [.sl 28 .any rows], .box 28 e28, .box 28 nil0]
noncomputable def su45 (rows ks : List (List AV)) : List AObj := [lo45, .box 26 [.sl 28 .any rows], .box 28 e28, .box 28 [i64 4, i64 1, sE, .sr 4], .arr 28 .full ks]
noncomputable def σ117 (rows : List (List AV)) (i : Int) : St := ⟨tm 19 [(0, .yl 0), (1, .ptr 1 0), (3, i64 i)], st45 rows, []⟩
noncomputable def τ117 (rows ks : List (List AV)) (i : Int) : St := ⟨tm 19 [(0, .yl 0), (1, .ptr 1 0), (3, i64 i)], su45 rows ks, []⟩
section
variable (n k m : Nat) (rows : List (List AV)) (x y : List AV) (R : St → Option Res) (i : Int)
theorem r117a : roundAt (QV n) 117 Try.f117 4 (k + 1) [1,0] [] R (σ117 rows i) = bif decide (i ≥ 0) then (bif chk rows i then (bif isV n (.agg (nx rows i)) then R (τ117 rows [nx rows i, nilR] (pw i)) else none) else none) else some (.tup [], st45 rows) := by kernel_rfl
theorem r117b : roundAt (QV n) 117 Try.f117 4 (k + 1) [1,0] [] R (τ117 rows [x, y] i) = bif decide (i ≥ 0) then (bif chk rows i then (bif isV n (.agg (nx rows i)) then R (τ117 rows [nx rows i, lc [x, y]] (pw i)) else none) else none) else some (.tup [], su45 rows [x, y]) := by kernel_rfl
theorem b117 : ev (QV n) (k + 2) 117 [.yl 0, .ptr 1 0] (st45 rows) = loopAt (QV n) 117 Try.f117 4 (k + 1) [1,0] [] (k + 1) (σ117 rows (pw (rows.length : Nat))) := by kernel_rfl
noncomputable def F117 (n : Nat) : List AV → List AObj → Ab Res := fun args st => match args, st with
  | [.yl 0, .ptr 1 0], [o0, .box 26 [.sl 28 .any (x :: xs)], .box 28 e, .box 28 a] => some (rowsOk n (x :: xs) && (eqC o0 lo45 && (eqC e e28 && eqC a nil0)), (.tup [], su45 (x :: xs) [x, xs.foldr (fun x acc => lc [x, acc]) nilR]))
  | _, _ => none
noncomputable def W117 (n : Nat) : FSys := (QV n).tell 117 (F117 n)
noncomputable def listR (rows : List (List AV)) : List AV := rows.foldr (fun x acc => lc [x, acc]) nilR
noncomputable def ok117 (n : Nat) (rows : List (List AV)) : Bool := rowsOk n rows && (eqC lo45 lo45 && (eqC e28 e28 && eqC nil0 nil0))
theorem b45n : ev (QV n) (k + 4) 45 [.sl 28 .any []] [] = some (.agg nilR, []) := by kernel_rfl
theorem b45c (xs : List (List AV)) : ev (W117 n) (k + 4) 45 [.sl 28 .any (x :: xs)] [] = bif ok117 n (x :: xs) then some (.agg (lc [x, listR xs]), []) else none := by kernel_rfl
end
end
end Go.Proofs.Ytciighngjnjmlaa.W
namespace Go.Proofs.Ytciighngjnjmlaa.W
open Go.Fw
set_option maxRecDepth 100000
noncomputable section
theorem pw_zero : pw ((0 : Nat) : Int) = -1 := by unfold pw; rw [wrap64] <;> omega
theorem pick3r {d c v : Bool} {A F : Option Res} (hd : d = true) (h1 : c = true) (h2 : v = true) : (bif d then (bif c then (bif v then A else none) else none) else F) = A := by subst hd h1 h2; rfl
theorem down_gen (n : Nat) (rows : List (List AV)) (hr : ∀ x ∈ rows, isVr n x = true) (hl : rows.length ≤ 140737488351232) (fin : List AV → List AV → Option Res) (LI : Nat → List AV → List AV → Int → Option Res)
    (hs : ∀ q x y i, LI (q + 1) x y i = bif decide (i ≥ 0) then (bif chk rows i then (bif isV n (.agg (nx rows i)) then LI q (nx rows i) (lc [x, y]) (pw i) else none) else none) else fin x y) :
    ∀ (j q : Nat) (x : List AV) (xs : List (List AV)), rows.drop j = x :: xs → j < q → ∃ r rs, rows = r :: rs ∧ LI q x (listR xs) (pw (j : Nat)) = fin r (listR rs)
  | _, 0, _, _, _, h => by omega
  | 0, q + 1, x, xs, hd, _ => by
    refine ⟨x, xs, by simpa using hd, ?_⟩
    rw [hs, pw_zero]
    rfl
  | j + 1, q + 1, x, xs, hd, hq => by
    have hlen : j + 1 < rows.length := by
      rcases Nat.lt_or_ge (j + 1) rows.length with h | h
      · exact h
      · rw [List.drop_of_length_le h] at hd; cases hd
    have hj : j < rows.length := by omega
    have hp : pw ((j + 1 : Nat) : Int) = (j : Nat) := pw_eq (by omega)
    have hd' : rows.drop j = rows[j] :: x :: xs := by rw [List.drop_eq_getElem_cons hj, hd]
    obtain ⟨r, rs, e, h1⟩ := down_gen n rows hr hl fin LI hs j q rows[j] (x :: xs) hd' (by omega)
    refine ⟨r, rs, e, ?_⟩
    rw [hs, hp]
    refine (pick3r (decide_eq_true (by omega)) (chk_nat hj) (by rw [nx_at hr hj]; exact hr _ (List.getElem_mem hj))).trans ?_
    rw [nx_at hr hj]
    exact h1
theorem len_drop {rows : List (List AV)} {j : Nat} (h : rows.length = j + 1) : ∃ x, rows.drop j = [x] := by
  have hj : j < rows.length := by omega
  exact ⟨rows[j], by rw [List.drop_eq_getElem_cons hj, List.drop_of_length_le (by omega)]⟩
theorem ev46 (n : Nat) (rows : List (List AV)) (h : rowsOk n rows = true) : ∃ k, ev (QV n) k 46 [.sl 28 .any rows] [] = some (.agg (listR rows), []) := by
  obtain ⟨hl, hr⟩ := rowsOk_iff h
  cases hq : rows.length with
  | zero =>
    obtain rfl := List.length_eq_zero_iff.1 hq
    have h0 := (loopAt_succ (QV n) 46 Try.f46 0 1 [1,1,0,1,0] [] 0 (σ46 [] (pw (([] : List (List AV)).length : Nat)))).trans (r46a n 1 [] _ _)
    have d : decide (pw (([] : List (List AV)).length : Nat) ≥ 0) = false := by
      have : pw (([] : List (List AV)).length : Nat) = -1 := pw_zero
      rw [this]; rfl
    exact ⟨0 + 1 + 1, (b46 n 1 []).trans (h0.trans (pick42e d))⟩
  | succ j =>
    obtain ⟨x, hd⟩ := len_drop hq
    have hj : j < rows.length := by omega
    have hx : rows[j] = x := by
      rw [List.drop_eq_getElem_cons hj] at hd
      exact (List.cons.inj hd).1
    obtain ⟨r, rs, e, h1⟩ := down_gen n rows hr (by omega) (fun x y => some (.agg (lc [x, y]), [])) (fun q x y i => loopAt (QV n) 46 Try.f46 0 (j + 3) [1,1,0,1,0] [] q (τ46 rows [x, y] i))
      (fun q x y i => (loopAt_succ _ _ _ _ _ _ _ _ _).trans (r46b n _ rows x y _ i)) j (j + 2) x [] hd (by omega)
    have h0 := (loopAt_succ (QV n) 46 Try.f46 0 (j + 3) [1,1,0,1,0] [] (j + 2) (σ46 rows (pw (rows.length : Nat)))).trans (r46a n (j + 3) rows _ _)
    have hp : pw ((rows.length : Nat) : Int) = (j : Nat) := by rw [hq]; exact pw_eq (by omega)
    rw [hp] at h0
    have h2 := h0.trans (pick3r (decide_eq_true (by omega)) (chk_nat hj) (by rw [nx_at hr hj]; exact hr _ (List.getElem_mem hj)))
    rw [nx_at hr hj, hx] at h2
    have h3 := b46 n (j + 3) rows
    rw [hp] at h3
    refine ⟨j + 3 + 1, h3.trans (h2.trans (h1.trans ?_))⟩
    rw [e]; rfl
theorem ev117 (n : Nat) (r : List AV) (rs : List (List AV)) (h : rowsOk n (r :: rs) = true) : ∃ k, ev (QV n) k 117 [.yl 0, .ptr 1 0] (st45 (r :: rs)) = some (.tup [], su45 (r :: rs) [r, listR rs]) := by
  obtain ⟨hl, hr⟩ := rowsOk_iff h
  obtain ⟨rows, hrows⟩ : ∃ rows, rows = r :: rs := ⟨_, rfl⟩
  rw [← hrows] at hl hr ⊢
  obtain ⟨j, hq⟩ : ∃ j, rows.length = j + 1 := ⟨rs.length, by rw [hrows]; rfl⟩
  obtain ⟨x, hd⟩ := len_drop hq
  have hj : j < rows.length := by omega
  have hx : rows[j] = x := by
    rw [List.drop_eq_getElem_cons hj] at hd
    exact (List.cons.inj hd).1
  obtain ⟨r', rs', e, h1⟩ := down_gen n rows hr (by omega) (fun x y => some (.tup [], su45 rows [x, y])) (fun q x y i => loopAt (QV n) 117 Try.f117 4 (j + 2 + 1) [1,0] [] q (τ117 rows [x, y] i))
    (fun q x y i => (loopAt_succ _ _ _ _ _ _ _ _ _).trans (r117b n (j + 2) rows x y _ i)) j (j + 2) x [] hd (by omega)
  have h0 := (loopAt_succ (QV n) 117 Try.f117 4 (j + 2 + 1) [1,0] [] (j + 2) (σ117 rows (pw (rows.length : Nat)))).trans (r117a n (j + 2) rows _ _)
  have hp : pw ((rows.length : Nat) : Int) = (j : Nat) := by rw [hq]; exact pw_eq (by omega)
  rw [hp] at h0
  have h2 := h0.trans (pick3r (decide_eq_true (by omega)) (chk_nat hj) (by rw [nx_at hr hj]; exact hr _ (List.getElem_mem hj)))
  rw [nx_at hr hj, hx] at h2
  have h3 := b117 n (j + 2) rows
  rw [hp] at h3
  have e2 : r' = r ∧ rs' = rs := by rw [hrows] at e; injection e with e1 e2; exact ⟨e1.symm, e2.symm⟩
  obtain ⟨rfl, rfl⟩ := e2
  exact ⟨j + 2 + 2, h3.trans (h2.trans h1)⟩
theorem W117Ok (n : Nat) : SysOk Try.prog (W117 n) := (QVOk n).tell 117 _ fun args st r h => by
  unfold F117 at h
  split at h
  · rename_i o0 x xs e a
    simp only [Option.some.injEq, Prod.mk.injEq, Bool.and_eq_true, eqC_iff] at h
    obtain ⟨⟨h1, rfl, rfl, rfl⟩, rfl⟩ := h
    exact ev117 n x xs h1
  · cases h
noncomputable def FList (n : Nat) : List AV → List AObj → Ab Res := fun args st => match args, st with
  | [.sl 28 .any rows], [] => some (rowsOk n rows, (.agg (listR rows), []))
  | _, _ => none
theorem FList_inv {n : Nat} {args : List AV} {st : List AObj} {r : Res} (h : FList n args st = some (true, r)) : ∃ rows, args = [.sl 28 .any rows] ∧ st = [] ∧ rowsOk n rows = true ∧ r = (.agg (listR rows), []) := by
  unfold FList at h
  split at h
  · rename_i rows
    simp only [Option.some.injEq, Prod.mk.injEq] at h
    exact ⟨rows, rfl, rfl, h.1, h.2.symm⟩
  · cases h
theorem K46 (n : Nat) : SysOk Try.prog ((QV n).tell 46 (FList n)) := (QVOk n).tell 46 _ fun args st r h => by
  obtain ⟨rows, rfl, rfl, h1, rfl⟩ := FList_inv h
  exact ev46 n rows h1
theorem K45 (n : Nat) : SysOk Try.prog ((W117 n).tell 45 (FList n)) := (W117Ok n).tellCF 45 _ fun args st r st' h => by
  obtain ⟨rows, rfl, rfl, h1, e⟩ := FList_inv h
  cases e
  cases rows with
  | nil => exact ev_ok (QVOk n) _ 45 _ _ _ _ (b45n n 0)
  | cons x xs =>
    have hk : ok117 n (x :: xs) = true := by unfold ok117; rw [h1, eqC_self, eqC_self, eqC_self]; rfl
    exact ev_ok (W117Ok n) _ 45 _ _ _ _ ((b45c n 0 x xs).trans (by rw [hk]; rfl))
end
end Go.Proofs.Ytciighngjnjmlaa.W
namespace Go.Proofs.Ytciighngjnjmlaa.W
open Go.Fw
set_option maxRecDepth 100000
noncomputable section
noncomputable def E0 : ByteArray := { data := #[] }
noncomputable def noI : Option Res := some (.tup [.sl 28 .any [], bl false], [])
noncomputable def yesI (out : List (List AV)) : Option Res := some (.tup [.sl 28 .any out, bl true], [])
noncomputable def st43 (cells : List AV) (out : List (List AV)) : St := match out with
  | [] => ⟨tm 56 [(1, .ptr 0 0), (4, .sl 0 .nil [])], [.box 28 cells], []⟩
  | x :: xs => ⟨tm 56 [(1, .ptr 0 0), (4, .sr 1)], [.box 28 cells, .arr 28 .any (x :: xs)], []⟩
noncomputable def s44 (kd : SK) (cells : List AV) (out : List (List AV)) : St := ⟨tm 57 [(1, .ptr 0 0), (4, .sr 1)], [.box 28 cells, .arr 28 kd out], []⟩
noncomputable def st44 (cells : List AV) (out : List (List AV)) : St := match out with
  | [] => s44 .full cells []
  | [x] => s44 .fresh cells [x]
  | x :: y :: l => s44 .wide cells (x :: y :: l)
section
variable (n k : Nat) (rows xs : List (List AV)) (x : List AV) (s : ByteArray) (R : St → Option Res) (a b : Int)
noncomputable def x43 (out : List (List AV)) : Option Res := bif a != 4 then noI else (bif b != 0 then noI else (bif decide (((rows.length : Nat) : Int) > 0) then noI else (bif !(s == E0) then noI else yesI out)))
noncomputable def x44 (out : List (List AV)) : Option Res := bif a != 4 then noI else (bif b != 0 then noI else (bif !(s == E0) then noI else (bif decide (((rows.length : Nat) : Int) > 0) then noI else yesI out)))
theorem r43a : roundAt (QV n) 43 Try.f43 0 k [1,1,0,0] [] R (st43 (VV a b s rows) []) = bif a == 4 then (bif b == 1 then (bif ((rows.length : Nat) : Int) == 2 then (bif s == E0 then (bif chk rows 0 then (bif isV n (.agg (nx rows 0)) then (bif chk rows 1 then R (st43 (nx rows 1) [nx rows 0]) else none) else none) else none) else x43 rows s a b []) else x43 rows s a b []) else x43 rows s a b []) else x43 rows s a b [] := by kernel_rfl
theorem r43b : roundAt (QV n) 43 Try.f43 0 k [1,1,0,0] [] R (st43 (VV a b s rows) (x :: xs)) = bif a == 4 then (bif b == 1 then (bif ((rows.length : Nat) : Int) == 2 then (bif s == E0 then (bif chk rows 0 then (bif isV n (.agg (nx rows 0)) then (bif fitB ((x :: xs).length + [nx rows 0].length) then (bif chk rows 1 then R (st43 (nx rows 1) ((x :: xs) ++ [nx rows 0])) else none) else none) else none) else none) else x43 rows s a b (x :: xs)) else x43 rows s a b (x :: xs)) else x43 rows s a b (x :: xs)) else x43 rows s a b (x :: xs) := by kernel_rfl
theorem b43 : ev (QV n) (k + 1) 43 [.agg (VV a b s rows)] [] = loopAt (QV n) 43 Try.f43 0 k [1,1,0,0] [] k (st43 (VV a b s rows) []) := by kernel_rfl
theorem r44a : roundAt (QV n) 44 Try.f44 0 k [1,1,0,0] [] R (s44 .full (VV a b s rows) []) = bif a == 4 then (bif b == 1 then (bif s == E0 then (bif ((rows.length : Nat) : Int) == 2 then (bif chk rows 0 then (bif isV n (.agg (nx rows 0)) then (bif chk rows 1 then R (s44 .fresh (nx rows 1) [nx rows 0]) else none) else none) else none) else x44 rows s a b []) else x44 rows s a b []) else x44 rows s a b []) else x44 rows s a b [] := by kernel_rfl
theorem r44b : roundAt (QV n) 44 Try.f44 0 k [1,1,0,0] [] R (s44 .fresh (VV a b s rows) xs) = bif a == 4 then (bif b == 1 then (bif s == E0 then (bif ((rows.length : Nat) : Int) == 2 then (bif chk rows 0 then (bif isV n (.agg (nx rows 0)) then (bif fitB (xs.length + [nx rows 0].length) then (bif chk rows 1 then R (s44 .wide (nx rows 1) (xs ++ [nx rows 0])) else none) else none) else none) else none) else x44 rows s a b xs) else x44 rows s a b xs) else x44 rows s a b xs) else x44 rows s a b xs := by kernel_rfl
theorem r44c : roundAt (QV n) 44 Try.f44 0 k [1,1,0,0] [] R (s44 .wide (VV a b s rows) xs) = bif a == 4 then (bif b == 1 then (bif s == E0 then (bif ((rows.length : Nat) : Int) == 2 then (bif chk rows 0 then (bif isV n (.agg (nx rows 0)) then (bif fitB (xs.length + [nx rows 0].length) then (bif chk rows 1 then R (s44 .wide (nx rows 1) (xs ++ [nx rows 0])) else none) else none) else none) else none) else x44 rows s a b xs) else x44 rows s a b xs) else x44 rows s a b xs) else x44 rows s a b xs := by kernel_rfl
theorem b44 : ev (QV n) (k + 1) 44 [.agg (VV a b s rows)] [] = loopAt (QV n) 44 Try.f44 0 k [1,1,0,0] [] k (st44 (VV a b s rows) []) := by kernel_rfl
end
end
end Go.Proofs.Ytciighngjnjmlaa.W
namespace Go.Proofs.Ytciighngjnjmlaa.W
open Go.Fw
set_option maxRecDepth 100000
noncomputable section
noncomputable def len2 (r : List AV) : Bool := (((kids r).length : Nat) : Int) == 2
noncomputable def isCons (r : List AV) : Bool := kd r == 4 && (nm r == 1 && (len2 r && tx r == E0))
noncomputable def isNil (r : List AV) : Bool := kd r == 4 && (nm r == 0 && (!(decide ((((kids r).length : Nat) : Int) > 0)) && tx r == E0))
noncomputable def kid0 (r : List AV) : List AV := (kids r).getD 0 []
noncomputable def kid1 (r : List AV) : List AV := (kids r).getD 1 []
noncomputable def chainR : Nat → List AV → Nat
  | 0, _ => 0
  | n + 1, r => bif isCons r then chainR n (kid1 r) + 1 else 0
noncomputable def itB : Nat → List AV → Bool
  | 0, _ => false
  | n + 1, r => bif isCons r then itB n (kid1 r) else isNil r
noncomputable def itA : Nat → List AV → List (List AV) → List (List AV)
  | 0, _, out => out
  | n + 1, r, out => bif isCons r then itA n (kid1 r) (out ++ [kid0 r]) else out
noncomputable def itR (n : Nat) (r : List AV) (out : List (List AV)) : Option Res := some (.tup [.sl 28 .any (bif itB n r then itA n r out else []), bl (itB n r)], [])
theorem items_gen (N : Nat) (LI : Nat → List AV → List (List AV) → Option Res)
    (hc : ∀ q n r out, n ≤ N → isVr (n + 1) r = true → isCons r = true → out.length ≤ 1000 → LI (q + 1) r out = LI q (kid1 r) (out ++ [kid0 r]))
    (hn : ∀ q n r out, isVr (n + 1) r = true → isCons r = false → LI (q + 1) r out = bif isNil r then yesI out else noI) :
    ∀ (n : Nat) (r : List AV) (out : List (List AV)) (q : Nat), n ≤ N → isVr n r = true → out.length + chainR n r ≤ 1000 → chainR n r < q → LI q r out = itR n r out
  | 0, r, _, _, _, h, _, _ => by rw [isVr_zero] at h; cases h
  | n + 1, _, _, 0, _, _, _, h => by omega
  | n + 1, r, out, q + 1, hN, h, hl, hq => by
    cases hcr : isCons r with
    | false =>
      rw [hn q n r out h hcr]
      have e1 : itB (n + 1) r = isNil r := by simp only [itB, hcr, cond_false]
      have e2 : itA (n + 1) r out = out := by simp only [itA, hcr, cond_false]
      unfold itR
      rw [e1, e2]
      cases isNil r <;> rfl
    | true =>
      have e0 : chainR (n + 1) r = chainR n (kid1 r) + 1 := by simp only [chainR, hcr, cond_true]
      have e1 : itB (n + 1) r = itB n (kid1 r) := by simp only [itB, hcr, cond_true]
      have e2 : itA (n + 1) r out = itA n (kid1 r) (out ++ [kid0 r]) := by simp only [itA, hcr, cond_true]
      rw [e0] at hl hq
      rw [hc q n r out (by omega) h hcr (by omega)]
      have hk : isVr n (kid1 r) = true := by
        obtain ⟨a, b, s, rows, rfl, _, hr⟩ := isVr_succ h
        have hl2 : rows.length = 2 := by
          have : (kd (VV a b s rows) == 4 && (nm (VV a b s rows) == 1 && (len2 (VV a b s rows) && tx (VV a b s rows) == E0))) = true := hcr
          simp only [Bool.and_eq_true] at this
          have h3 := this.2.2.1
          unfold len2 at h3
          have : kids (VV a b s rows) = rows := rfl
          rw [this] at h3
          have := eq_of_beq h3
          omega
        have : kid1 (VV a b s rows) = rows[1] := getD_at (l := rows) (by omega)
        rw [this]; exact hr _ (List.getElem_mem _)
      have := items_gen N LI hc hn n (kid1 r) (out ++ [kid0 r]) q (by omega) hk (by simp; omega) (by omega)
      rw [this]
      unfold itR
      rw [e1, e2]
theorem cons_parts {a b : Int} {s : ByteArray} {rows : List (List AV)} (h : isCons (VV a b s rows) = true) : (a == 4) = true ∧ (b == 1) = true ∧ ((((rows.length : Nat) : Int)) == 2) = true ∧ (s == E0) = true := by
  have : (a == 4 && (b == 1 && ((((rows.length : Nat) : Int)) == 2 && s == E0))) = true := h
  simp only [Bool.and_eq_true] at this
  exact ⟨this.1, this.2.1, this.2.2.1, this.2.2.2⟩
theorem pickC {p1 p2 p3 p4 c0 v c1 : Bool} {A X1 X2 X3 X4 : Option Res} (h1 : p1 = true) (h2 : p2 = true) (h3 : p3 = true) (h4 : p4 = true) (h5 : c0 = true) (h6 : v = true) (h7 : c1 = true) :
    (bif p1 then (bif p2 then (bif p3 then (bif p4 then (bif c0 then (bif v then (bif c1 then A else none) else none) else none) else X4) else X3) else X2) else X1) = A := by subst h1 h2 h3 h4 h5 h6 h7; rfl
theorem pickD {p1 p2 p3 p4 c0 v f c1 : Bool} {A X1 X2 X3 X4 : Option Res} (h1 : p1 = true) (h2 : p2 = true) (h3 : p3 = true) (h4 : p4 = true) (h5 : c0 = true) (h6 : v = true) (hf : f = true) (h7 : c1 = true) :
    (bif p1 then (bif p2 then (bif p3 then (bif p4 then (bif c0 then (bif v then (bif f then (bif c1 then A else none) else none) else none) else none) else X4) else X3) else X2) else X1) = A := by subst h1 h2 h3 h4 h5 h6 hf h7; rfl
theorem pickX {p1 p2 p3 p4 : Bool} {A X : Option Res} (h : (p1 && (p2 && (p3 && p4))) = false) : (bif p1 then (bif p2 then (bif p3 then (bif p4 then A else X) else X) else X) else X) = X := by
  cases p1 <;> cases p2 <;> cases p3 <;> cases p4 <;> first | rfl | cases h
theorem x43_eq (a b : Int) (s : ByteArray) (rows out : List (List AV)) : x43 rows s a b out = bif isNil (VV a b s rows) then yesI out else noI := by
  have e : isNil (VV a b s rows) = (a == 4 && (b == 0 && (!(decide (((rows.length : Nat) : Int) > 0)) && s == E0))) := rfl
  rw [e]
  unfold x43
  simp only [bne]
  cases a == 4 <;> cases b == 0 <;> cases decide (((rows.length : Nat) : Int) > 0) <;> cases s == E0 <;> rfl
theorem x44_eq (a b : Int) (s : ByteArray) (rows out : List (List AV)) : x44 rows s a b out = bif isNil (VV a b s rows) then yesI out else noI := by
  have e : isNil (VV a b s rows) = (a == 4 && (b == 0 && (!(decide (((rows.length : Nat) : Int) > 0)) && s == E0))) := rfl
  rw [e]
  unfold x44
  simp only [bne]
  cases a == 4 <;> cases b == 0 <;> cases decide (((rows.length : Nat) : Int) > 0) <;> cases s == E0 <;> rfl
theorem fitB_small {out : List (List AV)} {x : List AV} (h : out.length ≤ 1000) : fitB (out.length + [x].length) = true := by unfold fitB; exact Nat.ble_eq_true_of_le (by simp; omega)
theorem not_cons1 {a b : Int} {s : ByteArray} {rows : List (List AV)} (h : isCons (VV a b s rows) = false) : (a == 4 && (b == 1 && ((((rows.length : Nat) : Int)) == 2 && s == E0))) = false := h
theorem not_cons2 {a b : Int} {s : ByteArray} {rows : List (List AV)} (h : isCons (VV a b s rows) = false) : (a == 4 && (b == 1 && (s == E0 && (((rows.length : Nat) : Int)) == 2))) = false := by
  have := not_cons1 h
  cases h1 : a == 4 <;> cases h2 : b == 1 <;> cases h3 : s == E0 <;> cases h4 : (((rows.length : Nat) : Int)) == 2 <;> simp_all
theorem kids_at {N n : Nat} {a b : Int} {s : ByteArray} {rows : List (List AV)} (hN : n ≤ N) (hr : ∀ x ∈ rows, isVr n x = true) (hl : (((rows.length : Nat) : Int) == 2) = true) :
    nx rows 0 = kid0 (VV a b s rows) ∧ nx rows 1 = kid1 (VV a b s rows) ∧ isVr N (nx rows 0) = true ∧ chk rows 0 = true ∧ chk rows 1 = true := by
  have h2 : rows.length = 2 := by have := eq_of_beq hl; omega
  have e0 : nx rows 0 = rows[0] := nx_at (i := 0) hr (by omega)
  have e1 : nx rows 1 = rows[1] := nx_at (i := 1) hr (by omega)
  have k0 : kid0 (VV a b s rows) = rows[0] := getD_at (l := rows) (by omega)
  have k1 : kid1 (VV a b s rows) = rows[1] := getD_at (l := rows) (by omega)
  refine ⟨e0.trans k0.symm, e1.trans k1.symm, ?_, chk_nat (i := 0) (by omega), chk_nat (i := 1) (by omega)⟩
  rw [e0]; exact isRow_le (hr _ (List.getElem_mem _)) hN
theorem ev43 (n : Nat) (r : List AV) (h : isVr n r = true) (hc : chainR n r ≤ 1000) : ∃ k, ev (QV n) k 43 [.agg r] [] = itR n r [] := by
  have G := items_gen n (fun q r out => loopAt (QV n) 43 Try.f43 0 1001 [1,1,0,0] [] q (st43 r out))
    (fun q m r out hN h hc ho => by
      obtain ⟨a, b, s, rows, rfl, hl, hr⟩ := isVr_succ h
      obtain ⟨p1, p2, p3, p4⟩ := cons_parts hc
      obtain ⟨k0, k1, hv, c0, c1⟩ := kids_at (a := a) (b := b) (s := s) hN hr p3
      have h0 := loopAt_succ (QV n) 43 Try.f43 0 1001 [1,1,0,0] [] q (st43 (VV a b s rows) out)
      match out, ho with
      | [], _ =>
        have h1 := h0.trans ((r43a n 1001 rows s _ a b).trans (pickC p1 p2 p3 p4 c0 hv c1))
        rw [k0, k1] at h1
        exact h1
      | x :: xs, ho =>
        have h1 := h0.trans ((r43b n 1001 rows xs x s _ a b).trans (pickD p1 p2 p3 p4 c0 hv (fitB_small ho) c1))
        rw [k0, k1] at h1
        exact h1)
    (fun q m r out h hc => by
      obtain ⟨a, b, s, rows, rfl, hl, hr⟩ := isVr_succ h
      have h0 := loopAt_succ (QV n) 43 Try.f43 0 1001 [1,1,0,0] [] q (st43 (VV a b s rows) out)
      match out with
      | [] => exact h0.trans ((r43a n 1001 rows s _ a b).trans ((pickX (not_cons1 hc)).trans (x43_eq a b s rows [])))
      | x :: xs => exact h0.trans ((r43b n 1001 rows xs x s _ a b).trans ((pickX (not_cons1 hc)).trans (x43_eq a b s rows (x :: xs)))))
    n r [] 1001 (Nat.le_refl _) h (by simpa using hc) (by omega)
  obtain ⟨a, b, s, rows, rfl⟩ : ∃ a b s rows, r = VV a b s rows := by
    cases n with
    | zero => rw [isVr_zero] at h; cases h
    | succ n => obtain ⟨a, b, s, rows, e, _⟩ := isVr_succ h; exact ⟨a, b, s, rows, e⟩
  exact ⟨1001 + 1, (b43 n 1001 rows s a b).trans G⟩
theorem ev44 (n : Nat) (r : List AV) (h : isVr n r = true) (hc : chainR n r ≤ 1000) : ∃ k, ev (QV n) k 44 [.agg r] [] = itR n r [] := by
  have G := items_gen n (fun q r out => loopAt (QV n) 44 Try.f44 0 1001 [1,1,0,0] [] q (st44 r out))
    (fun q m r out hN h hc ho => by
      obtain ⟨a, b, s, rows, rfl, hl, hr⟩ := isVr_succ h
      obtain ⟨p1, p2, p3, p4⟩ := cons_parts hc
      obtain ⟨k0, k1, hv, c0, c1⟩ := kids_at (a := a) (b := b) (s := s) hN hr p3
      have h0 := loopAt_succ (QV n) 44 Try.f44 0 1001 [1,1,0,0] [] q (st44 (VV a b s rows) out)
      match out, ho with
      | [], _ =>
        have h1 := h0.trans ((r44a n 1001 rows s _ a b).trans (pickC p1 p2 p4 p3 c0 hv c1))
        rw [k0, k1] at h1
        exact h1
      | [x], ho =>
        have h1 := h0.trans ((r44b n 1001 rows [x] s _ a b).trans (pickD p1 p2 p4 p3 c0 hv (fitB_small ho) c1))
        rw [k0, k1] at h1
        exact h1
      | x :: y :: l, ho =>
        have h1 := h0.trans ((r44c n 1001 rows (x :: y :: l) s _ a b).trans (pickD p1 p2 p4 p3 c0 hv (fitB_small ho) c1))
        rw [k0, k1] at h1
        exact h1)
    (fun q m r out h hc => by
      obtain ⟨a, b, s, rows, rfl, hl, hr⟩ := isVr_succ h
      have h0 := loopAt_succ (QV n) 44 Try.f44 0 1001 [1,1,0,0] [] q (st44 (VV a b s rows) out)
      match out with
      | [] => exact h0.trans ((r44a n 1001 rows s _ a b).trans ((pickX (not_cons2 hc)).trans (x44_eq a b s rows [])))
      | [x] => exact h0.trans ((r44b n 1001 rows [x] s _ a b).trans ((pickX (not_cons2 hc)).trans (x44_eq a b s rows [x])))
      | x :: y :: l => exact h0.trans ((r44c n 1001 rows (x :: y :: l) s _ a b).trans ((pickX (not_cons2 hc)).trans (x44_eq a b s rows (x :: y :: l)))))
    n r [] 1001 (Nat.le_refl _) h (by simpa using hc) (by omega)
  obtain ⟨a, b, s, rows, rfl⟩ : ∃ a b s rows, r = VV a b s rows := by
    cases n with
    | zero => rw [isVr_zero] at h; cases h
    | succ n => obtain ⟨a, b, s, rows, e, _⟩ := isVr_succ h; exact ⟨a, b, s, rows, e⟩
  exact ⟨1001 + 1, (b44 n 1001 rows s a b).trans G⟩
end
end Go.Proofs.Ytciighngjnjmlaa.W
namespace Go.Proofs.Ytciighngjnjmlaa.W
open Go.Fw
set_option maxRecDepth 100000
noncomputable section
noncomputable def chainV (n : Nat) : AV → Nat
  | .agg r => chainR n r
  | _ => 0
noncomputable def itL (n : Nat) : AV → List (List AV)
  | .agg r => bif itB n r then itA n r [] else []
  | _ => []
noncomputable def itT (n : Nat) : AV → Bool := onB (itB n)
noncomputable def FIt (n : Nat) : List AV → List AObj → Ab Res := fun args st => match args, st with
  | [v], [] => some (isV n v && Nat.ble (chainV n v) 1000, (.tup [.sl 28 .any (itL n v), bl (itT n v)], []))
  | _, _ => none
theorem FIt_inv {n : Nat} {args : List AV} {st : List AObj} {r : Res} (h : FIt n args st = some (true, r)) : ∃ q, args = [.agg q] ∧ st = [] ∧ isVr n q = true ∧ chainR n q ≤ 1000 ∧ some r = itR n q [] := by
  unfold FIt at h
  split at h
  · rename_i v
    simp only [Option.some.injEq, Prod.mk.injEq, Bool.and_eq_true] at h
    obtain ⟨⟨h1, h2⟩, rfl⟩ := h
    cases v with
    | agg q => exact ⟨q, rfl, rfl, h1, Nat.le_of_ble_eq_true h2, rfl⟩
    | _ => cases h1
  · cases h
theorem K43 (n : Nat) : SysOk Try.prog ((QV n).tell 43 (FIt n)) := (QVOk n).tell 43 _ fun args st r h => by
  obtain ⟨q, rfl, rfl, h1, h2, e⟩ := FIt_inv h
  rw [e]; exact ev43 n q h1 h2
theorem K44 (n : Nat) : SysOk Try.prog ((QV n).tell 44 (FIt n)) := (QVOk n).tell 44 _ fun args st r h => by
  obtain ⟨q, rfl, rfl, h1, h2, e⟩ := FIt_inv h
  rw [e]; exact ev44 n q h1 h2
theorem fIdx_dec (f : Int → List AV → Bool × Int) (M : Int) : ∀ (l : List (List AV)) (c i : Int), (∀ x ∈ l, ∀ c, 0 ≤ c → c ≤ M → (f c x).1 = true → 0 ≤ (f c x).2 ∧ (f c x).2 ≤ c) → 0 ≤ c → c ≤ M → 0 ≤ i → (fIdx f l c i).1 < 0 → 0 ≤ (fIdx f l c i).2 ∧ (fIdx f l c i).2 ≤ c
  | [], c, i, _, h0, _, _, _ => ⟨h0, Int.le_refl _⟩
  | x :: xs, c, i, hf, h0, hM, hi, h => by
    simp only [fIdx] at h ⊢
    cases hp : (f c x).1 with
    | false => rw [hp] at h; simp only [cond_false] at h; omega
    | true =>
      rw [hp] at h
      simp only [cond_true] at h ⊢
      obtain ⟨a1, a2⟩ := hf x List.mem_cons_self c h0 hM hp
      obtain ⟨b1, b2⟩ := fIdx_dec f M xs _ (i + 1) (fun y hy => hf y (List.mem_cons_of_mem _ hy)) a1 (by omega) (by omega) h
      exact ⟨b1, by omega⟩
theorem cnt_chain : ∀ (n : Nat) (r : List AV) (c : Int), isVr n r = true → 0 ≤ c → c ≤ 1000 → (cntR n c r).1 = true → 0 ≤ (cntR n c r).2 ∧ (cntR n c r).2 + chainR n r + 1 ≤ c
  | 0, r, c, h, _, _, _ => by rw [isVr_zero] at h; cases h
  | n + 1, r, c, h, h0, hM, ht => by
    obtain ⟨a, b, s, rows, rfl, _, hr⟩ := isVr_succ h
    have hk : kids (VV a b s rows) = rows := rfl
    simp only [cntR, hk] at ht ⊢
    cases h1 : decide (w64 (c - 1) ≥ 0) with
    | false => rw [h1] at ht; simp at ht
    | true =>
      rw [h1] at ht
      simp only [cond_true] at ht ⊢
      cases h2 : decide (((tx (VV a b s rows)).size : Int) ≤ 300) with
      | false => rw [h2] at ht; simp at ht
      | true =>
        rw [h2] at ht
        simp only [cond_true, Bool.not_eq_true', decide_eq_false_iff_not] at ht ⊢
        have hw : w64 (c - 1) = c - 1 := by rw [w64_def]; omega
        have hc1 : 0 ≤ c - 1 := by have := of_decide_eq_true h1; omega
        rw [hw] at ht ⊢
        have hf : ∀ x ∈ rows, ∀ c, 0 ≤ c → c ≤ 1000 → (cntR n c x).1 = true → 0 ≤ (cntR n c x).2 ∧ (cntR n c x).2 ≤ c := fun x hx c a1 a2 a3 => by
          obtain ⟨b1, b2⟩ := cnt_chain n x c (hr x hx) a1 a2 a3
          exact ⟨b1, by omega⟩
        obtain ⟨d1, d2⟩ := fIdx_dec (cntR n) 1000 rows (c - 1) 0 hf hc1 (by omega) (Int.le_refl _) (by omega)
        refine ⟨d1, ?_⟩
        cases hcr : isCons (VV a b s rows) with
        | false => simp only [chainR, hcr, cond_false]; omega
        | true =>
          obtain ⟨_, _, p3, _⟩ := cons_parts hcr
          have hl2 : rows.length = 2 := by have := eq_of_beq p3; omega
          have e1 : chainR (n + 1) (VV a b s rows) = chainR n (kid1 (VV a b s rows)) + 1 := by simp only [chainR, hcr, cond_true]
          rw [e1]
          match rows, hl2, hr, hf, ht, d1, d2 with
          | [x, y], _, hr, hf, ht, d1, d2 =>
            have ek : kid1 (VV a b s [x, y]) = y := rfl
            rw [ek]
            simp only [fIdx] at ht d1 d2 ⊢
            cases hp : (cntR n (c - 1) x).1 with
            | false => rw [hp] at ht; simp at ht
            | true =>
              rw [hp] at ht
              simp only [cond_true] at ht ⊢
              cases hq : (cntR n (cntR n (c - 1) x).2 y).1 with
              | false => rw [hq] at ht; simp at ht
              | true =>
                simp only [cond_true]
                obtain ⟨a1, a2⟩ := hf x (by simp) (c - 1) hc1 (by omega) hp
                obtain ⟨b1, b2⟩ := cnt_chain n y _ (hr y (by simp)) a1 (by omega) hq
                omega
theorem few_chain {n : Nat} {v : AV} (h : isV n v = true) (hf : (cntA n 100 v).1 = true) : Nat.ble (chainV n v) 1000 = true := by
  cases v with
  | agg r =>
    obtain ⟨h1, h2⟩ := cnt_chain n r 100 h (by omega) (by omega) hf
    exact Nat.ble_eq_true_of_le (by change chainR n r ≤ 1000; omega)
  | _ => cases h
noncomputable def few40 (n : Nat) (x : List AV) : Bool := (cntR n 40 x).1
noncomputable def F41 (n : Nat) : List AV → List AObj → Ab Res := FVb (fun v => !(cntA n 40 v).1) (isV n)
noncomputable def Y1 (n : Nat) : FSys := (QV n).tell 41 (F41 n)
noncomputable def f41 : AV := .fn (.func 41) [] []
noncomputable def idxL (p : List AV → Bool) : List (List AV) → Int → Int
  | [], _ => -1
  | x :: xs, i => bif p x then i else idxL p xs (i + 1)
noncomputable def F89l (n : Nat) : List AV → List AObj → Ab Res := fun args st => match args, st with
  | [.sl 28 .any rows, .fn (.func h) [] []], [] => bif Nat.beq h 41 then some (rowsOk n rows, (i64 (idxL (fun x => !(few40 n x)) rows 0), [])) else none
  | _, _ => none
noncomputable def Y2 (n : Nat) : FSys := (Y1 n).tell 89 (F89l n)
noncomputable def hasBig (n : Nat) (rows : List (List AV)) : Bool := decide (idxL (fun x => !(few40 n x)) rows 0 ≥ 0)
noncomputable def F40l (n : Nat) : List AV → List AObj → Ab Res := fun args st => match args, st with
  | [.sl 28 .any rows, .fn (.func h) [] []], [] => bif Nat.beq h 41 then some (rowsOk n rows, (bl (hasBig n rows), [])) else none
  | _, _ => none
noncomputable def Y3 (n : Nat) : FSys := (Y2 n).tell 40 (F40l n)
noncomputable def σ89l (rows : List (List AV)) (i : Int) : St := ⟨tm 19 [(0, .sl 28 .any rows), (1, f41), (7, i64 (rows.length : Nat)), (8, i64 i)], [], []⟩
section
variable (n k : Nat) (rows : List (List AV)) (s : ByteArray) (R : St → Option Res) (a b i : Int)
theorem b41 : ev (QV n) (k + 1) 41 [.agg (VV a b s rows)] [] = bif isV n (.agg (VV a b s rows)) then some (bl (!(cntA n 40 (.agg (VV a b s rows))).1), []) else none := by kernel_rfl
theorem r89l : roundAt (Y1 n) 89 Try.f89 0 k [1,0,1,0] [] R (σ89l rows i) = bif decide (i < (rows.length : Nat)) then (bif decide (0 ≤ i) && decide (i < (rows.length : Nat)) then (bif isV n (.agg (nx rows i)) then (bif !(cntA n 40 (.agg (nx rows i))).1 then some (i64 i, []) else R (σ89l rows (IntKind.i64.wrap (i + 1)))) else none) else none) else some (i64 (-1), []) := by kernel_rfl
theorem b89l : ev (Y1 n) (k + 1) 89 [.sl 28 .any rows, f41] [] = loopAt (Y1 n) 89 Try.f89 0 k [1,0,1,0] [] k (σ89l rows 0) := by kernel_rfl
theorem b40l : ev (Y2 n) (k + 1) 40 [.sl 28 .any rows, f41] [] = bif rowsOk n rows then some (bl (hasBig n rows), []) else none := by kernel_rfl
end
theorem foldI_idx (p : List AV → Bool) : ∀ (l : List (List AV)) (i : Int), foldI (A := Unit) (fun _ x => p x) (fun _ i _ => some (i64 i, [])) (fun c _ => c) (fun _ => some (i64 (-1), [])) l () i = some (i64 (idxL p l i), [])
  | [], i => rfl
  | x :: xs, i => by
    simp only [foldI, idxL]
    cases p x with
    | true => rfl
    | false => exact foldI_idx p xs (i + 1)
theorem Y1Ok (n : Nat) : SysOk Try.prog (Y1 n) := (QVOk n).tell 41 _ fun args st r h => by
  obtain ⟨v, rfl, rfl, hv, rfl⟩ := FVb_inv h
  obtain ⟨a, b, s, rows, rfl⟩ := isV_ex hv
  exact ⟨0 + 1, (b41 n 0 rows s a b).trans (by rw [hv]; rfl)⟩
theorem Y2Ok (n : Nat) : SysOk Try.prog (Y2 n) := (Y1Ok n).tell 89 _ fun args st r h => by
  unfold F89l at h
  split at h
  · rename_i rows h'
    cases hb : Nat.beq h' 41 with
    | false => rw [hb] at h; cases h
    | true =>
      rw [hb] at h
      obtain rfl := Nat.eq_of_beq_eq_true hb
      simp only [cond_true, Option.some.injEq, Prod.mk.injEq] at h
      obtain ⟨h1, rfl⟩ := h
      obtain ⟨hl, hr⟩ := rowsOk_iff h1
      refine ⟨rows.length + 1 + 1, (b89l n _ rows).trans ?_⟩
      have L := loop_idx (S := Y1 n) (f := 89) (fn := Try.f89) (m := 0) (k := rows.length + 1) (p := [1,0,1,0]) (ms := []) (rows := rows) (A := Unit)
        (fun _ i => σ89l rows i) (fun _ x => !(few40 n x)) (fun _ i _ => some (i64 i, [])) (fun c _ => c) (fun _ => some (i64 (-1), []))
        (fun R c i hi => (r89l n _ rows R i).trans (pass hr hl hi (fun x j => bif !(few40 n x) then some (i64 i, []) else R (σ89l rows j)) _ _ _))
        (fun R c => (r89l n _ rows R _).trans (stopped _ _ _)) (rows.length + 1) 0 () (Nat.zero_le _) (by omega)
      exact L.trans (foldI_idx _ rows 0)
  · cases h
theorem Y3Ok (n : Nat) : SysOk Try.prog (Y3 n) := (Y2Ok n).tell 40 _ fun args st r h => by
  unfold F40l at h
  split at h
  · rename_i rows h'
    cases hb : Nat.beq h' 41 with
    | false => rw [hb] at h; cases h
    | true =>
      rw [hb] at h
      obtain rfl := Nat.eq_of_beq_eq_true hb
      simp only [cond_true, Option.some.injEq, Prod.mk.injEq] at h
      obtain ⟨h1, rfl⟩ := h
      exact ⟨0 + 1, (b40l n 0 rows).trans (by rw [h1]; rfl)⟩
  · cases h
noncomputable def σ27r (rows rows2 : List (List AV)) (i : Int) : St := ⟨tm 32 [(1, .sl 28 .any rows2), (2, .fn (.func 17) [] []), (15, .sl 28 .any rows), (16, i64 (rows.length : Nat)), (17, i64 i)], [], []⟩
section
variable (n N k : Nat) (rows rows2 : List (List AV)) (R : St → Option Res) (i : Int)
theorem r27r : roundAt (L17 N n) 27 Try.f27 0 k [1,1,0,1,0] [] R (σ27r rows rows2 i) = bif decide (i < (rows.length : Nat)) then (bif decide (0 ≤ i) && decide (i < (rows.length : Nat)) then (bif decide (0 ≤ i) && decide (i < (rows2.length : Nat)) then (bif isV n (.agg (nx rows i)) && isV n (.agg (nx rows2 i)) then (bif !(eqV n (.agg (nx rows i)) (.agg (nx rows2 i))) then some (bl false, []) else R (σ27r rows rows2 (IntKind.i64.wrap (i + 1)))) else none) else none) else none) else some (bl true, []) := by kernel_rfl
theorem b27r : ev (L17 N n) (k + 1) 27 [.sl 28 .any rows, .sl 28 .any rows2, .fn (.func 17) [] []] [] = bif ((rows.length : Nat) : Int) != ((rows2.length : Nat) : Int) then some (bl false, []) else loopAt (L17 N n) 27 Try.f27 0 k [1,1,0,1,0] [] k (σ27r rows rows2 0) := by kernel_rfl
end
theorem ev27r (N n : Nat) (rows rows2 : List (List AV)) (h1 : rowsOk n rows = true) (h2 : rowsOk n rows2 = true) : ∃ k, ev (L17 N n) k 27 [.sl 28 .any rows, .sl 28 .any rows2, .fn (.func 17) [] []] [] = some (bl (all2 (eqR n) rows rows2), []) := by
  obtain ⟨hl, hr⟩ := rowsOk_iff h1
  obtain ⟨hl2, hr2⟩ := rowsOk_iff h2
  refine ⟨rows.length + 1 + 1, (b27r n N _ rows rows2).trans ?_⟩
  rw [len_ne]
  by_cases hlen : rows.length = rows2.length
  · have L := loop_pair (S := L17 N n) (f := 27) (fn := Try.f27) (m := 0) (k := rows.length + 1) (p := [1,1,0,1,0]) (ms := []) (rows := rows) (rows2 := rows2) (A := Unit)
      (fun _ i => σ27r rows rows2 i) (fun _ x y => !(eqR n x y)) (fun _ _ _ => some (bl false, [])) (fun c _ _ => c) (fun _ _ _ => some (bl true, []))
      (fun R c i hi hj => (r27r n N _ rows rows2 R i).trans (pass2 hr hr2 hl hi hj (fun x y j => bif !(eqR n x y) then some (bl false, []) else R (σ27r rows rows2 j)) _ _ _ _))
      (fun R c i hi hj ho => (r27r n N _ rows rows2 R _).trans (by
        have : i = rows.length := by omega
        subst this
        exact stopped _ _ _)) (rows.length + 1) 0 () (Nat.zero_le _) (Nat.zero_le _) (by omega)
    have L2 := L.trans (foldP_all2 (eqR n) () rows rows2 hlen)
    simp only [Int.natCast_zero] at L2
    rw [L2]
    have d : decide (rows.length ≠ rows2.length) = false := by simpa using hlen
    rw [d]
    rfl
  · have d : decide (rows.length ≠ rows2.length) = true := by simpa using hlen
    rw [d, all2_len hlen]
    rfl
theorem K27r (N n : Nat) : SysOk Try.prog ((L17 N n).tell 27 (FEq 17 n)) := (K17 N n).tell 27 _ fun args st r h => by
  obtain ⟨rows, rows2, rfl, rfl, h1, h2, rfl⟩ := FEq_inv h
  exact ev27r N n rows rows2 h1 h2
end
end Go.Proofs.Ytciighngjnjmlaa.W
