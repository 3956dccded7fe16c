/- A part of the proofs over these laws: what its functions come to. No conditions. -/
import Derived.Test.YtciighngjnjmlaaGk
import Derived.Test.YtciighngjnjmlaaRows
set_option linter.all false
namespace Go.Proofs.Ytciighngjnjmlaa.W
open Go.Fw
set_option maxRecDepth 100000
noncomputable section
noncomputable def YT (m : Nat) : FSys := (((QV m).tell 24 (lvB tidyV m)).tell 26 (F26 m)).tell 27 (FEq 16 m)
theorem YTOk (m : Nat) : SysOk Try.prog (YT m) :=
  SysOk.tellMore (.tellMore (.tellMore (QVOk m) (K24 m m) rfl rfl) (K26 m) rfl rfl) ((K16 m m).tell 27 _ (told27 m m)) rfl rfl
noncomputable def ff : Option Res := some (bl false, [])
noncomputable def c38 (a0 b0 a1 b1 a2 b2 : Int) (s0 s1 s2 : ByteArray) (r0 r1 r2 : List (List AV)) : List AV := VV a0 b0 s0 r0 ++ (VV a1 b1 s1 r1 ++ VV a2 b2 s2 r2)
noncomputable def at0 (c : List AV) (i : Nat) : List AV := VV (c.getD i .undef).toI (c.getD (i + 1) .undef).toI (c.getD (i + 2) .undef).toS (c.getD (i + 3) .undef).rows
noncomputable def can38 (c : List AV) : List AV := at0 c 0 ++ (at0 c 4 ++ at0 c 8)
noncomputable def ij (i j : Int) : Bool := (i == 0 && (j == 1 || j == 2)) || (i == 1 && (j == 0 || j == 2))
noncomputable def v38 (c : List AV) (i : Int) : AV := .agg (at0 c (i.toNat * 4))
noncomputable def F25 (m : Nat) : List AV → List AObj → Ab Res := fun args st => match args, st with
  | [.k (.int .i64 i), .k (.int .i64 j), .ep 38 c 0], [] => some ((eqC c (can38 c) && ij i j) && isVV m (v38 c i) (v38 c j), (i64 (cmpN m (v38 c i) (v38 c j)), []))
  | _, _ => none
section
variable (m k : Nat) (a0 b0 a1 b1 a2 b2 : Int) (s0 s1 s2 : ByteArray) (r0 r1 r2 : List (List AV))
abbrev bC (m : Nat) (u v : AV) : Option Res := bif isVV m u v then some (i64 (cmpN m u v), []) else none
theorem b25a : ev (YT m) (k + 1) 25 [i64 0, i64 1, .ep 38 (c38 a0 b0 a1 b1 a2 b2 s0 s1 s2 r0 r1 r2) 0] [] = bC m (.agg (VV a0 b0 s0 r0)) (.agg (VV a1 b1 s1 r1)) := by kernel_rfl
theorem b25b : ev (YT m) (k + 1) 25 [i64 0, i64 2, .ep 38 (c38 a0 b0 a1 b1 a2 b2 s0 s1 s2 r0 r1 r2) 0] [] = bC m (.agg (VV a0 b0 s0 r0)) (.agg (VV a2 b2 s2 r2)) := by kernel_rfl
theorem b25c : ev (YT m) (k + 1) 25 [i64 1, i64 0, .ep 38 (c38 a0 b0 a1 b1 a2 b2 s0 s1 s2 r0 r1 r2) 0] [] = bC m (.agg (VV a1 b1 s1 r1)) (.agg (VV a0 b0 s0 r0)) := by kernel_rfl
theorem b25d : ev (YT m) (k + 1) 25 [i64 1, i64 2, .ep 38 (c38 a0 b0 a1 b1 a2 b2 s0 s1 s2 r0 r1 r2) 0] [] = bC m (.agg (VV a1 b1 s1 r1)) (.agg (VV a2 b2 s2 r2)) := by kernel_rfl
end
theorem told25 (m : Nat) (args : List AV) (st : List AObj) (r : Res) (h : F25 m args st = some (true, r)) : ∃ k, ev (YT m) k 25 args st = some r := by
  unfold F25 at h
  split at h
  · rename_i i j c
    simp only [Option.some.injEq, Prod.mk.injEq, Bool.and_eq_true, eqC_iff] at h
    obtain ⟨⟨⟨hc, hij⟩, hv⟩, rfl⟩ := h
    rw [hc]
    rw [hc] at hv
    unfold ij at hij
    simp only [Bool.or_eq_true, Bool.and_eq_true, beq_iff_eq] at hij
    rcases hij with ⟨rfl, rfl | rfl⟩ | ⟨rfl, rfl | rfl⟩
    · exact ⟨0 + 1, (b25a m 0 _ _ _ _ _ _ _ _ _ _ _ _).trans (by
        have hv' : isVV m (.agg (at0 c 0)) (.agg (at0 c 4)) = true := hv
        unfold bC
        exact (congrArg (fun b => bif b then _ else none) hv').trans rfl)⟩
    · exact ⟨0 + 1, (b25b m 0 _ _ _ _ _ _ _ _ _ _ _ _).trans (by
        have hv' : isVV m (.agg (at0 c 0)) (.agg (at0 c 8)) = true := hv
        unfold bC
        exact (congrArg (fun b => bif b then _ else none) hv').trans rfl)⟩
    · exact ⟨0 + 1, (b25c m 0 _ _ _ _ _ _ _ _ _ _ _ _).trans (by
        have hv' : isVV m (.agg (at0 c 4)) (.agg (at0 c 0)) = true := hv
        unfold bC
        exact (congrArg (fun b => bif b then _ else none) hv').trans rfl)⟩
    · exact ⟨0 + 1, (b25d m 0 _ _ _ _ _ _ _ _ _ _ _ _).trans (by
        have hv' : isVV m (.agg (at0 c 4)) (.agg (at0 c 8)) = true := hv
        unfold bC
        exact (congrArg (fun b => bif b then _ else none) hv').trans rfl)⟩
  · cases h
noncomputable def TW (n : Nat) : FSys := ((YT (n + 8)).tell 25 (F25 (n + 8))).tell 9 F9
theorem TWOk (n : Nat) : SysOk Try.prog (TW n) := SysOk.tellMore ((YTOk (n + 8)).tell 25 _ (told25 (n + 8))) (sysIOk n) rfl rfl
end
end Go.Proofs.Ytciighngjnjmlaa.W
namespace Go.Proofs.Ytciighngjnjmlaa.W
open Go.Fw
set_option maxRecDepth 100000
noncomputable section
section
variable (n k : Nat) (a0 b0 a1 b1 a2 b2 : Int) (s0 s1 s2 : ByteArray) (r0 r1 r2 rows : List (List AV)) (R : St → Option Res) (i : Int)
noncomputable def σ5 (i : Int) : St := ⟨tm 119 [(1, .ep 38 (c38 a0 b0 a1 b1 a2 b2 s0 s1 s2 r0 r1 r2) 0), (17, .agg (c38 a0 b0 a1 b1 a2 b2 s0 s1 s2 r0 r1 r2)), (18, i64 i)], [], []⟩
noncomputable def τ5 (rows : List (List AV)) (i : Int) : St := ⟨tm 119 [(8, .sl 28 .any rows), (12, i64 i)], [], []⟩
noncomputable def rnd5 (m : Nat) (v : AV) (X : Option Res) : Option Res :=
  thenN (isV m v) (bif !(cntA m 60 v).1 then tt else thenN (isV m v) (bif !(tidyV m v) then tt else thenN (isVV m v v) (bif cmpE m v v != 0 then tt else X)))
theorem b5 : ev (TW n) (k + 1) 5 [.agg (c38 a0 b0 a1 b1 a2 b2 s0 s1 s2 r0 r1 r2)] [] = loopAt (TW n) 5 Try.f5 0 k [1,1,0,1,0] [] k (σ5 a0 b0 a1 b1 a2 b2 s0 s1 s2 r0 r1 r2 0) := by kernel_rfl
theorem r5a : roundAt (TW n) 5 Try.f5 0 k [1,1,0,1,0] [] R (σ5 a0 b0 a1 b1 a2 b2 s0 s1 s2 r0 r1 r2 0) = rnd5 (n + 8) (.agg (VV a0 b0 s0 r0)) (R (σ5 a0 b0 a1 b1 a2 b2 s0 s1 s2 r0 r1 r2 1)) := by kernel_rfl
theorem r5b : roundAt (TW n) 5 Try.f5 0 k [1,1,0,1,0] [] R (σ5 a0 b0 a1 b1 a2 b2 s0 s1 s2 r0 r1 r2 1) = rnd5 (n + 8) (.agg (VV a1 b1 s1 r1)) (R (σ5 a0 b0 a1 b1 a2 b2 s0 s1 s2 r0 r1 r2 2)) := by kernel_rfl
theorem r5c : roundAt (TW n) 5 Try.f5 0 k [1,1,0,1,0] [] R (σ5 a0 b0 a1 b1 a2 b2 s0 s1 s2 r0 r1 r2 2) = rnd5 (n + 8) (.agg (VV a2 b2 s2 r2)) (R (σ5 a0 b0 a1 b1 a2 b2 s0 s1 s2 r0 r1 r2 3)) := by kernel_rfl
noncomputable def tail5 (m : Nat) (rows : List (List AV)) (L : Option Res) : Option Res :=
  thenN (okL m rows) (thenN (okL m (sortM m rows)) (bif sortE m rows != 0 then ff else bif sortE m (sortM m rows) != 0 then ff else
    thenN (okE m (sortM m rows) (sortM m (sortM m rows))) (bif !(all2 (eqR m) (sortM m rows) (sortM m (sortM m rows))) then ff else bif (((sortM m rows).length : Nat) : Int) == 0 then ff else L)))
noncomputable def kC (m : Nat) (c : List AV) (i j : Int) : Bool := ((eqC c (can38 c) && ij i j) && isVV m (v38 c i) (v38 c j)) && eqC ([] : List AObj) []
noncomputable def kD (m : Nat) (c : List AV) (i j : Int) : Bool := (eqC c (can38 c) && ij i j) && isVV m (v38 c i) (v38 c j)
noncomputable def mid5 (m : Nat) (c : List AV) (u v w : AV) (X : Option Res) : Option Res :=
  thenN (kC m c 0 1) (thenN (kD m c 1 0) (bif cmpN m u v != w64 (0 - cmpN m v u) then ff else thenN (kC m c 0 1) (thenN (isVV m u v) (bif !((cmpN m u v == 0) == eqV m u v) then ff else
    thenN (kD m c 0 1) (bif decide (cmpN m u v ≤ 0) then (thenN (kD m c 1 2) (bif decide (cmpN m v w ≤ 0) then thenN (kD m c 0 2) (bif decide (cmpN m u w > 0) then ff else X) else X)) else X)))))
theorem r5d : roundAt (TW n) 5 Try.f5 0 k [1,1,0,1,0] [] R (σ5 a0 b0 a1 b1 a2 b2 s0 s1 s2 r0 r1 r2 3) =
  mid5 (n + 8) (c38 a0 b0 a1 b1 a2 b2 s0 s1 s2 r0 r1 r2) (.agg (VV a0 b0 s0 r0)) (.agg (VV a1 b1 s1 r1)) (.agg (VV a2 b2 s2 r2)) (tail5 (n + 8) [VV a0 b0 s0 r0, VV a1 b1 s1 r1, VV a2 b2 s2 r2]
    (loopAt (TW n) 5 Try.f5 0 k [1,1,1,1,1,1,1,1,0,1,0] [] k (τ5 (sortM (n + 8) [VV a0 b0 s0 r0, VV a1 b1 s1 r1, VV a2 b2 s2 r2]) 1))) := by kernel_rfl
theorem r5e : roundAt (TW n) 5 Try.f5 0 k [1,1,1,1,1,1,1,1,0,1,0] [] R (τ5 rows i) = bif decide (i < (rows.length : Nat)) then
  (bif decide (0 ≤ w64 (i - 1)) && decide (w64 (i - 1) < (rows.length : Nat)) then (bif decide (0 ≤ i) && decide (i < (rows.length : Nat)) then
    (thenN (isVV (n + 8) (.agg (nx rows (w64 (i - 1)))) (.agg (nx rows i))) (bif cmpN (n + 8) (.agg (nx rows (w64 (i - 1)))) (.agg (nx rows i)) != -1 then ff else R (τ5 rows (w64 (i + 1))))) else none) else none) else tt := by kernel_rfl
end
end
end Go.Proofs.Ytciighngjnjmlaa.W
namespace Go.Proofs.Ytciighngjnjmlaa.W
open Go.Fw
set_option maxRecDepth 100000
noncomputable section
theorem vv_of {m : Nat} {x y : List AV} (h1 : isVr m x = true) (h2 : isVr m y = true) : isVV m (.agg x) (.agg y) = true := by
  unfold isVV; rw [isV_agg, isV_agg, h1, h2]; rfl
theorem cmpN_of {m : Nat} {x y : List AV} (h1 : sortR m x = true) (h2 : sortR m y = true) : cmpN m (.agg x) (.agg y) = ordR m x y := by
  unfold cmpN cmpOk
  have e1 : sortV m (.agg x) = true := h1
  have e2 : sortV m (.agg y) = true := h2
  rw [e1, e2]; rfl
theorem rnd5_eq {m : Nat} {x : List AV} {X : Option Res} (h : isVr m x = true) (hX : tidyR m x = true → sortR m x = true → X = tt) : rnd5 m (.agg x) X = tt := by
  unfold rnd5 thenN
  have e1 : isV m (.agg x) = true := h
  rw [e1, vv_of h h]
  cases (cntA m 60 (.agg x)).1 with
  | false => rfl
  | true =>
  cases ht : tidyV m (.agg x) with
  | false => rfl
  | true =>
  cases hs : sortR m x with
  | false =>
    have : cmpE m (.agg x) (.agg x) = 1 := by
      unfold cmpE cmpOk
      have : sortV m (.agg x) = false := hs
      rw [this]; rfl
    rw [this]; rfl
  | true =>
    have : cmpE m (.agg x) (.agg x) = 0 := by
      unfold cmpE cmpOk
      have : sortV m (.agg x) = true := hs
      rw [this]; rfl
    rw [this]
    exact hX ht hs
theorem w64_neg {c : Int} (h : c = -1 ∨ c = 0 ∨ c = 1) : w64 (0 - c) = -c := by
  rcases h with rfl | rfl | rfl <;> rfl
theorem mid5_eq {m : Nat} {c : List AV} {x y z : List AV} {X : Option Res} (hc : can38 c = c) (v0 : v38 c 0 = .agg x) (v1 : v38 c 1 = .agg y) (v2 : v38 c 2 = .agg z)
    (hx : isVr m x = true) (hy : isVr m y = true) (hz : isVr m z = true) (tx : tidyR m x = true) (ty : tidyR m y = true) (sx : sortR m x = true) (sy : sortR m y = true) (sz : sortR m z = true) (hX : X = tt) :
    mid5 m c (.agg x) (.agg y) (.agg z) X = tt := by
  have hD : ∀ i j, ij i j = true → isVV m (v38 c i) (v38 c j) = true → kD m c i j = true := fun i j h1 h2 => by
    unfold kD
    rw [h1, h2, hc, eqC_self]; rfl
  have hC : ∀ i j, ij i j = true → isVV m (v38 c i) (v38 c j) = true → kC m c i j = true := fun i j h1 h2 => by
    unfold kC
    rw [h1, h2, hc, eqC_self, eqC_self]; rfl
  have d01 := hD 0 1 rfl (by rw [v0, v1]; exact vv_of hx hy)
  have d10 := hD 1 0 rfl (by rw [v0, v1]; exact vv_of hy hx)
  have d12 := hD 1 2 rfl (by rw [v1, v2]; exact vv_of hy hz)
  have d02 := hD 0 2 rfl (by rw [v0, v2]; exact vv_of hx hz)
  have c01 := hC 0 1 rfl (by rw [v0, v1]; exact vv_of hx hy)
  have e1 : (cmpN m (.agg x) (.agg y) != w64 (0 - cmpN m (.agg y) (.agg x))) = false := by
    rw [cmpN_of sx sy, cmpN_of sy sx, w64_neg (ord_val m y x), ord_anti m x y]
    simp
  have e2 : (!((cmpN m (.agg x) (.agg y) == 0) == eqV m (.agg x) (.agg y))) = false := by
    have h1 : eqV m (.agg x) (.agg y) = eqR m x y := rfl
    rw [cmpN_of sx sy, h1]
    have h2 := tidy_eq m x y tx ty
    have h3 : (ordR m x y == 0) = eqR m x y := by
      rw [Bool.eq_iff_iff, beq_iff_eq]; exact h2
    rw [h3]; simp
  unfold mid5 thenN
  rw [c01, d10, d01, d12, d02, vv_of hx hy, e1, e2]
  rw [cmpN_of sx sy, cmpN_of sy sz, cmpN_of sx sz]
  subst hX
  by_cases h1 : ordR m x y ≤ 0
  · by_cases h2 : ordR m y z ≤ 0
    · have h3 := ord_tr h1 h2
      rw [decide_eq_true h1, decide_eq_true h2, decide_eq_false (by omega : ¬ ordR m x z > 0)]; rfl
    · rw [decide_eq_true h1, decide_eq_false h2]; rfl
  · rw [decide_eq_false h1]; rfl
theorem loop5 (n k : Nat) (s : List (List AV)) (hl : s.length ≤ 1000) (h0 : 0 < s.length) (hr : ∀ x ∈ s, isVr (n + 8) x = true) (hs : ∀ x ∈ s, sortR (n + 8) x = true) (ho : Lt (ordR (n + 8)) s) (hk : s.length < k) :
    loopAt (TW n) 5 Try.f5 0 k [1,1,1,1,1,1,1,1,0,1,0] [] k (τ5 s 1) = tt := by
  have key := loop_up (S := TW n) (f := 5) (fn := Try.f5) (m := 0) (k := k) (p := [1,1,1,1,1,1,1,1,0,1,0]) (ms := []) (fun i => τ5 s ((i + 1 : Nat) : Int)) (s.length - 1) (fun _ => tt)
    (fun i hi R hR => by
      have hi0 : i < s.length := by omega
      have hi1 : i + 1 < s.length := by omega
      refine (r5e n k s R ((i + 1 : Nat) : Int)).trans ?_
      have w1 : w64 (((i + 1 : Nat) : Int) - 1) = ((i : Nat) : Int) := by rw [w64_def]; omega
      have w2 : w64 (((i + 1 : Nat) : Int) + 1) = ((i + 1 + 1 : Nat) : Int) := by rw [w64_def]; omega
      have g0 := hr _ (List.getElem_mem hi0)
      have g1 := hr _ (List.getElem_mem hi1)
      have hlt := List.pairwise_iff_getElem.1 ho i (i + 1) hi0 hi1 (by omega)
      have hv := ord_val (n + 8) s[i] s[i + 1]
      have hc : cmpN (n + 8) (.agg s[i]) (.agg s[i + 1]) = -1 := by
        rw [cmpN_of (hs _ (List.getElem_mem hi0)) (hs _ (List.getElem_mem hi1))]; omega
      rw [w1, w2, nx_at hr hi0, nx_at hr hi1, vv_of g0 g1, hc, decide_eq_true (by omega : ((i + 1 : Nat) : Int) < (s.length : Nat)), decide_eq_true (by omega : 0 ≤ ((i : Nat) : Int)), decide_eq_true (by omega : ((i : Nat) : Int) < (s.length : Nat)), decide_eq_true (by omega : 0 ≤ ((i + 1 : Nat) : Int))]
      exact hR)
    (fun R => by
      refine (r5e n k s R _).trans ?_
      have : (((s.length - 1 + 1 : Nat) : Int)) = ((s.length : Nat) : Int) := by omega
      rw [this]
      exact stopped _ _ _)
    k 0 (Nat.zero_le _) (by omega)
  exact key
theorem tail5_eq {m : Nat} {x y z : List AV} {L : Option Res} (hx : isVr m x = true) (hy : isVr m y = true) (hz : isVr m z = true) (sx : sortR m x = true) (sy : sortR m y = true) (sz : sortR m z = true) (hL : L = tt) : tail5 m [x, y, z] L = tt := by
  have hr : ∀ a ∈ [x, y, z], isVr m a = true := fun a ha => by
    simp only [List.mem_cons, List.not_mem_nil, or_false] at ha
    rcases ha with rfl | rfl | rfl <;> assumption
  have hs : sortsR m [x, y, z] = true := by
    unfold sortsR
    rw [List.all_eq_true]
    intro a ha
    simp only [List.mem_cons, List.not_mem_nil, or_false] at ha
    rcases ha with rfl | rfl | rfl <;> assumption
  have o1 : okL m [x, y, z] = true := by unfold okL; rw [rowsOk_of (by simp) hr]; rfl
  have hlen : (sortM m [x, y, z]).length ≤ 3 := sortM_len m [x, y, z]
  have hsm : ∀ a ∈ sortM m [x, y, z], isVr m a = true := fun a ha => hr a (sortM_mem ha)
  have ro : rowsOk m (sortM m [x, y, z]) = true := rowsOk_of (by omega) hsm
  have o2 : okL m (sortM m [x, y, z]) = true := by unfold okL; rw [ro, Nat.ble_eq_true_of_le (by omega : (sortM m [x, y, z]).length ≤ 20)]; rfl
  have o3 : okE m (sortM m [x, y, z]) (sortM m [x, y, z]) = true := by unfold okE; rw [ro]; rfl
  have hne : ((((sortM m [x, y, z]).length : Nat) : Int) == 0) = false := by
    have := sortM_ne hs
    rw [beq_eq_false_iff_ne]; omega
  unfold tail5 thenN
  rw [o1, o2, sortE_ok hs, sortE_ok (sorts_sub hs), sortM_again hs, o3, all2_self hsm, hne, hL]
  rfl
theorem all5 (n : Nat) (a0 b0 a1 b1 a2 b2 : Int) (s0 s1 s2 : ByteArray) (r0 r1 r2 : List (List AV)) (h0 : isVr (n + 8) (VV a0 b0 s0 r0) = true) (h1 : isVr (n + 8) (VV a1 b1 s1 r1) = true) (h2 : isVr (n + 8) (VV a2 b2 s2 r2) = true) :
    ev (TW n) (10 + 1) 5 [.agg (c38 a0 b0 a1 b1 a2 b2 s0 s1 s2 r0 r1 r2)] [] = tt := by
  refine (b5 n 10 a0 b0 a1 b1 a2 b2 s0 s1 s2 r0 r1 r2).trans ?_
  refine (loopAt_succ _ _ _ _ _ _ _ 9 _).trans ((r5a n 10 a0 b0 a1 b1 a2 b2 s0 s1 s2 r0 r1 r2 _).trans (rnd5_eq h0 fun t0 q0 => ?_))
  refine (loopAt_succ _ _ _ _ _ _ _ 8 _).trans ((r5b n 10 a0 b0 a1 b1 a2 b2 s0 s1 s2 r0 r1 r2 _).trans (rnd5_eq h1 fun t1 q1 => ?_))
  refine (loopAt_succ _ _ _ _ _ _ _ 7 _).trans ((r5c n 10 a0 b0 a1 b1 a2 b2 s0 s1 s2 r0 r1 r2 _).trans (rnd5_eq h2 fun _ q2 => ?_))
  refine (loopAt_succ _ _ _ _ _ _ _ 6 _).trans ((r5d n 10 a0 b0 a1 b1 a2 b2 s0 s1 s2 r0 r1 r2 _).trans (mid5_eq rfl rfl rfl rfl h0 h1 h2 t0 t1 q0 q1 q2 (tail5_eq h0 h1 h2 q0 q1 q2 ?_)))
  have hs : sortsR (n + 8) [VV a0 b0 s0 r0, VV a1 b1 s1 r1, VV a2 b2 s2 r2] = true := by
    unfold sortsR
    rw [List.all_eq_true]
    intro a ha
    simp only [List.mem_cons, List.not_mem_nil, or_false] at ha
    rcases ha with rfl | rfl | rfl <;> assumption
  have hlen : (sortM (n + 8) [VV a0 b0 s0 r0, VV a1 b1 s1 r1, VV a2 b2 s2 r2]).length ≤ 3 := sortM_len _ _
  refine loop5 n 10 _ (by omega) (sortM_ne hs) (fun x hx => ?_) (fun x hx => ?_) (sortM_lt hs) (by omega)
  · have := sortM_mem hx
    simp only [List.mem_cons, List.not_mem_nil, or_false] at this
    rcases this with rfl | rfl | rfl <;> assumption
  · exact List.all_eq_true.1 hs x (sortM_mem hx)
theorem cts38 : cts tab 38 = [.int .i64, .int .i64, .str, .sl 28, .int .i64, .int .i64, .str, .sl 28, .int .i64, .int .i64, .str, .sl 28] := by kernel_rfl
theorem cts28' : cts tab 28 = [.int .i64, .int .i64, .str, .sl 28] := by kernel_rfl
theorem arg38 {av : AV} (h : ArgOf tab 38 av) : ∃ n a0 b0 a1 b1 a2 b2 s0 s1 s2 r0 r1 r2, av = .agg (c38 a0 b0 a1 b1 a2 b2 s0 s1 s2 r0 r1 r2) ∧ isVr n (VV a0 b0 s0 r0) = true ∧ isVr n (VV a1 b1 s1 r1) = true ∧ isVr n (VV a2 b2 s2 r2) = true := by
  have ht : ∃ ti, tab 38 = some ti ∧ ti.isAgg = true := ⟨_, rfl, by kernel_rfl⟩
  obtain ⟨ti, h1, h2⟩ := ht
  obtain ⟨n, hv⟩ := ArgOf_isVal h h1 h2
  cases av with
  | agg r =>
    have hv : isRow tab 38 n r = true := hv
    cases n with
    | zero => unfold isRow at hv; simp [deep] at hv
    | succ n =>
    unfold isRow at hv
    rw [Bool.and_eq_true, cts38] at hv
    obtain ⟨g1, g2⟩ := hv
    obtain ⟨v1, _, rfl, k1, g1⟩ := rowOk_cons g1
    obtain ⟨v2, _, rfl, k2, g1⟩ := rowOk_cons g1
    obtain ⟨v3, _, rfl, k3, g1⟩ := rowOk_cons g1
    obtain ⟨v4, _, rfl, k4, g1⟩ := rowOk_cons g1
    obtain ⟨v5, _, rfl, k5, g1⟩ := rowOk_cons g1
    obtain ⟨v6, _, rfl, k6, g1⟩ := rowOk_cons g1
    obtain ⟨v7, _, rfl, k7, g1⟩ := rowOk_cons g1
    obtain ⟨v8, _, rfl, k8, g1⟩ := rowOk_cons g1
    obtain ⟨v9, _, rfl, k9, g1⟩ := rowOk_cons g1
    obtain ⟨v10, _, rfl, k10, g1⟩ := rowOk_cons g1
    obtain ⟨v11, _, rfl, k11, g1⟩ := rowOk_cons g1
    obtain ⟨v12, _, rfl, k12, g1⟩ := rowOk_cons g1
    obtain rfl := rowOk_nil g1
    obtain ⟨a0, rfl⟩ := CT_int k1
    obtain ⟨b0, rfl⟩ := CT_int k2
    obtain ⟨s0, rfl⟩ := CT_str k3
    obtain ⟨r0, rfl⟩ := CT_sl k4
    obtain ⟨a1, rfl⟩ := CT_int k5
    obtain ⟨b1, rfl⟩ := CT_int k6
    obtain ⟨s1, rfl⟩ := CT_str k7
    obtain ⟨r1, rfl⟩ := CT_sl k8
    obtain ⟨a2, rfl⟩ := CT_int k9
    obtain ⟨b2, rfl⟩ := CT_int k10
    obtain ⟨s2, rfl⟩ := CT_str k11
    obtain ⟨r2, rfl⟩ := CT_sl k12
    have hall := List.all_eq_true.1 (by rw [deep] at g2; exact g2)
    have part : ∀ (a b : Int) (s : ByteArray) (r : List (List AV)), (∀ v ∈ VV a b s r, v ∈ c38 a0 b0 a1 b1 a2 b2 s0 s1 s2 r0 r1 r2) → isVr (n + 1) (VV a b s r) = true := fun a b s r hm => by
      unfold isVr isRow
      rw [Bool.and_eq_true, cts28']
      refine ⟨rfl, ?_⟩
      rw [deep, List.all_eq_true]
      exact fun v hv => hall v (hm v hv)
    exact ⟨n + 1, a0, b0, a1, b1, a2, b2, s0, s1, s2, r0, r1, r2, rfl, part a0 b0 s0 r0 fun v hv => List.mem_append_left _ hv, part a1 b1 s1 r1 fun v hv => List.mem_append_right _ (List.mem_append_left _ hv), part a2 b2 s2 r2 fun v hv => List.mem_append_right _ (List.mem_append_right _ hv)⟩
  | _ => cases hv
theorem pure5 (avs : List AV) (h : Args tab [38] avs) : ∃ S k, SysOk Try.prog S ∧ S.T = sys.T ∧ ev S k 5 avs [] = some (bl true, []) := by
  match avs, h with
  | [l], ⟨hl, _⟩ =>
    obtain ⟨n, a0, b0, a1, b1, a2, b2, s0, s1, s2, r0, r1, r2, rfl, h0, h1, h2⟩ := arg38 hl
    exact ⟨TW n, 10 + 1, TWOk n, rfl, all5 n a0 b0 a1 b1 a2 b2 s0 s1 s2 r0 r1 r2 (isVr_up h0 (by omega)) (isVr_up h1 (by omega)) (isVr_up h2 (by omega))⟩
end
end Go.Proofs.Ytciighngjnjmlaa.W
namespace Go.Proofs.Ytciighngjnjmlaa.W
open Go.Fw
set_option maxRecDepth 100000
theorem own : ownKnob Try.prog.godebug = none := by kernel_rfl
theorem laidOut : laidOutB Try.prog = true := by kernel_rfl
def tys : List Nat := [38, 28, 3, 2, 9, 26]
theorem plain : plainT tab tys = true := by kernel_rfl
def va : Value := .agg #[.int .i64 0, .int .i64 0, .string ByteArray.empty, .slice none 0 0, .int .i64 0, .int .i64 0, .string ByteArray.empty, .slice none 0 0, .int .i64 0, .int .i64 0, .string ByteArray.empty, .slice none 0 0]
end Go.Proofs.Ytciighngjnjmlaa.W
