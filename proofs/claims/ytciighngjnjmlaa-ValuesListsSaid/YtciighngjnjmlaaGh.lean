/- A part of the proofs over these laws: what its functions come to. No conditions. -/
import Derived.Test.YtciighngjnjmlaaGg
import Derived.Test.YtciighngjnjmlaaGd
import Derived.Test.YtciighngjnjmlaaRows
import Derived.Test.YtciighngjnjmlaaGk
set_option linter.all false
namespace Go.Proofs.Ytciighngjnjmlaa.W
open Go.Fw
set_option maxRecDepth 100000
noncomputable section
noncomputable def thenN (c : Bool) (x : Option Res) : Option Res := bif c then x else none
noncomputable def thenF (c : Bool) (x : Option Res) : Option Res := bif c then x else some (bl false, [])
theorem arg28 {av : AV} (h : ArgOf tab 28 av) : ∃ n, isV n av = true := by
  have ht : ∃ ti, tab 28 = some ti ∧ ti.isAgg = true := ⟨_, rfl, by kernel_rfl⟩
  obtain ⟨ti, h1, h2⟩ := ht
  exact ArgOf_isVal h h1 h2
theorem isV_up {n m : Nat} {v : AV} (h : isV n v = true) (hm : n ≤ m) : isV m v = true := isVal_le h hm
end
end Go.Proofs.Ytciighngjnjmlaa.W
namespace Go.Proofs.Ytciighngjnjmlaa.W
open Go.Fw
set_option maxRecDepth 100000
theorem own : ownKnob Try.prog.godebug = none := by kernel_rfl
theorem laidOut : laidOutB Try.prog = true := by kernel_rfl
def tys : List Nat := [28, 3, 2, 9, 26]
theorem plain : plainT tab tys = true := by kernel_rfl
def vz : Value := .agg #[.int .i64 0, .int .i64 0, .string ByteArray.empty, .slice none 0 0]
end Go.Proofs.Ytciighngjnjmlaa.W
namespace Go.Proofs.Ytciighngjnjmlaa.W
open Go.Fw
set_option maxRecDepth 100000
noncomputable section
noncomputable def ZV (m : Nat) : FSys := (((((((Y3 m).tell 26 (F26 m)).tell 42 (F26 m)).tell 43 (FIt m)).tell 44 (FIt m)).tell 45 (FList m)).tell 46 (FList m)).tell 27 (FEq 17 m)
theorem ZVOk (m : Nat) : SysOk Try.prog (ZV m) :=
  (SysOk.tellMore (.tellMore (.tellMore (.tellMore (.tellMore (.tellMore (.tellMore (Y3Ok m) (K26 m) rfl rfl) (K42 m) rfl rfl) (K43 m) rfl rfl) (K44 m) rfl rfl) (K45 m) rfl rfl) (K46 m) rfl rfl) (K27r m m) rfl rfl)
noncomputable def ZW (n : Nat) : FSys := (ZV (n + 8)).tell 9 F9
theorem ZWOk (n : Nat) : SysOk Try.prog (ZW n) := (ZVOk (n + 8)).tellMore (sysIOk n) rfl rfl
noncomputable def okL (m : Nat) (rows : List (List AV)) : Bool := rowsOk m rows && Nat.ble rows.length 20
noncomputable def okI (m : Nat) (v : AV) : Bool := isV m v && Nat.ble (chainV m v) 1000
noncomputable def tt : Option Res := some (bl true, [])
noncomputable def okE (m : Nat) (a b : List (List AV)) : Bool := rowsOk m a && rowsOk m b
noncomputable def lst7 (rows : List (List AV)) : AV := .agg (vrow (listR rows))
noncomputable def rest7 (m : Nat) (rows : List (List AV)) (v : AV) : Option Res :=
  thenN (okL m rows) (thenN (okL m rows) (thenN (okI m v) (thenN (okI m v)
    (thenN (okE m (sortM m rows) (sortM m rows)) (thenF (all2 (eqR m) (sortM m rows) (sortM m rows)) (thenF (sortE m rows == sortE m rows)
      (thenN (rowsOk m rows) (thenN (rowsOk m rows) (thenN (isVV m (lst7 rows) (lst7 rows)) (thenF (eqV m (lst7 rows) (lst7 rows))
        (thenN (okE m (itL m v) (itL m v)) (thenF (all2 (eqR m) (itL m v) (itL m v)) (some (bl (itT m v == itT m v), []))))))))))))))
noncomputable def all7 (m : Nat) (rows : List (List AV)) (v : AV) : Option Res :=
  bif decide (((rows.length : Nat) : Int) > 20) then tt else (thenN (rowsOk m rows) (bif hasBig m rows then tt else (thenN (isV m v) (bif !(cntA m 100 v).1 then tt else rest7 m rows v))))
theorem b7 (n k : Nat) (rows rows2 : List (List AV)) (a b : Int) (s : ByteArray) : ev (ZW n) (k + 1) 7 [.sl 28 .any rows, .agg (VV a b s rows2)] [] = all7 (n + 8) rows (.agg (VV a b s rows2)) := by kernel_rfl
end
end Go.Proofs.Ytciighngjnjmlaa.W
namespace Go.Proofs.Ytciighngjnjmlaa.W
open Go.Fw
set_option maxRecDepth 100000
noncomputable section
theorem isVr_mk {n : Nat} {a b : Int} {s : ByteArray} {rows : List (List AV)} (hl : rows.length * 56 ≤ 140737488351232) (hr : ∀ x ∈ rows, isVr n x = true) : isVr (n + 1) (VV a b s rows) = true := by
  unfold isVr isRow
  rw [Bool.and_eq_true, cts28]
  refine ⟨rfl, ?_⟩
  rw [deep, List.all_eq_true]
  intro v hv
  simp only [List.mem_cons, List.not_mem_nil, or_false] at hv
  rcases hv with rfl | rfl | rfl | rfl
  · rfl
  · rfl
  · rfl
  · simp only [Bool.and_eq_true, List.all_eq_true]
    refine ⟨Nat.ble_eq_true_of_le (by rw [bytes28]; exact hl), fun r hr' => ?_⟩
    have := hr r hr'
    unfold isVr isRow at this
    rwa [Bool.and_eq_true] at this
theorem isVr_up {n m : Nat} {r : List AV} (h : isVr n r = true) (hm : n ≤ m) : isVr m r = true := isRow_le h hm
theorem listR_vr {n : Nat} : ∀ {rows : List (List AV)}, (∀ x ∈ rows, isVr n x = true) → isVr (n + rows.length + 1) (listR rows) = true
  | [], _ => isVr_mk (rows := []) (by simp) (fun x hx => by cases hx)
  | x :: xs, h => by
    have ih := listR_vr (n := n) (rows := xs) fun y hy => h y (List.mem_cons_of_mem _ hy)
    have hx := h x List.mem_cons_self
    have : isVr (n + xs.length + 1 + 1) (VV 4 1 ByteArray.empty [x, listR xs]) = true := isVr_mk (by simp) fun y hy => by
      simp only [List.mem_cons, List.not_mem_nil, or_false] at hy
      rcases hy with rfl | rfl
      · exact isVr_up hx (by omega)
      · exact ih
    exact this
theorem eqR_self : ∀ {n : Nat} {r : List AV}, isVr n r = true → eqR n r r = true
  | 0, r, h => by rw [isVr_zero] at h; cases h
  | n + 1, r, h => by
    obtain ⟨a, b, s, rows, rfl, _, hr⟩ := isVr_succ h
    have hall : ∀ l : List (List AV), (∀ x ∈ l, isVr n x = true) → all2 (eqR n) l l = true := by
      intro l
      induction l with
      | nil => intro _; rfl
      | cons x xs ih =>
        intro h
        simp only [all2]
        rw [eqR_self (h x List.mem_cons_self), ih fun y hy => h y (List.mem_cons_of_mem _ hy)]
        rfl
    have e : eqR (n + 1) (VV a b s rows) (VV a b s rows) = (a == a && (b == b && (s == s && all2 (eqR n) rows rows))) := rfl
    rw [e, hall rows hr, ba_beq]
    simp
theorem all2_self {n : Nat} : ∀ {l : List (List AV)}, (∀ x ∈ l, isVr n x = true) → all2 (eqR n) l l = true
  | [], _ => rfl
  | x :: xs, h => by
    simp only [all2]
    rw [eqR_self (h x List.mem_cons_self), all2_self fun y hy => h y (List.mem_cons_of_mem _ hy)]
    rfl
theorem isort_mem {f : List AV → List AV → Int} {z : List AV} : ∀ (l p : List (List AV)), z ∈ l.foldl (ins f) p → z ∈ l ∨ z ∈ p
  | [], p, h => .inr h
  | x :: xs, p, h => by
    rcases isort_mem xs (ins f p x) h with h | h
    · exact .inl (List.mem_cons_of_mem _ h)
    · rcases ins_mem h with rfl | h
      · exact .inl List.mem_cons_self
      · exact .inr h
theorem compT_len (f : List AV → List AV → Int) : ∀ (l : List (List AV)) (p : List AV), (compT f p l).length ≤ l.length
  | [], _ => Nat.le_refl _
  | y :: ys, p => by
    simp only [compT]
    cases f y p == 0 with
    | true => have := compT_len f ys y; simp only [cond_true, List.length_cons]; omega
    | false => have := compT_len f ys y; simp only [cond_false, List.length_cons]; omega
theorem sortM_mem {n : Nat} {rows : List (List AV)} {z : List AV} (h : z ∈ sortM n rows) : z ∈ rows := by
  unfold sortM at h
  cases hs : sortsR n rows with
  | false => rw [hs] at h; cases h
  | true =>
    rw [hs] at h
    have h1 : z ∈ isort (ordR n) rows := compact_mem h
    rcases isort_mem rows [] h1 with h | h
    · exact h
    · cases h
theorem sortM_len (n : Nat) (rows : List (List AV)) : (sortM n rows).length ≤ rows.length := by
  unfold sortM
  cases sortsR n rows with
  | false => simp
  | true =>
    have e : (srt n rows).length = rows.length := isort_len _ _
    simp only [cond_true]
    unfold cmpt
    cases h : srt n rows with
    | nil => simp [compact]
    | cons x xs =>
      rw [h] at e
      have := compT_len (ordR n) xs x
      simp only [compact, List.length_cons] at e ⊢
      omega
theorem itA_all {N : Nat} : ∀ (n : Nat) (r : List AV) (out : List (List AV)), n ≤ N → isVr n r = true → (∀ z ∈ out, isVr N z = true) → (∀ z ∈ itA n r out, isVr N z = true) ∧ (itA n r out).length = out.length + chainR n r
  | 0, r, _, _, h, _ => by rw [isVr_zero] at h; cases h
  | n + 1, r, out, hN, h, ho => by
    cases hcr : isCons r with
    | false =>
      simp only [itA, chainR, hcr, cond_false]
      exact ⟨ho, rfl⟩
    | true =>
      simp only [itA, chainR, hcr, cond_true]
      obtain ⟨a, b, s, rows, rfl, _, hr⟩ := isVr_succ h
      obtain ⟨_, _, p3, _⟩ := cons_parts hcr
      have h2 : rows.length = 2 := by have := eq_of_beq p3; omega
      have k0 : kid0 (VV a b s rows) = rows[0] := getD_at (l := rows) (by omega)
      have k1 : kid1 (VV a b s rows) = rows[1] := getD_at (l := rows) (by omega)
      obtain ⟨q1, q2⟩ := itA_all (N := N) n (kid1 (VV a b s rows)) (out ++ [kid0 (VV a b s rows)]) (by omega) (by rw [k1]; exact hr _ (List.getElem_mem _)) (fun z hz => by
        rcases List.mem_append.1 hz with hz | hz
        · exact ho z hz
        · simp at hz; subst hz; rw [k0]; exact isVr_up (hr _ (List.getElem_mem _)) (by omega))
      refine ⟨q1, ?_⟩
      rw [q2]
      simp
      omega
theorem all7_true (m : Nat) (rows : List (List AV)) (v : AV) (hl : rows.length * 56 ≤ 140737488351232) (hr : ∀ x ∈ rows, isVr m x = true) (hv : isV (m + 30) v = true) : all7 (m + 30) rows v = tt := by
  unfold all7
  have hr' : ∀ x ∈ rows, isVr (m + 30) x = true := fun x hx => isVr_up (hr x hx) (by omega)
  have ho := rowsOk_of hl hr'
  cases hd : decide (((rows.length : Nat) : Int) > 20) with
  | true => rfl
  | false =>
    have hlen : rows.length ≤ 20 := by have := of_decide_eq_false hd; omega
    unfold thenN
    rw [ho, hv]
    cases hasBig (m + 30) rows with
    | true => rfl
    | false =>
      simp only [cond_false, cond_true]
      cases hf : (cntA (m + 30) 100 v).1 with
      | false => rfl
      | true =>
        have c1 : okL (m + 30) rows = true := by unfold okL; rw [ho, Nat.ble_eq_true_of_le hlen]; rfl
        have c2 : okI (m + 30) v = true := by unfold okI; rw [hv, few_chain hv hf]; rfl
        have hsm : ∀ x ∈ sortM (m + 30) rows, isVr (m + 30) x = true := fun x hx => hr' x (sortM_mem hx)
        have hs : rowsOk (m + 30) (sortM (m + 30) rows) = true := rowsOk_of (by have := sortM_len (m + 30) rows; omega) hsm
        have c3 : okE (m + 30) (sortM (m + 30) rows) (sortM (m + 30) rows) = true := by unfold okE; rw [hs]; rfl
        have hlr : isVr (m + 30) (listR rows) = true := isVr_up (listR_vr hr) (by omega)
        have hlv : vrow (listR rows) = listR rows := vrow_of hlr
        have c4 : isVV (m + 30) (lst7 rows) (lst7 rows) = true := by unfold isVV lst7; rw [hlv, isV_agg, hlr]; rfl
        have c5 : eqV (m + 30) (lst7 rows) (lst7 rows) = true := by unfold lst7; rw [hlv]; exact eqR_self hlr
        have hit : (∀ z ∈ itL (m + 30) v, isVr (m + 30) z = true) ∧ (itL (m + 30) v).length ≤ 1000 := by
          cases v with
          | agg r =>
            obtain ⟨q1, q2⟩ := itA_all (N := m + 30) (m + 30) r [] (Nat.le_refl _) hv (fun z hz => by cases hz)
            have q3 : chainR (m + 30) r ≤ 1000 := Nat.le_of_ble_eq_true (few_chain hv hf)
            have e : itL (m + 30) (.agg r) = bif itB (m + 30) r then itA (m + 30) r [] else [] := rfl
            rw [e]
            cases itB (m + 30) r with
            | true => exact ⟨q1, by rw [cond_true, q2]; simpa using q3⟩
            | false => exact ⟨fun z hz => (by cases hz), by simp⟩
          | _ => cases hv
        have hi : rowsOk (m + 30) (itL (m + 30) v) = true := rowsOk_of (by have := hit.2; omega) hit.1
        have c6 : okE (m + 30) (itL (m + 30) v) (itL (m + 30) v) = true := by unfold okE; rw [hi]; rfl
        unfold rest7 thenN thenF
        rw [c1, c2, c3, all2_self hsm, ho, c4, c5, c6, all2_self hit.1]
        simp only [beq_self_eq_true, cond_true, Bool.not_true, cond_false]
        rfl
theorem arg26 {av : AV} (h : ArgOf tab 26 av) : ∃ rows n, av = .sl 28 .any rows ∧ rows.length * 56 ≤ 140737488351232 ∧ ∀ r ∈ rows, isVr n r = true := by
  have ht : ∃ ti, tab 26 = some ti ∧ ti.isAgg = false ∧ ti.cells = [.sl 28] := ⟨_, rfl, by kernel_rfl, by kernel_rfl⟩
  obtain ⟨ti, h1, h2, h3⟩ := ht
  obtain ⟨rows, n, e, hl, hr⟩ := ArgOf_sl h h1 h2 h3
  rw [bytes28] at hl
  exact ⟨rows, n, e, hl, hr⟩
theorem pure7 (avs : List AV) (h : Args tab [26, 28] avs) : ∃ S k, SysOk Try.prog S ∧ S.T = sys.T ∧ ev S k 7 avs [] = some (bl true, []) := by
  match avs, h with
  | [l, v], ⟨hl, hv, _⟩ =>
    obtain ⟨rows, n1, rfl, hb, hr⟩ := arg26 hl
    obtain ⟨n2, h2⟩ := arg28 hv
    have h3 : isV (max n1 n2 + 30) v = true := isV_up h2 (by omega)
    obtain ⟨a, b, s, rows2, rfl⟩ := isV_ex h3
    have h4 := all7_true (max n1 n2) rows _ hb (fun x hx => isVr_up (hr x hx) (by omega)) h3
    exact ⟨ZW (max n1 n2 + 22), 0 + 1, ZWOk _, rfl, (b7 (max n1 n2 + 22) 0 rows rows2 a b s).trans h4⟩
def vl : Value := .slice none 0 0
end
end Go.Proofs.Ytciighngjnjmlaa.W
