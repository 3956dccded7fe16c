/- A part of the proofs over these laws: what its functions come to. No conditions. -/
import Derived.Test.YtciighngjnjmlaaGi
import Derived.Test.YtciighngjnjmlaaGg
set_option linter.all false
namespace Go.Proofs.Ytciighngjnjmlaa.W
open Go.Fw
set_option maxRecDepth 100000
noncomputable section
noncomputable def T1 (n : Nat) : FSys := (K4 n).tell 138 (F138 n)
theorem T1Ok (n : Nat) : SysOk Try.prog (T1 n) := (K4Ok n).tellMore (M138Ok n n) rfl rfl
noncomputable def cnd (n : Nat) (rows : List (List AV)) (a b : Int) : Bool := goods n rows && ((a == 0 && b == (rows.length : Nat)) || (a == 20 && b == 20))
noncomputable def srt (n : Nat) (rows : List (List AV)) : List (List AV) := isort (ordR n) rows
noncomputable def done (rows : List (List AV)) : Option Res := some (.tup [], [.arr 28 .any rows])
theorem c135_0 (n k : Nat) (rows : List (List AV)) : ev (T1 n) (k + 4) 135 [.sr 0, i64 0, fO] [.arr 28 .any rows] = bif cnd n rows 0 0 then done rows else none := by kernel_rfl
theorem c135_1 (n k : Nat) (rows : List (List AV)) : ev (T1 n) (k + 4) 135 [.sr 0, i64 1, fO] [.arr 28 .any rows] = bif cnd n rows 0 1 then done (srt n rows) else none := by kernel_rfl
theorem c135_2 (n k : Nat) (rows : List (List AV)) : ev (T1 n) (k + 4) 135 [.sr 0, i64 2, fO] [.arr 28 .any rows] = bif cnd n rows 0 2 then done (srt n rows) else none := by kernel_rfl
theorem c135_3 (n k : Nat) (rows : List (List AV)) : ev (T1 n) (k + 4) 135 [.sr 0, i64 3, fO] [.arr 28 .any rows] = bif cnd n rows 0 3 then done (srt n rows) else none := by kernel_rfl
theorem c135_4 (n k : Nat) (rows : List (List AV)) : ev (T1 n) (k + 4) 135 [.sr 0, i64 4, fO] [.arr 28 .any rows] = bif cnd n rows 0 4 then done (srt n rows) else none := by kernel_rfl
theorem c135_5 (n k : Nat) (rows : List (List AV)) : ev (T1 n) (k + 4) 135 [.sr 0, i64 5, fO] [.arr 28 .any rows] = bif cnd n rows 0 5 then done (srt n rows) else none := by kernel_rfl
theorem c135_6 (n k : Nat) (rows : List (List AV)) : ev (T1 n) (k + 4) 135 [.sr 0, i64 6, fO] [.arr 28 .any rows] = bif cnd n rows 0 6 then done (srt n rows) else none := by kernel_rfl
theorem c135_7 (n k : Nat) (rows : List (List AV)) : ev (T1 n) (k + 4) 135 [.sr 0, i64 7, fO] [.arr 28 .any rows] = bif cnd n rows 0 7 then done (srt n rows) else none := by kernel_rfl
theorem c135_8 (n k : Nat) (rows : List (List AV)) : ev (T1 n) (k + 4) 135 [.sr 0, i64 8, fO] [.arr 28 .any rows] = bif cnd n rows 0 8 then done (srt n rows) else none := by kernel_rfl
theorem c135_9 (n k : Nat) (rows : List (List AV)) : ev (T1 n) (k + 4) 135 [.sr 0, i64 9, fO] [.arr 28 .any rows] = bif cnd n rows 0 9 then done (srt n rows) else none := by kernel_rfl
theorem c135_10 (n k : Nat) (rows : List (List AV)) : ev (T1 n) (k + 4) 135 [.sr 0, i64 10, fO] [.arr 28 .any rows] = bif cnd n rows 0 10 then done (srt n rows) else none := by kernel_rfl
theorem c135_11 (n k : Nat) (rows : List (List AV)) : ev (T1 n) (k + 4) 135 [.sr 0, i64 11, fO] [.arr 28 .any rows] = bif cnd n rows 0 11 then done (srt n rows) else none := by kernel_rfl
theorem c135_12 (n k : Nat) (rows : List (List AV)) : ev (T1 n) (k + 4) 135 [.sr 0, i64 12, fO] [.arr 28 .any rows] = bif cnd n rows 0 12 then done (srt n rows) else none := by kernel_rfl
theorem c135_13 (n k : Nat) (rows : List (List AV)) : ev (T1 n) (k + 4) 135 [.sr 0, i64 13, fO] [.arr 28 .any rows] = bif cnd n rows 0 13 then done (srt n rows) else none := by kernel_rfl
theorem c135_14 (n k : Nat) (rows : List (List AV)) : ev (T1 n) (k + 4) 135 [.sr 0, i64 14, fO] [.arr 28 .any rows] = bif cnd n rows 0 14 then done (srt n rows) else none := by kernel_rfl
theorem c135_15 (n k : Nat) (rows : List (List AV)) : ev (T1 n) (k + 4) 135 [.sr 0, i64 15, fO] [.arr 28 .any rows] = bif cnd n rows 0 15 then done (srt n rows) else none := by kernel_rfl
theorem c135_16 (n k : Nat) (rows : List (List AV)) : ev (T1 n) (k + 4) 135 [.sr 0, i64 16, fO] [.arr 28 .any rows] = bif cnd n rows 0 16 then done (srt n rows) else none := by kernel_rfl
theorem c135_17 (n k : Nat) (rows : List (List AV)) : ev (T1 n) (k + 4) 135 [.sr 0, i64 17, fO] [.arr 28 .any rows] = bif cnd n rows 0 17 then done (srt n rows) else none := by kernel_rfl
theorem c135_18 (n k : Nat) (rows : List (List AV)) : ev (T1 n) (k + 4) 135 [.sr 0, i64 18, fO] [.arr 28 .any rows] = bif cnd n rows 0 18 then done (srt n rows) else none := by kernel_rfl
theorem c135_19 (n k : Nat) (rows : List (List AV)) : ev (T1 n) (k + 4) 135 [.sr 0, i64 19, fO] [.arr 28 .any rows] = bif cnd n rows 0 19 then done (srt n rows) else none := by kernel_rfl
theorem c135_20 (n k : Nat) (rows : List (List AV)) : ev (T1 n) (k + 4) 135 [.sr 0, i64 20, fO] [.arr 28 .any rows] = bif cnd n rows 0 20 then (bif cnd n (srt n rows) 20 20 then done (srt n rows) else none) else none := by kernel_rfl
theorem srt_goods {n : Nat} {rows : List (List AV)} (h : goods n rows = true) : goods n (srt n rows) = true := by
  obtain ⟨h1, h2⟩ := goods_iff h
  exact goods_of (by unfold srt; rw [isort_len]; exact h1) (isort_good h2)
theorem cnd_of {n : Nat} {rows : List (List AV)} (h : goods n rows = true) {q : Nat} (hq : rows.length = q) : cnd n rows 0 (q : Int) = true := by
  unfold cnd
  rw [h, hq]
  simp
theorem ev135 (n : Nat) (rows : List (List AV)) (h : goods n rows = true) (hl : rows.length ≤ 20) : ∃ k, ev (T1 n) k 135 [.sr 0, i64 (rows.length : Nat), fO] [.arr 28 .any rows] = done (srt n rows) := by
  refine ⟨0 + 4, ?_⟩
  generalize hq : rows.length = q
  have hc := cnd_of h hq
  match q, hl, hq, hc with
  | 0, _, hq, hc =>
    have : rows = [] := List.length_eq_zero_iff.1 hq
    subst this
    exact (c135_0 n 0 []).trans (by rw [show cnd n [] 0 0 = true from hc]; rfl)
  | 1, _, hq, hc => exact (c135_1 n 0 rows).trans (by rw [show cnd n rows 0 1 = true from hc]; rfl)
  | 2, _, hq, hc => exact (c135_2 n 0 rows).trans (by rw [show cnd n rows 0 2 = true from hc]; rfl)
  | 3, _, hq, hc => exact (c135_3 n 0 rows).trans (by rw [show cnd n rows 0 3 = true from hc]; rfl)
  | 4, _, hq, hc => exact (c135_4 n 0 rows).trans (by rw [show cnd n rows 0 4 = true from hc]; rfl)
  | 5, _, hq, hc => exact (c135_5 n 0 rows).trans (by rw [show cnd n rows 0 5 = true from hc]; rfl)
  | 6, _, hq, hc => exact (c135_6 n 0 rows).trans (by rw [show cnd n rows 0 6 = true from hc]; rfl)
  | 7, _, hq, hc => exact (c135_7 n 0 rows).trans (by rw [show cnd n rows 0 7 = true from hc]; rfl)
  | 8, _, hq, hc => exact (c135_8 n 0 rows).trans (by rw [show cnd n rows 0 8 = true from hc]; rfl)
  | 9, _, hq, hc => exact (c135_9 n 0 rows).trans (by rw [show cnd n rows 0 9 = true from hc]; rfl)
  | 10, _, hq, hc => exact (c135_10 n 0 rows).trans (by rw [show cnd n rows 0 10 = true from hc]; rfl)
  | 11, _, hq, hc => exact (c135_11 n 0 rows).trans (by rw [show cnd n rows 0 11 = true from hc]; rfl)
  | 12, _, hq, hc => exact (c135_12 n 0 rows).trans (by rw [show cnd n rows 0 12 = true from hc]; rfl)
  | 13, _, hq, hc => exact (c135_13 n 0 rows).trans (by rw [show cnd n rows 0 13 = true from hc]; rfl)
  | 14, _, hq, hc => exact (c135_14 n 0 rows).trans (by rw [show cnd n rows 0 14 = true from hc]; rfl)
  | 15, _, hq, hc => exact (c135_15 n 0 rows).trans (by rw [show cnd n rows 0 15 = true from hc]; rfl)
  | 16, _, hq, hc => exact (c135_16 n 0 rows).trans (by rw [show cnd n rows 0 16 = true from hc]; rfl)
  | 17, _, hq, hc => exact (c135_17 n 0 rows).trans (by rw [show cnd n rows 0 17 = true from hc]; rfl)
  | 18, _, hq, hc => exact (c135_18 n 0 rows).trans (by rw [show cnd n rows 0 18 = true from hc]; rfl)
  | 19, _, hq, hc => exact (c135_19 n 0 rows).trans (by rw [show cnd n rows 0 19 = true from hc]; rfl)
  | 20, _, hq, hc => exact (c135_20 n 0 rows).trans (by
      have h2 : cnd n (srt n rows) 20 20 = true := by unfold cnd; rw [srt_goods h]; simp
      rw [show cnd n rows 0 20 = true from hc, h2]; rfl)
  | q + 21, hl, hq, _ => omega
noncomputable def F135 (n : Nat) : List AV → List AObj → Ab Res := fun args st => match args, st with
  | [.sr 0, .k (.int .i64 c), .fn (.func h) [] []], [.arr 28 .any rows] => bif Nat.beq h 64 then some (goods n rows && (c == (rows.length : Nat) && Nat.ble rows.length 20), (.tup [], [.arr 28 .any (srt n rows)])) else none
  | _, _ => none
theorem told135 (n : Nat) (args : List AV) (st : List AObj) (r : Res) (h : F135 n args st = some (true, r)) : ∃ k, ev (T1 n) k 135 args st = some r := by
  unfold F135 at h
  split at h
  · rename_i c h' rows
    cases hb : Nat.beq h' 64 with
    | false => rw [hb] at h; cases h
    | true =>
      rw [hb] at h
      obtain rfl := Nat.eq_of_beq_eq_true hb
      simp only [cond_true, Option.some.injEq, Prod.mk.injEq, Bool.and_eq_true, beq_iff_eq] at h
      obtain ⟨⟨hg, rfl, hl⟩, rfl⟩ := h
      exact ev135 n rows hg (Nat.le_of_ble_eq_true hl)
  · cases h
noncomputable def T2 (n : Nat) : FSys := (T1 n).tell 135 (F135 n)
theorem T2Ok (n : Nat) : SysOk Try.prog (T2 n) := (T1Ok n).tell 135 _ (told135 n)
noncomputable def F110 (n : Nat) : List AV → List AObj → Ab Res := fun args st => match args, st with
  | [.sr 0, .fn (.func h) [] []], [.arr 28 .any rows] => bif Nat.beq h 64 then some (goods n rows && Nat.ble rows.length 20, (.tup [], [.arr 28 .any (srt n rows)])) else none
  | _, _ => none
theorem b110 (n k : Nat) (rows : List (List AV)) : ev (T2 n) (k + 1) 110 [.sr 0, fO] [.arr 28 .any rows] = bif goods n rows && ((((rows.length : Nat) : Int) == ((rows.length : Nat) : Int)) && Nat.ble rows.length 20) then done (srt n rows) else none := by kernel_rfl
theorem told110 (n : Nat) (args : List AV) (st : List AObj) (r : Res) (h : F110 n args st = some (true, r)) : ∃ k, ev (T2 n) k 110 args st = some r := by
  unfold F110 at h
  split at h
  · rename_i h' rows
    cases hb : Nat.beq h' 64 with
    | false => rw [hb] at h; cases h
    | true =>
      rw [hb] at h
      obtain rfl := Nat.eq_of_beq_eq_true hb
      simp only [cond_true, Option.some.injEq, Prod.mk.injEq, Bool.and_eq_true] at h
      obtain ⟨⟨hg, hl⟩, rfl⟩ := h
      exact ⟨0 + 1, (b110 n 0 rows).trans (by rw [hg, hl, beq_self_eq_true]; rfl)⟩
  · cases h
noncomputable def T3 (n : Nat) : FSys := (T2 n).tell 110 (F110 n)
theorem T3Ok (n : Nat) : SysOk Try.prog (T3 n) := (T2Ok n).tell 110 _ (told110 n)
noncomputable def T4 (n : Nat) : FSys := (T3 n).tell 111 (F111 n)
theorem T4Ok (n : Nat) : SysOk Try.prog (T4 n) := (T3Ok n).tellMore ((M112Ok n n).tell 111 _ (told111 n n)) rfl rfl
end
end Go.Proofs.Ytciighngjnjmlaa.W
namespace Go.Proofs.Ytciighngjnjmlaa.W
open Go.Fw
set_option maxRecDepth 100000
noncomputable section
noncomputable def cmpt (n : Nat) (rows : List (List AV)) : List (List AV) := compact (ordR n) rows
noncomputable def F70 (n : Nat) : List AV → List AObj → Ab Res := fun args st => match args, st with
  | [.sl 28 .any rows, .fn (.func h) [] []], [] => bif Nat.beq h 64 then some (goods n rows && Nat.ble rows.length 20, (.sr 0, [.arr 28 .any (cmpt n (srt n rows))])) else none
  | _, _ => none
theorem b70 (n k : Nat) (rows : List (List AV)) : ev (T4 n) (k + 1) 70 [.sl 28 .any rows, fO] [] = bif fits 56 rows then (bif goods n rows && Nat.ble rows.length 20 then (bif goods n (srt n rows) && okF then some (.sr 0, [.arr 28 .any (cmpt n (srt n rows))]) else none) else none) else none := by kernel_rfl
noncomputable def T5 (n : Nat) : FSys := (T4 n).tell 70 (F70 n)
noncomputable def T6 (n : Nat) : FSys := (T5 n).tell 63 (lvB sortV n)
noncomputable def fin26 (n : Nat) (rows : List (List AV)) : Option Res := bif goods n rows && Nat.ble rows.length 20 then some (.tup [.sl 28 .any (cmpt n (srt n rows)), i64 0], []) else none
noncomputable def no26 : Option Res := some (.tup [.sl 28 .any [], i64 1], [])
noncomputable def σ26 (rows : List (List AV)) (i : Int) : St := ⟨tm 24 [(4, .sl 0 .nil []), (7, .sl 28 .any rows), (8, i64 (rows.length : Nat)), (9, i64 i)], [], []⟩
noncomputable def τ26 (rows out : List (List AV)) (i : Int) : St := ⟨tm 24 [(4, .sr 0), (7, .sl 28 .any rows), (8, i64 (rows.length : Nat)), (9, i64 i)], [.arr 28 .any out], []⟩
section
variable (n k : Nat) (rows out : List (List AV)) (R : St → Option Res) (i : Int)
theorem r26 : roundAt (T6 n) 26 Try.f26 0 k [1,1,0,1,0] [] R (σ26 rows i) = bif decide (i < (rows.length : Nat)) then (bif decide (0 ≤ i) && decide (i < (rows.length : Nat)) then (bif isV n (.agg (nx rows i)) then (bif !(sortV n (.agg (nx rows i))) then no26 else (bif isV n (.agg (nx rows i)) then R (τ26 rows [nx rows i] (IntKind.i64.wrap (i + 1))) else none)) else none) else none) else fin26 n [] := by kernel_rfl
theorem s26 : roundAt (T6 n) 26 Try.f26 0 k [1,1,0,1,0] [] R (τ26 rows out i) = bif decide (i < (rows.length : Nat)) then (bif decide (0 ≤ i) && decide (i < (rows.length : Nat)) then (bif isV n (.agg (nx rows i)) then (bif !(sortV n (.agg (nx rows i))) then no26 else (bif isV n (.agg (nx rows i)) then (bif Nat.ble ((out.length + [nx rows i].length) * 56) 140737488355328 then R (τ26 rows (out ++ [nx rows i]) (IntKind.i64.wrap (i + 1))) else none) else none)) else none) else none) else fin26 n out := by kernel_rfl
theorem b26 : ev (T6 n) (k + 1) 26 [.sl 28 .any rows] [] = loopAt (T6 n) 26 Try.f26 0 k [1,1,0,1,0] [] k (σ26 rows 0) := by kernel_rfl
end
end
end Go.Proofs.Ytciighngjnjmlaa.W
namespace Go.Proofs.Ytciighngjnjmlaa.W
open Go.Fw
set_option maxRecDepth 100000
noncomputable section
theorem loop_listJ {S : FSys} {f : FuncId} {fn : Func} {m k : Nat} {p ms : List Nat} {rows : List (List AV)} {A : Type} (I : Nat → A → Prop)
    (σ : A → Int → St) (stop : A → List AV → Bool) (out : A → List AV → Option Res) (upd : A → List AV → A) (fin : A → Option Res) (hI : ∀ i c (h : i < rows.length), I i c → stop c rows[i] = false → I (i + 1) (upd c rows[i]))
    (h : ∀ (R : St → Option Res) (c : A) (i : Nat) (h1 : i < rows.length), I i c → roundAt S f fn m k p ms R (σ c i) = bif stop c rows[i] then out c rows[i] else R (σ (upd c rows[i]) ((i + 1 : Nat) : Int)))
    (he : ∀ (R : St → Option Res) (c : A), I rows.length c → roundAt S f fn m k p ms R (σ c (rows.length : Nat)) = fin c) :
    ∀ (n i : Nat) (c : A), I i c → i ≤ rows.length → rows.length - i < n → loopAt S f fn m k p ms n (σ c i) = foldS stop out upd fin (rows.drop i) c
  | 0, i, c, _, _, h => by omega
  | n + 1, i, c, hc, hi, hn => by
    rw [loopAt_succ]
    rcases Nat.lt_or_eq_of_le hi with h1 | h1
    · rw [h _ c i h1 hc, List.drop_eq_getElem_cons h1]
      cases hs : stop c rows[i] with
      | true => simp only [foldS, hs, cond_true]
      | false =>
        simp only [foldS, hs, cond_false]
        exact loop_listJ I σ stop out upd fin hI h he n (i + 1) _ (hI i c h1 hc hs) h1 (by omega)
    · subst h1
      rw [he _ _ hc, List.drop_length]
      rfl
theorem foldS_app {p : List AV → Bool} {no : Option Res} {fin : List (List AV) → Option Res} : ∀ (l c : List (List AV)), foldS (fun _ x => !(p x)) (fun _ _ => no) (fun c x => c ++ [x]) fin l c = bif l.all p then fin (c ++ l) else no
  | [], c => by simp [foldS]
  | x :: xs, c => by
    simp only [foldS, List.all_cons]
    cases p x with
    | true => simp [foldS_app xs (c ++ [x])]
    | false => rfl
theorem T5Ok (n : Nat) : SysOk Try.prog (T5 n) := (T4Ok n).tell 70 _ fun args st r h => by
  unfold F70 at h
  split at h
  · rename_i rows h'
    cases hb : Nat.beq h' 64 with
    | false => rw [hb] at h; cases h
    | true =>
      rw [hb] at h
      obtain rfl := Nat.eq_of_beq_eq_true hb
      simp only [cond_true, Option.some.injEq, Prod.mk.injEq, Bool.and_eq_true] at h
      obtain ⟨⟨hg, hl⟩, rfl⟩ := h
      have hf : fits 56 rows = true := by
        have := (goods_iff hg).1
        unfold fits; exact Nat.ble_eq_true_of_le (by omega)
      exact ⟨0 + 1, (b70 n 0 rows).trans (by rw [hf, hg, hl, srt_goods hg, okF_self]; rfl)⟩
  · cases h
theorem T6Ok (n : Nat) : SysOk Try.prog (T6 n) := (T5Ok n).tellMore (K63 n n) rfl rfl
noncomputable def st26 (rows c : List (List AV)) (i : Int) : St := match c with
  | [] => σ26 rows i
  | x :: xs => τ26 rows (x :: xs) i
noncomputable def sortM (n : Nat) (rows : List (List AV)) : List (List AV) := bif sortsR n rows then cmpt n (srt n rows) else []
noncomputable def sortE (n : Nat) (rows : List (List AV)) : Int := bif sortsR n rows then 0 else 1
theorem ev26 (n : Nat) (rows : List (List AV)) (h1 : rowsOk n rows = true) (h2 : rows.length ≤ 20) : ∃ k, ev (T6 n) k 26 [.sl 28 .any rows] [] = some (.tup [.sl 28 .any (sortM n rows), i64 (sortE n rows)], []) := by
  obtain ⟨hl, hr⟩ := rowsOk_iff h1
  refine ⟨rows.length + 1 + 1, (b26 n _ rows).trans ?_⟩
  have L := loop_listJ (S := T6 n) (f := 26) (fn := Try.f26) (m := 0) (k := rows.length + 1) (p := [1,1,0,1,0]) (ms := []) (rows := rows) (A := List (List AV)) (fun i c => c = rows.take i)
    (fun c i => st26 rows c i) (fun _ x => !(sortR n x)) (fun _ _ => no26) (fun c x => c ++ [x]) (fun c => fin26 n c) (fun i c hi hc _ => by rw [hc, take_next hi])
    (fun R c i hi hc => by
      have d1 : decide ((i : Int) < (rows.length : Nat)) = true := by simpa using hi
      have d2 : decide (0 ≤ (i : Int)) = true := by simp
      have hw : IntKind.i64.wrap ((i : Int) + 1) = ((i + 1 : Nat) : Int) := by rw [wrap64] <;> omega
      have hx := hr _ (List.getElem_mem hi)
      match c, hc with
      | [], hc =>
        refine (r26 n _ rows R i).trans ?_
        rw [d1, d2, hw, nx_at hr hi, isV_agg, hx]
        change (bif !(sortR n rows[i]) then no26 else R (τ26 rows [rows[i]] _)) = _
        rfl
      | y :: ys, hc =>
        refine (s26 n _ rows (y :: ys) R i).trans ?_
        have hle : Nat.ble (((y :: ys).length + [rows[i]].length) * 56) 140737488355328 = true := by
          apply Nat.ble_eq_true_of_le
          have e1 : (y :: ys).length = i := by rw [hc]; simp; omega
          rw [e1]
          exact Nat.le_trans (Nat.mul_le_mul_right 56 (by simp; omega : i + [rows[i]].length ≤ rows.length)) (by omega)
        rw [d1, d2, hw, nx_at hr hi, isV_agg, hx, hle]
        change (bif !(sortR n rows[i]) then no26 else R (τ26 rows ((y :: ys) ++ [rows[i]]) _)) = _
        rfl)
    (fun R c hc => by
      match c, hc with
      | [], hc => exact (r26 n _ rows R _).trans (stopped _ _ _)
      | y :: ys, hc => exact (s26 n _ rows (y :: ys) R _).trans (stopped _ _ _)) (rows.length + 1) 0 [] (by simp) (Nat.zero_le _) (by omega)
  refine L.trans ?_
  rw [List.drop_zero, foldS_app, List.nil_append]
  unfold sortM sortE sortsR
  cases hs : rows.all (sortR n) with
  | false => rfl
  | true =>
    have hg : goods n rows = true := by unfold goods sortsR; rw [h1, hs]; rfl
    simp only [cond_true]
    unfold fin26
    rw [hg, Nat.ble_eq_true_of_le h2]
    rfl
noncomputable def F26 (n : Nat) : List AV → List AObj → Ab Res := fun args st => match args, st with
  | [.sl 28 .any rows], [] => some (rowsOk n rows && Nat.ble rows.length 20, (.tup [.sl 28 .any (sortM n rows), i64 (sortE n rows)], []))
  | _, _ => none
theorem F26_inv {n : Nat} {args : List AV} {st : List AObj} {r : Res} (h : F26 n args st = some (true, r)) : ∃ rows, args = [.sl 28 .any rows] ∧ st = [] ∧ rowsOk n rows = true ∧ rows.length ≤ 20 ∧ r = (.tup [.sl 28 .any (sortM n rows), i64 (sortE n rows)], []) := by
  unfold F26 at h
  split at h
  · rename_i rows
    simp only [Option.some.injEq, Prod.mk.injEq, Bool.and_eq_true] at h
    obtain ⟨⟨h1, h2⟩, rfl⟩ := h
    exact ⟨rows, rfl, rfl, h1, Nat.le_of_ble_eq_true h2, rfl⟩
  · cases h
theorem K26 (n : Nat) : SysOk Try.prog ((T6 n).tell 26 (F26 n)) := (T6Ok n).tell 26 _ fun args st r h => by
  obtain ⟨rows, rfl, rfl, h1, h2, rfl⟩ := F26_inv h
  exact ev26 n rows h1 h2
end
end Go.Proofs.Ytciighngjnjmlaa.W
namespace Go.Proofs.Ytciighngjnjmlaa.W
open Go.Fw
set_option maxRecDepth 100000
noncomputable section
noncomputable def σo42 (kd : SK) (rows out : List (List AV)) (i : Int) : St := ⟨tm 71 [(0, .sl 28 .any rows), (4, .sr 0), (5, i64 i)], [.arr 28 kd out], []⟩
noncomputable def σi42 (kd : SK) (rows out : List (List AV)) (i j : Int) (b : Bool) : St := ⟨tm 71 [(0, .sl 28 .any rows), (4, .sr 0), (5, i64 i), (6, i64 j), (7, bl b)], [.arr 28 kd out], []⟩
noncomputable def lo42 (n k m : Nat) (kd : SK) (rows out : List (List AV)) (i : Int) : Option Res := loopAt (QV n) 42 Try.f42 0 k [1,1,0,1,0] [] m (σo42 kd rows out i)
noncomputable def fitB (l : Nat) : Bool := Nat.ble (l * 56) 140737488355328
noncomputable def cut42 (out : List (List AV)) (j : Int) : List (List AV) := List.take (j.toNat - 0) (List.drop 0 out)
noncomputable def cuu42 (out : List (List AV)) (j : Int) : List (List AV) := List.take (out.length - j.toNat) (List.drop j.toNat out)
noncomputable def ins42 (n k m : Nat) (rows out : List (List AV)) (i j : Int) : Option Res :=
  bif (decide (0 ≤ j) && decide (j ≤ (out.length : Nat))) && true then (bif fitB (0 + (cut42 out j).length) then (bif chk rows i then (bif isV n (.agg (nx rows i)) then (bif fitB (([] ++ cut42 out j).length + [nx rows i].length) then (bif decide (0 ≤ j) && decide (j ≤ (out.length : Nat)) then
    (bif fitB ((([] ++ cut42 out j) ++ [nx rows i]).length + (cuu42 out j).length) then lo42 n k m .wide rows ((([] ++ cut42 out j) ++ [nx rows i]) ++ cuu42 out j) (IntKind.i64.wrap (i + 1)) else none) else none) else none) else none) else none) else none) else none
noncomputable def end42 (n k m : Nat) (rows out : List (List AV)) (i j : Int) (b : Bool) : Option Res := bif !b then ins42 n k m rows out i j else lo42 n k m .wide rows out (IntKind.i64.wrap (i + 1))
section
variable (n k m : Nat) (rows out : List (List AV)) (R : St → Option Res) (i j : Int) (b : Bool)
theorem ri42 : roundAt (QV n) 42 Try.f42 0 k [1,1,0,1,0,0,1,0,0,1,1,0,0] [m] R (σi42 .wide rows out i j b) = bif decide (j < (out.length : Nat)) then (bif chk out j then (bif chk rows i then (bif ssN n (nx out j) (nx rows i) then (bif decide (ordV n (.agg (nx out j)) (.agg (nx rows i)) ≤ 0) then
    (bif b then R (σi42 .wide rows out i (IntKind.i64.wrap (j + 1)) true) else (bif chk out j then (bif chk rows i then (bif ssN n (nx out j) (nx rows i) then R (σi42 .wide rows out i (IntKind.i64.wrap (j + 1)) (ordV n (.agg (nx out j)) (.agg (nx rows i)) == 0)) else none) else none) else none))
    else end42 n k m rows out i j b) else none) else none) else none) else end42 n k m rows out i j b := by kernel_rfl
theorem rf42 : roundAt (QV n) 42 Try.f42 0 k [1,1,0,1,0,0,1,0,0,1,1,0,0] [m] R (σi42 .full rows [] i 0 false) = ins42 n k m rows [] i 0 := by kernel_rfl
noncomputable def no42 : Option Res := some (.tup [.sl 28 .any [], i64 1], [])
theorem ro42 : roundAt (QV n) 42 Try.f42 0 k [1,1,0,1,0] [] (loopAt (QV n) 42 Try.f42 0 k [1,1,0,1,0] [] m) (σo42 .wide rows out i) = bif decide (i < (rows.length : Nat)) then (bif chk rows i then (bif isV n (.agg (nx rows i)) then (bif !(sortV n (.agg (nx rows i))) then no42 else loopAt (QV n) 42 Try.f42 0 k [1,1,0,1,0,0,1,0,0,1,1,0,0] [m] k (σi42 .wide rows out i 0 false)) else none) else none) else some (.tup [.sl 28 .any out, i64 0], []) := by kernel_rfl
theorem rg42 : roundAt (QV n) 42 Try.f42 0 k [1,1,0,1,0] [] (loopAt (QV n) 42 Try.f42 0 k [1,1,0,1,0] [] m) (σo42 .full rows [] i) = bif decide (i < (rows.length : Nat)) then (bif chk rows i then (bif isV n (.agg (nx rows i)) then (bif !(sortV n (.agg (nx rows i))) then no42 else loopAt (QV n) 42 Try.f42 0 k [1,1,0,1,0,0,1,0,0,1,1,0,0] [m] k (σi42 .full rows [] i 0 false)) else none) else none) else some (.tup [.sl 28 .any [], i64 0], []) := by kernel_rfl
theorem b42 : ev (QV n) (k + 1) 42 [.sl 28 .any rows] [] = loopAt (QV n) 42 Try.f42 0 k [1,1,0,1,0] [] k (σo42 .full rows [] 0) := by kernel_rfl
end
end
end Go.Proofs.Ytciighngjnjmlaa.W
namespace Go.Proofs.Ytciighngjnjmlaa.W
open Go.Fw
set_option maxRecDepth 100000
noncomputable section
theorem chk_nat {rows : List (List AV)} {i : Nat} (h : i < rows.length) : chk rows i = true := by
  unfold chk; rw [Bool.and_eq_true]; exact ⟨decide_eq_true (by omega), decide_eq_true (by omega)⟩
theorem ins42_eq (n k m : Nat) (rows P D : List (List AV)) (i : Nat) (hi : i < rows.length) (hr : ∀ x ∈ rows, isVr n x = true) (hl : rows.length ≤ 20) (ho : (P ++ D).length ≤ i) :
    ins42 n k m rows (P ++ D) i (P.length : Nat) = lo42 n k m .wide rows (P ++ rows[i] :: D) ((i + 1 : Nat) : Int) := by
  have hpd : P.length + D.length ≤ i := by simpa using ho
  have hc : cut42 (P ++ D) (P.length : Nat) = P := by unfold cut42; simp
  have hd : cuu42 (P ++ D) (P.length : Nat) = D := by unfold cuu42; simp
  have d1 : (decide (0 ≤ ((P.length : Nat) : Int)) && decide (((P.length : Nat) : Int) ≤ ((P ++ D).length : Nat))) = true := by rw [Bool.and_eq_true]; exact ⟨decide_eq_true (by omega), decide_eq_true (by simp; omega)⟩
  have f1 : fitB (0 + P.length) = true := by unfold fitB; exact Nat.ble_eq_true_of_le (by omega)
  have f2 : fitB (([] ++ P).length + [rows[i]].length) = true := by unfold fitB; exact Nat.ble_eq_true_of_le (by simp; omega)
  have f3 : fitB ((([] ++ P) ++ [rows[i]]).length + D.length) = true := by unfold fitB; exact Nat.ble_eq_true_of_le (by simp; omega)
  have hw : IntKind.i64.wrap ((i : Int) + 1) = ((i + 1 : Nat) : Int) := by rw [wrap64] <;> omega
  unfold ins42
  rw [d1, hc, hd, f1, chk_nat hi, nx_at hr hi, isV_agg, hr _ (List.getElem_mem hi), f2, f3, hw]
  simp
theorem end42_eq (n k m : Nat) (rows P D : List (List AV)) (i : Nat) (b : Bool) (hi : i < rows.length) (hr : ∀ x ∈ rows, isVr n x = true) (hl : rows.length ≤ 20) (ho : (P ++ D).length ≤ i) :
    end42 n k m rows (P ++ D) i (P.length : Nat) b = lo42 n k m .wide rows (bif b then P ++ D else P ++ rows[i] :: D) ((i + 1 : Nat) : Int) := by
  have hw : IntKind.i64.wrap ((i : Int) + 1) = ((i + 1 : Nat) : Int) := by rw [wrap64] <;> omega
  unfold end42
  cases b with
  | true => rw [hw]; rfl
  | false => exact ins42_eq n k m rows P D i hi hr hl ho
theorem pick42 {d c1 c2 ss le b : Bool} {A B E : Option Res} (hd : d = true) (h1 : c1 = true) (h2 : c2 = true) (h3 : ss = true) :
    (bif d then (bif c1 then (bif c2 then (bif ss then (bif le then (bif b then A else (bif c1 then (bif c2 then (bif ss then B else none) else none) else none)) else E) else none) else none) else none) else E) = bif le then (bif b then A else B) else E := by
  subst hd h1 h2 h3; rfl
theorem pick42e {d : Bool} {A E : Option Res} (hd : d = false) : (bif d then A else E) = E := by subst hd; rfl
theorem inner_gen (n : Nat) (x : List AV) (i : Nat) (E : List (List AV) → Option Res) (LI : Nat → List (List AV) → Nat → Bool → Option Res)
    (hs : ∀ q P y D b, (∀ z ∈ P ++ y :: D, good n z) → (P ++ y :: D).length ≤ i → LI (q + 1) (P ++ y :: D) P.length b = bif decide (ordR n y x ≤ 0) then (bif b then LI q (P ++ y :: D) (P.length + 1) true else LI q (P ++ y :: D) (P.length + 1) (ordR n y x == 0)) else E (bif b then P ++ y :: D else P ++ x :: y :: D))
    (he : ∀ q P b, (∀ z ∈ P, good n z) → P.length ≤ i → LI (q + 1) P P.length b = E (bif b then P else P ++ [x])) :
    ∀ (D P : List (List AV)) (b : Bool) (q : Nat), (∀ y ∈ P ++ D, good n y) → (P ++ D).length ≤ i → D.length < q →
    LI q (P ++ D) P.length b = E (bif b || (D.takeWhile fun y => decide (ordR n y x ≤ 0)).any (fun y => ordR n y x == 0) then P ++ D else P ++ D.takeWhile (fun y => decide (ordR n y x ≤ 0)) ++ x :: D.dropWhile (fun y => decide (ordR n y x ≤ 0)))
  | _, _, _, 0, _, _, h => by omega
  | [], P, b, q + 1, hg, ho, _ => by
    simp only [List.append_nil] at hg ho ⊢
    rw [he q P b hg ho]
    simp
  | y :: D, P, b, q + 1, hg, ho, hq => by
    rw [hs q P y D b hg ho]
    have e : P ++ y :: D = (P ++ [y]) ++ D := by simp
    have el : P.length + 1 = (P ++ [y]).length := by simp
    have ih1 := inner_gen n x i E LI hs he D (P ++ [y]) true q (by rw [← e]; exact hg) (by rw [← e]; exact ho) (by simp only [List.length_cons] at hq; omega)
    have ih2 := inner_gen n x i E LI hs he D (P ++ [y]) (ordR n y x == 0) q (by rw [← e]; exact hg) (by rw [← e]; exact ho) (by simp only [List.length_cons] at hq; omega)
    rw [← e, ← el] at ih1 ih2
    rw [ih1, ih2]
    simp only [List.takeWhile_cons, List.dropWhile_cons]
    cases hle : decide (ordR n y x ≤ 0) with
    | true =>
      simp only [if_true, List.any_cons]
      cases b <;> simp
    | false => cases b <;> simp
theorem inner42 (n k m : Nat) (rows : List (List AV)) (i : Nat) (hi : i < rows.length) (hr : ∀ x ∈ rows, isVr n x = true) (hl : rows.length ≤ 20) (hx : good n rows[i]) (D : List (List AV)) (q : Nat) (hg : ∀ y ∈ D, good n y) (ho : D.length ≤ i) (hq : D.length < q) :
    loopAt (QV n) 42 Try.f42 0 k [1,1,0,1,0,0,1,0,0,1,1,0,0] [m] q (σi42 .wide rows D i ((0 : Nat) : Int) false) = lo42 n k m .wide rows (insU (ordR n) D rows[i]) ((i + 1 : Nat) : Int) := by
  have G := inner_gen n rows[i] i (fun out => lo42 n k m .wide rows out ((i + 1 : Nat) : Int)) (fun q out j b => loopAt (QV n) 42 Try.f42 0 k [1,1,0,1,0,0,1,0,0,1,1,0,0] [m] q (σi42 .wide rows out i (j : Nat) b))
    (fun q P y D b hg ho => by
      have hpd : P.length + (D.length + 1) ≤ i := by simpa using ho
      have d : decide (((P.length : Nat) : Int) < ((P ++ y :: D).length : Nat)) = true := decide_eq_true (by simp; omega)
      have hy : good n y := hg y (by simp)
      have g1 : nx (P ++ y :: D) ((P.length : Nat) : Int) = y := by unfold nx; rw [Int.toNat_natCast, get_mid, vrow_of hy.1]
      have c1 : chk (P ++ y :: D) ((P.length : Nat) : Int) = true := chk_nat (by simp)
      have hw : IntKind.i64.wrap (((P.length : Nat) : Int) + 1) = ((P.length + 1 : Nat) : Int) := by rw [wrap64] <;> omega
      have h0 := (loopAt_succ (QV n) 42 Try.f42 0 k [1,1,0,1,0,0,1,0,0,1,1,0,0] [m] q (σi42 .wide rows (P ++ y :: D) i (P.length : Nat) b)).trans (ri42 n k m rows (P ++ y :: D) (loopAt (QV n) 42 Try.f42 0 k [1,1,0,1,0,0,1,0,0,1,1,0,0] [m] q) (i : Nat) (P.length : Nat) b)
      have h1 := h0.trans (pick42 d c1 (chk_nat hi) (by rw [g1, nx_at hr hi]; exact ss_of hy.1 hx.1 hy.2 hx.2))
      rw [hw, g1, nx_at hr hi, end42_eq n k m rows P (y :: D) i b hi hr hl ho] at h1
      exact h1)
    (fun q P b hg ho => by
      have h0 := (loopAt_succ (QV n) 42 Try.f42 0 k [1,1,0,1,0,0,1,0,0,1,1,0,0] [m] q (σi42 .wide rows P i (P.length : Nat) b)).trans (ri42 n k m rows P (loopAt (QV n) 42 Try.f42 0 k [1,1,0,1,0,0,1,0,0,1,1,0,0] [m] q) (i : Nat) (P.length : Nat) b)
      have d : decide (((P.length : Nat) : Int) < (P.length : Nat)) = false := decide_eq_false (by omega)
      have h1 := h0.trans (pick42e d)
      have h2 := end42_eq n k m rows P [] i b hi hr hl (by simpa using ho)
      rw [List.append_nil] at h2
      exact h1.trans h2)
    D [] false q (by simpa using hg) (by simpa using ho) hq
  have eu : (bif false || (D.takeWhile fun y => decide (ordR n y rows[i] ≤ 0)).any (fun y => ordR n y rows[i] == 0) then [] ++ D else [] ++ D.takeWhile (fun y => decide (ordR n y rows[i] ≤ 0)) ++ rows[i] :: D.dropWhile (fun y => decide (ordR n y rows[i] ≤ 0))) = insU (ordR n) D rows[i] := by
    simp [insU]
  rw [eu] at G
  exact G
theorem insU_mem {f : List AV → List AV → Int} {p : List (List AV)} {x y : List AV} (hy : y ∈ insU f p x) : y = x ∨ y ∈ p := by
  unfold insU at hy
  cases hc : (p.takeWhile fun y => decide (f y x ≤ 0)).any (fun y => f y x == 0) with
  | true => rw [hc] at hy; exact .inr hy
  | false =>
    rw [hc] at hy
    simp only [cond_false, List.mem_append, List.mem_cons] at hy
    rcases hy with hy | rfl | hy
    · exact .inr ((List.takeWhile_sublist _).subset hy)
    · exact .inl rfl
    · exact .inr ((List.dropWhile_sublist _).subset hy)
theorem insU_len (f : List AV → List AV → Int) (p : List (List AV)) (x : List AV) : (insU f p x).length ≤ p.length + 1 := by
  have hsum : (p.takeWhile fun y => decide (f y x ≤ 0)).length + (p.dropWhile fun y => decide (f y x ≤ 0)).length = p.length := by
    rw [← List.length_append, List.takeWhile_append_dropWhile]
  unfold insU
  cases (p.takeWhile fun y => decide (f y x ≤ 0)).any (fun y => f y x == 0) with
  | true => simp only [cond_true]; omega
  | false => simp only [cond_false, List.length_append, List.length_cons]; omega
theorem pick42o {d c1 v s : Bool} {A B F : Option Res} (hd : d = true) (h1 : c1 = true) (h2 : v = true) : (bif d then (bif c1 then (bif v then (bif s then A else B) else none) else none) else F) = bif s then A else B := by
  subst hd h1 h2; rfl
abbrev fo42 (n : Nat) (l c : List (List AV)) : Option Res := foldS (fun _ x => !(sortR n x)) (fun _ _ => no42) (fun c x => insU (ordR n) c x) (fun c => some (.tup [.sl 28 .any c, i64 0], [])) l c
theorem fo42_cons (n : Nat) (x : List AV) (l c : List (List AV)) : fo42 n (x :: l) c = bif !(sortR n x) then no42 else fo42 n l (insU (ordR n) c x) := rfl
theorem outer42 (n k : Nat) (rows : List (List AV)) (hr : ∀ x ∈ rows, isVr n x = true) (hl : rows.length ≤ 20) (hk : rows.length < k) : ∀ (q i : Nat) (out : List (List AV)), (∀ y ∈ out, good n y) → out.length ≤ i → i ≤ rows.length → rows.length - i < q →
    lo42 n k q .wide rows out (i : Nat) = fo42 n (rows.drop i) out
  | 0, i, out, _, _, _, h => by omega
  | q + 1, i, out, hg, ho, hi, hq => by
    have h0 := (loopAt_succ (QV n) 42 Try.f42 0 k [1,1,0,1,0] [] q (σo42 .wide rows out (i : Nat))).trans (ro42 n k q rows out (i : Nat))
    rcases Nat.lt_or_eq_of_le hi with h1 | h1
    · have d : decide (((i : Nat) : Int) < (rows.length : Nat)) = true := decide_eq_true (by omega)
      have hv := hr _ (List.getElem_mem h1)
      have h2 := h0.trans (pick42o d (chk_nat h1) (by rw [nx_at hr h1]; exact hv))
      rw [nx_at hr h1] at h2
      rw [List.drop_eq_getElem_cons h1, fo42_cons]
      refine h2.trans ?_
      have es : sortV n (.agg rows[i]) = sortR n rows[i] := rfl
      rw [es]
      cases hs : sortR n rows[i] with
      | false => rfl
      | true =>
        have hx : good n rows[i] := ⟨hv, hs⟩
        have h3 := inner42 n k q rows i h1 hr hl hx out k hg ho (by omega)
        have h4 := outer42 n k rows hr hl hk q (i + 1) (insU (ordR n) out rows[i]) (fun y hy => by
          rcases insU_mem hy with rfl | hy
          · exact hx
          · exact hg y hy) (Nat.le_trans (insU_len _ _ _) (by omega)) h1 (by omega)
        exact h3.trans h4
    · subst h1
      rw [List.drop_length]
      exact h0.trans (pick42e (decide_eq_false (by omega)))
theorem foldS_u {p : List AV → Bool} {no : Option Res} {u : List (List AV) → List AV → List (List AV)} {fin : List (List AV) → Option Res} : ∀ (l c : List (List AV)), foldS (fun _ x => !(p x)) (fun _ _ => no) u fin l c = bif l.all p then fin (l.foldl u c) else no
  | [], c => by simp [foldS]
  | x :: xs, c => by
    simp only [foldS, List.all_cons, List.foldl_cons]
    cases p x with
    | true => simp [foldS_u xs _]
    | false => rfl
theorem pickF {A B C : Option Res} : (bif !false then A else B) = (bif !false then A else C) := rfl
theorem first42 (n k m : Nat) (x : List AV) (xs : List (List AV)) (hr : ∀ y ∈ x :: xs, isVr n y = true) (hl : (x :: xs).length ≤ 20) (hk : (x :: xs).length < k + 1) (hm : (x :: xs).length ≤ m) :
    loopAt (QV n) 42 Try.f42 0 (k + 1) [1,1,0,1,0] [] (m + 1) (σo42 .full (x :: xs) [] 0) = fo42 n (x :: xs) [] := by
  have h0 := (loopAt_succ (QV n) 42 Try.f42 0 (k + 1) [1,1,0,1,0] [] m (σo42 .full (x :: xs) [] 0)).trans (rg42 n (k + 1) m (x :: xs) 0)
  have hi : 0 < (x :: xs).length := by simp
  have hv := hr x List.mem_cons_self
  have e1 : nx (x :: xs) 0 = x := nx_at (i := 0) hr hi
  have e2 : chk (x :: xs) 0 = true := chk_nat (i := 0) hi
  have d : decide ((0 : Int) < ((x :: xs).length : Nat)) = true := decide_eq_true (by omega)
  have h1 := h0.trans (pick42o d e2 (by rw [e1]; exact hv))
  rw [e1] at h1
  refine h1.trans ?_
  rw [fo42_cons]
  have es : sortV n (.agg x) = sortR n x := rfl
  rw [es]
  cases hs : sortR n x with
  | false => exact pickF
  | true =>
    have h2 := (loopAt_succ (QV n) 42 Try.f42 0 (k + 1) [1,1,0,1,0,0,1,0,0,1,1,0,0] [m] k (σi42 .full (x :: xs) [] 0 0 false)).trans (rf42 n (k + 1) m (x :: xs) (loopAt (QV n) 42 Try.f42 0 (k + 1) [1,1,0,1,0,0,1,0,0,1,1,0,0] [m] k) 0)
    have h3 : ins42 n (k + 1) m (x :: xs) [] 0 0 = lo42 n (k + 1) m .wide (x :: xs) [x] ((1 : Nat) : Int) := by
      have h := ins42_eq n (k + 1) m (x :: xs) [] [] 0 hi hr hl (by simp)
      simpa using h
    have h4 := outer42 n (k + 1) (x :: xs) hr hl hk m 1 [x] (fun y hy => by simp at hy; subst hy; exact ⟨hv, hs⟩) (by simp) (by simp) (by simp at hm ⊢; omega)
    have e5 : insU (ordR n) [] x = [x] := rfl
    have e6 : (x :: xs).drop 1 = xs := rfl
    rw [e6] at h4
    rw [e5, Bool.not_true, cond_false]
    exact (h2.trans h3).trans h4
theorem ev42 (n : Nat) (rows : List (List AV)) (h1 : rowsOk n rows = true) (h2 : rows.length ≤ 20) : ∃ k, ev (QV n) k 42 [.sl 28 .any rows] [] = some (.tup [.sl 28 .any (sortM n rows), i64 (sortE n rows)], []) := by
  obtain ⟨hl, hr⟩ := rowsOk_iff h1
  have fin : fo42 n rows [] = some (.tup [.sl 28 .any (sortM n rows), i64 (sortE n rows)], []) := by
    unfold fo42
    rw [foldS_u]
    unfold sortM sortE sortsR cmpt srt
    rw [sort_eq_ref (ordR_cmp n)]
    cases rows.all (sortR n) <;> rfl
  match rows, hr, h2, fin with
  | [], _, _, fin =>
    have h0 := (loopAt_succ (QV n) 42 Try.f42 0 1 [1,1,0,1,0] [] 0 (σo42 .full [] [] 0)).trans (rg42 n 1 0 [] 0)
    exact ⟨0 + 1 + 1, ((b42 n 1 []).trans (h0.trans (pick42e rfl))).trans fin⟩
  | x :: xs, hr, h2, fin =>
    generalize hq : (x :: xs).length = q at h2
    exact ⟨q + 1 + 1, ((b42 n (q + 1) (x :: xs)).trans (first42 n q q x xs hr (by omega) (by omega) (by omega))).trans fin⟩
theorem K42 (n : Nat) : SysOk Try.prog ((QV n).tell 42 (F26 n)) := (QVOk n).tell 42 _ fun args st r h => by
  obtain ⟨rows, rfl, rfl, h1, h2, rfl⟩ := F26_inv h
  exact ev42 n rows h1 h2
end
end Go.Proofs.Ytciighngjnjmlaa.W
