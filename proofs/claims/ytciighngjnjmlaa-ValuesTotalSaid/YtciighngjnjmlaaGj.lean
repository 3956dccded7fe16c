/- A part of the proofs over these laws: what its functions come to. No conditions. -/
import Derived.Test.YtciighngjnjmlaaGi
import Derived.Test.YtciighngjnjmlaaGg
set_option linter.all false
namespace Go.Proofs.Ytciighngjnjmlaa.W
open Go.Fw
set_option maxRecDepth 100000
noncomputable section
noncomputable def T1 (n : Nat) : FSys := (K4 n).tell 138 (F138 n)
theorem T1Ok (n : Nat) : SysOk Try.prog (T1 n) := (K4Ok n).tellMore (M138Ok n n) rfl rfl
noncomputable def cnd (n : Nat) (rows : List (List AV)) (a b : Int) : Bool := goods n rows && ((a == 0 && b == (rows.length : Nat)) || (a == 20 && b == 20))
noncomputable def srt (n : Nat) (rows : List (List AV)) : List (List AV) := isort (ordR n) rows
noncomputable def done (rows : List (List AV)) : Option Res := some (.tup [], [.arr 28 .any rows])
theorem c135_0 (n k : Nat) (rows : List (List AV)) : ev (T1 n) (k + 4) 135 [.sr 0, i64 0, fO] [.arr 28 .any rows] = bif cnd n rows 0 0 then done rows else none := by kernel_rfl
theorem c135_1 (n k : Nat) (rows : List (List AV)) : ev (T1 n) (k + 4) 135 [.sr 0, i64 1, fO] [.arr 28 .any rows] = bif cnd n rows 0 1 then done (srt n rows) else none := by kernel_rfl
theorem c135_2 (n k : Nat) (rows : List (List AV)) : ev (T1 n) (k + 4) 135 [.sr 0, i64 2, fO] [.arr 28 .any rows] = bif cnd n rows 0 2 then done (srt n rows) else none := by kernel_rfl
theorem c135_3 (n k : Nat) (rows : List (List AV)) : ev (T1 n) (k + 4) 135 [.sr 0, i64 3, fO] [.arr 28 .any rows] = bif cnd n rows 0 3 then done (srt n rows) else none := by kernel_rfl
theorem c135_4 (n k : Nat) (rows : List (List AV)) : ev (T1 n) (k + 4) 135 [.sr 0, i64 4, fO] [.arr 28 .any rows] = bif cnd n rows 0 4 then done (srt n rows) else none := by kernel_rfl
theorem c135_5 (n k : Nat) (rows : List (List AV)) : ev (T1 n) (k + 4) 135 [.sr 0, i64 5, fO] [.arr 28 .any rows] = bif cnd n rows 0 5 then done (srt n rows) else none := by kernel_rfl
theorem c135_6 (n k : Nat) (rows : List (List AV)) : ev (T1 n) (k + 4) 135 [.sr 0, i64 6, fO] [.arr 28 .any rows] = bif cnd n rows 0 6 then done (srt n rows) else none := by kernel_rfl
theorem c135_7 (n k : Nat) (rows : List (List AV)) : ev (T1 n) (k + 4) 135 [.sr 0, i64 7, fO] [.arr 28 .any rows] = bif cnd n rows 0 7 then done (srt n rows) else none := by kernel_rfl
theorem c135_8 (n k : Nat) (rows : List (List AV)) : ev (T1 n) (k + 4) 135 [.sr 0, i64 8, fO] [.arr 28 .any rows] = bif cnd n rows 0 8 then done (srt n rows) else none := by kernel_rfl
theorem c135_9 (n k : Nat) (rows : List (List AV)) : ev (T1 n) (k + 4) 135 [.sr 0, i64 9, fO] [.arr 28 .any rows] = bif cnd n rows 0 9 then done (srt n rows) else none := by kernel_rfl
theorem c135_10 (n k : Nat) (rows : List (List AV)) : ev (T1 n) (k + 4) 135 [.sr 0, i64 10, fO] [.arr 28 .any rows] = bif cnd n rows 0 10 then done (srt n rows) else none := by kernel_rfl
theorem c135_11 (n k : Nat) (rows : List (List AV)) : ev (T1 n) (k + 4) 135 [.sr 0, i64 11, fO] [.arr 28 .any rows] = bif cnd n rows 0 11 then done (srt n rows) else none := by kernel_rfl
theorem c135_12 (n k : Nat) (rows : List (List AV)) : ev (T1 n) (k + 4) 135 [.sr 0, i64 12, fO] [.arr 28 .any rows] = bif cnd n rows 0 12 then done (srt n rows) else none := by kernel_rfl
theorem c135_13 (n k : Nat) (rows : List (List AV)) : ev (T1 n) (k + 4) 135 [.sr 0, i64 13, fO] [.arr 28 .any rows] = bif cnd n rows 0 13 then done (srt n rows) else none := by kernel_rfl
theorem c135_14 (n k : Nat) (rows : List (List AV)) : ev (T1 n) (k + 4) 135 [.sr 0, i64 14, fO] [.arr 28 .any rows] = bif cnd n rows 0 14 then done (srt n rows) else none := by kernel_rfl
theorem c135_15 (n k : Nat) (rows : List (List AV)) : ev (T1 n) (k + 4) 135 [.sr 0, i64 15, fO] [.arr 28 .any rows] = bif cnd n rows 0 15 then done (srt n rows) else none := by kernel_rfl
theorem c135_16 (n k : Nat) (rows : List (List AV)) : ev (T1 n) (k + 4) 135 [.sr 0, i64 16, fO] [.arr 28 .any rows] = bif cnd n rows 0 16 then done (srt n rows) else none := by kernel_rfl
theorem c135_17 (n k : Nat) (rows : List (List AV)) : ev (T1 n) (k + 4) 135 [.sr 0, i64 17, fO] [.arr 28 .any rows] = bif cnd n rows 0 17 then done (srt n rows) else none := by kernel_rfl
theorem c135_18 (n k : Nat) (rows : List (List AV)) : ev (T1 n) (k + 4) 135 [.sr 0, i64 18, fO] [.arr 28 .any rows] = bif cnd n rows 0 18 then done (srt n rows) else none := by kernel_rfl
theorem c135_19 (n k : Nat) (rows : List (List AV)) : ev (T1 n) (k + 4) 135 [.sr 0, i64 19, fO] [.arr 28 .any rows] = bif cnd n rows 0 19 then done (srt n rows) else none := by kernel_rfl
theorem c135_20 (n k : Nat) (rows : List (List AV)) : ev (T1 n) (k + 4) 135 [.sr 0, i64 20, fO] [.arr 28 .any rows] = bif cnd n rows 0 20 then (bif cnd n (srt n rows) 20 20 then done (srt n rows) else none) else none := by kernel_rfl
theorem srt_goods {n : Nat} {rows : List (List AV)} (h : goods n rows = true) : goods n (srt n rows) = true := by
  obtain ⟨h1, h2⟩ := goods_iff h
  exact goods_of (by unfold srt; rw [isort_len]; exact h1) (isort_good h2)
theorem cnd_of {n : Nat} {rows : List (List AV)} (h : goods n rows = true) {q : Nat} (hq : rows.length = q) : cnd n rows 0 (q : Int) = true := by
  unfold cnd
  rw [h, hq]
  simp
theorem ev135 (n : Nat) (rows : List (List AV)) (h : goods n rows = true) (hl : rows.length ≤ 20) : ∃ k, ev (T1 n) k 135 [.sr 0, i64 (rows.length : Nat), fO] [.arr 28 .any rows] = done (srt n rows) := by
  refine ⟨0 + 4, ?_⟩
  generalize hq : rows.length = q
  have hc := cnd_of h hq
  match q, hl, hq, hc with
  | 0, _, hq, hc =>
    have : rows = [] := List.length_eq_zero_iff.1 hq
    subst this
    exact (c135_0 n 0 []).trans (by rw [show cnd n [] 0 0 = true from hc]; rfl)
  | 1, _, hq, hc => exact (c135_1 n 0 rows).trans (by rw [show cnd n rows 0 1 = true from hc]; rfl)
  | 2, _, hq, hc => exact (c135_2 n 0 rows).trans (by rw [show cnd n rows 0 2 = true from hc]; rfl)
  | 3, _, hq, hc => exact (c135_3 n 0 rows).trans (by rw [show cnd n rows 0 3 = true from hc]; rfl)
  | 4, _, hq, hc => exact (c135_4 n 0 rows).trans (by rw [show cnd n rows 0 4 = true from hc]; rfl)
  | 5, _, hq, hc => exact (c135_5 n 0 rows).trans (by rw [show cnd n rows 0 5 = true from hc]; rfl)
  | 6, _, hq, hc => exact (c135_6 n 0 rows).trans (by rw [show cnd n rows 0 6 = true from hc]; rfl)
  | 7, _, hq, hc => exact (c135_7 n 0 rows).trans (by rw [show cnd n rows 0 7 = true from hc]; rfl)
  | 8, _, hq, hc => exact (c135_8 n 0 rows).trans (by rw [show cnd n rows 0 8 = true from hc]; rfl)
  | 9, _, hq, hc => exact (c135_9 n 0 rows).trans (by rw [show cnd n rows 0 9 = true from hc]; rfl)
  | 10, _, hq, hc => exact (c135_10 n 0 rows).trans (by rw [show cnd n rows 0 10 = true from hc]; rfl)
  | 11, _, hq, hc => exact (c135_11 n 0 rows).trans (by rw [show cnd n rows 0 11 = true from hc]; rfl)
  | 12, _, hq, hc => exact (c135_12 n 0 rows).trans (by rw [show cnd n rows 0 12 = true from hc]; rfl)
  | 13, _, hq, hc => exact (c135_13 n 0 rows).trans (by rw [show cnd n rows 0 13 = true from hc]; rfl)
  | 14, _, hq, hc => exact (c135_14 n 0 rows).trans (by rw [show cnd n rows 0 14 = true from hc]; rfl)
  | 15, _, hq, hc => exact (c135_15 n 0 rows).trans (by rw [show cnd n rows 0 15 = true from hc]; rfl)
  | 16, _, hq, hc => exact (c135_16 n 0 rows).trans (by rw [show cnd n rows 0 16 = true from hc]; rfl)
  | 17, _, hq, hc => exact (c135_17 n 0 rows).trans (by rw [show cnd n rows 0 17 = true from hc]; rfl)
  | 18, _, hq, hc => exact (c135_18 n 0 rows).trans (by rw [show cnd n rows 0 18 = true from hc]; rfl)
  | 19, _, hq, hc => exact (c135_19 n 0 rows).trans (by rw [show cnd n rows 0 19 = true from hc]; rfl)
  | 20, _, hq, hc => exact (c135_20 n 0 rows).trans (by
      have h2 : cnd n (srt n rows) 20 20 = true := by unfold cnd; rw [srt_goods h]; simp
      rw [show cnd n rows 0 20 = true from hc, h2]; rfl)
  | q + 21, hl, hq, _ => omega
noncomputable def F135 (n : Nat) : List AV → List AObj → Ab Res := fun args st => match args, st with
  | [.sr 0, .k (.int .i64 c), .fn (.func h) [] []], [.arr 28 .any rows] => bif Nat.beq h 64 then some (goods n rows && (c == (rows.length : Nat) && Nat.ble rows.length 20), (.tup [], [.arr 28 .any (srt n rows)])) else none
  | _, _ => none
theorem told135 (n : Nat) (args : List AV) (st : List AObj) (r : Res) (h : F135 n args st = some (true, r)) : ∃ k, ev (T1 n) k 135 args st = some r := by
  unfold F135 at h
  split at h
  · rename_i c h' rows
    cases hb : Nat.beq h' 64 with
    | false => rw [hb] at h; cases h
    | true =>
      rw [hb] at h
      obtain rfl := Nat.eq_of_beq_eq_true hb
      simp only [cond_true, Option.some.injEq, Prod.mk.injEq, Bool.and_eq_true, beq_iff_eq] at h
      obtain ⟨⟨hg, rfl, hl⟩, rfl⟩ := h
      exact ev135 n rows hg (Nat.le_of_ble_eq_true hl)
  · cases h
noncomputable def T2 (n : Nat) : FSys := (T1 n).tell 135 (F135 n)
theorem T2Ok (n : Nat) : SysOk Try.prog (T2 n) := (T1Ok n).tell 135 _ (told135 n)
noncomputable def F110 (n : Nat) : List AV → List AObj → Ab Res := fun args st => match args, st with
  | [.sr 0, .fn (.func h) [] []], [.arr 28 .any rows] => bif Nat.beq h 64 then some (goods n rows && Nat.ble rows.length 20, (.tup [], [.arr 28 .any (srt n rows)])) else none
  | _, _ => none
theorem b110 (n k : Nat) (rows : List (List AV)) : ev (T2 n) (k + 1) 110 [.sr 0, fO] [.arr 28 .any rows] = bif goods n rows && ((((rows.length : Nat) : Int) == ((rows.length : Nat) : Int)) && Nat.ble rows.length 20) then done (srt n rows) else none := by kernel_rfl
theorem told110 (n : Nat) (args : List AV) (st : List AObj) (r : Res) (h : F110 n args st = some (true, r)) : ∃ k, ev (T2 n) k 110 args st = some r := by
  unfold F110 at h
  split at h
  · rename_i h' rows
    cases hb : Nat.beq h' 64 with
    | false => rw [hb] at h; cases h
    | true =>
      rw [hb] at h
      obtain rfl := Nat.eq_of_beq_eq_true hb
      simp only [cond_true, Option.some.injEq, Prod.mk.injEq, Bool.and_eq_true] at h
      obtain ⟨⟨hg, hl⟩, rfl⟩ := h
      exact ⟨0 + 1, (b110 n 0 rows).trans (by rw [hg, hl, beq_self_eq_true]; rfl)⟩
  · cases h
noncomputable def T3 (n : Nat) : FSys := (T2 n).tell 110 (F110 n)
theorem T3Ok (n : Nat) : SysOk Try.prog (T3 n) := (T2Ok n).tell 110 _ (told110 n)
noncomputable def T4 (n : Nat) : FSys := (T3 n).tell 111 (F111 n)
theorem T4Ok (n : Nat) : SysOk Try.prog (T4 n) := (T3Ok n).tellMore ((M112Ok n n).tell 111 _ (told111 n n)) rfl rfl
end
end Go.Proofs.Ytciighngjnjmlaa.W
namespace Go.Proofs.Ytciighngjnjmlaa.W
open Go.Fw
set_option maxRecDepth 100000
noncomputable section
noncomputable def cmpt (n : Nat) (rows : List (List AV)) : List (List AV) := compact (ordR n) rows
noncomputable def F70 (n : Nat) : List AV → List AObj → Ab Res := fun args st => match args, st with
  | [.sl 28 .any rows, .fn (.func h) [] []], [] => bif Nat.beq h 64 then some (goods n rows && Nat.ble rows.length 20, (.sr 0, [.arr 28 .any (cmpt n (srt n rows))])) else none
  | _, _ => none
theorem b70 (n k : Nat) (rows : List (List AV)) : ev (T4 n) (k + 1) 70 [.sl 28 .any rows, fO] [] = bif fits 56 rows then (bif goods n rows && Nat.ble rows.length 20 then (bif goods n (srt n rows) && okF then some (.sr 0, [.arr 28 .any (cmpt n (srt n rows))]) else none) else none) else none := by kernel_rfl
noncomputable def T5 (n : Nat) : FSys := (T4 n).tell 70 (F70 n)
noncomputable def T6 (n : Nat) : FSys := (T5 n).tell 63 (lvB sortV n)
noncomputable def fin26 (n : Nat) (rows : List (List AV)) : Option Res := bif goods n rows && Nat.ble rows.length 20 then some (.tup [.sl 28 .any (cmpt n (srt n rows)), i64 0], []) else none
noncomputable def no26 : Option Res := some (.tup [.sl 28 .any [], i64 1], [])
noncomputable def σ26 (rows : List (List AV)) (i : Int) : St := ⟨tm 24 [(4, .sl 0 .nil []), (7, .sl 28 .any rows), (8, i64 (rows.length : Nat)), (9, i64 i)], [], []⟩
noncomputable def τ26 (rows out : List (List AV)) (i : Int) : St := ⟨tm 24 [(4, .sr 0), (7, .sl 28 .any rows), (8, i64 (rows.length : Nat)), (9, i64 i)], [.arr 28 .any out], []⟩
section
variable (n k : Nat) (rows out : List (List AV)) (R : St → Option Res) (i : Int)
theorem r26 : roundAt (T6 n) 26 Try.f26 0 k [1,1,0,1,0] [] R (σ26 rows i) = bif decide (i < (rows.length : Nat)) then (bif decide (0 ≤ i) && decide (i < (rows.length : Nat)) then (bif isV n (.agg (nx rows i)) then (bif !(sortV n (.agg (nx rows i))) then no26 else (bif isV n (.agg (nx rows i)) then R (τ26 rows [nx rows i] (IntKind.i64.wrap (i + 1))) else none)) else none) else none) else fin26 n [] := by kernel_rfl
theorem s26 : roundAt (T6 n) 26 Try.f26 0 k [1,1,0,1,0] [] R (τ26 rows out i) = bif decide (i < (rows.length : Nat)) then (bif decide (0 ≤ i) && decide (i < (rows.length : Nat)) then (bif isV n (.agg (nx rows i)) then (bif !(sortV n (.agg (nx rows i))) then no26 else (bif isV n (.agg (nx rows i)) then (bif Nat.ble ((out.length + [nx rows i].length) * 56) 140737488355328 then R (τ26 rows (out ++ [nx rows i]) (IntKind.i64.wrap (i + 1))) else none) else none)) else none) else none) else fin26 n out := by kernel_rfl
theorem b26 : ev (T6 n) (k + 1) 26 [.sl 28 .any rows] [] = loopAt (T6 n) 26 Try.f26 0 k [1,1,0,1,0] [] k (σ26 rows 0) := by kernel_rfl
end
end
end Go.Proofs.Ytciighngjnjmlaa.W
namespace Go.Proofs.Ytciighngjnjmlaa.W
open Go.Fw
set_option maxRecDepth 100000
noncomputable section
theorem loop_listJ {S : FSys} {f : FuncId} {fn : Func} {m k : Nat} {p ms : List Nat} {rows : List (List AV)} {A : Type} (I : Nat → A → Prop)
    (σ : A → Int → St) (stop : A → List AV → Bool) (out : A → List AV → Option Res) (upd : A → List AV → A) (fin : A → Option Res) (hI : ∀ i c (h : i < rows.length), I i c → stop c rows[i] = false → I (i + 1) (upd c rows[i]))
    (h : ∀ (R : St → Option Res) (c : A) (i : Nat) (h1 : i < rows.length), I i c → roundAt S f fn m k p ms R (σ c i) = bif stop c rows[i] then out c rows[i] else R (σ (upd c rows[i]) ((i + 1 : Nat) : Int)))
    (he : ∀ (R : St → Option Res) (c : A), I rows.length c → roundAt S f fn m k p ms R (σ c (rows.length : Nat)) = fin c) :
    ∀ (n i : Nat) (c : A), I i c → i ≤ rows.length → rows.length - i < n → loopAt S f fn m k p ms n (σ c i) = foldS stop out upd fin (rows.drop i) c
  | 0, i, c, _, _, h => by omega
  | n + 1, i, c, hc, hi, hn => by
    rw [loopAt_succ]
    rcases Nat.lt_or_eq_of_le hi with h1 | h1
    · rw [h _ c i h1 hc, List.drop_eq_getElem_cons h1]
      cases hs : stop c rows[i] with
      | true => simp only [foldS, hs, cond_true]
      | false =>
        simp only [foldS, hs, cond_false]
        exact loop_listJ I σ stop out upd fin hI h he n (i + 1) _ (hI i c h1 hc hs) h1 (by omega)
    · subst h1
      rw [he _ _ hc, List.drop_length]
      rfl
theorem foldS_app {p : List AV → Bool} {no : Option Res} {fin : List (List AV) → Option Res} : ∀ (l c : List (List AV)), foldS (fun _ x => !(p x)) (fun _ _ => no) (fun c x => c ++ [x]) fin l c = bif l.all p then fin (c ++ l) else no
  | [], c => by simp [foldS]
  | x :: xs, c => by
    simp only [foldS, List.all_cons]
    cases p x with
    | true => simp [foldS_app xs (c ++ [x])]
    | false => rfl
theorem T5Ok (n : Nat) : SysOk Try.prog (T5 n) := (T4Ok n).tell 70 _ fun args st r h => by
  unfold F70 at h
  split at h
  · rename_i rows h'
    cases hb : Nat.beq h' 64 with
    | false => rw [hb] at h; cases h
    | true =>
      rw [hb] at h
      obtain rfl := Nat.eq_of_beq_eq_true hb
      simp only [cond_true, Option.some.injEq, Prod.mk.injEq, Bool.and_eq_true] at h
      obtain ⟨⟨hg, hl⟩, rfl⟩ := h
      have hf : fits 56 rows = true := by
        have := (goods_iff hg).1
        unfold fits; exact Nat.ble_eq_true_of_le (by omega)
      exact ⟨0 + 1, (b70 n 0 rows).trans (by rw [hf, hg, hl, srt_goods hg, okF_self]; rfl)⟩
  · cases h
theorem T6Ok (n : Nat) : SysOk Try.prog (T6 n) := (T5Ok n).tellMore (K63 n n) rfl rfl
noncomputable def st26 (rows c : List (List AV)) (i : Int) : St := match c with
  | [] => σ26 rows i
  | x :: xs => τ26 rows (x :: xs) i
noncomputable def sortM (n : Nat) (rows : List (List AV)) : List (List AV) := bif sortsR n rows then cmpt n (srt n rows) else []
noncomputable def sortE (n : Nat) (rows : List (List AV)) : Int := bif sortsR n rows then 0 else 1
theorem ev26 (n : Nat) (rows : List (List AV)) (h1 : rowsOk n rows = true) (h2 : rows.length ≤ 20) : ∃ k, ev (T6 n) k 26 [.sl 28 .any rows] [] = some (.tup [.sl 28 .any (sortM n rows), i64 (sortE n rows)], []) := by
  obtain ⟨hl, hr⟩ := rowsOk_iff h1
  refine ⟨rows.length + 1 + 1, (b26 n _ rows).trans ?_⟩
  have L := loop_listJ (S := T6 n) (f := 26) (fn := Try.f26) (m := 0) (k := rows.length + 1) (p := [1,1,0,1,0]) (ms := []) (rows := rows) (A := List (List AV)) (fun i c => c = rows.take i)
    (fun c i => st26 rows c i) (fun _ x => !(sortR n x)) (fun _ _ => no26) (fun c x => c ++ [x]) (fun c => fin26 n c) (fun i c hi hc _ => by rw [hc, take_next hi])
    (fun R c i hi hc => by
      have d1 : decide ((i : Int) < (rows.length : Nat)) = true := by simpa using hi
      have d2 : decide (0 ≤ (i : Int)) = true := by simp
      have hw : IntKind.i64.wrap ((i : Int) + 1) = ((i + 1 : Nat) : Int) := by rw [wrap64] <;> omega
      have hx := hr _ (List.getElem_mem hi)
      match c, hc with
      | [], hc =>
        refine (r26 n _ rows R i).trans ?_
        rw [d1, d2, hw, nx_at hr hi, isV_agg, hx]
        change (bif !(sortR n rows[i]) then no26 else R (τ26 rows [rows[i]] _)) = _
        rfl
      | y :: ys, hc =>
        refine (s26 n _ rows (y :: ys) R i).trans ?_
        have hle : Nat.ble (((y :: ys).length + [rows[i]].length) * 56) 140737488355328 = true := by
          apply Nat.ble_eq_true_of_le
          have e1 : (y :: ys).length = i := by rw [hc]; simp; omega
          rw [e1]
          exact Nat.le_trans (Nat.mul_le_mul_right 56 (by simp; omega : i + [rows[i]].length ≤ rows.length)) (by omega)
        rw [d1, d2, hw, nx_at hr hi, isV_agg, hx, hle]
        change (bif !(sortR n rows[i]) then no26 else R (τ26 rows ((y :: ys) ++ [rows[i]]) _)) = _
        rfl)
    (fun R c hc => by
      match c, hc with
      | [], hc => exact (r26 n _ rows R _).trans (stopped _ _ _)
      | y :: ys, hc => exact (s26 n _ rows (y :: ys) R _).trans (stopped _ _ _)) (rows.length + 1) 0 [] (by simp) (Nat.zero_le _) (by omega)
  refine L.trans ?_
  rw [List.drop_zero, foldS_app, List.nil_append]
  unfold sortM sortE sortsR
  cases hs : rows.all (sortR n) with
  | false => rfl
  | true =>
    have hg : goods n rows = true := by unfold goods sortsR; rw [h1, hs]; rfl
    simp only [cond_true]
    unfold fin26
    rw [hg, Nat.ble_eq_true_of_le h2]
    rfl
noncomputable def F26 (n : Nat) : List AV → List AObj → Ab Res := fun args st => match args, st with
  | [.sl 28 .any rows], [] => some (rowsOk n rows && Nat.ble rows.length 20, (.tup [.sl 28 .any (sortM n rows), i64 (sortE n rows)], []))
  | _, _ => none
theorem F26_inv {n : Nat} {args : List AV} {st : List AObj} {r : Res} (h : F26 n args st = some (true, r)) : ∃ rows, args = [.sl 28 .any rows] ∧ st = [] ∧ rowsOk n rows = true ∧ rows.length ≤ 20 ∧ r = (.tup [.sl 28 .any (sortM n rows), i64 (sortE n rows)], []) := by
  unfold F26 at h
  split at h
  · rename_i rows
    simp only [Option.some.injEq, Prod.mk.injEq, Bool.and_eq_true] at h
    obtain ⟨⟨h1, h2⟩, rfl⟩ := h
    exact ⟨rows, rfl, rfl, h1, Nat.le_of_ble_eq_true h2, rfl⟩
  · cases h
theorem K26 (n : Nat) : SysOk Try.prog ((T6 n).tell 26 (F26 n)) := (T6Ok n).tell 26 _ fun args st r h => by
  obtain ⟨rows, rfl, rfl, h1, h2, rfl⟩ := F26_inv h
  exact ev26 n rows h1 h2
end
end Go.Proofs.Ytciighngjnjmlaa.W
