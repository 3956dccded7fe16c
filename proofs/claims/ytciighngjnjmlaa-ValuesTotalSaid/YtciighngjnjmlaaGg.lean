/- A part of the proofs over these laws: what its functions come to. No conditions. -/
import Derived.Test.YtciighngjnjmlaaGf
import Derived.Test.YtciighngjnjmlaaGd
set_option linter.all false
namespace Go.Proofs.Ytciighngjnjmlaa.W
open Go.Fw
set_option maxRecDepth 100000
noncomputable section
noncomputable def fIdx (f : Int → List AV → Bool × Int) : List (List AV) → Int → Int → Int × Int
  | [], c, _ => (-1, c)
  | x :: xs, c, i => bif (f c x).1 then fIdx f xs (f c x).2 (i + 1) else (i, (f c x).2)
noncomputable def cntR : Nat → Int → List AV → Bool × Int
  | 0, c, _ => (false, c)
  | n + 1, c, r => bif decide (w64 (c - 1) ≥ 0) then (bif decide (((tx r).size : Int) ≤ 300) then (!(decide ((fIdx (cntR n) (kids r) (w64 (c - 1)) 0).1 ≥ 0)), (fIdx (cntR n) (kids r) (w64 (c - 1)) 0).2) else (false, w64 (c - 1))) else (false, w64 (c - 1))
noncomputable def cntA (n : Nat) (c : Int) : AV → Bool × Int
  | .agg r => cntR n c r
  | _ => (false, c)
noncomputable def fnA : AV := .fn (.func 58) [] [.ptr 0 0, .ptr 1 0]
noncomputable def fnB : AV := .fn (.func 58) [] [.ptr 1 0, .ptr 0 0]
noncomputable def stC (c : Int) : List AObj := [.box 3 [i64 c], .box 39 [fnA]]
noncomputable def stD (c : Int) : List AObj := [.box 39 [fnB], .box 3 [i64 c]]
noncomputable def F58 (n : Nat) : List AV → List AObj → Ab Res := fun args st => match args, st with
  | [v, .ptr 0 0, .ptr 1 0], [.box 3 [x], .box 39 [y]] => some (isV n v && (eqC x (i64 x.toI) && eqC y fnA), (bl (cntA n x.toI v).1, stC (cntA n x.toI v).2))
  | _, _ => none
theorem F58_inv {n : Nat} {args : List AV} {st : List AObj} {r : Res} (h : F58 n args st = some (true, r)) :
    ∃ v c, args = [v, .ptr 0 0, .ptr 1 0] ∧ st = stC c ∧ isV n v = true ∧ r = (bl (cntA n c v).1, stC (cntA n c v).2) := by
  unfold F58 at h
  split at h
  · rename_i v x y
    simp only [Option.some.injEq, Prod.mk.injEq, Bool.and_eq_true, eqC_iff] at h
    obtain ⟨⟨hv, hx, rfl⟩, rfl⟩ := h
    exact ⟨v, x.toI, rfl, by unfold stC; rw [← hx], hv, rfl⟩
  · cases h
noncomputable def F59 (n : Nat) : List AV → List AObj → Ab Res := fun args st => match args, st with
  | [v, .ptr 0 0], [.box 39 [y], .box 3 [x]] => some (isV n v && (eqC x (i64 x.toI) && eqC y fnB), (bl (!(cntA n x.toI v).1), stD (cntA n x.toI v).2))
  | _, _ => none
theorem F59_inv {n : Nat} {args : List AV} {st : List AObj} {r : Res} (h : F59 n args st = some (true, r)) :
    ∃ v c, args = [v, .ptr 0 0] ∧ st = stD c ∧ isV n v = true ∧ r = (bl (!(cntA n c v).1), stD (cntA n c v).2) := by
  unfold F59 at h
  split at h
  · rename_i v y x
    simp only [Option.some.injEq, Prod.mk.injEq, Bool.and_eq_true, eqC_iff] at h
    obtain ⟨⟨hv, hx, rfl⟩, rfl⟩ := h
    exact ⟨v, x.toI, rfl, by unfold stD; rw [← hx], hv, rfl⟩
  · cases h
noncomputable def F89 (n : Nat) : List AV → List AObj → Ab Res := fun args st => match args, st with
  | [.sl 28 .any rows, .fn (.func h) [] [.ptr 0 0]], [.box 39 [y], .box 3 [x]] => bif Nat.beq h 59 then some (rowsOk n rows && (eqC x (i64 x.toI) && eqC y fnB), (i64 (fIdx (cntR n) rows x.toI 0).1, stD (fIdx (cntR n) rows x.toI 0).2)) else none
  | _, _ => none
theorem F89_inv {n : Nat} {args : List AV} {st : List AObj} {r : Res} (h : F89 n args st = some (true, r)) :
    ∃ rows c, args = [.sl 28 .any rows, .fn (.func 59) [] [.ptr 0 0]] ∧ st = stD c ∧ rowsOk n rows = true ∧ r = (i64 (fIdx (cntR n) rows c 0).1, stD (fIdx (cntR n) rows c 0).2) := by
  unfold F89 at h
  split at h
  · rename_i rows h' y x
    cases hb : Nat.beq h' 59 with
    | false => rw [hb] at h; cases h
    | true =>
      rw [hb] at h
      obtain rfl := Nat.eq_of_beq_eq_true hb
      simp only [cond_true, Option.some.injEq, Prod.mk.injEq, Bool.and_eq_true, eqC_iff] at h
      obtain ⟨⟨hv, hx, rfl⟩, rfl⟩ := h
      exact ⟨rows, x.toI, rfl, by unfold stD; rw [← hx], hv, rfl⟩
  · cases h
noncomputable def F40 (n : Nat) : List AV → List AObj → Ab Res := fun args st => match args, st with
  | [.sl 28 .any rows, .fn (.func h) [] [.ptr 0 0]], [.box 39 [y], .box 3 [x]] => bif Nat.beq h 59 then some (rowsOk n rows && (eqC x (i64 x.toI) && eqC y fnB), (bl (decide ((fIdx (cntR n) rows x.toI 0).1 ≥ 0)), stD (fIdx (cntR n) rows x.toI 0).2)) else none
  | _, _ => none
theorem F40_inv {n : Nat} {args : List AV} {st : List AObj} {r : Res} (h : F40 n args st = some (true, r)) :
    ∃ rows c, args = [.sl 28 .any rows, .fn (.func 59) [] [.ptr 0 0]] ∧ st = stD c ∧ rowsOk n rows = true ∧ r = (bl (decide ((fIdx (cntR n) rows c 0).1 ≥ 0)), stD (fIdx (cntR n) rows c 0).2) := by
  unfold F40 at h
  split at h
  · rename_i rows h' y x
    cases hb : Nat.beq h' 59 with
    | false => rw [hb] at h; cases h
    | true =>
      rw [hb] at h
      obtain rfl := Nat.eq_of_beq_eq_true hb
      simp only [cond_true, Option.some.injEq, Prod.mk.injEq, Bool.and_eq_true, eqC_iff] at h
      obtain ⟨⟨hv, hx, rfl⟩, rfl⟩ := h
      exact ⟨rows, x.toI, rfl, by unfold stD; rw [← hx], hv, rfl⟩
  · cases h
noncomputable def L58 (N n : Nat) : FSys := (K4 N).tell 58 (F58 n)
noncomputable def L59 (N n : Nat) : FSys := (L58 N n).tell 59 (F59 n)
noncomputable def L89 (N n : Nat) : FSys := (L59 N n).tell 89 (F89 n)
noncomputable def X58 (N n : Nat) : FSys := (L89 N n).tell 40 (F40 n)
noncomputable def okC (c : Int) : Bool := eqC (i64 c) (i64 c) && eqC fnA fnA
noncomputable def okD (c : Int) : Bool := eqC (i64 c) (i64 c) && eqC fnB fnB
noncomputable def σ89 (rows : List (List AV)) (i c : Int) : St := ⟨tm 19 [(0, .sl 28 .any rows), (1, .fn (.func 59) [] [.ptr 0 0]), (7, i64 (rows.length : Nat)), (8, i64 i)], stD c, []⟩
section
variable (a b c : Int) (s : ByteArray) (k n N : Nat) (rows : List (List AV)) (R : St → Option Res) (i : Int)
theorem b59 : ev (L58 N n) (k + 1) 59 [.agg (VV a b s rows), .ptr 0 0] (stD c) = bif isV n (.agg (VV a b s rows)) && okC c then some (bl (!(cntA n c (.agg (VV a b s rows))).1), stD (cntA n c (.agg (VV a b s rows))).2) else none := by kernel_rfl
theorem r89 : roundAt (L59 N n) 89 Try.f89 2 k [1,0,1,0] [] R (σ89 rows i c) = bif decide (i < (rows.length : Nat)) then (bif decide (0 ≤ i) && decide (i < (rows.length : Nat)) then (bif isV n (.agg (nx rows i)) && okD c then
  (bif !(cntA n c (.agg (nx rows i))).1 then some (i64 i, stD (cntA n c (.agg (nx rows i))).2) else R (σ89 rows (IntKind.i64.wrap (i + 1)) (cntA n c (.agg (nx rows i))).2)) else none) else none) else some (i64 (-1), stD c) := by kernel_rfl
theorem b89 : ev (L59 N n) (k + 1) 89 [.sl 28 .any rows, .fn (.func 59) [] [.ptr 0 0]] (stD c) = loopAt (L59 N n) 89 Try.f89 2 k [1,0,1,0] [] k (σ89 rows 0 c) := by kernel_rfl
theorem b40 : ev (L89 N n) (k + 1) 40 [.sl 28 .any rows, .fn (.func 59) [] [.ptr 0 0]] (stD c) = bif rowsOk n rows && okD c then some (bl (decide ((fIdx (cntR n) rows c 0).1 ≥ 0)), stD (fIdx (cntR n) rows c 0).2) else none := by kernel_rfl
theorem b58 : evTop (X58 N n) k 58 [.agg (VV a b s rows), .ptr 0 0, .ptr 1 0] (stC c) = bif decide (w64 (c - 1) ≥ 0) then (bif decide ((s.size : Int) ≤ 300) then (bif rowsOk n rows && okD (w64 (c - 1)) then some (bl (!(decide ((fIdx (cntR n) rows (w64 (c - 1)) 0).1 ≥ 0))), stC (fIdx (cntR n) rows (w64 (c - 1)) 0).2) else none) else some (bl false, stC (w64 (c - 1)))) else some (bl false, stC (w64 (c - 1))) := by kernel_rfl
theorem b11 : ev (L58 N n) (k + 1) 11 [.agg (VV a b s rows), i64 c] [] = bif isV n (.agg (VV a b s rows)) && okC c then some (bl (cntA n c (.agg (VV a b s rows))).1, []) else none := by kernel_rfl
end
end
end Go.Proofs.Ytciighngjnjmlaa.W
namespace Go.Proofs.Ytciighngjnjmlaa.W
open Go.Fw
set_option maxRecDepth 100000
noncomputable section
theorem okC_self (c : Int) : okC c = true := by unfold okC; rw [eqC_self, eqC_self]; rfl
theorem okD_self (c : Int) : okD c = true := by unfold okD; rw [eqC_self, eqC_self]; rfl
theorem isV_ex {n : Nat} {v : AV} (h : isV n v = true) : ∃ a b s rows, v = .agg (VV a b s rows) := by
  cases n with
  | zero => rw [isV_zero] at h; cases h
  | succ n =>
    obtain ⟨a, b, s, rows, rfl, _⟩ := isV_some h
    exact ⟨a, b, s, rows, rfl⟩
theorem told59 (N n : Nat) (args : List AV) (st : List AObj) (r : Res) (h : F59 n args st = some (true, r)) : ∃ k, ev (L58 N n) k 59 args st = some r := by
  obtain ⟨v, c, rfl, rfl, hv, rfl⟩ := F59_inv h
  obtain ⟨a, b, s, rows, rfl⟩ := isV_ex hv
  exact ⟨0 + 1, (b59 a b c s 0 n N rows).trans (by rw [hv, okC_self]; rfl)⟩
def foldI {A : Type} (stop : A → List AV → Bool) (out : A → Int → List AV → Option Res) (upd : A → List AV → A) (fin : A → Option Res) : List (List AV) → A → Int → Option Res
  | [], c, _ => fin c
  | x :: xs, c, i => bif stop c x then out c i x else foldI stop out upd fin xs (upd c x) (i + 1)
theorem loop_idx {S : FSys} {f : FuncId} {fn : Func} {m k : Nat} {p ms : List Nat} {rows : List (List AV)} {A : Type}
    (σ : A → Int → St) (stop : A → List AV → Bool) (out : A → Int → List AV → Option Res) (upd : A → List AV → A) (fin : A → Option Res)
    (h : ∀ (R : St → Option Res) (c : A) (i : Nat) (h1 : i < rows.length), roundAt S f fn m k p ms R (σ c i) = bif stop c rows[i] then out c i rows[i] else R (σ (upd c rows[i]) ((i + 1 : Nat) : Int)))
    (he : ∀ (R : St → Option Res) (c : A), roundAt S f fn m k p ms R (σ c (rows.length : Nat)) = fin c) :
    ∀ (n i : Nat) (c : A), i ≤ rows.length → rows.length - i < n → loopAt S f fn m k p ms n (σ c i) = foldI stop out upd fin (rows.drop i) c i
  | 0, i, c, _, h => by omega
  | n + 1, i, c, hi, hn => by
    rw [loopAt_succ]
    rcases Nat.lt_or_eq_of_le hi with h1 | h1
    · rw [h _ c i h1, List.drop_eq_getElem_cons h1, loop_idx σ stop out upd fin h he n (i + 1) _ h1 (by omega)]
      rfl
    · subst h1
      rw [he, List.drop_length]
      rfl
theorem foldI_fIdx (f : Int → List AV → Bool × Int) : ∀ (l : List (List AV)) (c i : Int),
    foldI (fun c x => !(f c x).1) (fun c i x => some (i64 i, stD (f c x).2)) (fun c x => (f c x).2) (fun c => some (i64 (-1), stD c)) l c i = some (i64 (fIdx f l c i).1, stD (fIdx f l c i).2)
  | [], c, i => rfl
  | x :: xs, c, i => by
    simp only [foldI, fIdx]
    cases hp : (f c x).1 with
    | true => simp only [Bool.not_true, cond_false, cond_true]; exact foldI_fIdx f xs _ _
    | false => rfl
theorem told89 (N n : Nat) (args : List AV) (st : List AObj) (r : Res) (h : F89 n args st = some (true, r)) : ∃ k, ev (L59 N n) k 89 args st = some r := by
  obtain ⟨rows, c, rfl, rfl, hv, rfl⟩ := F89_inv h
  obtain ⟨hl, hr⟩ := rowsOk_iff hv
  refine ⟨rows.length + 1 + 1, (b89 c _ n N rows).trans ?_⟩
  have L := loop_idx (S := L59 N n) (f := 89) (fn := Try.f89) (m := 2) (k := rows.length + 1) (p := [1,0,1,0]) (ms := []) (rows := rows) (A := Int)
    (fun c i => σ89 rows i c) (fun c x => !(cntR n c x).1) (fun c i x => some (i64 i, stD (cntR n c x).2)) (fun c x => (cntR n c x).2) (fun c => some (i64 (-1), stD c))
    (fun R c i hi => (r89 c _ n N rows R i).trans (by
      have d1 : decide ((i : Int) < (rows.length : Nat)) = true := by simpa using hi
      have d2 : decide (0 ≤ (i : Int)) = true := by simp
      have hw : IntKind.i64.wrap ((i : Int) + 1) = ((i + 1 : Nat) : Int) := by rw [wrap64] <;> omega
      rw [d1, d2, hw, nx_at hr hi, isV_agg, hr _ (List.getElem_mem hi), okD_self]
      rfl))
    (fun R c => (r89 c _ n N rows R _).trans (stopped _ _ _)) (rows.length + 1) 0 c (Nat.zero_le _) (by omega)
  exact L.trans (foldI_fIdx (cntR n) rows c 0)
theorem told40 (N n : Nat) (args : List AV) (st : List AObj) (r : Res) (h : F40 n args st = some (true, r)) : ∃ k, ev (L89 N n) k 40 args st = some r := by
  obtain ⟨rows, c, rfl, rfl, hv, rfl⟩ := F40_inv h
  exact ⟨0 + 1, (b40 c 0 n N rows).trans (by rw [hv, okD_self]; rfl)⟩
theorem X58Ok (N n : Nat) (h : SysOk Try.prog (L58 N n)) : SysOk Try.prog (X58 N n) :=
  ((h.tell 59 _ (told59 N n)).tell 89 _ (told89 N n)).tell 40 _ (told40 N n)
theorem cnt_eq (n : Nat) (c a b : Int) (s : ByteArray) (rows : List (List AV)) : cntA (n + 1) c (.agg (VV a b s rows)) = bif decide (w64 (c - 1) ≥ 0) then (bif decide ((s.size : Int) ≤ 300) then (!(decide ((fIdx (cntR n) rows (w64 (c - 1)) 0).1 ≥ 0)), (fIdx (cntR n) rows (w64 (c - 1)) 0).2) else (false, w64 (c - 1))) else (false, w64 (c - 1)) := rfl
theorem top58 (N n : Nat) (v : AV) (c : Int) (h : isV (n + 1) v = true) : ∃ k, evTop (X58 N n) k 58 [v, .ptr 0 0, .ptr 1 0] (stC c) = some (bl (cntA (n + 1) c v).1, stC (cntA (n + 1) c v).2) := by
  obtain ⟨a, b, s, rows, rfl, hl, hr⟩ := isV_some h
  refine ⟨1, (b58 a b c s 1 n N rows).trans ?_⟩
  rw [cnt_eq, rowsOk_of hl hr, okD_self]
  cases decide (w64 (c - 1) ≥ 0) <;> cases decide ((s.size : Int) ≤ 300) <;> rfl
theorem K58 (N : Nat) (n : Nat) : SysOk Try.prog (L58 N n) :=
  (K4Ok N).lvRec 58 F58 (X58 N) (fun args st r hF => by obtain ⟨v, _, _, _, h1, _⟩ := F58_inv hF; rw [isV_zero] at h1; cases h1) (fun n h => X58Ok N n h) (fun _ => rfl) (fun _ => rfl)
    (fun n args st r hF => by
      obtain ⟨v, c, rfl, rfl, h1, rfl⟩ := F58_inv hF
      exact top58 N n v c h1) n
noncomputable def F11 (n : Nat) : List AV → List AObj → Ab Res := fun args st => match args, st with
  | [v, .k (.int .i64 c)], [] => some (isV n v, (bl (cntA n c v).1, []))
  | _, _ => none
theorem K11 (N n : Nat) : SysOk Try.prog ((L58 N n).tell 11 (F11 n)) := (K58 N n).tell 11 _ fun args st r h => by
  unfold F11 at h
  split at h
  · rename_i v c
    simp only [Option.some.injEq, Prod.mk.injEq] at h
    obtain ⟨hv, rfl⟩ := h
    obtain ⟨a, b, s, rows, rfl⟩ := isV_ex hv
    exact ⟨0 + 1, (b11 a b c s 0 n N rows).trans (by rw [hv, okC_self]; rfl)⟩
  · cases h
noncomputable def idxL (p : List AV → Bool) : List (List AV) → Int → Int
  | [], _ => -1
  | x :: xs, i => bif p x then i else idxL p xs (i + 1)
theorem foldI_idx (p : List AV → Bool) : ∀ (l : List (List AV)) (i : Int), foldI (A := Unit) (fun _ x => p x) (fun _ i _ => some (i64 i, [])) (fun c _ => c) (fun _ => some (i64 (-1), [])) l () i = some (i64 (idxL p l i), [])
  | [], i => rfl
  | x :: xs, i => by
    simp only [foldI, idxL]
    cases p x with
    | true => rfl
    | false => exact foldI_idx p xs (i + 1)
theorem idxL_any (p : List AV → Bool) : ∀ (l : List (List AV)) (i : Int), 0 ≤ i → decide (idxL p l i ≥ 0) = l.any p
  | [], i, _ => rfl
  | x :: xs, i, h => by
    rw [List.any_cons]
    by_cases c : p x = true
    · rw [c, Bool.true_or]
      have : idxL p (x :: xs) i = i := by simp only [idxL, c, cond_true]
      rw [this]; exact decide_eq_true h
    · have c : p x = false := by simpa using c
      rw [c, Bool.false_or]
      have : idxL p (x :: xs) i = idxL p xs (i + 1) := by simp only [idxL, c, cond_false]
      rw [this]; exact idxL_any p xs (i + 1) (by omega)
end
end Go.Proofs.Ytciighngjnjmlaa.W
namespace Go.Proofs.Ytciighngjnjmlaa.W
open Go.Fw
set_option maxRecDepth 100000
noncomputable section
noncomputable def P1 (n : Nat) : FSys := (K4 n).tell 11 (F11 n)
noncomputable def P2 (n : Nat) : FSys := (P1 n).tell 63 (lvB sortV n)
noncomputable def P3 (n : Nat) : FSys := (P2 n).tell 65 (lvB sortV n)
noncomputable def P4 (n : Nat) : FSys := (P3 n).tell 64 (lvO n)
noncomputable def P5 (n : Nat) : FSys := (P4 n).tell 66 (lvO n)
theorem P1Ok (n : Nat) : SysOk Try.prog (P1 n) := (K4Ok n).tellMore (K11 n n) rfl rfl
theorem P2Ok (n : Nat) : SysOk Try.prog (P2 n) := (P1Ok n).tellMore (K63 n n) rfl rfl
theorem P3Ok (n : Nat) : SysOk Try.prog (P3 n) := (P2Ok n).tellMore (tellB (K4Ok n) 65 sortV (top65 n) n) rfl rfl
theorem P4Ok (n : Nat) : SysOk Try.prog (P4 n) := (P3Ok n).tellMore (K64 n n) rfl rfl
theorem P5Ok (n : Nat) : SysOk Try.prog (P5 n) := (P4Ok n).tellMore (K66 n n) rfl rfl
noncomputable def cmpOk (n : Nat) (u v : AV) : Bool := sortV n u && sortV n v
noncomputable def cmpN (n : Nat) (u v : AV) : Int := bif cmpOk n u v then ordV n u v else 0
noncomputable def cmpE (n : Nat) (u v : AV) : Int := bif cmpOk n u v then 0 else 1
noncomputable def F14 (n : Nat) : List AV → List AObj → Ab Res := fun args st => match args, st with
  | [u, v], [] => some (isVV n u v, (.tup [i64 (cmpN n u v), i64 (cmpE n u v)], []))
  | _, _ => none
section
variable (a b a2 b2 : Int) (s t : ByteArray) (k n : Nat) (rows rows2 : List (List AV))
theorem b14 : ev (P5 n) (k + 1) 14 [.agg (VV a b s rows), .agg (VV a2 b2 t rows2)] [] = bif isV n (.agg (VV a b s rows)) then (bif !(sortV n (.agg (VV a b s rows))) then some (.tup [i64 0, i64 1], []) else (bif isV n (.agg (VV a2 b2 t rows2)) then (bif !(sortV n (.agg (VV a2 b2 t rows2))) then some (.tup [i64 0, i64 1], []) else (bif isSS n (.agg (VV a b s rows)) (.agg (VV a2 b2 t rows2)) then some (.tup [i64 (ordV n (.agg (VV a b s rows)) (.agg (VV a2 b2 t rows2))), i64 0], []) else none)) else none)) else none := by kernel_rfl
theorem b15 : ev (P5 n) (k + 1) 15 [.agg (VV a b s rows), .agg (VV a2 b2 t rows2)] [] = bif isV n (.agg (VV a b s rows)) then (bif !(sortV n (.agg (VV a b s rows))) then some (.tup [i64 0, i64 1], []) else (bif isV n (.agg (VV a2 b2 t rows2)) then (bif !(sortV n (.agg (VV a2 b2 t rows2))) then some (.tup [i64 0, i64 1], []) else (bif isSS n (.agg (VV a b s rows)) (.agg (VV a2 b2 t rows2)) then some (.tup [i64 (ordV n (.agg (VV a b s rows)) (.agg (VV a2 b2 t rows2))), i64 0], []) else none)) else none)) else none := by kernel_rfl
end
theorem F14_inv {n : Nat} {args : List AV} {st : List AObj} {r : Res} (h : F14 n args st = some (true, r)) : ∃ u v, args = [u, v] ∧ st = [] ∧ isV n u = true ∧ isV n v = true ∧ r = (.tup [i64 (cmpN n u v), i64 (cmpE n u v)], []) := by
  unfold F14 at h
  split at h
  · rename_i u v
    simp only [Option.some.injEq, Prod.mk.injEq] at h
    obtain ⟨hv, rfl⟩ := h
    exact ⟨u, v, rfl, rfl, (isVV_some hv).1, (isVV_some hv).2, rfl⟩
  · cases h
theorem cmp_out {n : Nat} {u v : AV} (h1 : isV n u = true) (h2 : isV n v = true) : (bif isV n u then (bif !(sortV n u) then some (AV.tup [i64 0, i64 1], ([] : List AObj)) else (bif isV n v then (bif !(sortV n v) then some (AV.tup [i64 0, i64 1], []) else (bif isSS n u v then some (AV.tup [i64 (ordV n u v), i64 0], []) else none)) else none)) else none) = some (AV.tup [i64 (cmpN n u v), i64 (cmpE n u v)], []) := by
  unfold cmpN cmpE cmpOk isSS
  rw [h1, h2]
  cases sortV n u <;> cases sortV n v <;> rfl
theorem told14 (n : Nat) (args : List AV) (st : List AObj) (r : Res) (h : F14 n args st = some (true, r)) : ∃ k, ev (P5 n) k 14 args st = some r := by
  obtain ⟨u, v, rfl, rfl, h1, h2, rfl⟩ := F14_inv h
  obtain ⟨a, b, s, rows, rfl⟩ := isV_ex h1
  obtain ⟨a2, b2, t, rows2, rfl⟩ := isV_ex h2
  exact ⟨0 + 1, (b14 a b a2 b2 s t 0 n rows rows2).trans (cmp_out h1 h2)⟩
theorem told15 (n : Nat) (args : List AV) (st : List AObj) (r : Res) (h : F14 n args st = some (true, r)) : ∃ k, ev (P5 n) k 15 args st = some r := by
  obtain ⟨u, v, rfl, rfl, h1, h2, rfl⟩ := F14_inv h
  obtain ⟨a, b, s, rows, rfl⟩ := isV_ex h1
  obtain ⟨a2, b2, t, rows2, rfl⟩ := isV_ex h2
  exact ⟨0 + 1, (b15 a b a2 b2 s t 0 n rows rows2).trans (cmp_out h1 h2)⟩
noncomputable def Q1 (n : Nat) : FSys := (P5 n).tell 14 (F14 n)
noncomputable def Q2 (n : Nat) : FSys := (Q1 n).tell 15 (F14 n)
noncomputable def Q3 (n : Nat) : FSys := (Q2 n).tell 16 (lvBB eqV n)
noncomputable def Q4 (n : Nat) : FSys := (Q3 n).tell 17 (lvBB eqV n)
noncomputable def QV (n : Nat) : FSys := Q4 n
theorem QVOk (n : Nat) : SysOk Try.prog (QV n) :=
  (SysOk.tellMore (.tellMore (.tellMore (.tellMore (P5Ok n) ((P5Ok n).tell 14 _ (told14 n)) rfl rfl) ((P5Ok n).tell 15 _ (told15 n)) rfl rfl) (K16 n n) rfl rfl) (K17 n n) rfl rfl)
end
end Go.Proofs.Ytciighngjnjmlaa.W
namespace Go.Proofs.Ytciighngjnjmlaa.W
open Go.Fw
set_option maxRecDepth 100000
noncomputable section
noncomputable def thenN (c : Bool) (x : Option Res) : Option Res := bif c then x else none
noncomputable def thenF (c : Bool) (x : Option Res) : Option Res := bif c then x else some (bl false, [])
theorem arg28 {av : AV} (h : ArgOf tab 28 av) : ∃ n, isV n av = true := by
  have ht : ∃ ti, tab 28 = some ti ∧ ti.isAgg = true := ⟨_, rfl, by kernel_rfl⟩
  obtain ⟨ti, h1, h2⟩ := ht
  exact ArgOf_isVal h h1 h2
theorem isV_up {n m : Nat} {v : AV} (h : isV n v = true) (hm : n ≤ m) : isV m v = true := isVal_le h hm
end
end Go.Proofs.Ytciighngjnjmlaa.W
