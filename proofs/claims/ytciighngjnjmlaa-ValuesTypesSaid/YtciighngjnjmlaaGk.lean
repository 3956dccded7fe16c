/- A part of the proofs over these laws: what its functions come to. No conditions. -/
import Derived.Test.YtciighngjnjmlaaGj
set_option linter.all false
namespace Go.Proofs.Ytciighngjnjmlaa.W
open Go.Fw
set_option maxRecDepth 100000
noncomputable section
noncomputable def smR : Nat → Int → List AV → Bool × Int
  | 0, c, _ => (false, c)
  | n + 1, c, r => bif decide (w64 (c - 1) ≥ 0) then (bif decide (((tn r).size : Int) ≤ 60) then (!(decide ((fIdx (smR n) (ta r) (w64 (c - 1)) 0).1 ≥ 0)), (fIdx (smR n) (ta r) (w64 (c - 1)) 0).2) else (false, w64 (c - 1))) else (false, w64 (c - 1))
noncomputable def smA (n : Nat) (c : Int) : AV → Bool × Int
  | .agg r => smR n c r
  | _ => (false, c)
noncomputable def stZ (c : Int) : List AObj := [.box 3 [i64 c]]
noncomputable def stQ (c : Int) : List AObj := [.box 84 [.ptr 1 0], .box 3 [i64 c]]
noncomputable def F56 (n : Nat) : List AV → List AObj → Ab Res := fun args st => match args, st with
  | [v, .ptr 0 0], [.box 3 [x]] => some (isT n v && eqC x (i64 x.toI), (bl (smA n x.toI v).1, stZ (smA n x.toI v).2))
  | _, _ => none
noncomputable def F97 (n : Nat) : List AV → List AObj → Ab Res := fun args st => match args, st with
  | [v, .ptr 0 0], [.box 84 [y], .box 3 [x]] => some (isT n v && (eqC x (i64 x.toI) && eqC y (.ptr 1 0)), (bl (!(smA n x.toI v).1), stQ (smA n x.toI v).2))
  | _, _ => none
noncomputable def F71a (n : Nat) : List AV → List AObj → Ab Res := fun args st => match args, st with
  | [.sl 25 .any rows, .fn (.func h) [] [.ptr 0 0]], [.box 84 [y], .box 3 [x]] => bif Nat.beq h 97 then some (tyOk n rows && (eqC x (i64 x.toI) && eqC y (.ptr 1 0)), (i64 (fIdx (smR n) rows x.toI 0).1, stQ (fIdx (smR n) rows x.toI 0).2)) else none
  | _, _ => none
noncomputable def F28a (n : Nat) : List AV → List AObj → Ab Res := fun args st => match args, st with
  | [.sl 25 .any rows, .fn (.func h) [] [.ptr 0 0]], [.box 84 [y], .box 3 [x]] => bif Nat.beq h 97 then some (tyOk n rows && (eqC x (i64 x.toI) && eqC y (.ptr 1 0)), (bl (decide ((fIdx (smR n) rows x.toI 0).1 ≥ 0)), stQ (fIdx (smR n) rows x.toI 0).2)) else none
  | _, _ => none
noncomputable def H56 (L n : Nat) : FSys := (sysH L).tell 56 (F56 n)
noncomputable def H97 (L n : Nat) : FSys := (H56 L n).tell 97 (F97 n)
noncomputable def H71 (L n : Nat) : FSys := (H97 L n).tell 71 (F71a n)
noncomputable def X56 (L n : Nat) : FSys := (H71 L n).tell 28 (F28a n)
noncomputable def okZ (c : Int) : Bool := eqC (i64 c) (i64 c)
noncomputable def okQ (c : Int) : Bool := eqC (i64 c) (i64 c) && eqC (AV.ptr 1 0) (.ptr 1 0)
noncomputable def f97 : AV := .fn (.func 97) [] [.ptr 0 0]
noncomputable def σ71a (rows : List (List AV)) (i c : Int) : St := ⟨tm 19 [(0, .sl 25 .any rows), (1, f97), (7, i64 (rows.length : Nat)), (8, i64 i)], stQ c, []⟩
section
variable (a c : Int) (s : ByteArray) (k n L : Nat) (rows : List (List AV)) (R : St → Option Res) (i : Int)
theorem b97 : ev (H56 L n) (k + 1) 97 [.agg (TT a s rows), .ptr 0 0] (stQ c) = bif isT n (.agg (TT a s rows)) && okZ c then some (bl (!(smA n c (.agg (TT a s rows))).1), stQ (smA n c (.agg (TT a s rows))).2) else none := by kernel_rfl
theorem r71a : roundAt (H97 L n) 71 Try.f71 2 k [1,0,1,0] [] R (σ71a rows i c) = bif decide (i < (rows.length : Nat)) then (bif decide (0 ≤ i) && decide (i < (rows.length : Nat)) then (bif isT n (.agg (trow (rows.getD i.toNat []))) && okQ c then
  (bif !(smA n c (.agg (trow (rows.getD i.toNat [])))).1 then some (i64 i, stQ (smA n c (.agg (trow (rows.getD i.toNat [])))).2) else R (σ71a rows (IntKind.i64.wrap (i + 1)) (smA n c (.agg (trow (rows.getD i.toNat [])))).2)) else none) else none) else some (i64 (-1), stQ c) := by kernel_rfl
theorem b71a : ev (H97 L n) (k + 1) 71 [.sl 25 .any rows, f97] (stQ c) = loopAt (H97 L n) 71 Try.f71 2 k [1,0,1,0] [] k (σ71a rows 0 c) := by kernel_rfl
theorem b28a : ev (H71 L n) (k + 1) 28 [.sl 25 .any rows, f97] (stQ c) = bif tyOk n rows && okQ c then some (bl (decide ((fIdx (smR n) rows c 0).1 ≥ 0)), stQ (fIdx (smR n) rows c 0).2) else none := by kernel_rfl
theorem b56 : evTop (X56 L n) k 56 [.agg (TT a s rows), .ptr 0 0] (stZ c) = bif decide (w64 (c - 1) ≥ 0) then (bif decide ((s.size : Int) ≤ 60) then (bif tyOk n rows && okQ (w64 (c - 1)) then some (bl (!(decide ((fIdx (smR n) rows (w64 (c - 1)) 0).1 ≥ 0))), stZ (fIdx (smR n) rows (w64 (c - 1)) 0).2) else none) else some (bl false, stZ (w64 (c - 1)))) else some (bl false, stZ (w64 (c - 1))) := by kernel_rfl
theorem b55 : ev (H56 L n) (k + 1) 55 [.agg (TT a s rows)] [] = bif isT n (.agg (TT a s rows)) && okZ 8 then some (bl (smA n 8 (.agg (TT a s rows))).1, []) else none := by kernel_rfl
end
end
end Go.Proofs.Ytciighngjnjmlaa.W
namespace Go.Proofs.Ytciighngjnjmlaa.W
open Go.Fw
set_option maxRecDepth 100000
noncomputable section
theorem okZ_self (c : Int) : okZ c = true := by unfold okZ; rw [eqC_self]
theorem okQ_self (c : Int) : okQ c = true := by unfold okQ; rw [eqC_self, eqC_self]; rfl
theorem F56_inv {n : Nat} {args : List AV} {st : List AObj} {r : Res} (h : F56 n args st = some (true, r)) :
    ∃ v c, args = [v, .ptr 0 0] ∧ st = stZ c ∧ isT n v = true ∧ r = (bl (smA n c v).1, stZ (smA n c v).2) := by
  unfold F56 at h
  split at h
  · rename_i v x
    simp only [Option.some.injEq, Prod.mk.injEq, Bool.and_eq_true, eqC_iff] at h
    obtain ⟨⟨hv, hx⟩, rfl⟩ := h
    exact ⟨v, x.toI, rfl, by unfold stZ; rw [← hx], hv, rfl⟩
  · cases h
theorem F97_inv {n : Nat} {args : List AV} {st : List AObj} {r : Res} (h : F97 n args st = some (true, r)) :
    ∃ v c, args = [v, .ptr 0 0] ∧ st = stQ c ∧ isT n v = true ∧ r = (bl (!(smA n c v).1), stQ (smA n c v).2) := by
  unfold F97 at h
  split at h
  · rename_i v y x
    simp only [Option.some.injEq, Prod.mk.injEq, Bool.and_eq_true, eqC_iff] at h
    obtain ⟨⟨hv, hx, rfl⟩, rfl⟩ := h
    exact ⟨v, x.toI, rfl, by unfold stQ; rw [← hx], hv, rfl⟩
  · cases h
theorem F71a_inv {n : Nat} {args : List AV} {st : List AObj} {r : Res} (h : F71a n args st = some (true, r)) :
    ∃ rows c, args = [.sl 25 .any rows, f97] ∧ st = stQ c ∧ tyOk n rows = true ∧ r = (i64 (fIdx (smR n) rows c 0).1, stQ (fIdx (smR n) rows c 0).2) := by
  unfold F71a at h
  split at h
  · rename_i rows g y x
    obtain ⟨rfl, h2⟩ := beq_fn h
    simp only [Option.some.injEq, Prod.mk.injEq, Bool.and_eq_true, eqC_iff] at h2
    obtain ⟨⟨hv, hx, rfl⟩, rfl⟩ := h2
    exact ⟨rows, x.toI, rfl, by unfold stQ; rw [← hx], hv, rfl⟩
  · cases h
theorem F28a_inv {n : Nat} {args : List AV} {st : List AObj} {r : Res} (h : F28a n args st = some (true, r)) :
    ∃ rows c, args = [.sl 25 .any rows, f97] ∧ st = stQ c ∧ tyOk n rows = true ∧ r = (bl (decide ((fIdx (smR n) rows c 0).1 ≥ 0)), stQ (fIdx (smR n) rows c 0).2) := by
  unfold F28a at h
  split at h
  · rename_i rows g y x
    obtain ⟨rfl, h2⟩ := beq_fn h
    simp only [Option.some.injEq, Prod.mk.injEq, Bool.and_eq_true, eqC_iff] at h2
    obtain ⟨⟨hv, hx, rfl⟩, rfl⟩ := h2
    exact ⟨rows, x.toI, rfl, by unfold stQ; rw [← hx], hv, rfl⟩
  · cases h
theorem isT_ex {n : Nat} {v : AV} (h : isT n v = true) : ∃ a s rows, v = .agg (TT a s rows) := by
  obtain ⟨a, s, rows, rfl, _⟩ := isT_some0 h
  exact ⟨a, s, rows, rfl⟩
theorem told97 (L n : Nat) (args : List AV) (st : List AObj) (r : Res) (h : F97 n args st = some (true, r)) : ∃ k, ev (H56 L n) k 97 args st = some r := by
  obtain ⟨v, c, rfl, rfl, hv, rfl⟩ := F97_inv h
  obtain ⟨a, s, rows, rfl⟩ := isT_ex hv
  exact ⟨0 + 1, (b97 a c s 0 n L rows).trans (by rw [hv, okZ_self]; rfl)⟩
theorem foldI_fIdx2 (f : Int → List AV → Bool × Int) : ∀ (l : List (List AV)) (c i : Int),
    foldI (fun c x => !(f c x).1) (fun c i x => some (i64 i, stQ (f c x).2)) (fun c x => (f c x).2) (fun c => some (i64 (-1), stQ c)) l c i = some (i64 (fIdx f l c i).1, stQ (fIdx f l c i).2)
  | [], c, i => rfl
  | x :: xs, c, i => by
    simp only [foldI, fIdx]
    cases hp : (f c x).1 with
    | true => simp only [Bool.not_true, cond_false, cond_true]; exact foldI_fIdx2 f xs _ _
    | false => rfl
theorem told71a (L n : Nat) (args : List AV) (st : List AObj) (r : Res) (h : F71a n args st = some (true, r)) : ∃ k, ev (H97 L n) k 71 args st = some r := by
  obtain ⟨rows, c, rfl, rfl, hv, rfl⟩ := F71a_inv h
  obtain ⟨hl, hr⟩ := tyOk_iff hv
  refine ⟨rows.length + 1 + 1, (b71a c _ n L rows).trans ?_⟩
  have Q := loop_idx (S := H97 L n) (f := 71) (fn := Try.f71) (m := 2) (k := rows.length + 1) (p := [1,0,1,0]) (ms := []) (rows := rows) (A := Int)
    (fun c i => σ71a rows i c) (fun c x => !(smR n c x).1) (fun c i x => some (i64 i, stQ (smR n c x).2)) (fun c x => (smR n c x).2) (fun c => some (i64 (-1), stQ c))
    (fun R c i hi => (r71a c _ n L rows R i).trans (by
      have hx := hr _ (List.getElem_mem hi)
      rw [Int.toNat_natCast, getD_at hi, trow_of hx, isT_agg, hx, okQ_self, step1 hi (by omega), decide_eq_true (by omega : (i : Int) < (rows.length : Nat)), decide_eq_true (by omega : 0 ≤ (i : Int))]
      rfl))
    (fun R c => (r71a c _ n L rows R _).trans (stopped _ _ _)) (rows.length + 1) 0 c (Nat.zero_le _) (by omega)
  exact Q.trans (foldI_fIdx2 (smR n) rows c 0)
theorem told28a (L n : Nat) (args : List AV) (st : List AObj) (r : Res) (h : F28a n args st = some (true, r)) : ∃ k, ev (H71 L n) k 28 args st = some r := by
  obtain ⟨rows, c, rfl, rfl, hv, rfl⟩ := F28a_inv h
  exact ⟨0 + 1, (b28a c 0 n L rows).trans (by rw [hv, okQ_self]; rfl)⟩
theorem X56Ok (L n : Nat) (h : SysOk Try.prog (H56 L n)) : SysOk Try.prog (X56 L n) :=
  ((h.tell 97 _ (told97 L n)).tell 71 _ (told71a L n)).tell 28 _ (told28a L n)
theorem sm_eq (n : Nat) (c a : Int) (s : ByteArray) (rows : List (List AV)) : smA (n + 1) c (.agg (TT a s rows)) = bif decide (w64 (c - 1) ≥ 0) then (bif decide ((s.size : Int) ≤ 60) then (!(decide ((fIdx (smR n) rows (w64 (c - 1)) 0).1 ≥ 0)), (fIdx (smR n) rows (w64 (c - 1)) 0).2) else (false, w64 (c - 1))) else (false, w64 (c - 1)) := rfl
theorem top56 (L n : Nat) (v : AV) (c : Int) (h : isT (n + 1) v = true) : ∃ k, evTop (X56 L n) k 56 [v, .ptr 0 0] (stZ c) = some (bl (smA (n + 1) c v).1, stZ (smA (n + 1) c v).2) := by
  obtain ⟨a, s, rows, rfl, hl, hr⟩ := isT_some h
  refine ⟨1, (b56 a c s 1 n L rows).trans ?_⟩
  rw [sm_eq, tyOk_of hl hr, okQ_self]
  cases decide (w64 (c - 1) ≥ 0) <;> cases decide ((s.size : Int) ≤ 60) <;> rfl
theorem H56Ok (L : Nat) (n : Nat) : SysOk Try.prog (H56 L n) :=
  (sysHOk L).lvRec 56 F56 (X56 L) (fun args st r hF => by obtain ⟨v, _, _, _, h1, _⟩ := F56_inv hF; rw [isT_zero] at h1; cases h1) (fun n h => X56Ok L n h) (fun _ => rfl) (fun _ => rfl)
    (fun n args st r hF => by
      obtain ⟨v, c, rfl, rfl, h1, rfl⟩ := F56_inv hF
      exact top56 L n v c h1) n
noncomputable def least (n : Nat) (v : AV) : Bool := (smA n 8 v).1
noncomputable def F55 (n : Nat) : List AV → List AObj → Ab Res := fun args st => match args, st with
  | [v], [] => some (isT n v, (bl (least n v), []))
  | _, _ => none
theorem H55Ok (L n : Nat) : SysOk Try.prog ((H56 L n).tell 55 (F55 n)) := (H56Ok L n).tell 55 _ fun args st r h => by
  unfold F55 at h
  split at h
  · rename_i v
    simp only [Option.some.injEq, Prod.mk.injEq] at h
    obtain ⟨hv, rfl⟩ := h
    obtain ⟨a, s, rows, rfl⟩ := isT_ex hv
    exact ⟨0 + 1, (b55 a s 0 n L rows).trans (by rw [hv, okZ_self]; rfl)⟩
  · cases h
end
end Go.Proofs.Ytciighngjnjmlaa.W
namespace Go.Proofs.Ytciighngjnjmlaa.W
open Go.Fw
set_option maxRecDepth 100000
noncomputable section
noncomputable def fn55 : AV := .fn (.func 55) [] []
noncomputable def f57 : AV := .fn (.func 57) [] [.ptr 0 0]
noncomputable def bx : List AObj := [.box 48 [fn55]]
noncomputable def F57 (n : Nat) : List AV → List AObj → Ab Res := fun args st => match args, st with
  | [v, .ptr 0 0], [.box 48 [y]] => some (isT n v && eqC y fn55, (bl (!(least n v)), bx))
  | _, _ => none
noncomputable def big (n : Nat) (x : List AV) : Bool := !(least n (.agg x))
noncomputable def hasBg (n : Nat) (rows : List (List AV)) : Bool := decide (idxL (big n) rows 0 ≥ 0)
noncomputable def F71b (n : Nat) : List AV → List AObj → Ab Res := fun args st => match args, st with
  | [.sl 25 .any rows, .fn (.func h) [] [.ptr 0 0]], [.box 48 [y]] => bif Nat.beq h 57 then some (tyOk n rows && eqC y fn55, (i64 (idxL (big n) rows 0), bx)) else none
  | _, _ => none
noncomputable def F28b (n : Nat) : List AV → List AObj → Ab Res := fun args st => match args, st with
  | [.sl 25 .any rows, .fn (.func h) [] [.ptr 0 0]], [.box 48 [y]] => bif Nat.beq h 57 then some (tyOk n rows && eqC y fn55, (bl (hasBg n rows), bx)) else none
  | _, _ => none
noncomputable def J1 (L n : Nat) : FSys := (H56 L n).tell 55 (F55 n)
noncomputable def J2 (L n : Nat) : FSys := (J1 L n).tell 57 (F57 n)
noncomputable def J3 (L n : Nat) : FSys := (J2 L n).tell 71 (F71b n)
noncomputable def J4 (L n : Nat) : FSys := (J3 L n).tell 28 (F28b n)
noncomputable def ok55 : Bool := eqC fn55 fn55
noncomputable def σ71b (rows : List (List AV)) (i : Int) : St := ⟨tm 19 [(0, .sl 25 .any rows), (1, f57), (7, i64 (rows.length : Nat)), (8, i64 i)], bx, []⟩
section
variable (a : Int) (s : ByteArray) (k n L : Nat) (l rows : List (List AV)) (R : St → Option Res) (i : Int)
theorem b57 : ev (J1 L n) (k + 1) 57 [.agg (TT a s rows), .ptr 0 0] bx = bif isT n (.agg (TT a s rows)) then some (bl (!(least n (.agg (TT a s rows)))), bx) else none := by kernel_rfl
theorem r71b : roundAt (J2 L n) 71 Try.f71 1 k [1,0,1,0] [] R (σ71b rows i) = bif decide (i < (rows.length : Nat)) then (bif decide (0 ≤ i) && decide (i < (rows.length : Nat)) then (bif isT n (.agg (trow (rows.getD i.toNat []))) && ok55 then
  (bif !(least n (.agg (trow (rows.getD i.toNat [])))) then some (i64 i, bx) else R (σ71b rows (IntKind.i64.wrap (i + 1)))) else none) else none) else some (i64 (-1), bx) := by kernel_rfl
theorem b71b : ev (J2 L n) (k + 1) 71 [.sl 25 .any rows, f57] bx = loopAt (J2 L n) 71 Try.f71 1 k [1,0,1,0] [] k (σ71b rows 0) := by kernel_rfl
theorem b28b : ev (J3 L n) (k + 1) 28 [.sl 25 .any rows, f57] bx = bif tyOk n rows && ok55 then some (bl (hasBg n rows), bx) else none := by kernel_rfl
end
end
end Go.Proofs.Ytciighngjnjmlaa.W
namespace Go.Proofs.Ytciighngjnjmlaa.W
open Go.Fw
set_option maxRecDepth 100000
noncomputable section
noncomputable def fF : Option Res := some (bl false, [])
section
variable (a : Int) (s : ByteArray) (k m n L : Nat) (rows cs : List (List AV)) (R : St → Option Res) (i j : Int)
noncomputable def σ10 (i : Int) : St := ⟨tm 66 [(5, .ptr 0 0), (19, .sl 52 .any rows), (20, i64 (rows.length : Nat)), (21, i64 i)], bx, []⟩
noncomputable def τ10 (i j : Int) : St := ⟨tm 66 [(5, .ptr 0 0), (19, .sl 52 .any rows), (20, i64 (rows.length : Nat)), (21, i64 i), (42, .sl 77 .any cs), (43, i64 (cs.length : Nat)), (44, i64 j)], bx, []⟩
noncomputable def P10 : List Nat := [1,1,1,0,1,0]
noncomputable def Q10 : List Nat := [1,1,1,0,1,0,0,1,1,0,0,1,1,1,0]
noncomputable def lo10 (q : Nat) (i : Int) : Option Res := loopAt (J4 L n) 10 Try.f10 0 k P10 [] q (σ10 rows i)
noncomputable def li10 (m q : Nat) (i j : Int) : Option Res := loopAt (J4 L n) 10 Try.f10 0 k Q10 [m] q (τ10 rows cs i j)
noncomputable def cag (r : List AV) : List (List AV) := (r.getD 1 .undef).rows
theorem b10 : ev (J4 L n) (k + 1) 10 [.sl 52 .any rows, .agg (TT a s cs)] [] = bif decide (((rows.length : Nat) : Int) > 6) then fF else (bif isT n (.agg (TT a s cs)) then (bif !(least n (.agg (TT a s cs))) then fF else lo10 k n L rows k 0) else none) := by kernel_rfl
theorem ro10 : roundAt (J4 L n) 10 Try.f10 0 k P10 [] (loopAt (J4 L n) 10 Try.f10 0 k P10 [] m) (σ10 rows i) = bif decide (i < (rows.length : Nat)) then (bif decide (0 ≤ i) && decide (i < (rows.length : Nat)) then
  (bif decide ((((dct (rows.getD i.toNat [])).length : Nat) : Int) > 6) then fF else bif decide ((((dps (rows.getD i.toNat [])).length : Nat) : Int) > 3) then fF else bif decide (((dnm (rows.getD i.toNat [])).size : Int) > 60) then fF else li10 k n L rows (dct (rows.getD i.toNat [])) m k i 0) else none) else some tr := by kernel_rfl
theorem ri10 : roundAt (J4 L n) 10 Try.f10 0 k Q10 [m] R (τ10 rows cs i j) = bif decide (j < (cs.length : Nat)) then (bif decide (0 ≤ j) && decide (j < (cs.length : Nat)) then
  (bif decide ((((cag (cs.getD j.toNat [])).length : Nat) : Int) > 4) then fF else bif decide (((dnm (cs.getD j.toNat [])).size : Int) > 60) then fF else (bif tyOk n (cag (cs.getD j.toNat [])) && ok55 then (bif hasBg n (cag (cs.getD j.toNat [])) then fF else R (τ10 rows cs i (IntKind.i64.wrap (j + 1)))) else none)) else none) else lo10 k n L rows m (IntKind.i64.wrap (i + 1)) := by kernel_rfl
end
end
end Go.Proofs.Ytciighngjnjmlaa.W
namespace Go.Proofs.Ytciighngjnjmlaa.W
open Go.Fw
set_option maxRecDepth 100000
noncomputable section
theorem ok55_self : ok55 = true := by unfold ok55; exact eqC_self _
theorem F57_inv {n : Nat} {args : List AV} {st : List AObj} {r : Res} (h : F57 n args st = some (true, r)) : ∃ v, args = [v, .ptr 0 0] ∧ st = bx ∧ isT n v = true ∧ r = (bl (!(least n v)), bx) := by
  unfold F57 at h
  split at h
  · rename_i v y
    simp only [Option.some.injEq, Prod.mk.injEq, Bool.and_eq_true, eqC_iff] at h
    obtain ⟨⟨hv, rfl⟩, rfl⟩ := h
    exact ⟨v, rfl, rfl, hv, rfl⟩
  · cases h
theorem F71b_inv {n : Nat} {args : List AV} {st : List AObj} {r : Res} (h : F71b n args st = some (true, r)) : ∃ rows, args = [.sl 25 .any rows, f57] ∧ st = bx ∧ tyOk n rows = true ∧ r = (i64 (idxL (big n) rows 0), bx) := by
  unfold F71b at h
  split at h
  · rename_i rows g y
    obtain ⟨rfl, h2⟩ := beq_fn h
    simp only [Option.some.injEq, Prod.mk.injEq, Bool.and_eq_true, eqC_iff] at h2
    obtain ⟨⟨hv, rfl⟩, rfl⟩ := h2
    exact ⟨rows, rfl, rfl, hv, rfl⟩
  · cases h
theorem F28b_inv {n : Nat} {args : List AV} {st : List AObj} {r : Res} (h : F28b n args st = some (true, r)) : ∃ rows, args = [.sl 25 .any rows, f57] ∧ st = bx ∧ tyOk n rows = true ∧ r = (bl (hasBg n rows), bx) := by
  unfold F28b at h
  split at h
  · rename_i rows g y
    obtain ⟨rfl, h2⟩ := beq_fn h
    simp only [Option.some.injEq, Prod.mk.injEq, Bool.and_eq_true, eqC_iff] at h2
    obtain ⟨⟨hv, rfl⟩, rfl⟩ := h2
    exact ⟨rows, rfl, rfl, hv, rfl⟩
  · cases h
theorem J2Ok (L n : Nat) : SysOk Try.prog (J2 L n) := (H55Ok L n).tell 57 _ fun args st r h => by
  obtain ⟨v, rfl, rfl, hv, rfl⟩ := F57_inv h
  obtain ⟨a, s, rows, rfl⟩ := isT_ex hv
  exact ⟨0 + 1, (b57 a s 0 n L rows).trans (by rw [hv]; rfl)⟩
theorem foldI_idx2 (p : List AV → Bool) (o : List AObj) : ∀ (l : List (List AV)) (i : Int), foldI (A := Unit) (fun _ x => p x) (fun _ i _ => some (i64 i, o)) (fun c _ => c) (fun _ => some (i64 (-1), o)) l () i = some (i64 (idxL p l i), o)
  | [], i => rfl
  | x :: xs, i => by
    simp only [foldI, idxL]
    cases p x with
    | true => rfl
    | false => exact foldI_idx2 p o xs (i + 1)
theorem J3Ok (L n : Nat) : SysOk Try.prog (J3 L n) := (J2Ok L n).tell 71 _ fun args st r h => by
  obtain ⟨rows, rfl, rfl, hv, rfl⟩ := F71b_inv h
  obtain ⟨hl, hr⟩ := tyOk_iff hv
  refine ⟨rows.length + 1 + 1, (b71b _ n L rows).trans ?_⟩
  have Q := loop_idx (S := J2 L n) (f := 71) (fn := Try.f71) (m := 1) (k := rows.length + 1) (p := [1,0,1,0]) (ms := []) (rows := rows) (A := Unit)
    (fun _ i => σ71b rows i) (fun _ x => big n x) (fun _ i _ => some (i64 i, bx)) (fun c _ => c) (fun _ => some (i64 (-1), bx))
    (fun R c i hi => (r71b _ n L rows R i).trans (by
      have hx := hr _ (List.getElem_mem hi)
      rw [Int.toNat_natCast, getD_at hi, trow_of hx, isT_agg, hx, ok55_self, step1 hi (by omega), decide_eq_true (by omega : (i : Int) < (rows.length : Nat)), decide_eq_true (by omega : 0 ≤ (i : Int))]
      rfl))
    (fun R c => (r71b _ n L rows R _).trans (stopped _ _ _)) (rows.length + 1) 0 () (Nat.zero_le _) (by omega)
  exact Q.trans (foldI_idx2 (big n) bx rows 0)
theorem J4Ok (L n : Nat) : SysOk Try.prog (J4 L n) := (J3Ok L n).tell 28 _ fun args st r h => by
  obtain ⟨rows, rfl, rfl, hv, rfl⟩ := F28b_inv h
  exact ⟨0 + 1, (b28b 0 n L rows).trans (by rw [hv, ok55_self]; rfl)⟩
noncomputable def cFew (n : Nat) (c : List AV) : Bool := bif decide ((((cag c).length : Nat) : Int) > 4) then false else bif decide (((dnm c).size : Int) > 60) then false else !(hasBg n (cag c))
noncomputable def dFew (n : Nat) (d : List AV) : Bool := bif decide ((((dct d).length : Nat) : Int) > 6) then false else bif decide ((((dps d).length : Nat) : Int) > 3) then false else bif decide (((dnm d).size : Int) > 60) then false else (dct d).all (cFew n)
noncomputable def fewB (n : Nat) (l : List (List AV)) (t : AV) : Bool := bif decide (((l.length : Nat) : Int) > 6) then false else bif !(least n t) then false else l.all (dFew n)
noncomputable def rws (n : Nat) (l : List (List AV)) : Bool := l.all (isRow tab 52 n)
noncomputable def F10 (n : Nat) : List AV → List AObj → Ab Res := fun args st => match args, st with
  | [.sl 52 .any l, v], [] => some (isT n v && rws n l, (bl (fewB n l v), []))
  | _, _ => none
theorem row_ct {n : Nat} {d : List AV} (h : isRow tab 52 n d = true) : ∀ x ∈ dct d, tyOk n (cag x) = true := by
  cases n with
  | zero => rw [isRow_zero] at h; cases h
  | succ n =>
    unfold isRow at h
    rw [Bool.and_eq_true, cts52] at h
    obtain ⟨h1, h2⟩ := h
    obtain ⟨v1, _, rfl, c1, h1⟩ := rowOk_cons h1
    obtain ⟨v2, _, rfl, c2, h1⟩ := rowOk_cons h1
    obtain ⟨v3, _, rfl, c3, h1⟩ := rowOk_cons h1
    obtain ⟨v4, _, rfl, c4, h1⟩ := rowOk_cons h1
    obtain ⟨r4, rfl⟩ := CT_sl c4
    obtain ⟨h5, h6⟩ := deep_sl h2 (t := 77) (rows := r4) (by simp)
    intro x hx
    have hx' : x ∈ r4 := hx
    have := h6 x hx'
    cases n with
    | zero => rw [isRow_zero] at this; cases this
    | succ n =>
      obtain ⟨s, a, f, rfl, q1, q2, _, _⟩ := isRow77 this
      exact tyOk_of q1 fun y hy => isTr_le (q2 y hy) (by omega)
theorem inner10 (k n L m : Nat) (rows cs : List (List AV)) (i : Int) (hc : cs.length < k) (hl : cs.length ≤ 1000) (ht : ∀ x ∈ cs, tyOk n (cag x) = true) :
    li10 k n L rows cs m k i 0 = bif cs.all (cFew n) then lo10 k n L rows m (IntKind.i64.wrap (i + 1)) else fF := by
  have Q := loop_list (S := J4 L n) (f := 10) (fn := Try.f10) (m := 0) (k := k) (p := Q10) (ms := [m]) (rows := cs) (A := Unit) (fun _ j => τ10 rows cs i j) (fun _ x => !(cFew n x)) (fun _ _ => fF) (fun c _ => c) (fun _ => lo10 k n L rows m (IntKind.i64.wrap (i + 1)))
    (fun R _ j hj => (ri10 k m n L rows cs R i j).trans (by
      have hx := ht _ (List.getElem_mem hj)
      rw [Int.toNat_natCast, getD_at hj, hx, ok55_self, step1 hj (by omega), decide_eq_true (by omega : (j : Int) < (cs.length : Nat)), decide_eq_true (by omega : 0 ≤ (j : Int))]
      generalize R (τ10 rows cs i ((j + 1 : Nat) : Int)) = Y
      unfold cFew
      cases decide ((((cag cs[j]).length : Nat) : Int) > 4) <;> cases decide (((dnm cs[j]).size : Int) > 60) <;> cases hasBg n (cag cs[j]) <;> rfl))
    (fun R _ => (ri10 k m n L rows cs R i _).trans (stopped _ _ _)) k 0 () (Nat.zero_le _) (by omega)
  refine Q.trans ?_
  rw [List.drop_zero]
  generalize lo10 k n L rows m (IntKind.i64.wrap (i + 1)) = Y
  clear Q ht hl hc
  induction cs with
  | nil => rfl
  | cons x xs ih =>
    simp only [foldS, List.all_cons]
    cases cFew n x with
    | true => simp only [Bool.not_true, cond_false, Bool.true_and]; exact ih
    | false => rfl
theorem outer10 (n L : Nat) (rows : List (List AV)) (hl : rows.length ≤ 6) (hr : ∀ x ∈ rows, ∀ y ∈ dct x, tyOk n (cag y) = true) : ∀ (q i : Nat), i ≤ rows.length → rows.length - i < q →
    lo10 10 n L rows q (i : Nat) = some (bl ((rows.drop i).all (dFew n)), [])
  | 0, i, _, h => by omega
  | q + 1, i, hi, hn => by
    have e : lo10 10 n L rows (q + 1) (i : Nat) = roundAt (J4 L n) 10 Try.f10 0 10 P10 [] (loopAt (J4 L n) 10 Try.f10 0 10 P10 [] q) (σ10 rows (i : Nat)) := loopAt_succ ..
    rw [e]
    refine (ro10 10 q n L rows (i : Nat)).trans ?_
    rcases Nat.lt_or_eq_of_le hi with h1 | h1
    · rw [Int.toNat_natCast, getD_at h1, decide_eq_true (by omega : (i : Int) < (rows.length : Nat)), decide_eq_true (by omega : 0 ≤ (i : Int)), List.drop_eq_getElem_cons h1, List.all_cons]
      have hw := step1 h1 (by omega)
      have ih := outer10 n L rows hl hr q (i + 1) h1 (by omega)
      have hy := hr _ (List.getElem_mem h1)
      by_cases c1 : (((dct rows[i]).length : Nat) : Int) > 6
      · have : dFew n rows[i] = false := by unfold dFew; rw [decide_eq_true c1]; rfl
        rw [decide_eq_true c1, this]; rfl
      · have hin := inner10 10 n L q rows (dct rows[i]) (i : Nat) (by omega) (by omega) hy
        rw [hw, ih] at hin
        rw [hin]
        unfold dFew
        rw [decide_eq_false c1]
        cases decide ((((dps rows[i]).length : Nat) : Int) > 3) <;> cases decide (((dnm rows[i]).size : Int) > 60) <;> cases (dct rows[i]).all (cFew n) <;> rfl
    · subst h1
      rw [List.drop_length]
      exact stopped _ _ _
theorem told10 (L n : Nat) (args : List AV) (st : List AObj) (r : Res) (h : F10 n args st = some (true, r)) : ∃ k, ev (J4 L n) k 10 args st = some r := by
  unfold F10 at h
  split at h
  · rename_i l v
    simp only [Option.some.injEq, Prod.mk.injEq, Bool.and_eq_true] at h
    obtain ⟨⟨hv, hw⟩, rfl⟩ := h
    obtain ⟨a, s, rows, rfl⟩ := isT_ex hv
    refine ⟨10 + 1, (b10 a s 10 n L l rows).trans ?_⟩
    rw [hv, cond_true]
    unfold fewB
    by_cases c1 : ((l.length : Nat) : Int) > 6
    · rw [decide_eq_true c1]; rfl
    · have hr : ∀ x ∈ l, ∀ y ∈ dct x, tyOk n (cag y) = true := fun x hx => row_ct (List.all_eq_true.1 hw x hx)
      have o := outer10 n L l (by omega) hr 10 0 (Nat.zero_le _) (by omega)
      rw [List.drop_zero] at o
      have o' : lo10 10 n L l 10 0 = some (bl (l.all (dFew n)), []) := o
      rw [decide_eq_false c1, o']
      cases least n (.agg (TT a s rows)) <;> rfl
  · cases h
theorem K10 (L n : Nat) : SysOk Try.prog ((J4 L n).tell 10 (F10 n)) := (J4Ok L n).tell 10 _ (told10 L n)
end
end Go.Proofs.Ytciighngjnjmlaa.W
