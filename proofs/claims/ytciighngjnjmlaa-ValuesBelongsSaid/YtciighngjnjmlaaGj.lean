/- A part of the proofs over these laws: what its functions come to. No conditions. -/
import Derived.Test.YtciighngjnjmlaaGi
import Derived.Test.YtciighngjnjmlaaGe
set_option linter.all false
namespace Go.Proofs.Ytciighngjnjmlaa.W
open Go.Fw
set_option maxRecDepth 100000
noncomputable section
noncomputable def bstr (l : List UInt8) : AV := .k (.string ⟨l.toArray⟩)
noncomputable def tvar (l : List UInt8) : List AV := [i64 0, bstr l, .sl 25 .any []]
noncomputable def noF : Nat → List (List AV) := fun n => List.replicate n [bstr []]
noncomputable def stdC (l : List UInt8) (ts : List (List AV)) : List AV := [bstr l, .sl 25 .any ts, .sl 9 .any (noF ts.length)]
noncomputable def stdD (l : List UInt8) (ps : List (List UInt8)) (cs : List (List AV)) : List AV := [bstr l, .sl 9 .any (ps.map fun p => [bstr p]), i64 0, .sl 77 .any cs, i64 0, bstr [], .sl 25 .any [], bl true, i64 0]
noncomputable def STD : List (List AV) :=
  [stdD [108, 105, 115, 116] [[84]] [stdC [91, 93] [], stdC [91, 124, 93] [tvar [84], [i64 1, bstr [108, 105, 115, 116], .sl 25 .any [tvar [84]]]]],
   stdD [98, 111, 111, 108] [] [stdC [110, 111] [], stdC [121, 101, 115] []],
   stdD [111, 114, 100, 101, 114] [] [stdC [61] [], stdC [60] [], stdC [62] []],
   stdD [103, 111, 116] [[84]] [stdC [101, 110, 100] [], stdC [103, 111, 116] [tvar [84]]],
   stdD [112, 97, 105, 114] [[65], [66]] [stdC [45] [tvar [65], tvar [66]]],
   stdD [109, 97, 121, 98, 101] [[84]] [stdC [110, 111, 110, 101] [], stdC [115, 111, 109, 101] [tvar [84]]]]
theorem ev39 (n : Nat) : ev (sysH n) 20 39 [] [] = some (.sr 0, [.arr 52 .full STD]) := by kernel_rfl
theorem ev38 (n : Nat) : ev (sysH n) 20 38 [] [] = some (.sr 0, [.arr 52 .full STD]) := by kernel_rfl
end
end Go.Proofs.Ytciighngjnjmlaa.W
namespace Go.Proofs.Ytciighngjnjmlaa.W
open Go.Fw
set_option maxRecDepth 100000
noncomputable section
noncomputable def F38 : List AV → List AObj → Ab Res := fun args st => match args, st with
  | [], [] => some (true, (.sr 0, [.arr 52 .full STD]))
  | _, _ => none
theorem F38_inv {args : List AV} {st : List AObj} {r : Res} (h : F38 args st = some (true, r)) : args = [] ∧ st = [] ∧ r = (.sr 0, [.arr 52 .full STD]) := by
  unfold F38 at h
  split at h
  · simp only [Option.some.injEq, Prod.mk.injEq, true_and] at h
    exact ⟨rfl, rfl, h.symm⟩
  · cases h
noncomputable def B1 (n : Nat) : FSys := (sysH n).tell 38 F38
noncomputable def B2 (n : Nat) : FSys := (B1 n).tell 39 F38
theorem B1Ok (n : Nat) : SysOk Try.prog (B1 n) := (sysHOk n).tell 38 _ fun args st r h => by
  obtain ⟨rfl, rfl, rfl⟩ := F38_inv h
  exact ⟨20, ev38 n⟩
theorem B2Ok (n : Nat) : SysOk Try.prog (B2 n) := (B1Ok n).tellMore ((sysHOk n).tell 39 _ fun args st r h => by
  obtain ⟨rfl, rfl, rfl⟩ := F38_inv h
  exact ⟨20, ev39 n⟩) rfl rfl
noncomputable def drow (r : List AV) : List AV := [.k (.string (r.getD 0 .undef).toS), .sl 9 .any (r.getD 1 .undef).rows, i64 (r.getD 2 .undef).toI, .sl 77 .any (r.getD 3 .undef).rows, i64 (r.getD 4 .undef).toI, .k (.string (r.getD 5 .undef).toS), .sl 25 .any (r.getD 6 .undef).rows, bl (r.getD 7 .undef).toB, i64 (r.getD 8 .undef).toI]
noncomputable def dnm (r : List AV) : ByteArray := (r.getD 0 .undef).toS
noncomputable def zD : List AV := [.k (.string ByteArray.empty), .sl 9 .any [], i64 0, .sl 77 .any [], i64 0, .k (.string ByteArray.empty), .sl 25 .any [], bl false, i64 0]
noncomputable def no30 : Option Res := some (.tup [.agg zD, bl false], [])
noncomputable def yes31 (x : List AV) : Option Res := some (.tup [.agg (drow x), bl true], [])
noncomputable def yes30 (n : Nat) (x : List AV) : Option Res := bif isD n (.agg (drow x)) then yes31 x else none
section
variable (n k : Nat) (l rows : List (List AV)) (s : ByteArray) (R : St → Option Res) (c i : Int)
noncomputable def σ30 (i : Int) : St := ⟨tm 33 [(1, .k (.string s)), (2, i64 c), (6, .ptr 0 0), (12, .sr 1), (13, i64 (rows.length : Nat)), (14, i64 i)], [.box 52 e52, .arr 52 .fresh rows], []⟩
noncomputable def σ31 (i : Int) : St := ⟨tm 41 [(1, .k (.string s)), (2, i64 c), (6, .ptr 0 0), (8, .sr 1), (9, i64 i)], [.box 52 e52, .arr 52 .fresh rows], []⟩
noncomputable def fits52 (l : List (List AV)) : Bool := Nat.ble ((STD.length + l.length) * 136) 140737488355328
theorem b30 : ev (B2 n) (k + 1) 30 [.sl 52 .any l, .k (.string s), i64 c] [] = bif fits52 l then loopAt (B2 n) 30 Try.f30 0 k [1,0,1,0] [] k (σ30 (STD ++ l) s c 0) else none := by kernel_rfl
theorem r30 : roundAt (B2 n) 30 Try.f30 0 k [1,0,1,0] [] R (σ30 rows s c i) = bif decide (i < (rows.length : Nat)) then (bif decide (0 ≤ i) && decide (i < (rows.length : Nat)) then
  (bif dnm (rows.getD i.toNat []) == s then (bif (((dps (rows.getD i.toNat [])).length : Nat) : Int) == c then yes30 n (rows.getD i.toNat []) else R (σ30 rows s c (IntKind.i64.wrap (i + 1)))) else R (σ30 rows s c (IntKind.i64.wrap (i + 1)))) else none) else no30 := by kernel_rfl
theorem b31 : ev (B2 n) (k + 1) 31 [.sl 52 .any l, .k (.string s), i64 c] [] = bif fits52 l then loopAt (B2 n) 31 Try.f31 0 k [1,1,0,1,0] [] k (σ31 (STD ++ l) s c 0) else none := by kernel_rfl
theorem r31 : roundAt (B2 n) 31 Try.f31 0 k [1,1,0,1,0] [] R (σ31 rows s c i) = bif decide (i < (rows.length : Nat)) then (bif decide (0 ≤ i) && decide (i < (rows.length : Nat)) then
  (bif dnm (rows.getD i.toNat []) == s then (bif decide (0 ≤ i) && decide (i < (rows.length : Nat)) then (bif (((dps (rows.getD i.toNat [])).length : Nat) : Int) == c then (bif decide (0 ≤ i) && decide (i < (rows.length : Nat)) then yes31 (rows.getD i.toNat []) else none) else R (σ31 rows s c (IntKind.i64.wrap (i + 1)))) else none) else R (σ31 rows s c (IntKind.i64.wrap (i + 1)))) else none) else no30 := by kernel_rfl
end
end
end Go.Proofs.Ytciighngjnjmlaa.W
namespace Go.Proofs.Ytciighngjnjmlaa.W
open Go.Fw
set_option maxRecDepth 100000
noncomputable section
theorem drow_of {n : Nat} {r : List AV} (h : isDr n r = true) : drow r = r := by
  cases n with
  | zero => simp [isDr, isRow_zero] at h
  | succ n =>
    obtain ⟨D, ctors, rfl, _⟩ := isDr_some h
    rfl
theorem isDr_le {n m : Nat} {r : List AV} (h : isDr n r = true) (hm : n ≤ m) : isDr m r = true := by
  unfold isDr at h ⊢
  rw [Bool.and_eq_true] at h ⊢
  exact ⟨isRow_le h.1 hm, h.2⟩
theorem std_ok : STD.all (isDr 6) = true := by kernel_rfl
theorem std_len : STD.length = 6 := rfl
noncomputable def pD (s : ByteArray) (c : Int) (x : List AV) : Bool := dnm x == s && (((dps x).length : Nat) : Int) == c
noncomputable def fndO (l : List (List AV)) (s : ByteArray) (c : Int) : Option (List AV) := (STD ++ l).find? (pD s c)
noncomputable def fndR (l : List (List AV)) (s : ByteArray) (c : Int) : List AV := (fndO l s c).getD zD
noncomputable def fndB (l : List (List AV)) (s : ByteArray) (c : Int) : Bool := (fndO l s c).isSome
noncomputable def dsOk (n : Nat) (l : List (List AV)) : Bool := Nat.ble 6 n && (Nat.ble l.length 1000 && l.all (isDr n))
theorem dsOk_iff {n : Nat} {l : List (List AV)} (h : dsOk n l = true) : 6 ≤ n ∧ l.length ≤ 1000 ∧ ∀ x ∈ l, isDr n x = true := by
  unfold dsOk at h
  simp only [Bool.and_eq_true, List.all_eq_true] at h
  exact ⟨Nat.le_of_ble_eq_true h.1, Nat.le_of_ble_eq_true h.2.1, h.2.2⟩
theorem std_all {n : Nat} {l : List (List AV)} (h : dsOk n l = true) : ∀ x ∈ STD ++ l, isDr n x = true := fun x hx => by
  obtain ⟨h1, _, h3⟩ := dsOk_iff h
  rcases List.mem_append.1 hx with hx | hx
  · exact isDr_le (List.all_eq_true.1 std_ok x hx) h1
  · exact h3 x hx
noncomputable def FFind (n : Nat) : List AV → List AObj → Ab Res := fun args st => match args, st with
  | [.sl 52 .any l, .k (.string s), .k (.int .i64 c)], [] => some (dsOk n l, (.tup [.agg (drow (fndR l s c)), bl (fndB l s c)], []))
  | _, _ => none
theorem FFind_inv {n : Nat} {args : List AV} {st : List AObj} {r : Res} (h : FFind n args st = some (true, r)) :
    ∃ l s c, args = [.sl 52 .any l, .k (.string s), i64 c] ∧ st = [] ∧ dsOk n l = true ∧ r = (.tup [.agg (drow (fndR l s c)), bl (fndB l s c)], []) := by
  unfold FFind at h
  split at h
  · rename_i l s c
    simp only [Option.some.injEq, Prod.mk.injEq] at h
    exact ⟨l, s, c, rfl, rfl, h.1, h.2.symm⟩
  · cases h
theorem foldI_findO (p : List AV → Bool) (g : List AV → Option Res) (D : Option Res) : ∀ (l : List (List AV)) (i : Int),
    foldI (A := Unit) (fun _ x => p x) (fun _ _ x => g x) (fun c _ => c) (fun _ => D) l () i = (match l.find? p with | some x => g x | none => D)
  | [], i => rfl
  | x :: xs, i => by
    rw [List.find?_cons]
    simp only [foldI]
    cases p x with
    | true => rfl
    | false => exact foldI_findO p g D xs (i + 1)
theorem find_out {l : List (List AV)} {s : ByteArray} {c : Int} : (match (STD ++ l).find? (pD s c) with | some x => yes31 x | none => no30) = some (.tup [.agg (drow (fndR l s c)), bl (fndB l s c)], []) := by
  unfold fndR fndB fndO
  cases (STD ++ l).find? (pD s c) <;> rfl
theorem fits_of {n : Nat} {l : List (List AV)} (h : dsOk n l = true) : fits52 l = true := by
  obtain ⟨_, h2, _⟩ := dsOk_iff h
  unfold fits52
  rw [std_len]
  exact Nat.ble_eq_true_of_le (by omega)
theorem pD_true {s : ByteArray} {c : Int} {x : List AV} {Y N : Option Res} : (bif dnm x == s then (bif (((dps x).length : Nat) : Int) == c then Y else N) else N) = bif pD s c x then Y else N := by
  unfold pD
  cases dnm x == s <;> rfl
theorem told30 (n : Nat) (args : List AV) (st : List AObj) (r : Res) (h : FFind n args st = some (true, r)) : ∃ k, ev (B2 n) k 30 args st = some r := by
  obtain ⟨l, s, c, rfl, rfl, h1, rfl⟩ := FFind_inv h
  refine ⟨(STD ++ l).length + 1 + 1, (b30 n _ l s c).trans ?_⟩
  rw [fits_of h1, cond_true]
  have hr := std_all h1
  have hlen : (STD ++ l).length ≤ 2000 := by
    obtain ⟨_, h2, _⟩ := dsOk_iff h1
    rw [List.length_append, std_len]; omega
  revert hr hlen
  have fo := find_out (l := l) (s := s) (c := c)
  revert fo
  generalize (STD ++ l) = rows
  intro fo hr hlen
  have L := loop_idx (S := B2 n) (f := 30) (fn := Try.f30) (m := 0) (k := rows.length + 1) (p := [1,0,1,0]) (ms := []) (rows := rows) (A := Unit)
    (fun _ i => σ30 rows s c i) (fun _ x => pD s c x) (fun _ _ x => yes31 x) (fun c _ => c) (fun _ => no30)
    (fun R _ i hi => (r30 n _ rows s R c i).trans (by
      have d1 : decide ((i : Int) < (rows.length : Nat)) = true := by simpa using hi
      have d2 : decide (0 ≤ (i : Int)) = true := by simp
      have hw : IntKind.i64.wrap ((i : Int) + 1) = ((i + 1 : Nat) : Int) := by rw [wrap64] <;> omega
      have hx := hr _ (List.getElem_mem hi)
      have hy : yes30 n rows[i] = yes31 rows[i] := by
        unfold yes30
        have : isD n (.agg (drow rows[i])) = true := by rw [drow_of hx]; exact hx
        rw [this]; rfl
      rw [d1, d2, hw, Int.toNat_natCast, getD_at hi, hy, pD_true]
      rfl))
    (fun R _ => (r30 n _ rows s R c _).trans (stopped _ _ _)) (rows.length + 1) 0 () (Nat.zero_le _) (by omega)
  exact L.trans ((foldI_findO _ _ _ rows 0).trans fo)
theorem told31 (n : Nat) (args : List AV) (st : List AObj) (r : Res) (h : FFind n args st = some (true, r)) : ∃ k, ev (B2 n) k 31 args st = some r := by
  obtain ⟨l, s, c, rfl, rfl, h1, rfl⟩ := FFind_inv h
  refine ⟨(STD ++ l).length + 1 + 1, (b31 n _ l s c).trans ?_⟩
  rw [fits_of h1, cond_true]
  have hr := std_all h1
  have hlen : (STD ++ l).length ≤ 2000 := by
    obtain ⟨_, h2, _⟩ := dsOk_iff h1
    rw [List.length_append, std_len]; omega
  revert hr hlen
  have fo := find_out (l := l) (s := s) (c := c)
  revert fo
  generalize (STD ++ l) = rows
  intro fo hr hlen
  have L := loop_idx (S := B2 n) (f := 31) (fn := Try.f31) (m := 0) (k := rows.length + 1) (p := [1,1,0,1,0]) (ms := []) (rows := rows) (A := Unit)
    (fun _ i => σ31 rows s c i) (fun _ x => pD s c x) (fun _ _ x => yes31 x) (fun c _ => c) (fun _ => no30)
    (fun R _ i hi => (r31 n _ rows s R c i).trans (by
      have d1 : decide ((i : Int) < (rows.length : Nat)) = true := by simpa using hi
      have d2 : decide (0 ≤ (i : Int)) = true := by simp
      have hw : IntKind.i64.wrap ((i : Int) + 1) = ((i + 1 : Nat) : Int) := by rw [wrap64] <;> omega
      rw [d1, d2, hw, Int.toNat_natCast, getD_at hi]
      exact pD_true))
    (fun R _ => (r31 n _ rows s R c _).trans (stopped _ _ _)) (rows.length + 1) 0 () (Nat.zero_le _) (by omega)
  exact L.trans ((foldI_findO _ _ _ rows 0).trans fo)
theorem K30 (n : Nat) : SysOk Try.prog ((B2 n).tell 30 (FFind n)) := (B2Ok n).tell 30 _ (told30 n)
theorem K31 (n : Nat) : SysOk Try.prog ((B2 n).tell 31 (FFind n)) := (B2Ok n).tell 31 _ (told31 n)
theorem isDr_z : isDr 6 zD = true := by kernel_rfl
theorem fnd_ok {n : Nat} {l : List (List AV)} (h : dsOk n l = true) (s : ByteArray) (c : Int) : isDr n (fndR l s c) = true := by
  unfold fndR fndO
  cases hf : (STD ++ l).find? (pD s c) with
  | none => exact isDr_le isDr_z (dsOk_iff h).1
  | some x => exact std_all h x (List.mem_of_find?_eq_some hf)
end
end Go.Proofs.Ytciighngjnjmlaa.W
namespace Go.Proofs.Ytciighngjnjmlaa.W
open Go.Fw
set_option maxRecDepth 100000
noncomputable section
noncomputable def tr : Res := (bl true, [])
theorem beq_fn {h g : Nat} {X : Option (Bool × Res)} {r : Res} (e : (bif Nat.beq h g then X else none) = some (true, r)) : h = g ∧ X = some (true, r) := by
  cases hb : Nat.beq h g with
  | false => rw [hb] at e; cases e
  | true => rw [hb] at e; exact ⟨Nat.eq_of_beq_eq_true hb, e⟩
theorem tyOk_iff {n : Nat} {a : List (List AV)} (h : tyOk n a = true) : a.length * 48 ≤ 140737488351232 ∧ ∀ x ∈ a, isTr n x = true := by
  unfold tyOk at h
  rw [Bool.and_eq_true, List.all_eq_true] at h
  exact ⟨Nat.le_of_ble_eq_true h.1, h.2⟩
theorem tyOk_of {n : Nat} {a : List (List AV)} (h1 : a.length * 48 ≤ 140737488351232) (h2 : ∀ x ∈ a, isTr n x = true) : tyOk n a = true := by
  unfold tyOk
  rw [Bool.and_eq_true, List.all_eq_true]
  exact ⟨Nat.ble_eq_true_of_le h1, h2⟩
theorem step1 {l i : Nat} (h : i < l) (hl : l ≤ 140737488351232) : IntKind.i64.wrap ((i : Int) + 1) = ((i + 1 : Nat) : Int) := by rw [wrap64] <;> omega
end
end Go.Proofs.Ytciighngjnjmlaa.W
namespace Go.Proofs.Ytciighngjnjmlaa.W
open Go.Fw
set_option maxRecDepth 100000
noncomputable section
noncomputable def smR : Nat → Int → List AV → Bool × Int
  | 0, c, _ => (false, c)
  | n + 1, c, r => bif decide (w64 (c - 1) ≥ 0) then (bif decide (((tn r).size : Int) ≤ 60) then (!(decide ((fIdx (smR n) (ta r) (w64 (c - 1)) 0).1 ≥ 0)), (fIdx (smR n) (ta r) (w64 (c - 1)) 0).2) else (false, w64 (c - 1))) else (false, w64 (c - 1))
noncomputable def smA (n : Nat) (c : Int) : AV → Bool × Int
  | .agg r => smR n c r
  | _ => (false, c)
noncomputable def stZ (c : Int) : List AObj := [.box 3 [i64 c]]
noncomputable def stQ (c : Int) : List AObj := [.box 84 [.ptr 1 0], .box 3 [i64 c]]
noncomputable def F56 (n : Nat) : List AV → List AObj → Ab Res := fun args st => match args, st with
  | [v, .ptr 0 0], [.box 3 [x]] => some (isT n v && eqC x (i64 x.toI), (bl (smA n x.toI v).1, stZ (smA n x.toI v).2))
  | _, _ => none
noncomputable def F97 (n : Nat) : List AV → List AObj → Ab Res := fun args st => match args, st with
  | [v, .ptr 0 0], [.box 84 [y], .box 3 [x]] => some (isT n v && (eqC x (i64 x.toI) && eqC y (.ptr 1 0)), (bl (!(smA n x.toI v).1), stQ (smA n x.toI v).2))
  | _, _ => none
noncomputable def F71a (n : Nat) : List AV → List AObj → Ab Res := fun args st => match args, st with
  | [.sl 25 .any rows, .fn (.func h) [] [.ptr 0 0]], [.box 84 [y], .box 3 [x]] => bif Nat.beq h 97 then some (tyOk n rows && (eqC x (i64 x.toI) && eqC y (.ptr 1 0)), (i64 (fIdx (smR n) rows x.toI 0).1, stQ (fIdx (smR n) rows x.toI 0).2)) else none
  | _, _ => none
noncomputable def F28a (n : Nat) : List AV → List AObj → Ab Res := fun args st => match args, st with
  | [.sl 25 .any rows, .fn (.func h) [] [.ptr 0 0]], [.box 84 [y], .box 3 [x]] => bif Nat.beq h 97 then some (tyOk n rows && (eqC x (i64 x.toI) && eqC y (.ptr 1 0)), (bl (decide ((fIdx (smR n) rows x.toI 0).1 ≥ 0)), stQ (fIdx (smR n) rows x.toI 0).2)) else none
  | _, _ => none
noncomputable def H56 (L n : Nat) : FSys := (sysH L).tell 56 (F56 n)
noncomputable def H97 (L n : Nat) : FSys := (H56 L n).tell 97 (F97 n)
noncomputable def H71 (L n : Nat) : FSys := (H97 L n).tell 71 (F71a n)
noncomputable def X56 (L n : Nat) : FSys := (H71 L n).tell 28 (F28a n)
noncomputable def okZ (c : Int) : Bool := eqC (i64 c) (i64 c)
noncomputable def okQ (c : Int) : Bool := eqC (i64 c) (i64 c) && eqC (AV.ptr 1 0) (.ptr 1 0)
noncomputable def f97 : AV := .fn (.func 97) [] [.ptr 0 0]
noncomputable def σ71a (rows : List (List AV)) (i c : Int) : St := ⟨tm 19 [(0, .sl 25 .any rows), (1, f97), (7, i64 (rows.length : Nat)), (8, i64 i)], stQ c, []⟩
section
variable (a c : Int) (s : ByteArray) (k n L : Nat) (rows : List (List AV)) (R : St → Option Res) (i : Int)
theorem b97 : ev (H56 L n) (k + 1) 97 [.agg (TT a s rows), .ptr 0 0] (stQ c) = bif isT n (.agg (TT a s rows)) && okZ c then some (bl (!(smA n c (.agg (TT a s rows))).1), stQ (smA n c (.agg (TT a s rows))).2) else none := by kernel_rfl
theorem r71a : roundAt (H97 L n) 71 Try.f71 2 k [1,0,1,0] [] R (σ71a rows i c) = bif decide (i < (rows.length : Nat)) then (bif decide (0 ≤ i) && decide (i < (rows.length : Nat)) then (bif isT n (.agg (trow (rows.getD i.toNat []))) && okQ c then
  (bif !(smA n c (.agg (trow (rows.getD i.toNat [])))).1 then some (i64 i, stQ (smA n c (.agg (trow (rows.getD i.toNat [])))).2) else R (σ71a rows (IntKind.i64.wrap (i + 1)) (smA n c (.agg (trow (rows.getD i.toNat [])))).2)) else none) else none) else some (i64 (-1), stQ c) := by kernel_rfl
theorem b71a : ev (H97 L n) (k + 1) 71 [.sl 25 .any rows, f97] (stQ c) = loopAt (H97 L n) 71 Try.f71 2 k [1,0,1,0] [] k (σ71a rows 0 c) := by kernel_rfl
theorem b28a : ev (H71 L n) (k + 1) 28 [.sl 25 .any rows, f97] (stQ c) = bif tyOk n rows && okQ c then some (bl (decide ((fIdx (smR n) rows c 0).1 ≥ 0)), stQ (fIdx (smR n) rows c 0).2) else none := by kernel_rfl
theorem b56 : evTop (X56 L n) k 56 [.agg (TT a s rows), .ptr 0 0] (stZ c) = bif decide (w64 (c - 1) ≥ 0) then (bif decide ((s.size : Int) ≤ 60) then (bif tyOk n rows && okQ (w64 (c - 1)) then some (bl (!(decide ((fIdx (smR n) rows (w64 (c - 1)) 0).1 ≥ 0))), stZ (fIdx (smR n) rows (w64 (c - 1)) 0).2) else none) else some (bl false, stZ (w64 (c - 1)))) else some (bl false, stZ (w64 (c - 1))) := by kernel_rfl
theorem b55 : ev (H56 L n) (k + 1) 55 [.agg (TT a s rows)] [] = bif isT n (.agg (TT a s rows)) && okZ 8 then some (bl (smA n 8 (.agg (TT a s rows))).1, []) else none := by kernel_rfl
end
end
end Go.Proofs.Ytciighngjnjmlaa.W
namespace Go.Proofs.Ytciighngjnjmlaa.W
open Go.Fw
set_option maxRecDepth 100000
noncomputable section
theorem okZ_self (c : Int) : okZ c = true := by unfold okZ; rw [eqC_self]
theorem okQ_self (c : Int) : okQ c = true := by unfold okQ; rw [eqC_self, eqC_self]; rfl
theorem F56_inv {n : Nat} {args : List AV} {st : List AObj} {r : Res} (h : F56 n args st = some (true, r)) :
    ∃ v c, args = [v, .ptr 0 0] ∧ st = stZ c ∧ isT n v = true ∧ r = (bl (smA n c v).1, stZ (smA n c v).2) := by
  unfold F56 at h
  split at h
  · rename_i v x
    simp only [Option.some.injEq, Prod.mk.injEq, Bool.and_eq_true, eqC_iff] at h
    obtain ⟨⟨hv, hx⟩, rfl⟩ := h
    exact ⟨v, x.toI, rfl, by unfold stZ; rw [← hx], hv, rfl⟩
  · cases h
theorem F97_inv {n : Nat} {args : List AV} {st : List AObj} {r : Res} (h : F97 n args st = some (true, r)) :
    ∃ v c, args = [v, .ptr 0 0] ∧ st = stQ c ∧ isT n v = true ∧ r = (bl (!(smA n c v).1), stQ (smA n c v).2) := by
  unfold F97 at h
  split at h
  · rename_i v y x
    simp only [Option.some.injEq, Prod.mk.injEq, Bool.and_eq_true, eqC_iff] at h
    obtain ⟨⟨hv, hx, rfl⟩, rfl⟩ := h
    exact ⟨v, x.toI, rfl, by unfold stQ; rw [← hx], hv, rfl⟩
  · cases h
theorem F71a_inv {n : Nat} {args : List AV} {st : List AObj} {r : Res} (h : F71a n args st = some (true, r)) :
    ∃ rows c, args = [.sl 25 .any rows, f97] ∧ st = stQ c ∧ tyOk n rows = true ∧ r = (i64 (fIdx (smR n) rows c 0).1, stQ (fIdx (smR n) rows c 0).2) := by
  unfold F71a at h
  split at h
  · rename_i rows g y x
    obtain ⟨rfl, h2⟩ := beq_fn h
    simp only [Option.some.injEq, Prod.mk.injEq, Bool.and_eq_true, eqC_iff] at h2
    obtain ⟨⟨hv, hx, rfl⟩, rfl⟩ := h2
    exact ⟨rows, x.toI, rfl, by unfold stQ; rw [← hx], hv, rfl⟩
  · cases h
theorem F28a_inv {n : Nat} {args : List AV} {st : List AObj} {r : Res} (h : F28a n args st = some (true, r)) :
    ∃ rows c, args = [.sl 25 .any rows, f97] ∧ st = stQ c ∧ tyOk n rows = true ∧ r = (bl (decide ((fIdx (smR n) rows c 0).1 ≥ 0)), stQ (fIdx (smR n) rows c 0).2) := by
  unfold F28a at h
  split at h
  · rename_i rows g y x
    obtain ⟨rfl, h2⟩ := beq_fn h
    simp only [Option.some.injEq, Prod.mk.injEq, Bool.and_eq_true, eqC_iff] at h2
    obtain ⟨⟨hv, hx, rfl⟩, rfl⟩ := h2
    exact ⟨rows, x.toI, rfl, by unfold stQ; rw [← hx], hv, rfl⟩
  · cases h
theorem isT_ex {n : Nat} {v : AV} (h : isT n v = true) : ∃ a s rows, v = .agg (TT a s rows) := by
  obtain ⟨a, s, rows, rfl, _⟩ := isT_some0 h
  exact ⟨a, s, rows, rfl⟩
theorem told97 (L n : Nat) (args : List AV) (st : List AObj) (r : Res) (h : F97 n args st = some (true, r)) : ∃ k, ev (H56 L n) k 97 args st = some r := by
  obtain ⟨v, c, rfl, rfl, hv, rfl⟩ := F97_inv h
  obtain ⟨a, s, rows, rfl⟩ := isT_ex hv
  exact ⟨0 + 1, (b97 a c s 0 n L rows).trans (by rw [hv, okZ_self]; rfl)⟩
theorem foldI_fIdx2 (f : Int → List AV → Bool × Int) : ∀ (l : List (List AV)) (c i : Int),
    foldI (fun c x => !(f c x).1) (fun c i x => some (i64 i, stQ (f c x).2)) (fun c x => (f c x).2) (fun c => some (i64 (-1), stQ c)) l c i = some (i64 (fIdx f l c i).1, stQ (fIdx f l c i).2)
  | [], c, i => rfl
  | x :: xs, c, i => by
    simp only [foldI, fIdx]
    cases hp : (f c x).1 with
    | true => simp only [Bool.not_true, cond_false, cond_true]; exact foldI_fIdx2 f xs _ _
    | false => rfl
theorem told71a (L n : Nat) (args : List AV) (st : List AObj) (r : Res) (h : F71a n args st = some (true, r)) : ∃ k, ev (H97 L n) k 71 args st = some r := by
  obtain ⟨rows, c, rfl, rfl, hv, rfl⟩ := F71a_inv h
  obtain ⟨hl, hr⟩ := tyOk_iff hv
  refine ⟨rows.length + 1 + 1, (b71a c _ n L rows).trans ?_⟩
  have Q := loop_idx (S := H97 L n) (f := 71) (fn := Try.f71) (m := 2) (k := rows.length + 1) (p := [1,0,1,0]) (ms := []) (rows := rows) (A := Int)
    (fun c i => σ71a rows i c) (fun c x => !(smR n c x).1) (fun c i x => some (i64 i, stQ (smR n c x).2)) (fun c x => (smR n c x).2) (fun c => some (i64 (-1), stQ c))
    (fun R c i hi => (r71a c _ n L rows R i).trans (by
      have hx := hr _ (List.getElem_mem hi)
      rw [Int.toNat_natCast, getD_at hi, trow_of hx, isT_agg, hx, okQ_self, step1 hi (by omega), decide_eq_true (by omega : (i : Int) < (rows.length : Nat)), decide_eq_true (by omega : 0 ≤ (i : Int))]
      rfl))
    (fun R c => (r71a c _ n L rows R _).trans (stopped _ _ _)) (rows.length + 1) 0 c (Nat.zero_le _) (by omega)
  exact Q.trans (foldI_fIdx2 (smR n) rows c 0)
theorem told28a (L n : Nat) (args : List AV) (st : List AObj) (r : Res) (h : F28a n args st = some (true, r)) : ∃ k, ev (H71 L n) k 28 args st = some r := by
  obtain ⟨rows, c, rfl, rfl, hv, rfl⟩ := F28a_inv h
  exact ⟨0 + 1, (b28a c 0 n L rows).trans (by rw [hv, okQ_self]; rfl)⟩
theorem X56Ok (L n : Nat) (h : SysOk Try.prog (H56 L n)) : SysOk Try.prog (X56 L n) :=
  ((h.tell 97 _ (told97 L n)).tell 71 _ (told71a L n)).tell 28 _ (told28a L n)
theorem sm_eq (n : Nat) (c a : Int) (s : ByteArray) (rows : List (List AV)) : smA (n + 1) c (.agg (TT a s rows)) = bif decide (w64 (c - 1) ≥ 0) then (bif decide ((s.size : Int) ≤ 60) then (!(decide ((fIdx (smR n) rows (w64 (c - 1)) 0).1 ≥ 0)), (fIdx (smR n) rows (w64 (c - 1)) 0).2) else (false, w64 (c - 1))) else (false, w64 (c - 1)) := rfl
theorem top56 (L n : Nat) (v : AV) (c : Int) (h : isT (n + 1) v = true) : ∃ k, evTop (X56 L n) k 56 [v, .ptr 0 0] (stZ c) = some (bl (smA (n + 1) c v).1, stZ (smA (n + 1) c v).2) := by
  obtain ⟨a, s, rows, rfl, hl, hr⟩ := isT_some h
  refine ⟨1, (b56 a c s 1 n L rows).trans ?_⟩
  rw [sm_eq, tyOk_of hl hr, okQ_self]
  cases decide (w64 (c - 1) ≥ 0) <;> cases decide ((s.size : Int) ≤ 60) <;> rfl
theorem H56Ok (L : Nat) (n : Nat) : SysOk Try.prog (H56 L n) :=
  (sysHOk L).lvRec 56 F56 (X56 L) (fun args st r hF => by obtain ⟨v, _, _, _, h1, _⟩ := F56_inv hF; rw [isT_zero] at h1; cases h1) (fun n h => X56Ok L n h) (fun _ => rfl) (fun _ => rfl)
    (fun n args st r hF => by
      obtain ⟨v, c, rfl, rfl, h1, rfl⟩ := F56_inv hF
      exact top56 L n v c h1) n
noncomputable def least (n : Nat) (v : AV) : Bool := (smA n 8 v).1
noncomputable def F55 (n : Nat) : List AV → List AObj → Ab Res := fun args st => match args, st with
  | [v], [] => some (isT n v, (bl (least n v), []))
  | _, _ => none
theorem H55Ok (L n : Nat) : SysOk Try.prog ((H56 L n).tell 55 (F55 n)) := (H56Ok L n).tell 55 _ fun args st r h => by
  unfold F55 at h
  split at h
  · rename_i v
    simp only [Option.some.injEq, Prod.mk.injEq] at h
    obtain ⟨hv, rfl⟩ := h
    obtain ⟨a, s, rows, rfl⟩ := isT_ex hv
    exact ⟨0 + 1, (b55 a s 0 n L rows).trans (by rw [hv, okZ_self]; rfl)⟩
  · cases h
end
end Go.Proofs.Ytciighngjnjmlaa.W
namespace Go.Proofs.Ytciighngjnjmlaa.W
open Go.Fw
set_option maxRecDepth 100000
noncomputable section
noncomputable def fn55 : AV := .fn (.func 55) [] []
noncomputable def f57 : AV := .fn (.func 57) [] [.ptr 0 0]
noncomputable def bx : List AObj := [.box 48 [fn55]]
noncomputable def F57 (n : Nat) : List AV → List AObj → Ab Res := fun args st => match args, st with
  | [v, .ptr 0 0], [.box 48 [y]] => some (isT n v && eqC y fn55, (bl (!(least n v)), bx))
  | _, _ => none
noncomputable def big (n : Nat) (x : List AV) : Bool := !(least n (.agg x))
noncomputable def hasBg (n : Nat) (rows : List (List AV)) : Bool := decide (idxL (big n) rows 0 ≥ 0)
noncomputable def F71b (n : Nat) : List AV → List AObj → Ab Res := fun args st => match args, st with
  | [.sl 25 .any rows, .fn (.func h) [] [.ptr 0 0]], [.box 48 [y]] => bif Nat.beq h 57 then some (tyOk n rows && eqC y fn55, (i64 (idxL (big n) rows 0), bx)) else none
  | _, _ => none
noncomputable def F28b (n : Nat) : List AV → List AObj → Ab Res := fun args st => match args, st with
  | [.sl 25 .any rows, .fn (.func h) [] [.ptr 0 0]], [.box 48 [y]] => bif Nat.beq h 57 then some (tyOk n rows && eqC y fn55, (bl (hasBg n rows), bx)) else none
  | _, _ => none
noncomputable def J1 (L n : Nat) : FSys := (H56 L n).tell 55 (F55 n)
noncomputable def J2 (L n : Nat) : FSys := (J1 L n).tell 57 (F57 n)
noncomputable def J3 (L n : Nat) : FSys := (J2 L n).tell 71 (F71b n)
noncomputable def J4 (L n : Nat) : FSys := (J3 L n).tell 28 (F28b n)
noncomputable def ok55 : Bool := eqC fn55 fn55
noncomputable def σ71b (rows : List (List AV)) (i : Int) : St := ⟨tm 19 [(0, .sl 25 .any rows), (1, f57), (7, i64 (rows.length : Nat)), (8, i64 i)], bx, []⟩
section
variable (a : Int) (s : ByteArray) (k n L : Nat) (l rows : List (List AV)) (R : St → Option Res) (i : Int)
theorem b57 : ev (J1 L n) (k + 1) 57 [.agg (TT a s rows), .ptr 0 0] bx = bif isT n (.agg (TT a s rows)) then some (bl (!(least n (.agg (TT a s rows)))), bx) else none := by kernel_rfl
theorem r71b : roundAt (J2 L n) 71 Try.f71 1 k [1,0,1,0] [] R (σ71b rows i) = bif decide (i < (rows.length : Nat)) then (bif decide (0 ≤ i) && decide (i < (rows.length : Nat)) then (bif isT n (.agg (trow (rows.getD i.toNat []))) && ok55 then
  (bif !(least n (.agg (trow (rows.getD i.toNat [])))) then some (i64 i, bx) else R (σ71b rows (IntKind.i64.wrap (i + 1)))) else none) else none) else some (i64 (-1), bx) := by kernel_rfl
theorem b71b : ev (J2 L n) (k + 1) 71 [.sl 25 .any rows, f57] bx = loopAt (J2 L n) 71 Try.f71 1 k [1,0,1,0] [] k (σ71b rows 0) := by kernel_rfl
theorem b28b : ev (J3 L n) (k + 1) 28 [.sl 25 .any rows, f57] bx = bif tyOk n rows && ok55 then some (bl (hasBg n rows), bx) else none := by kernel_rfl
end
end
end Go.Proofs.Ytciighngjnjmlaa.W
namespace Go.Proofs.Ytciighngjnjmlaa.W
open Go.Fw
set_option maxRecDepth 100000
noncomputable section
noncomputable def fF : Option Res := some (bl false, [])
section
variable (a : Int) (s : ByteArray) (k m n L : Nat) (rows cs : List (List AV)) (R : St → Option Res) (i j : Int)
noncomputable def σ10 (i : Int) : St := ⟨tm 66 [(5, .ptr 0 0), (19, .sl 52 .any rows), (20, i64 (rows.length : Nat)), (21, i64 i)], bx, []⟩
noncomputable def τ10 (i j : Int) : St := ⟨tm 66 [(5, .ptr 0 0), (19, .sl 52 .any rows), (20, i64 (rows.length : Nat)), (21, i64 i), (42, .sl 77 .any cs), (43, i64 (cs.length : Nat)), (44, i64 j)], bx, []⟩
noncomputable def P10 : List Nat := [1,1,1,0,1,0]
noncomputable def Q10 : List Nat := [1,1,1,0,1,0,0,1,1,0,0,1,1,1,0]
noncomputable def lo10 (q : Nat) (i : Int) : Option Res := loopAt (J4 L n) 10 Try.f10 0 k P10 [] q (σ10 rows i)
noncomputable def li10 (m q : Nat) (i j : Int) : Option Res := loopAt (J4 L n) 10 Try.f10 0 k Q10 [m] q (τ10 rows cs i j)
noncomputable def cag (r : List AV) : List (List AV) := (r.getD 1 .undef).rows
theorem b10 : ev (J4 L n) (k + 1) 10 [.sl 52 .any rows, .agg (TT a s cs)] [] = bif decide (((rows.length : Nat) : Int) > 6) then fF else (bif isT n (.agg (TT a s cs)) then (bif !(least n (.agg (TT a s cs))) then fF else lo10 k n L rows k 0) else none) := by kernel_rfl
theorem ro10 : roundAt (J4 L n) 10 Try.f10 0 k P10 [] (loopAt (J4 L n) 10 Try.f10 0 k P10 [] m) (σ10 rows i) = bif decide (i < (rows.length : Nat)) then (bif decide (0 ≤ i) && decide (i < (rows.length : Nat)) then
  (bif decide ((((dct (rows.getD i.toNat [])).length : Nat) : Int) > 6) then fF else bif decide ((((dps (rows.getD i.toNat [])).length : Nat) : Int) > 3) then fF else bif decide (((dnm (rows.getD i.toNat [])).size : Int) > 60) then fF else li10 k n L rows (dct (rows.getD i.toNat [])) m k i 0) else none) else some tr := by kernel_rfl
theorem ri10 : roundAt (J4 L n) 10 Try.f10 0 k Q10 [m] R (τ10 rows cs i j) = bif decide (j < (cs.length : Nat)) then (bif decide (0 ≤ j) && decide (j < (cs.length : Nat)) then
  (bif decide ((((cag (cs.getD j.toNat [])).length : Nat) : Int) > 4) then fF else bif decide (((dnm (cs.getD j.toNat [])).size : Int) > 60) then fF else (bif tyOk n (cag (cs.getD j.toNat [])) && ok55 then (bif hasBg n (cag (cs.getD j.toNat [])) then fF else R (τ10 rows cs i (IntKind.i64.wrap (j + 1)))) else none)) else none) else lo10 k n L rows m (IntKind.i64.wrap (i + 1)) := by kernel_rfl
end
end
end Go.Proofs.Ytciighngjnjmlaa.W
namespace Go.Proofs.Ytciighngjnjmlaa.W
open Go.Fw
set_option maxRecDepth 100000
noncomputable section
theorem ok55_self : ok55 = true := by unfold ok55; exact eqC_self _
theorem F57_inv {n : Nat} {args : List AV} {st : List AObj} {r : Res} (h : F57 n args st = some (true, r)) : ∃ v, args = [v, .ptr 0 0] ∧ st = bx ∧ isT n v = true ∧ r = (bl (!(least n v)), bx) := by
  unfold F57 at h
  split at h
  · rename_i v y
    simp only [Option.some.injEq, Prod.mk.injEq, Bool.and_eq_true, eqC_iff] at h
    obtain ⟨⟨hv, rfl⟩, rfl⟩ := h
    exact ⟨v, rfl, rfl, hv, rfl⟩
  · cases h
theorem F71b_inv {n : Nat} {args : List AV} {st : List AObj} {r : Res} (h : F71b n args st = some (true, r)) : ∃ rows, args = [.sl 25 .any rows, f57] ∧ st = bx ∧ tyOk n rows = true ∧ r = (i64 (idxL (big n) rows 0), bx) := by
  unfold F71b at h
  split at h
  · rename_i rows g y
    obtain ⟨rfl, h2⟩ := beq_fn h
    simp only [Option.some.injEq, Prod.mk.injEq, Bool.and_eq_true, eqC_iff] at h2
    obtain ⟨⟨hv, rfl⟩, rfl⟩ := h2
    exact ⟨rows, rfl, rfl, hv, rfl⟩
  · cases h
theorem F28b_inv {n : Nat} {args : List AV} {st : List AObj} {r : Res} (h : F28b n args st = some (true, r)) : ∃ rows, args = [.sl 25 .any rows, f57] ∧ st = bx ∧ tyOk n rows = true ∧ r = (bl (hasBg n rows), bx) := by
  unfold F28b at h
  split at h
  · rename_i rows g y
    obtain ⟨rfl, h2⟩ := beq_fn h
    simp only [Option.some.injEq, Prod.mk.injEq, Bool.and_eq_true, eqC_iff] at h2
    obtain ⟨⟨hv, rfl⟩, rfl⟩ := h2
    exact ⟨rows, rfl, rfl, hv, rfl⟩
  · cases h
theorem J2Ok (L n : Nat) : SysOk Try.prog (J2 L n) := (H55Ok L n).tell 57 _ fun args st r h => by
  obtain ⟨v, rfl, rfl, hv, rfl⟩ := F57_inv h
  obtain ⟨a, s, rows, rfl⟩ := isT_ex hv
  exact ⟨0 + 1, (b57 a s 0 n L rows).trans (by rw [hv]; rfl)⟩
theorem foldI_idx2 (p : List AV → Bool) (o : List AObj) : ∀ (l : List (List AV)) (i : Int), foldI (A := Unit) (fun _ x => p x) (fun _ i _ => some (i64 i, o)) (fun c _ => c) (fun _ => some (i64 (-1), o)) l () i = some (i64 (idxL p l i), o)
  | [], i => rfl
  | x :: xs, i => by
    simp only [foldI, idxL]
    cases p x with
    | true => rfl
    | false => exact foldI_idx2 p o xs (i + 1)
theorem J3Ok (L n : Nat) : SysOk Try.prog (J3 L n) := (J2Ok L n).tell 71 _ fun args st r h => by
  obtain ⟨rows, rfl, rfl, hv, rfl⟩ := F71b_inv h
  obtain ⟨hl, hr⟩ := tyOk_iff hv
  refine ⟨rows.length + 1 + 1, (b71b _ n L rows).trans ?_⟩
  have Q := loop_idx (S := J2 L n) (f := 71) (fn := Try.f71) (m := 1) (k := rows.length + 1) (p := [1,0,1,0]) (ms := []) (rows := rows) (A := Unit)
    (fun _ i => σ71b rows i) (fun _ x => big n x) (fun _ i _ => some (i64 i, bx)) (fun c _ => c) (fun _ => some (i64 (-1), bx))
    (fun R c i hi => (r71b _ n L rows R i).trans (by
      have hx := hr _ (List.getElem_mem hi)
      rw [Int.toNat_natCast, getD_at hi, trow_of hx, isT_agg, hx, ok55_self, step1 hi (by omega), decide_eq_true (by omega : (i : Int) < (rows.length : Nat)), decide_eq_true (by omega : 0 ≤ (i : Int))]
      rfl))
    (fun R c => (r71b _ n L rows R _).trans (stopped _ _ _)) (rows.length + 1) 0 () (Nat.zero_le _) (by omega)
  exact Q.trans (foldI_idx2 (big n) bx rows 0)
theorem J4Ok (L n : Nat) : SysOk Try.prog (J4 L n) := (J3Ok L n).tell 28 _ fun args st r h => by
  obtain ⟨rows, rfl, rfl, hv, rfl⟩ := F28b_inv h
  exact ⟨0 + 1, (b28b 0 n L rows).trans (by rw [hv, ok55_self]; rfl)⟩
noncomputable def cFew (n : Nat) (c : List AV) : Bool := bif decide ((((cag c).length : Nat) : Int) > 4) then false else bif decide (((dnm c).size : Int) > 60) then false else !(hasBg n (cag c))
noncomputable def dFew (n : Nat) (d : List AV) : Bool := bif decide ((((dct d).length : Nat) : Int) > 6) then false else bif decide ((((dps d).length : Nat) : Int) > 3) then false else bif decide (((dnm d).size : Int) > 60) then false else (dct d).all (cFew n)
noncomputable def fewB (n : Nat) (l : List (List AV)) (t : AV) : Bool := bif decide (((l.length : Nat) : Int) > 6) then false else bif !(least n t) then false else l.all (dFew n)
noncomputable def rws (n : Nat) (l : List (List AV)) : Bool := l.all (isRow tab 52 n)
noncomputable def F10 (n : Nat) : List AV → List AObj → Ab Res := fun args st => match args, st with
  | [.sl 52 .any l, v], [] => some (isT n v && rws n l, (bl (fewB n l v), []))
  | _, _ => none
theorem row_ct {n : Nat} {d : List AV} (h : isRow tab 52 n d = true) : ∀ x ∈ dct d, tyOk n (cag x) = true := by
  cases n with
  | zero => rw [isRow_zero] at h; cases h
  | succ n =>
    unfold isRow at h
    rw [Bool.and_eq_true, cts52] at h
    obtain ⟨h1, h2⟩ := h
    obtain ⟨v1, _, rfl, c1, h1⟩ := rowOk_cons h1
    obtain ⟨v2, _, rfl, c2, h1⟩ := rowOk_cons h1
    obtain ⟨v3, _, rfl, c3, h1⟩ := rowOk_cons h1
    obtain ⟨v4, _, rfl, c4, h1⟩ := rowOk_cons h1
    obtain ⟨r4, rfl⟩ := CT_sl c4
    obtain ⟨h5, h6⟩ := deep_sl h2 (t := 77) (rows := r4) (by simp)
    intro x hx
    have hx' : x ∈ r4 := hx
    have := h6 x hx'
    cases n with
    | zero => rw [isRow_zero] at this; cases this
    | succ n =>
      obtain ⟨s, a, f, rfl, q1, q2, _, _⟩ := isRow77 this
      exact tyOk_of q1 fun y hy => isTr_le (q2 y hy) (by omega)
theorem inner10 (k n L m : Nat) (rows cs : List (List AV)) (i : Int) (hc : cs.length < k) (hl : cs.length ≤ 1000) (ht : ∀ x ∈ cs, tyOk n (cag x) = true) :
    li10 k n L rows cs m k i 0 = bif cs.all (cFew n) then lo10 k n L rows m (IntKind.i64.wrap (i + 1)) else fF := by
  have Q := loop_list (S := J4 L n) (f := 10) (fn := Try.f10) (m := 0) (k := k) (p := Q10) (ms := [m]) (rows := cs) (A := Unit) (fun _ j => τ10 rows cs i j) (fun _ x => !(cFew n x)) (fun _ _ => fF) (fun c _ => c) (fun _ => lo10 k n L rows m (IntKind.i64.wrap (i + 1)))
    (fun R _ j hj => (ri10 k m n L rows cs R i j).trans (by
      have hx := ht _ (List.getElem_mem hj)
      rw [Int.toNat_natCast, getD_at hj, hx, ok55_self, step1 hj (by omega), decide_eq_true (by omega : (j : Int) < (cs.length : Nat)), decide_eq_true (by omega : 0 ≤ (j : Int))]
      generalize R (τ10 rows cs i ((j + 1 : Nat) : Int)) = Y
      unfold cFew
      cases decide ((((cag cs[j]).length : Nat) : Int) > 4) <;> cases decide (((dnm cs[j]).size : Int) > 60) <;> cases hasBg n (cag cs[j]) <;> rfl))
    (fun R _ => (ri10 k m n L rows cs R i _).trans (stopped _ _ _)) k 0 () (Nat.zero_le _) (by omega)
  refine Q.trans ?_
  rw [List.drop_zero]
  generalize lo10 k n L rows m (IntKind.i64.wrap (i + 1)) = Y
  clear Q ht hl hc
  induction cs with
  | nil => rfl
  | cons x xs ih =>
    simp only [foldS, List.all_cons]
    cases cFew n x with
    | true => simp only [Bool.not_true, cond_false, Bool.true_and]; exact ih
    | false => rfl
theorem outer10 (n L : Nat) (rows : List (List AV)) (hl : rows.length ≤ 6) (hr : ∀ x ∈ rows, ∀ y ∈ dct x, tyOk n (cag y) = true) : ∀ (q i : Nat), i ≤ rows.length → rows.length - i < q →
    lo10 10 n L rows q (i : Nat) = some (bl ((rows.drop i).all (dFew n)), [])
  | 0, i, _, h => by omega
  | q + 1, i, hi, hn => by
    have e : lo10 10 n L rows (q + 1) (i : Nat) = roundAt (J4 L n) 10 Try.f10 0 10 P10 [] (loopAt (J4 L n) 10 Try.f10 0 10 P10 [] q) (σ10 rows (i : Nat)) := loopAt_succ ..
    rw [e]
    refine (ro10 10 q n L rows (i : Nat)).trans ?_
    rcases Nat.lt_or_eq_of_le hi with h1 | h1
    · rw [Int.toNat_natCast, getD_at h1, decide_eq_true (by omega : (i : Int) < (rows.length : Nat)), decide_eq_true (by omega : 0 ≤ (i : Int)), List.drop_eq_getElem_cons h1, List.all_cons]
      have hw := step1 h1 (by omega)
      have ih := outer10 n L rows hl hr q (i + 1) h1 (by omega)
      have hy := hr _ (List.getElem_mem h1)
      by_cases c1 : (((dct rows[i]).length : Nat) : Int) > 6
      · have : dFew n rows[i] = false := by unfold dFew; rw [decide_eq_true c1]; rfl
        rw [decide_eq_true c1, this]; rfl
      · have hin := inner10 10 n L q rows (dct rows[i]) (i : Nat) (by omega) (by omega) hy
        rw [hw, ih] at hin
        rw [hin]
        unfold dFew
        rw [decide_eq_false c1]
        cases decide ((((dps rows[i]).length : Nat) : Int) > 3) <;> cases decide (((dnm rows[i]).size : Int) > 60) <;> cases (dct rows[i]).all (cFew n) <;> rfl
    · subst h1
      rw [List.drop_length]
      exact stopped _ _ _
theorem told10 (L n : Nat) (args : List AV) (st : List AObj) (r : Res) (h : F10 n args st = some (true, r)) : ∃ k, ev (J4 L n) k 10 args st = some r := by
  unfold F10 at h
  split at h
  · rename_i l v
    simp only [Option.some.injEq, Prod.mk.injEq, Bool.and_eq_true] at h
    obtain ⟨⟨hv, hw⟩, rfl⟩ := h
    obtain ⟨a, s, rows, rfl⟩ := isT_ex hv
    refine ⟨10 + 1, (b10 a s 10 n L l rows).trans ?_⟩
    rw [hv, cond_true]
    unfold fewB
    by_cases c1 : ((l.length : Nat) : Int) > 6
    · rw [decide_eq_true c1]; rfl
    · have hr : ∀ x ∈ l, ∀ y ∈ dct x, tyOk n (cag y) = true := fun x hx => row_ct (List.all_eq_true.1 hw x hx)
      have o := outer10 n L l (by omega) hr 10 0 (Nat.zero_le _) (by omega)
      rw [List.drop_zero] at o
      have o' : lo10 10 n L l 10 0 = some (bl (l.all (dFew n)), []) := o
      rw [decide_eq_false c1, o']
      cases least n (.agg (TT a s rows)) <;> rfl
  · cases h
theorem K10 (L n : Nat) : SysOk Try.prog ((J4 L n).tell 10 (F10 n)) := (J4Ok L n).tell 10 _ (told10 L n)
end
end Go.Proofs.Ytciighngjnjmlaa.W
namespace Go.Proofs.Ytciighngjnjmlaa.W
open Go.Fw
set_option maxRecDepth 100000
noncomputable section
noncomputable def argsB (n m : Nat) (d : List AV) (ts : List (List AV)) (c : Int) : Bool :=
  bif !(dk d == 0) then false else bif !(((ts.length : Nat) : Int) == (((dps d).length : Nat) : Int)) then false else bif decide (c < 0) then false else bif decide (c ≥ ((dct d).length : Nat)) then false else
  bif (cargs (dct d) c).any (fun x => decide (nodR m 4000 (uR (dps d) ts n x) > 4000)) then false else true
noncomputable def argsL (n m : Nat) (d : List AV) (ts : List (List AV)) (c : Int) : List (List AV) := bif argsB n m d ts c then (cargs (dct d) c).map (uR (dps d) ts n) else []
theorem argsM_eq (n m : Nat) (d : List AV) (ts : List (List AV)) (c : Int) : argsM n m d ts c = .tup [.sl 25 .any (argsL n m d ts c), bl (argsB n m d ts c)] := by
  unfold argsM argsL argsB
  cases dk d == 0 with
  | false => rfl
  | true =>
  cases (((ts.length : Nat) : Int) == (((dps d).length : Nat) : Int)) with
  | false => rfl
  | true =>
  cases decide (c < 0) with
  | true => rfl
  | false =>
  cases decide (c ≥ ((dct d).length : Nat)) with
  | true => rfl
  | false =>
  cases (cargs (dct d) c).any (fun x => decide (nodR m 4000 (uR (dps d) ts n x) > 4000)) <;> rfl
noncomputable def FArg (N n : Nat) : List AV → List AObj → Ab Res := fun args st => match args, st with
  | [.agg d, .sl 25 .any ts, .k (.int .i64 c)], [] => some (isD n (.agg d) && tyOk N ts, (.tup [.sl 25 .any (argsL n (n + N) d ts c), bl (argsB n (n + N) d ts c)], []))
  | _, _ => none
theorem FArg_args {N n : Nat} {args : List AV} {st : List AObj} {r : Res} (h : FArg N n args st = some (true, r)) : FArgs N n args st = some (true, r) := by
  unfold FArg at h
  unfold FArgs
  split at h
  · rename_i d ts c
    have e := argsM_eq n (n + N) d ts c
    show some (isD n (.agg d) && tyOk N ts, (argsM n (n + N) d ts c, [])) = some (true, r)
    rw [e]; exact h
  · cases h
noncomputable def f29 : AV := .fn (.func 29) [] [.ptr 0 0]
noncomputable def bl22 (l : List (List AV)) : List AObj := [.box 22 [.sl 52 .any l]]
noncomputable def F29 (n : Nat) : List AV → List AObj → Ab Res := fun args st => match args, st with
  | [v, .ptr 0 0], [.box 22 [.sl 52 .any l]] => some (isT n v && rws n l, (bl (!(fewB n l v)), bl22 l))
  | _, _ => none
noncomputable def big6 (n : Nat) (l : List (List AV)) (x : List AV) : Bool := !(fewB n l (.agg x))
noncomputable def hasB6 (n : Nat) (l rows : List (List AV)) : Bool := decide (idxL (big6 n l) rows 0 ≥ 0)
noncomputable def F71c (n : Nat) : List AV → List AObj → Ab Res := fun args st => match args, st with
  | [.sl 25 .any rows, .fn (.func h) [] [.ptr 0 0]], [.box 22 [.sl 52 .any l]] => bif Nat.beq h 29 then some (tyOk n rows && rws n l, (i64 (idxL (big6 n l) rows 0), bl22 l)) else none
  | _, _ => none
noncomputable def F28c (n : Nat) : List AV → List AObj → Ab Res := fun args st => match args, st with
  | [.sl 25 .any rows, .fn (.func h) [] [.ptr 0 0]], [.box 22 [.sl 52 .any l]] => bif Nat.beq h 29 then some (tyOk n rows && rws n l, (bl (hasB6 n l rows), bl22 l)) else none
  | _, _ => none
noncomputable def M0 (L n : Nat) : FSys := (J4 L n).tell 10 (F10 n)
noncomputable def M1 (L n : Nat) : FSys := (M0 L n).tell 29 (F29 n)
noncomputable def M2 (L n : Nat) : FSys := (M1 L n).tell 71 (F71c n)
noncomputable def σ71c (l rows : List (List AV)) (i : Int) : St := ⟨tm 19 [(0, .sl 25 .any rows), (1, f29), (7, i64 (rows.length : Nat)), (8, i64 i)], bl22 l, []⟩
section
variable (a : Int) (s : ByteArray) (k n L : Nat) (l rows : List (List AV)) (R : St → Option Res) (i : Int)
theorem b29 : ev (M0 L n) (k + 1) 29 [.agg (TT a s rows), .ptr 0 0] (bl22 l) = bif isT n (.agg (TT a s rows)) && rws n l then some (bl (!(fewB n l (.agg (TT a s rows)))), bl22 l) else none := by kernel_rfl
theorem r71c : roundAt (M1 L n) 71 Try.f71 1 k [1,0,1,0] [] R (σ71c l rows i) = bif decide (i < (rows.length : Nat)) then (bif decide (0 ≤ i) && decide (i < (rows.length : Nat)) then (bif isT n (.agg (trow (rows.getD i.toNat []))) && rws n l then
  (bif !(fewB n l (.agg (trow (rows.getD i.toNat [])))) then some (i64 i, bl22 l) else R (σ71c l rows (IntKind.i64.wrap (i + 1)))) else none) else none) else some (i64 (-1), bl22 l) := by kernel_rfl
theorem b71c : ev (M1 L n) (k + 1) 71 [.sl 25 .any rows, f29] (bl22 l) = loopAt (M1 L n) 71 Try.f71 1 k [1,0,1,0] [] k (σ71c l rows 0) := by kernel_rfl
theorem b28c : ev (M2 L n) (k + 1) 28 [.sl 25 .any rows, f29] (bl22 l) = bif tyOk n rows && rws n l then some (bl (hasB6 n l rows), bl22 l) else none := by kernel_rfl
end
end
end Go.Proofs.Ytciighngjnjmlaa.W
