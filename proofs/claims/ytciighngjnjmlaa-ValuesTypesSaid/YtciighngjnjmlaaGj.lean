/- A part of the proofs over these laws: what its functions come to. No conditions. -/
import Derived.Test.YtciighngjnjmlaaGi
import Derived.Test.YtciighngjnjmlaaGg
set_option linter.all false
namespace Go.Proofs.Ytciighngjnjmlaa.W
open Go.Fw
set_option maxRecDepth 100000
noncomputable section
noncomputable def bstr (l : List UInt8) : AV := .k (.string ⟨l.toArray⟩)
noncomputable def tvar (l : List UInt8) : List AV := [i64 0, bstr l, .sl 25 .any []]
noncomputable def noF : Nat → List (List AV) := fun n => List.replicate n [bstr []]
noncomputable def stdC (l : List UInt8) (ts : List (List AV)) : List AV := [bstr l, .sl 25 .any ts, .sl 9 .any (noF ts.length)]
noncomputable def stdD (l : List UInt8) (ps : List (List UInt8)) (cs : List (List AV)) : List AV := [bstr l, .sl 9 .any (ps.map fun p => [bstr p]), i64 0, .sl 77 .any cs, i64 0, bstr [], .sl 25 .any [], bl true, i64 0]
noncomputable def STD : List (List AV) :=
  [stdD [108, 105, 115, 116] [[84]] [stdC [91, 93] [], stdC [91, 124, 93] [tvar [84], [i64 1, bstr [108, 105, 115, 116], .sl 25 .any [tvar [84]]]]],
   stdD [98, 111, 111, 108] [] [stdC [110, 111] [], stdC [121, 101, 115] []],
   stdD [111, 114, 100, 101, 114] [] [stdC [61] [], stdC [60] [], stdC [62] []],
   stdD [103, 111, 116] [[84]] [stdC [101, 110, 100] [], stdC [103, 111, 116] [tvar [84]]],
   stdD [112, 97, 105, 114] [[65], [66]] [stdC [45] [tvar [65], tvar [66]]],
   stdD [109, 97, 121, 98, 101] [[84]] [stdC [110, 111, 110, 101] [], stdC [115, 111, 109, 101] [tvar [84]]]]
theorem ev39 (n : Nat) : ev (sysH n) 20 39 [] [] = some (.sr 0, [.arr 52 .full STD]) := by kernel_rfl
theorem ev38 (n : Nat) : ev (sysH n) 20 38 [] [] = some (.sr 0, [.arr 52 .full STD]) := by kernel_rfl
end
end Go.Proofs.Ytciighngjnjmlaa.W
namespace Go.Proofs.Ytciighngjnjmlaa.W
open Go.Fw
set_option maxRecDepth 100000
noncomputable section
noncomputable def F38 : List AV → List AObj → Ab Res := fun args st => match args, st with
  | [], [] => some (true, (.sr 0, [.arr 52 .full STD]))
  | _, _ => none
theorem F38_inv {args : List AV} {st : List AObj} {r : Res} (h : F38 args st = some (true, r)) : args = [] ∧ st = [] ∧ r = (.sr 0, [.arr 52 .full STD]) := by
  unfold F38 at h
  split at h
  · simp only [Option.some.injEq, Prod.mk.injEq, true_and] at h
    exact ⟨rfl, rfl, h.symm⟩
  · cases h
noncomputable def B1 (n : Nat) : FSys := (sysH n).tell 38 F38
noncomputable def B2 (n : Nat) : FSys := (B1 n).tell 39 F38
theorem B1Ok (n : Nat) : SysOk Try.prog (B1 n) := (sysHOk n).tell 38 _ fun args st r h => by
  obtain ⟨rfl, rfl, rfl⟩ := F38_inv h
  exact ⟨20, ev38 n⟩
theorem B2Ok (n : Nat) : SysOk Try.prog (B2 n) := (B1Ok n).tellMore ((sysHOk n).tell 39 _ fun args st r h => by
  obtain ⟨rfl, rfl, rfl⟩ := F38_inv h
  exact ⟨20, ev39 n⟩) rfl rfl
noncomputable def drow (r : List AV) : List AV := [.k (.string (r.getD 0 .undef).toS), .sl 9 .any (r.getD 1 .undef).rows, i64 (r.getD 2 .undef).toI, .sl 77 .any (r.getD 3 .undef).rows, i64 (r.getD 4 .undef).toI, .k (.string (r.getD 5 .undef).toS), .sl 25 .any (r.getD 6 .undef).rows, bl (r.getD 7 .undef).toB, i64 (r.getD 8 .undef).toI]
noncomputable def dnm (r : List AV) : ByteArray := (r.getD 0 .undef).toS
noncomputable def zD : List AV := [.k (.string ByteArray.empty), .sl 9 .any [], i64 0, .sl 77 .any [], i64 0, .k (.string ByteArray.empty), .sl 25 .any [], bl false, i64 0]
noncomputable def no30 : Option Res := some (.tup [.agg zD, bl false], [])
noncomputable def yes31 (x : List AV) : Option Res := some (.tup [.agg (drow x), bl true], [])
noncomputable def yes30 (n : Nat) (x : List AV) : Option Res := bif isD n (.agg (drow x)) then yes31 x else none
section
variable (n k : Nat) (l rows : List (List AV)) (s : ByteArray) (R : St → Option Res) (c i : Int)
noncomputable def σ30 (i : Int) : St := ⟨tm 33 [(1, .k (.string s)), (2, i64 c), (6, .ptr 0 0), (12, .sr 1), (13, i64 (rows.length : Nat)), (14, i64 i)], [.box 52 e52, .arr 52 .fresh rows], []⟩
noncomputable def σ31 (i : Int) : St := ⟨tm 41 [(1, .k (.string s)), (2, i64 c), (6, .ptr 0 0), (8, .sr 1), (9, i64 i)], [.box 52 e52, .arr 52 .fresh rows], []⟩
noncomputable def fits52 (l : List (List AV)) : Bool := Nat.ble ((STD.length + l.length) * 136) 140737488355328
theorem b30 : ev (B2 n) (k + 1) 30 [.sl 52 .any l, .k (.string s), i64 c] [] = bif fits52 l then loopAt (B2 n) 30 Try.f30 0 k [1,0,1,0] [] k (σ30 (STD ++ l) s c 0) else none := by kernel_rfl
theorem r30 : roundAt (B2 n) 30 Try.f30 0 k [1,0,1,0] [] R (σ30 rows s c i) = bif decide (i < (rows.length : Nat)) then (bif decide (0 ≤ i) && decide (i < (rows.length : Nat)) then
  (bif dnm (rows.getD i.toNat []) == s then (bif (((dps (rows.getD i.toNat [])).length : Nat) : Int) == c then yes30 n (rows.getD i.toNat []) else R (σ30 rows s c (IntKind.i64.wrap (i + 1)))) else R (σ30 rows s c (IntKind.i64.wrap (i + 1)))) else none) else no30 := by kernel_rfl
theorem b31 : ev (B2 n) (k + 1) 31 [.sl 52 .any l, .k (.string s), i64 c] [] = bif fits52 l then loopAt (B2 n) 31 Try.f31 0 k [1,1,0,1,0] [] k (σ31 (STD ++ l) s c 0) else none := by kernel_rfl
theorem r31 : roundAt (B2 n) 31 Try.f31 0 k [1,1,0,1,0] [] R (σ31 rows s c i) = bif decide (i < (rows.length : Nat)) then (bif decide (0 ≤ i) && decide (i < (rows.length : Nat)) then
  (bif dnm (rows.getD i.toNat []) == s then (bif decide (0 ≤ i) && decide (i < (rows.length : Nat)) then (bif (((dps (rows.getD i.toNat [])).length : Nat) : Int) == c then (bif decide (0 ≤ i) && decide (i < (rows.length : Nat)) then yes31 (rows.getD i.toNat []) else none) else R (σ31 rows s c (IntKind.i64.wrap (i + 1)))) else none) else R (σ31 rows s c (IntKind.i64.wrap (i + 1)))) else none) else no30 := by kernel_rfl
end
end
end Go.Proofs.Ytciighngjnjmlaa.W
namespace Go.Proofs.Ytciighngjnjmlaa.W
open Go.Fw
set_option maxRecDepth 100000
noncomputable section
theorem drow_of {n : Nat} {r : List AV} (h : isDr n r = true) : drow r = r := by
  cases n with
  | zero => simp [isDr, isRow_zero] at h
  | succ n =>
    obtain ⟨D, ctors, rfl, _⟩ := isDr_some h
    rfl
theorem isDr_le {n m : Nat} {r : List AV} (h : isDr n r = true) (hm : n ≤ m) : isDr m r = true := by
  unfold isDr at h ⊢
  rw [Bool.and_eq_true] at h ⊢
  exact ⟨isRow_le h.1 hm, h.2⟩
theorem std_ok : STD.all (isDr 6) = true := by kernel_rfl
theorem std_len : STD.length = 6 := rfl
noncomputable def pD (s : ByteArray) (c : Int) (x : List AV) : Bool := dnm x == s && (((dps x).length : Nat) : Int) == c
noncomputable def fndO (l : List (List AV)) (s : ByteArray) (c : Int) : Option (List AV) := (STD ++ l).find? (pD s c)
noncomputable def fndR (l : List (List AV)) (s : ByteArray) (c : Int) : List AV := (fndO l s c).getD zD
noncomputable def fndB (l : List (List AV)) (s : ByteArray) (c : Int) : Bool := (fndO l s c).isSome
noncomputable def dsOk (n : Nat) (l : List (List AV)) : Bool := Nat.ble 6 n && (Nat.ble l.length 1000 && l.all (isDr n))
theorem dsOk_iff {n : Nat} {l : List (List AV)} (h : dsOk n l = true) : 6 ≤ n ∧ l.length ≤ 1000 ∧ ∀ x ∈ l, isDr n x = true := by
  unfold dsOk at h
  simp only [Bool.and_eq_true, List.all_eq_true] at h
  exact ⟨Nat.le_of_ble_eq_true h.1, Nat.le_of_ble_eq_true h.2.1, h.2.2⟩
theorem std_all {n : Nat} {l : List (List AV)} (h : dsOk n l = true) : ∀ x ∈ STD ++ l, isDr n x = true := fun x hx => by
  obtain ⟨h1, _, h3⟩ := dsOk_iff h
  rcases List.mem_append.1 hx with hx | hx
  · exact isDr_le (List.all_eq_true.1 std_ok x hx) h1
  · exact h3 x hx
noncomputable def FFind (n : Nat) : List AV → List AObj → Ab Res := fun args st => match args, st with
  | [.sl 52 .any l, .k (.string s), .k (.int .i64 c)], [] => some (dsOk n l, (.tup [.agg (drow (fndR l s c)), bl (fndB l s c)], []))
  | _, _ => none
theorem FFind_inv {n : Nat} {args : List AV} {st : List AObj} {r : Res} (h : FFind n args st = some (true, r)) :
    ∃ l s c, args = [.sl 52 .any l, .k (.string s), i64 c] ∧ st = [] ∧ dsOk n l = true ∧ r = (.tup [.agg (drow (fndR l s c)), bl (fndB l s c)], []) := by
  unfold FFind at h
  split at h
  · rename_i l s c
    simp only [Option.some.injEq, Prod.mk.injEq] at h
    exact ⟨l, s, c, rfl, rfl, h.1, h.2.symm⟩
  · cases h
theorem foldI_findO (p : List AV → Bool) (g : List AV → Option Res) (D : Option Res) : ∀ (l : List (List AV)) (i : Int),
    foldI (A := Unit) (fun _ x => p x) (fun _ _ x => g x) (fun c _ => c) (fun _ => D) l () i = (match l.find? p with | some x => g x | none => D)
  | [], i => rfl
  | x :: xs, i => by
    rw [List.find?_cons]
    simp only [foldI]
    cases p x with
    | true => rfl
    | false => exact foldI_findO p g D xs (i + 1)
theorem find_out {l : List (List AV)} {s : ByteArray} {c : Int} : (match (STD ++ l).find? (pD s c) with | some x => yes31 x | none => no30) = some (.tup [.agg (drow (fndR l s c)), bl (fndB l s c)], []) := by
  unfold fndR fndB fndO
  cases (STD ++ l).find? (pD s c) <;> rfl
theorem fits_of {n : Nat} {l : List (List AV)} (h : dsOk n l = true) : fits52 l = true := by
  obtain ⟨_, h2, _⟩ := dsOk_iff h
  unfold fits52
  rw [std_len]
  exact Nat.ble_eq_true_of_le (by omega)
theorem pD_true {s : ByteArray} {c : Int} {x : List AV} {Y N : Option Res} : (bif dnm x == s then (bif (((dps x).length : Nat) : Int) == c then Y else N) else N) = bif pD s c x then Y else N := by
  unfold pD
  cases dnm x == s <;> rfl
theorem told30 (n : Nat) (args : List AV) (st : List AObj) (r : Res) (h : FFind n args st = some (true, r)) : ∃ k, ev (B2 n) k 30 args st = some r := by
  obtain ⟨l, s, c, rfl, rfl, h1, rfl⟩ := FFind_inv h
  refine ⟨(STD ++ l).length + 1 + 1, (b30 n _ l s c).trans ?_⟩
  rw [fits_of h1, cond_true]
  have hr := std_all h1
  have hlen : (STD ++ l).length ≤ 2000 := by
    obtain ⟨_, h2, _⟩ := dsOk_iff h1
    rw [List.length_append, std_len]; omega
  revert hr hlen
  have fo := find_out (l := l) (s := s) (c := c)
  revert fo
  generalize (STD ++ l) = rows
  intro fo hr hlen
  have L := loop_idx (S := B2 n) (f := 30) (fn := Try.f30) (m := 0) (k := rows.length + 1) (p := [1,0,1,0]) (ms := []) (rows := rows) (A := Unit)
    (fun _ i => σ30 rows s c i) (fun _ x => pD s c x) (fun _ _ x => yes31 x) (fun c _ => c) (fun _ => no30)
    (fun R _ i hi => (r30 n _ rows s R c i).trans (by
      have d1 : decide ((i : Int) < (rows.length : Nat)) = true := by simpa using hi
      have d2 : decide (0 ≤ (i : Int)) = true := by simp
      have hw : IntKind.i64.wrap ((i : Int) + 1) = ((i + 1 : Nat) : Int) := by rw [wrap64] <;> omega
      have hx := hr _ (List.getElem_mem hi)
      have hy : yes30 n rows[i] = yes31 rows[i] := by
        unfold yes30
        have : isD n (.agg (drow rows[i])) = true := by rw [drow_of hx]; exact hx
        rw [this]; rfl
      rw [d1, d2, hw, Int.toNat_natCast, getD_at hi, hy, pD_true]
      rfl))
    (fun R _ => (r30 n _ rows s R c _).trans (stopped _ _ _)) (rows.length + 1) 0 () (Nat.zero_le _) (by omega)
  exact L.trans ((foldI_findO _ _ _ rows 0).trans fo)
theorem told31 (n : Nat) (args : List AV) (st : List AObj) (r : Res) (h : FFind n args st = some (true, r)) : ∃ k, ev (B2 n) k 31 args st = some r := by
  obtain ⟨l, s, c, rfl, rfl, h1, rfl⟩ := FFind_inv h
  refine ⟨(STD ++ l).length + 1 + 1, (b31 n _ l s c).trans ?_⟩
  rw [fits_of h1, cond_true]
  have hr := std_all h1
  have hlen : (STD ++ l).length ≤ 2000 := by
    obtain ⟨_, h2, _⟩ := dsOk_iff h1
    rw [List.length_append, std_len]; omega
  revert hr hlen
  have fo := find_out (l := l) (s := s) (c := c)
  revert fo
  generalize (STD ++ l) = rows
  intro fo hr hlen
  have L := loop_idx (S := B2 n) (f := 31) (fn := Try.f31) (m := 0) (k := rows.length + 1) (p := [1,1,0,1,0]) (ms := []) (rows := rows) (A := Unit)
    (fun _ i => σ31 rows s c i) (fun _ x => pD s c x) (fun _ _ x => yes31 x) (fun c _ => c) (fun _ => no30)
    (fun R _ i hi => (r31 n _ rows s R c i).trans (by
      have d1 : decide ((i : Int) < (rows.length : Nat)) = true := by simpa using hi
      have d2 : decide (0 ≤ (i : Int)) = true := by simp
      have hw : IntKind.i64.wrap ((i : Int) + 1) = ((i + 1 : Nat) : Int) := by rw [wrap64] <;> omega
      rw [d1, d2, hw, Int.toNat_natCast, getD_at hi]
      exact pD_true))
    (fun R _ => (r31 n _ rows s R c _).trans (stopped _ _ _)) (rows.length + 1) 0 () (Nat.zero_le _) (by omega)
  exact L.trans ((foldI_findO _ _ _ rows 0).trans fo)
theorem K30 (n : Nat) : SysOk Try.prog ((B2 n).tell 30 (FFind n)) := (B2Ok n).tell 30 _ (told30 n)
theorem K31 (n : Nat) : SysOk Try.prog ((B2 n).tell 31 (FFind n)) := (B2Ok n).tell 31 _ (told31 n)
theorem isDr_z : isDr 6 zD = true := by kernel_rfl
theorem fnd_ok {n : Nat} {l : List (List AV)} (h : dsOk n l = true) (s : ByteArray) (c : Int) : isDr n (fndR l s c) = true := by
  unfold fndR fndO
  cases hf : (STD ++ l).find? (pD s c) with
  | none => exact isDr_le isDr_z (dsOk_iff h).1
  | some x => exact std_all h x (List.mem_of_find?_eq_some hf)
end
end Go.Proofs.Ytciighngjnjmlaa.W
namespace Go.Proofs.Ytciighngjnjmlaa.W
open Go.Fw
set_option maxRecDepth 100000
noncomputable section
noncomputable def f36 : AV := .fn (.func 36) [] []
noncomputable def f79 : AV := .fn (.func 79) [] []
noncomputable def f34 : AV := .fn (.func 34) [] []
noncomputable def tyEq (n : Nat) (a b : List (List AV)) : Bool := tyOk n a && eqC a b
noncomputable def psOk (a : List (List AV)) : Bool := Nat.ble a.length 140737488351232
noncomputable def psEq (a b : List (List AV)) : Bool := psOk a && eqC a b
noncomputable def isCt (n : Nat) (v : AV) : Bool := match v with
  | .agg r => isRow tab 77 (n + 1) r
  | _ => false
noncomputable def ctOk (n : Nat) (a : List (List AV)) : Bool := Nat.ble a.length 140737488351232 && a.all (isRow tab 77 (n + 1))
noncomputable def ctEq (n : Nat) (a b : List (List AV)) : Bool := ctOk n a && eqC a b
noncomputable def dfOk (n : Nat) (a : List (List AV)) : Bool := Nat.ble a.length 140737488351232 && a.all (isDr n)
noncomputable def dfEq (n : Nat) (a b : List (List AV)) : Bool := dfOk n a && eqC a b
noncomputable def tr : Res := (bl true, [])
noncomputable def F36 (n : Nat) : List AV → List AObj → Ab Res := fun args st => match args, st with
  | [v, w], [] => some (isT n v && eqC v w, tr)
  | _, _ => none
noncomputable def F35 (n : Nat) : List AV → List AObj → Ab Res := fun args st => match args, st with
  | [.sl 25 .any a, .sl 25 .any b, .fn (.func h) [] []], [] => bif Nat.beq h 36 then some (tyEq n a b, tr) else none
  | _, _ => none
noncomputable def F77 : List AV → List AObj → Ab Res := fun args st => match args, st with
  | [.sl 9 .any a, .sl 9 .any b], [] => some (psEq a b, tr)
  | _, _ => none
noncomputable def F79 (n : Nat) : List AV → List AObj → Ab Res := fun args st => match args, st with
  | [v, w], [] => some (isCt n v && eqC v w, tr)
  | _, _ => none
noncomputable def F78 (n : Nat) : List AV → List AObj → Ab Res := fun args st => match args, st with
  | [.sl 77 .any a, .sl 77 .any b, .fn (.func h) [] []], [] => bif Nat.beq h 79 then some (ctEq n a b, tr) else none
  | _, _ => none
noncomputable def F34 (n : Nat) : List AV → List AObj → Ab Res := fun args st => match args, st with
  | [v, w], [] => some (isD n v && eqC v w, tr)
  | _, _ => none
noncomputable def F37 (n : Nat) : List AV → List AObj → Ab Res := fun args st => match args, st with
  | [.sl 52 .any a, .sl 52 .any b, .fn (.func h) [] []], [] => bif Nat.beq h 34 then some (dfEq n a b, tr) else none
  | _, _ => none
noncomputable def G1 (L n : Nat) : FSys := (sysH L).tell 36 (F36 n)
noncomputable def G2 (L n : Nat) : FSys := (G1 L n).tell 35 (F35 n)
noncomputable def G3 (L n : Nat) : FSys := (G2 L n).tell 77 F77
noncomputable def G4 (L n : Nat) : FSys := (G3 L n).tell 79 (F79 n)
noncomputable def G5 (L n : Nat) : FSys := (G4 L n).tell 78 (F78 n)
noncomputable def G6 (L n : Nat) : FSys := (G5 L n).tell 34 (F34 n)
noncomputable def rEq (l : Nat) (i : Int) (c : Bool) (X : Option Res) : Option Res := bif decide (i < (l : Nat)) then (bif decide (0 ≤ i) && decide (i < (l : Nat)) then (bif decide (0 ≤ i) && decide (i < (l : Nat)) then (bif c then X else none) else none) else none) else some tr
noncomputable def ct (r : List AV) : List AV := [.k (.string (r.getD 0 .undef).toS), .sl 25 .any (r.getD 1 .undef).rows, .sl 9 .any (r.getD 2 .undef).rows]
section
variable (L n k : Nat) (rows f : List (List AV)) (s : ByteArray) (R : St → Option Res) (a i : Int) (D : Def)
noncomputable def σ35 (i : Int) : St := ⟨tm 32 [(1, .sl 25 .any rows), (2, f36), (15, .sl 25 .any rows), (16, i64 (rows.length : Nat)), (17, i64 i)], [], []⟩
noncomputable def σ78 (i : Int) : St := ⟨tm 32 [(1, .sl 77 .any rows), (2, f79), (15, .sl 77 .any rows), (16, i64 (rows.length : Nat)), (17, i64 i)], [], []⟩
noncomputable def σ37 (i : Int) : St := ⟨tm 32 [(1, .sl 52 .any rows), (2, f34), (15, .sl 52 .any rows), (16, i64 (rows.length : Nat)), (17, i64 i)], [], []⟩
noncomputable def σ77 (i : Int) : St := ⟨tm 26 [(0, .sl 9 .any rows), (1, .sl 9 .any rows), (12, i64 (rows.length : Nat)), (13, i64 i)], [], []⟩
noncomputable def lenQ (l : List (List AV)) (X : Option Res) : Option Res := bif ((l.length : Nat) : Int) != ((l.length : Nat) : Int) then some (bl false, []) else X
theorem b35 : ev (G1 L n) (k + 1) 35 [.sl 25 .any rows, .sl 25 .any rows, f36] [] = lenQ rows (loopAt (G1 L n) 35 Try.f35 0 k [1,1,0,1,0] [] k (σ35 rows 0)) := by kernel_rfl
theorem r35 : roundAt (G1 L n) 35 Try.f35 0 k [1,1,0,1,0] [] R (σ35 rows i) = rEq rows.length i (isT n (.agg (trow (rows.getD i.toNat []))) && eqC (AV.agg (trow (rows.getD i.toNat []))) (AV.agg (trow (rows.getD i.toNat [])))) (R (σ35 rows (IntKind.i64.wrap (i + 1)))) := by kernel_rfl
theorem b36 : evTop (G2 L n) k 36 [.agg (TT a s rows), .agg (TT a s rows)] [] = bif a == a then (bif s == s then (bif tyEq n rows rows then some tr else none) else some (bl false, [])) else some (bl false, []) := by kernel_rfl
theorem b77 : ev (G2 L n) (k + 1) 77 [.sl 9 .any rows, .sl 9 .any rows] [] = lenQ rows (loopAt (G2 L n) 77 Try.f77 0 k [1,1,0,1,0] [] k (σ77 rows 0)) := by kernel_rfl
theorem r77 : roundAt (G2 L n) 77 Try.f77 0 k [1,1,0,1,0] [] R (σ77 rows i) = bif decide (i < (rows.length : Nat)) then (bif decide (0 ≤ i) && decide (i < (rows.length : Nat)) then (bif decide (0 ≤ i) && decide (i < (rows.length : Nat)) then
  (bif !(((rows.getD i.toNat []).getD 0 .undef).toS == ((rows.getD i.toNat []).getD 0 .undef).toS) then some (bl false, []) else R (σ77 rows (IntKind.i64.wrap (i + 1)))) else none) else none) else some tr := by kernel_rfl
theorem b79 : ev (G3 L n) (k + 1) 79 [.agg (crow s rows f), .agg (crow s rows f)] [] = bif s == s then (bif tyEq n rows rows then (bif psEq f f then some tr else none) else none) else some (bl false, []) := by kernel_rfl
theorem b78 : ev (G4 L n) (k + 1) 78 [.sl 77 .any rows, .sl 77 .any rows, f79] [] = lenQ rows (loopAt (G4 L n) 78 Try.f78 0 k [1,1,0,1,0] [] k (σ78 rows 0)) := by kernel_rfl
theorem r78 : roundAt (G4 L n) 78 Try.f78 0 k [1,1,0,1,0] [] R (σ78 rows i) = rEq rows.length i (isCt n (.agg (ct (rows.getD i.toNat []))) && eqC (AV.agg (ct (rows.getD i.toNat []))) (AV.agg (ct (rows.getD i.toNat [])))) (R (σ78 rows (IntKind.i64.wrap (i + 1)))) := by kernel_rfl
noncomputable def ifT (c : Bool) (X : Option Res) : Option Res := bif c then X else some (bl false, [])
noncomputable def ifN (c : Bool) (X : Option Res) : Option Res := bif c then X else none
theorem b34 : ev (G5 L n) (k + 1) 34 [.agg (D.cells (.sl 77 .any rows)), .agg (D.cells (.sl 77 .any rows))] [] = ifT (D.name == D.name) (ifT (D.kind == D.kind) (ifT (D.pub == D.pub) (ifT (D.at_ == D.at_)
  (ifN (psEq D.params D.params) (ifN (isT n (.agg (TT D.sk D.sn D.sr)) && eqC (AV.agg (TT D.sk D.sn D.sr)) (AV.agg (TT D.sk D.sn D.sr))) (ifN (ctEq n rows rows) (some tr))))))) := by kernel_rfl
theorem b37 : ev (G6 L n) (k + 1) 37 [.sl 52 .any rows, .sl 52 .any rows, f34] [] = lenQ rows (loopAt (G6 L n) 37 Try.f37 0 k [1,1,0,1,0] [] k (σ37 rows 0)) := by kernel_rfl
theorem r37 : roundAt (G6 L n) 37 Try.f37 0 k [1,1,0,1,0] [] R (σ37 rows i) = rEq rows.length i (isD n (.agg (drow (rows.getD i.toNat []))) && eqC (AV.agg (drow (rows.getD i.toNat []))) (AV.agg (drow (rows.getD i.toNat [])))) (R (σ37 rows (IntKind.i64.wrap (i + 1)))) := by kernel_rfl
end
end
end Go.Proofs.Ytciighngjnjmlaa.W
namespace Go.Proofs.Ytciighngjnjmlaa.W
open Go.Fw
set_option maxRecDepth 100000
noncomputable section
theorem lenQ_eq (l : List (List AV)) (X : Option Res) : lenQ l X = X := by
  unfold lenQ
  have : (((l.length : Nat) : Int) != ((l.length : Nat) : Int)) = false := by simp
  rw [this]; rfl
theorem rEq_on {l : Nat} {i : Nat} {X : Option Res} (h : i < l) : rEq l (i : Int) true X = X := by
  unfold rEq
  rw [decide_eq_true (by omega : (i : Int) < (l : Nat)), decide_eq_true (by omega : 0 ≤ (i : Int))]
  rfl
theorem rEq_off {l : Nat} {c : Bool} {X : Option Res} : rEq l ((l : Nat) : Int) c X = some tr := by
  unfold rEq
  rw [decide_eq_false (by omega : ¬ ((l : Nat) : Int) < (l : Nat))]
  rfl
theorem loop_all {S : FSys} {f : FuncId} {fn : Func} {m k : Nat} {p ms : List Nat} {rows : List (List AV)} (σ : Int → St) (c : Int → Bool) (fin : Option Res)
    (h : ∀ (R : St → Option Res) (i : Nat) (hi : i < rows.length), roundAt S f fn m k p ms R (σ i) = R (σ ((i + 1 : Nat) : Int)))
    (he : ∀ (R : St → Option Res), roundAt S f fn m k p ms R (σ (rows.length : Nat)) = fin) (n : Nat) (hn : rows.length < n) : loopAt S f fn m k p ms n (σ 0) = fin := by
  have L := loop_list (S := S) (f := f) (fn := fn) (m := m) (k := k) (p := p) (ms := ms) (rows := rows) (A := Unit) (fun _ i => σ i) (fun _ _ => false) (fun _ _ => none) (fun c _ => c) (fun _ => fin)
    (fun R _ i hi => (h R i hi).trans rfl) (fun R _ => he R) n 0 () (Nat.zero_le _) (by omega)
  refine L.trans ?_
  rw [List.drop_zero]
  exact foldS_sum (A := Unit) (fun c _ => c) (fun _ => fin) (fun _ _ => none) rows ()
theorem beq_fn {h g : Nat} {X : Option (Bool × Res)} {r : Res} (e : (bif Nat.beq h g then X else none) = some (true, r)) : h = g ∧ X = some (true, r) := by
  cases hb : Nat.beq h g with
  | false => rw [hb] at e; cases e
  | true => rw [hb] at e; exact ⟨Nat.eq_of_beq_eq_true hb, e⟩
theorem F36_inv {n : Nat} {args : List AV} {st : List AObj} {r : Res} (h : F36 n args st = some (true, r)) : ∃ v, args = [v, v] ∧ st = [] ∧ isT n v = true ∧ r = tr := by
  unfold F36 at h
  split at h
  · rename_i v w
    simp only [Option.some.injEq, Prod.mk.injEq, Bool.and_eq_true, eqC_iff] at h
    obtain ⟨⟨h1, rfl⟩, rfl⟩ := h
    exact ⟨v, rfl, rfl, h1, rfl⟩
  · cases h
theorem F79_inv {n : Nat} {args : List AV} {st : List AObj} {r : Res} (h : F79 n args st = some (true, r)) : ∃ v, args = [v, v] ∧ st = [] ∧ isCt n v = true ∧ r = tr := by
  unfold F79 at h
  split at h
  · rename_i v w
    simp only [Option.some.injEq, Prod.mk.injEq, Bool.and_eq_true, eqC_iff] at h
    obtain ⟨⟨h1, rfl⟩, rfl⟩ := h
    exact ⟨v, rfl, rfl, h1, rfl⟩
  · cases h
theorem F34_inv {n : Nat} {args : List AV} {st : List AObj} {r : Res} (h : F34 n args st = some (true, r)) : ∃ v, args = [v, v] ∧ st = [] ∧ isD n v = true ∧ r = tr := by
  unfold F34 at h
  split at h
  · rename_i v w
    simp only [Option.some.injEq, Prod.mk.injEq, Bool.and_eq_true, eqC_iff] at h
    obtain ⟨⟨h1, rfl⟩, rfl⟩ := h
    exact ⟨v, rfl, rfl, h1, rfl⟩
  · cases h
theorem F35_inv {n : Nat} {args : List AV} {st : List AObj} {r : Res} (h : F35 n args st = some (true, r)) : ∃ a, args = [.sl 25 .any a, .sl 25 .any a, f36] ∧ st = [] ∧ tyOk n a = true ∧ r = tr := by
  unfold F35 at h
  split at h
  · rename_i a b g
    obtain ⟨rfl, h2⟩ := beq_fn h
    unfold tyEq at h2
    simp only [Option.some.injEq, Prod.mk.injEq, Bool.and_eq_true, eqC_iff] at h2
    obtain ⟨⟨h1, rfl⟩, rfl⟩ := h2
    exact ⟨a, rfl, rfl, h1, rfl⟩
  · cases h
theorem F77_inv {args : List AV} {st : List AObj} {r : Res} (h : F77 args st = some (true, r)) : ∃ a, args = [.sl 9 .any a, .sl 9 .any a] ∧ st = [] ∧ psOk a = true ∧ r = tr := by
  unfold F77 at h
  split at h
  · rename_i a b
    unfold psEq at h
    simp only [Option.some.injEq, Prod.mk.injEq, Bool.and_eq_true, eqC_iff] at h
    obtain ⟨⟨h1, rfl⟩, rfl⟩ := h
    exact ⟨a, rfl, rfl, h1, rfl⟩
  · cases h
theorem F78_inv {n : Nat} {args : List AV} {st : List AObj} {r : Res} (h : F78 n args st = some (true, r)) : ∃ a, args = [.sl 77 .any a, .sl 77 .any a, f79] ∧ st = [] ∧ ctOk n a = true ∧ r = tr := by
  unfold F78 at h
  split at h
  · rename_i a b g
    obtain ⟨rfl, h2⟩ := beq_fn h
    unfold ctEq at h2
    simp only [Option.some.injEq, Prod.mk.injEq, Bool.and_eq_true, eqC_iff] at h2
    obtain ⟨⟨h1, rfl⟩, rfl⟩ := h2
    exact ⟨a, rfl, rfl, h1, rfl⟩
  · cases h
theorem F37_inv {n : Nat} {args : List AV} {st : List AObj} {r : Res} (h : F37 n args st = some (true, r)) : ∃ a, args = [.sl 52 .any a, .sl 52 .any a, f34] ∧ st = [] ∧ dfOk n a = true ∧ r = tr := by
  unfold F37 at h
  split at h
  · rename_i a b g
    obtain ⟨rfl, h2⟩ := beq_fn h
    unfold dfEq at h2
    simp only [Option.some.injEq, Prod.mk.injEq, Bool.and_eq_true, eqC_iff] at h2
    obtain ⟨⟨h1, rfl⟩, rfl⟩ := h2
    exact ⟨a, rfl, rfl, h1, rfl⟩
  · cases h
theorem tyOk_iff {n : Nat} {a : List (List AV)} (h : tyOk n a = true) : a.length * 48 ≤ 140737488351232 ∧ ∀ x ∈ a, isTr n x = true := by
  unfold tyOk at h
  rw [Bool.and_eq_true, List.all_eq_true] at h
  exact ⟨Nat.le_of_ble_eq_true h.1, h.2⟩
theorem tyOk_of {n : Nat} {a : List (List AV)} (h1 : a.length * 48 ≤ 140737488351232) (h2 : ∀ x ∈ a, isTr n x = true) : tyOk n a = true := by
  unfold tyOk
  rw [Bool.and_eq_true, List.all_eq_true]
  exact ⟨Nat.ble_eq_true_of_le h1, h2⟩
theorem step1 {l i : Nat} (h : i < l) (hl : l ≤ 140737488351232) : IntKind.i64.wrap ((i : Int) + 1) = ((i + 1 : Nat) : Int) := by rw [wrap64] <;> omega
theorem told35 (L n : Nat) (args : List AV) (st : List AObj) (r : Res) (h : F35 n args st = some (true, r)) : ∃ k, ev (G1 L n) k 35 args st = some r := by
  obtain ⟨rows, rfl, rfl, h1, rfl⟩ := F35_inv h
  obtain ⟨hl, hr⟩ := tyOk_iff h1
  refine ⟨rows.length + 1 + 1, (b35 L n _ rows).trans ((lenQ_eq _ _).trans ?_)⟩
  exact loop_all (S := G1 L n) (f := 35) (fn := Try.f35) (m := 0) (k := rows.length + 1) (p := [1,1,0,1,0]) (ms := []) (rows := rows) (fun i => σ35 rows i) (fun _ => true) (some tr)
    (fun R i hi => (r35 L n _ rows R i).trans (by
      rw [Int.toNat_natCast, getD_at hi, trow_of (hr _ (List.getElem_mem hi)), isT_agg, hr _ (List.getElem_mem hi), eqC_self, step1 hi (by omega)]
      exact rEq_on hi))
    (fun R => (r35 L n _ rows R _).trans rEq_off) _ (by omega)
theorem top36 (L n : Nat) (v : AV) (h : isT (n + 1) v = true) : ∃ k, evTop (G2 L n) k 36 [v, v] [] = some tr := by
  obtain ⟨a, s, rows, rfl, hl, hr⟩ := isT_some h
  refine ⟨1, (b36 L n 1 rows s a).trans ?_⟩
  have h1 : tyEq n rows rows = true := by unfold tyEq; rw [tyOk_of hl hr, eqC_self]; rfl
  rw [h1, beq_self_eq_true, ba_beq, decide_eq_true (rfl : s = s)]
  rfl
theorem G1Ok (L : Nat) (n : Nat) : SysOk Try.prog (G1 L n) :=
  (sysHOk L).lvRec 36 F36 (G2 L) (fun args st r hF => by obtain ⟨v, _, _, h1, _⟩ := F36_inv hF; rw [isT_zero] at h1; cases h1) (fun n h => h.tell 35 _ (told35 L n)) (fun _ => rfl) (fun _ => rfl)
    (fun n args st r hF => by
      obtain ⟨v, rfl, rfl, h1, rfl⟩ := F36_inv hF
      exact top36 L n v h1) n
theorem G2Ok (L n : Nat) : SysOk Try.prog (G2 L n) := (G1Ok L n).tell 35 _ (told35 L n)
theorem psOk_le {a : List (List AV)} (h : psOk a = true) : a.length ≤ 140737488351232 := Nat.le_of_ble_eq_true h
theorem told77 (L n : Nat) (args : List AV) (st : List AObj) (r : Res) (h : F77 args st = some (true, r)) : ∃ k, ev (G2 L n) k 77 args st = some r := by
  obtain ⟨rows, rfl, rfl, h1, rfl⟩ := F77_inv h
  have hl := psOk_le h1
  refine ⟨rows.length + 1 + 1, (b77 L n _ rows).trans ((lenQ_eq _ _).trans ?_)⟩
  exact loop_all (S := G2 L n) (f := 77) (fn := Try.f77) (m := 0) (k := rows.length + 1) (p := [1,1,0,1,0]) (ms := []) (rows := rows) (fun i => σ77 rows i) (fun _ => true) (some tr)
    (fun R i hi => (r77 L n _ rows R i).trans (by
      rw [ba_beq, decide_eq_true rfl, step1 hi hl, decide_eq_true (by omega : (i : Int) < (rows.length : Nat)), decide_eq_true (by omega : 0 ≤ (i : Int))]
      rfl))
    (fun R => (r77 L n _ rows R _).trans (by rw [decide_eq_false (by omega : ¬ ((rows.length : Nat) : Int) < (rows.length : Nat))]; rfl)) _ (by omega)
theorem G3Ok (L n : Nat) : SysOk Try.prog (G3 L n) := (G2Ok L n).tell 77 _ (told77 L n)
theorem isCt_ex {n : Nat} {v : AV} (h : isCt n v = true) : ∃ s a f, v = .agg (crow s a f) ∧ a.length * 48 ≤ 140737488351232 ∧ (∀ x ∈ a, isTr n x = true) ∧ f.length ≤ 140737488351232 := by
  cases v with
  | agg r =>
    obtain ⟨s, a, f, rfl, h1, h2, h3, _⟩ := isRow77 (n := n) (r := r) h
    exact ⟨s, a, f, rfl, h1, h2, by omega⟩
  | _ => cases h
theorem sS (s : ByteArray) : (s == s) = true := by rw [ba_beq]; exact decide_eq_true rfl
theorem tyEq_of {n : Nat} {a : List (List AV)} (h1 : a.length * 48 ≤ 140737488351232) (h2 : ∀ x ∈ a, isTr n x = true) : tyEq n a a = true := by unfold tyEq; rw [tyOk_of h1 h2, eqC_self]; rfl
theorem psEq_of {a : List (List AV)} (h : a.length ≤ 140737488351232) : psEq a a = true := by unfold psEq psOk; rw [Nat.ble_eq_true_of_le h, eqC_self]; rfl
theorem G4Ok (L n : Nat) : SysOk Try.prog (G4 L n) := (G3Ok L n).tell 79 _ fun args st r h => by
  obtain ⟨v, rfl, rfl, h1, rfl⟩ := F79_inv h
  obtain ⟨s, a, f, rfl, h2, h3, h4⟩ := isCt_ex h1
  refine ⟨0 + 1, (b79 L n 0 a f s).trans ?_⟩
  rw [sS, tyEq_of h2 h3, psEq_of h4]
  rfl
theorem ctOk_iff {n : Nat} {a : List (List AV)} (h : ctOk n a = true) : a.length ≤ 140737488351232 ∧ ∀ x ∈ a, isRow tab 77 (n + 1) x = true := by
  unfold ctOk at h
  rw [Bool.and_eq_true, List.all_eq_true] at h
  exact ⟨Nat.le_of_ble_eq_true h.1, h.2⟩
theorem ct_of {n : Nat} {r : List AV} (h : isRow tab 77 (n + 1) r = true) : ct r = r := by
  obtain ⟨s, a, f, rfl, _⟩ := isRow77 h
  rfl
theorem G5Ok (L n : Nat) : SysOk Try.prog (G5 L n) := (G4Ok L n).tell 78 _ fun args st r h => by
  obtain ⟨rows, rfl, rfl, h1, rfl⟩ := F78_inv h
  obtain ⟨hl, hr⟩ := ctOk_iff h1
  refine ⟨rows.length + 1 + 1, (b78 L n _ rows).trans ((lenQ_eq _ _).trans ?_)⟩
  exact loop_all (S := G4 L n) (f := 78) (fn := Try.f78) (m := 0) (k := rows.length + 1) (p := [1,1,0,1,0]) (ms := []) (rows := rows) (fun i => σ78 rows i) (fun _ => true) (some tr)
    (fun R i hi => (r78 L n _ rows R i).trans (by
      have hx := hr _ (List.getElem_mem hi)
      have hc : isCt n (.agg rows[i]) = true := hx
      rw [Int.toNat_natCast, getD_at hi, ct_of hx, hc, eqC_self, step1 hi (by omega)]
      exact rEq_on hi))
    (fun R => (r78 L n _ rows R _).trans rEq_off) _ (by omega)
theorem ctEq_of {n : Nat} {a : List (List AV)} (h1 : a.length ≤ 140737488351232) (h2 : ∀ x ∈ a, isRow tab 77 (n + 1) x = true) : ctEq n a a = true := by
  unfold ctEq ctOk
  rw [Nat.ble_eq_true_of_le h1, List.all_eq_true.2 h2, eqC_self]; rfl
theorem G6Ok (L n : Nat) : SysOk Try.prog (G6 L n) := (G5Ok L n).tell 34 _ fun args st r h => by
  obtain ⟨v, rfl, rfl, h1, rfl⟩ := F34_inv h
  cases v with
  | agg r =>
    cases n with
    | zero => simp [isD, isDr, isRow_zero] at h1
    | succ n =>
      obtain ⟨D, ctors, rfl, hp, hT, hl, _, hc⟩ := isDr_some (n := n) (r := r) h1
      refine ⟨0 + 1, (b34 L (n + 1) 0 ctors D).trans ?_⟩
      have hc2 : ∀ x ∈ ctors, isRow tab 77 (n + 1 + 1) x = true := fun x hx => isRow_step (isRow_step (hc x hx))
      rw [sS, beq_self_eq_true, beq_self_eq_true, beq_self_eq_true, psEq_of (by omega), hT, eqC_self, ctEq_of (by omega) hc2]
      rfl
  | _ => cases h1
theorem dfOk_iff {n : Nat} {a : List (List AV)} (h : dfOk n a = true) : a.length ≤ 140737488351232 ∧ ∀ x ∈ a, isDr n x = true := by
  unfold dfOk at h
  rw [Bool.and_eq_true, List.all_eq_true] at h
  exact ⟨Nat.le_of_ble_eq_true h.1, h.2⟩
noncomputable def G7 (L n : Nat) : FSys := (G6 L n).tell 37 (F37 n)
theorem G7Ok (L n : Nat) : SysOk Try.prog (G7 L n) := (G6Ok L n).tell 37 _ fun args st r h => by
  obtain ⟨rows, rfl, rfl, h1, rfl⟩ := F37_inv h
  obtain ⟨hl, hr⟩ := dfOk_iff h1
  refine ⟨rows.length + 1 + 1, (b37 L n _ rows).trans ((lenQ_eq _ _).trans ?_)⟩
  exact loop_all (S := G6 L n) (f := 37) (fn := Try.f37) (m := 0) (k := rows.length + 1) (p := [1,1,0,1,0]) (ms := []) (rows := rows) (fun i => σ37 rows i) (fun _ => true) (some tr)
    (fun R i hi => (r37 L n _ rows R i).trans (by
      have hx := hr _ (List.getElem_mem hi)
      have hc : isD n (.agg rows[i]) = true := hx
      rw [Int.toNat_natCast, getD_at hi, drow_of hx, hc, eqC_self, step1 hi (by omega)]
      exact rEq_on hi))
    (fun R => (r37 L n _ rows R _).trans rEq_off) _ (by omega)
end
end Go.Proofs.Ytciighngjnjmlaa.W
