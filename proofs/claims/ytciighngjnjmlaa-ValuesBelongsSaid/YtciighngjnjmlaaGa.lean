/- A part of the proofs over these laws: what its functions come to. No conditions. -/
import Derived.Test.YtciighngjnjmlaaS
import Derived.Test.YtciighngjnjmlaaFwZg
set_option linter.all false
namespace Go.Proofs.Ytciighngjnjmlaa.W
open Go.Fw
set_option maxRecDepth 100000
theorem tabOk : TabOk Try.prog tab := tab_ok (by kernel_rfl)
theorem bodyOk0 : ([3, 4, 5, 6, 7, 8, 9, 10] : List Nat).all (bodyB Try.prog ann) = true := by kernel_rfl
theorem bodyOk1 : ([11, 12, 13, 14, 15, 16, 17, 18] : List Nat).all (bodyB Try.prog ann) = true := by kernel_rfl
theorem bodyOk2 : ([19, 20, 21, 22, 23, 24, 25, 26] : List Nat).all (bodyB Try.prog ann) = true := by kernel_rfl
theorem bodyOk3 : ([27, 28, 29, 30, 31, 32, 33, 34] : List Nat).all (bodyB Try.prog ann) = true := by kernel_rfl
theorem bodyOk4 : ([35, 36, 37, 38, 39, 40, 41, 42] : List Nat).all (bodyB Try.prog ann) = true := by kernel_rfl
theorem bodyOk5 : ([43, 44, 45, 46, 54, 55, 56, 57] : List Nat).all (bodyB Try.prog ann) = true := by kernel_rfl
theorem bodyOk6 : ([58, 59, 60, 61, 62, 63, 64, 65] : List Nat).all (bodyB Try.prog ann) = true := by kernel_rfl
theorem bodyOk7 : ([66, 67, 68, 69, 70, 71, 72, 73] : List Nat).all (bodyB Try.prog ann) = true := by kernel_rfl
theorem bodyOk8 : ([74, 75, 76, 77, 78, 79, 80, 81] : List Nat).all (bodyB Try.prog ann) = true := by kernel_rfl
theorem bodyOk9 : ([82, 83, 84, 85, 86, 87, 88, 89] : List Nat).all (bodyB Try.prog ann) = true := by kernel_rfl
theorem bodyOk10 : ([90, 91, 92, 93, 94, 95, 96, 97] : List Nat).all (bodyB Try.prog ann) = true := by kernel_rfl
theorem bodyOk11 : ([98, 99, 100, 101, 102, 103, 104, 105] : List Nat).all (bodyB Try.prog ann) = true := by kernel_rfl
theorem bodyOk12 : ([106, 107, 108, 109, 110, 111, 112, 113] : List Nat).all (bodyB Try.prog ann) = true := by kernel_rfl
theorem bodyOk13 : ([114, 115, 116, 117, 121, 122, 123, 124] : List Nat).all (bodyB Try.prog ann) = true := by kernel_rfl
theorem bodyOk14 : ([125, 126, 127, 128, 129, 130, 131, 132] : List Nat).all (bodyB Try.prog ann) = true := by kernel_rfl
theorem bodyOk15 : ([133, 134, 135, 136, 138] : List Nat).all (bodyB Try.prog ann) = true := by kernel_rfl
theorem bodyOk : fns.all (bodyB Try.prog ann) = true := by
  have e : fns = ([3, 4, 5, 6, 7, 8, 9, 10] : List Nat) ++ (([11, 12, 13, 14, 15, 16, 17, 18] : List Nat) ++ (([19, 20, 21, 22, 23, 24, 25, 26] : List Nat) ++ (([27, 28, 29, 30, 31, 32, 33, 34] : List Nat) ++ (([35, 36, 37, 38, 39, 40, 41, 42] : List Nat) ++ (([43, 44, 45, 46, 54, 55, 56, 57] : List Nat) ++ (([58, 59, 60, 61, 62, 63, 64, 65] : List Nat) ++ (([66, 67, 68, 69, 70, 71, 72, 73] : List Nat) ++ (([74, 75, 76, 77, 78, 79, 80, 81] : List Nat) ++ (([82, 83, 84, 85, 86, 87, 88, 89] : List Nat) ++ (([90, 91, 92, 93, 94, 95, 96, 97] : List Nat) ++ (([98, 99, 100, 101, 102, 103, 104, 105] : List Nat) ++ (([106, 107, 108, 109, 110, 111, 112, 113] : List Nat) ++ (([114, 115, 116, 117, 121, 122, 123, 124] : List Nat) ++ (([125, 126, 127, 128, 129, 130, 131, 132] : List Nat) ++ (([133, 134, 135, 136, 138] : List Nat)))))))))))))))) := rfl
  rw [e]
  simp only [List.all_append, bodyOk0, bodyOk1, bodyOk2, bodyOk3, bodyOk4, bodyOk5, bodyOk6, bodyOk7, bodyOk8, bodyOk9, bodyOk10, bodyOk11, bodyOk12, bodyOk13, bodyOk14, bodyOk15, Bool.and_self]
theorem sysOk : SysOk Try.prog sys where
  mixed := by kernel_rfl
  tab := tabOk
  body := fun f fn h => body_ok bodyOk f fn h
  prim := fun f args st r st' h => by change prim f args st = _ at h; unfold prim at h; cases h
  cok := fun f c h => h
end Go.Proofs.Ytciighngjnjmlaa.W
namespace Go.Proofs.Ytciighngjnjmlaa.W
open Go.Fw
set_option maxRecDepth 100000
def fits (b : Nat) (rows : List (List AV)) : Bool := Nat.ble ((0 + rows.length) * b) 140737488355328
def F109 (rows : List (List AV)) : Res := (.sr 0, [.arr 28 .any rows])
def F113 (rows : List (List AV)) : Res := (.sl 9 .any rows, [])
def F114 (rows : List (List AV)) : Res := (.sr 0, [.arr 77 .any rows])
theorem of_fits {c : Bool} {x : Option Res} {r : Res} (h : c = true) (hx : x = bif c then some r else none) : x = some r := by rw [hx, h]; rfl
theorem ev109 (r : List AV) (rs : List (List AV)) (k : Nat) : ev sys (k + 1) 109 [.sl 28 .any (r :: rs)] [] = bif fits 56 (r :: rs) then some (F109 (r :: rs)) else none := by kernel_rfl
theorem ev109w (k : Nat) : ev sys (k + 1) 109 [.sl 28 .wide []] [] = some (F109 []) := by kernel_rfl
theorem ev109n (k : Nat) : ev sys (k + 1) 109 [.sl 28 .nil []] [] = some (F109 []) := by kernel_rfl
noncomputable def sysA1 : FSys := sys.tell 109 (told1 28 (fits 56) F109)
theorem sysA1Ok : SysOk Try.prog sysA1 := sysOk.tellAny1 109 28 (fits 56) F109 (fun r rs h => ⟨1, of_fits h (ev109 r rs 0)⟩) ⟨1, ev109w 0⟩ ⟨1, ev109n 0⟩
theorem ev113 (r : List AV) (rs : List (List AV)) (k : Nat) : ev sysA1 (k + 1) 113 [.sl 9 .any (r :: rs)] [] = bif fits 16 (r :: rs) then some (F113 (r :: rs)) else none := by kernel_rfl
theorem ev113w (k : Nat) : ev sysA1 (k + 1) 113 [.sl 9 .wide []] [] = some (F113 []) := by kernel_rfl
theorem ev113n (k : Nat) : ev sysA1 (k + 1) 113 [.sl 9 .nil []] [] = some (F113 []) := by kernel_rfl
noncomputable def sysA2 : FSys := sysA1.tell 113 (told1 9 (fits 16) F113)
theorem sysA2Ok : SysOk Try.prog sysA2 := sysA1Ok.tellAny1 113 9 (fits 16) F113 (fun r rs h => ⟨1, of_fits h (ev113 r rs 0)⟩) ⟨1, ev113w 0⟩ ⟨1, ev113n 0⟩
theorem ev114 (r : List AV) (rs : List (List AV)) (k : Nat) : ev sysA2 (k + 1) 114 [.sl 77 .any (r :: rs)] [] = bif fits 64 (r :: rs) then some (F114 (r :: rs)) else none := by kernel_rfl
theorem ev114w (k : Nat) : ev sysA2 (k + 1) 114 [.sl 77 .wide []] [] = some (F114 []) := by kernel_rfl
theorem ev114n (k : Nat) : ev sysA2 (k + 1) 114 [.sl 77 .nil []] [] = some (F114 []) := by kernel_rfl
noncomputable def sysA : FSys := sysA2.tell 114 (told1 77 (fits 64) F114)
theorem sysAOk : SysOk Try.prog sysA := sysA2Ok.tellAny1 114 77 (fits 64) F114 (fun r rs h => ⟨1, of_fits h (ev114 r rs 0)⟩) ⟨1, ev114w 0⟩ ⟨1, ev114n 0⟩
end Go.Proofs.Ytciighngjnjmlaa.W
namespace Go.Proofs.Ytciighngjnjmlaa.W
open Go.Fw
set_option maxRecDepth 100000
noncomputable section
def vrow (r : List AV) : List AV := [.k (.int .i64 (r.getD 0 .undef).toI), .k (.int .i64 (r.getD 1 .undef).toI), .k (.string (r.getD 2 .undef).toS), .sl 28 .any (r.getD 3 .undef).rows]
abbrev VV (a b : Int) (s : ByteArray) (rows : List (List AV)) : List AV := [.k (.int .i64 a), .k (.int .i64 b), .k (.string s), .sl 28 .any rows]
def isV (n : Nat) (v : AV) : Bool := isVal tab 28 n v
def isVr (n : Nat) (r : List AV) : Bool := isRow tab 28 n r
theorem isV_agg (n : Nat) (r : List AV) : isV n (.agg r) = isVr n r := rfl
theorem cts28 : cts tab 28 = [.int .i64, .int .i64, .str, .sl 28] := by kernel_rfl
theorem bytes28 : bytesT tab 28 = 56 := by kernel_rfl
theorem isVr_zero (r : List AV) : isVr 0 r = false := by unfold isVr isRow; simp [deep]
theorem isVr_succ {n : Nat} {r : List AV} (h : isVr (n + 1) r = true) : ∃ a b s rows, r = VV a b s rows ∧ rows.length * 56 ≤ 140737488351232 ∧ ∀ x ∈ rows, isVr n x = true := by
  unfold isVr isRow at h
  rw [Bool.and_eq_true, cts28] at h
  obtain ⟨h1, h2⟩ := h
  obtain ⟨v1, _, rfl, c1, h1⟩ := rowOk_cons h1
  obtain ⟨v2, _, rfl, c2, h1⟩ := rowOk_cons h1
  obtain ⟨v3, _, rfl, c3, h1⟩ := rowOk_cons h1
  obtain ⟨v4, _, rfl, c4, h1⟩ := rowOk_cons h1
  obtain rfl := rowOk_nil h1
  obtain ⟨a, rfl⟩ := CT_int c1
  obtain ⟨b, rfl⟩ := CT_int c2
  obtain ⟨s, rfl⟩ := CT_str c3
  obtain ⟨rows, rfl⟩ := CT_sl c4
  obtain ⟨h3, h4⟩ := deep_sl h2 (t := 28) (rows := rows) (by simp)
  rw [bytes28] at h3
  exact ⟨a, b, s, rows, rfl, h3, h4⟩
theorem vrow_of {n : Nat} {r : List AV} (h : isVr n r = true) : vrow r = r := by
  cases n with
  | zero => rw [isVr_zero] at h; cases h
  | succ n =>
    obtain ⟨a, b, s, rows, rfl, _⟩ := isVr_succ h
    rfl
theorem isV_some {n : Nat} {v : AV} (h : isV (n + 1) v = true) : ∃ a b s rows, v = .agg (VV a b s rows) ∧ rows.length * 56 ≤ 140737488351232 ∧ ∀ x ∈ rows, isVr n x = true := by
  cases v with
  | agg r =>
    obtain ⟨a, b, s, rows, rfl, h1⟩ := isVr_succ (n := n) (r := r) h
    exact ⟨a, b, s, rows, rfl, h1⟩
  | _ => cases h
theorem isV_zero (v : AV) : isV 0 v = false := by
  cases v with
  | agg r => exact isVr_zero r
  | _ => rfl
def FCopy (n : Nat) : List AV → List AObj → Ab Res := fun args st => match args, st with
  | [v], [] => some (isV n v, (v, []))
  | _, _ => none
section
variable (n k : Nat) (a b : Int) (s : ByteArray) (rows out : List (List AV)) (R : St → Option Res) (i : Int)
def sysC (n : Nat) : FSys := sysA.tell 69 (FCopy n)
def e28 : List AV := [.k (.int .i64 0), .k (.int .i64 0), .k (.string ByteArray.empty), .sl 0 .nil []]
def σ69 : St := ⟨tm 24 [(1, .ptr 0 0), (2, .ptr 1 0), (9, .sl 28 .any rows), (10, .k (.int .i64 (rows.length : Nat))), (11, .k (.int .i64 i))], [.box 28 [.k (.int .i64 a), .k (.int .i64 b), .k (.string s), .sl 0 .nil []], .box 28 e28], []⟩
def τ69 : St := ⟨tm 24 [(1, .ptr 0 0), (2, .ptr 1 0), (9, .sl 28 .any rows), (10, .k (.int .i64 (rows.length : Nat))), (11, .k (.int .i64 i))], [.box 28 [.k (.int .i64 a), .k (.int .i64 b), .k (.string s), .sr 2], .box 28 e28, .arr 28 .any out], []⟩
theorem start69 : evTop (sysC n) k 69 [.agg (VV a b s rows)] [] = loopAt (sysC n) 69 Try.f69 0 k [1,1,1,0,1,0] [] k (σ69 a b s rows 0) := by kernel_rfl
theorem round69 : roundAt (sysC n) 69 Try.f69 0 k [1,1,1,0,1,0] [] R (σ69 a b s rows i) =
  bif decide (i < (rows.length : Nat)) then (bif decide (0 ≤ i) && decide (i < (rows.length : Nat)) then (bif isV n (.agg (vrow (rows.getD i.toNat []))) then R (τ69 a b s rows [vrow (rows.getD i.toNat [])] (IntKind.i64.wrap (i + 1))) else none) else none) else some (.agg (VV a b s []), []) := by kernel_rfl
theorem next69 : roundAt (sysC n) 69 Try.f69 0 k [1,1,1,0,1,0] [] R (τ69 a b s rows out i) =
  bif decide (i < (rows.length : Nat)) then (bif decide (0 ≤ i) && decide (i < (rows.length : Nat)) then (bif isV n (.agg (vrow (rows.getD i.toNat []))) then (bif Nat.ble ((out.length + [vrow (rows.getD i.toNat [])].length) * 56) 140737488355328 then R (τ69 a b s rows (out ++ [vrow (rows.getD i.toNat [])]) (IntKind.i64.wrap (i + 1))) else none) else none) else none) else some (.agg (VV a b s out), []) := by kernel_rfl
end
theorem top69 (n : Nat) (v : AV) (h : isV (n + 1) v = true) : ∃ k, evTop (sysC n) k 69 [v] [] = some (v, []) := by
  obtain ⟨a, b, s, rows, rfl, hl, hr⟩ := isV_some h
  refine ⟨rows.length + 1, ?_⟩
  rw [start69]
  have := copy_loop (S := sysC n) (f := 69) (fn := Try.f69) (m := 0) (k := rows.length + 1) (p := [1,1,1,0,1,0]) (ms := []) (rows := rows) (good := fun r => isV n (.agg (vrow r))) (g := vrow) (b := 56) (σ69 a b s rows) (τ69 a b s rows) (fun out => some (.agg (VV a b s out), []))
    (fun R i => round69 n _ a b s rows R i) (fun R out i => next69 n _ a b s rows out R i) (fun x hx => by rw [vrow_of (hr x hx)]; exact hr x hx) hl (by omega) (rows.length + 1) (by omega)
  rw [this]
  have hm : rows.map vrow = rows := (List.map_congr_left fun x hx => vrow_of (hr x hx)).trans (by simp)
  rw [hm]
theorem toldCopy {S : FSys} (hS : SysOk Try.prog S) (g : FuncId) (h : ∀ n v, isV (n + 1) v = true → ∃ k, evTop (S.tell g (FCopy n)) k g [v] [] = some (v, [])) (n : Nat) : SysOk Try.prog (S.tell g (FCopy n)) :=
  hS.tellLv g FCopy (fun args st r h => by
    unfold FCopy at h
    split at h
    · rename_i v; rw [isV_zero] at h; simp at h
    · cases h) (fun n args st r hF => by
    unfold FCopy at hF
    split at hF
    · rename_i v
      simp only [Option.some.injEq, Prod.mk.injEq] at hF
      obtain ⟨hv, rfl⟩ := hF
      exact h n v hv
    · cases hF) n
theorem sysCOk (n : Nat) : SysOk Try.prog (sysC n) := toldCopy sysAOk 69 top69 n
end
end Go.Proofs.Ytciighngjnjmlaa.W
namespace Go.Proofs.Ytciighngjnjmlaa.W
open Go.Fw
set_option maxRecDepth 100000
noncomputable section
def sysD (n : Nat) : FSys := (sysC n).tell 90 (FCopy n)
section
variable (N n k : Nat) (a b : Int) (s : ByteArray) (rows out : List (List AV)) (R : St → Option Res) (i : Int)
def sysDl (N n : Nat) : FSys := (sysC N).tell 90 (FCopy n)
def σ90 : St := ⟨tm 31 [(1, .ptr 0 0), (2, .ptr 1 0), (3, .ptr 2 0), (4, .k (.int .i64 i))], [.box 28 (VV a b s rows), .box 28 e28, .box 28 [.k (.int .i64 a), .k (.int .i64 b), .k (.string s), .sl 0 .nil []]], []⟩
def τ90 : St := ⟨tm 31 [(1, .ptr 0 0), (2, .ptr 1 0), (3, .ptr 2 0), (4, .k (.int .i64 i))], [.box 28 (VV a b s rows), .box 28 e28, .box 28 [.k (.int .i64 a), .k (.int .i64 b), .k (.string s), .sr 3], .arr 28 .any out], []⟩
theorem start90 : evTop (sysDl N n) k 90 [.agg (VV a b s rows)] [] = loopAt (sysDl N n) 90 Try.f90 0 k [1,1,0,1,0] [] k (σ90 a b s rows 0) := by kernel_rfl
theorem round90 : roundAt (sysDl N n) 90 Try.f90 0 k [1,1,0,1,0] [] R (σ90 a b s rows i) =
  bif decide (i < (rows.length : Nat)) then (bif decide (0 ≤ i) && decide (i < (rows.length : Nat)) then (bif isV n (.agg (vrow (rows.getD i.toNat []))) then R (τ90 a b s rows [vrow (rows.getD i.toNat [])] (IntKind.i64.wrap (i + 1))) else none) else none) else some (.agg (VV a b s []), []) := by kernel_rfl
theorem next90 : roundAt (sysDl N n) 90 Try.f90 0 k [1,1,0,1,0] [] R (τ90 a b s rows out i) =
  bif decide (i < (rows.length : Nat)) then (bif decide (0 ≤ i) && decide (i < (rows.length : Nat)) then (bif isV n (.agg (vrow (rows.getD i.toNat []))) then (bif Nat.ble ((out.length + [vrow (rows.getD i.toNat [])].length) * 56) 140737488355328 then R (τ90 a b s rows (out ++ [vrow (rows.getD i.toNat [])]) (IntKind.i64.wrap (i + 1))) else none) else none) else none) else some (.agg (VV a b s out), []) := by kernel_rfl
end
theorem top90 (N n : Nat) (v : AV) (h : isV (n + 1) v = true) : ∃ k, evTop ((sysC N).tell 90 (FCopy n)) k 90 [v] [] = some (v, []) := by
  obtain ⟨a, b, s, rows, rfl, hl, hr⟩ := isV_some h
  refine ⟨rows.length + 1, ?_⟩
  refine (start90 N n _ a b s rows).trans ?_
  have := copy_loop (S := sysDl N n) (f := 90) (fn := Try.f90) (m := 0) (k := rows.length + 1) (p := [1,1,0,1,0]) (ms := []) (rows := rows) (good := fun r => isV n (.agg (vrow r))) (g := vrow) (b := 56) (σ90 a b s rows) (τ90 a b s rows) (fun out => some (.agg (VV a b s out), []))
    (fun R i => round90 N n _ a b s rows R i) (fun R out i => next90 N n _ a b s rows out R i) (fun x hx => by rw [vrow_of (hr x hx)]; exact hr x hx) hl (by omega) (rows.length + 1) (by omega)
  rw [this]
  have hm : rows.map vrow = rows := (List.map_congr_left fun x hx => vrow_of (hr x hx)).trans (by simp)
  rw [hm]
theorem sysDOk (n : Nat) : SysOk Try.prog (sysD n) := toldCopy (sysCOk n) 90 (top90 n) n
def idxN (rows : List (List AV)) (s : ByteArray) : Nat := rows.findIdx fun r => (r.getD 0 .undef).toS == s
def idxI (rows : List (List AV)) (s : ByteArray) : Int := if idxN rows s < rows.length then (idxN rows s : Int) else -1
def F115 : List AV → List AObj → Ab Res := fun args st => match args, st with
  | [.sl 9 .any rows, .k (.string s)], [] => some (Nat.ble rows.length 140737488351232, (.k (.int .i64 (idxI rows s)), []))
  | _, _ => none
section
variable (n k : Nat) (s : ByteArray) (rows : List (List AV)) (R : St → Option Res) (i : Int)
def σ115 : St := ⟨tm 19 [(0, .sl 9 .any rows), (1, .k (.string s)), (7, .k (.int .i64 (rows.length : Nat))), (8, .k (.int .i64 i))], [], []⟩
theorem start115 : ev (sysD n) (k + 1) 115 [.sl 9 .any rows, .k (.string s)] [] = loopAt (sysD n) 115 Try.f115 0 k [1,0,1,0] [] k (σ115 s rows 0) := by kernel_rfl
theorem round115 : roundAt (sysD n) 115 Try.f115 0 k [1,0,1,0] [] R (σ115 s rows i) =
  bif decide (i < (rows.length : Nat)) then (bif decide (0 ≤ i) && decide (i < (rows.length : Nat)) then (bif s == ((rows.getD i.toNat []).getD 0 .undef).toS then some (.k (.int .i64 i), []) else R (σ115 s rows (IntKind.i64.wrap (i + 1)))) else none) else some (.k (.int .i64 (-1)), []) := by kernel_rfl
end
def pS (s : ByteArray) (r : List AV) : Bool := (r.getD 0 .undef).toS == s
def scan (s : ByteArray) (l : List (List AV)) (i : Nat) : Int := if l.findIdx (pS s) < l.length then ((i + l.findIdx (pS s) : Nat) : Int) else -1
theorem ev115 (n : Nat) (s : ByteArray) (rows : List (List AV)) (hl : rows.length ≤ 140737488351232) : ev (sysD n) (rows.length + 1 + 1) 115 [.sl 9 .any rows, .k (.string s)] [] = some (.k (.int .i64 (idxI rows s)), []) := by
  rw [start115]
  have := loop_up (S := sysD n) (f := 115) (fn := Try.f115) (m := 0) (k := rows.length + 1) (p := [1,0,1,0]) (ms := []) (fun i => σ115 s rows i) rows.length (fun i => some (.k (.int .i64 (scan s (rows.drop i) i)), []))
    (fun i hi R hR => by
      have d1 : decide ((i : Int) < (rows.length : Nat)) = true := by simpa using hi
      have d2 : decide (0 ≤ (i : Int)) = true := by simp
      have hw : IntKind.i64.wrap ((i : Int) + 1) = ((i + 1 : Nat) : Int) := by rw [wrap64] <;> omega
      rw [round115, d1, d2, Int.toNat_natCast, getD_at hi, hw]
      simp only [cond_true, Bool.and_self]
      rw [List.drop_eq_getElem_cons hi]
      unfold scan at hR ⊢
      rw [List.findIdx_cons]
      have hpq : (s == (rows[i].getD 0 .undef).toS) = pS s rows[i] := by unfold pS; rw [ba_beq, ba_beq]; exact decide_eq_decide.2 eq_comm
      rw [hpq]
      cases hp : pS s rows[i] with
      | true => simp; omega
      | false =>
        rw [cond_false, hR]
        have e1 : (rows[i] :: List.drop (i + 1) rows).length = (List.drop (i + 1) rows).length + 1 := rfl
        rw [e1]
        simp only [cond_false, Nat.add_lt_add_iff_right]
        have e2 : ((i + 1 + List.findIdx (pS s) (List.drop (i + 1) rows) : Nat) : Int) = ((i + (List.findIdx (pS s) (List.drop (i + 1) rows) + 1) : Nat) : Int) := by congr 1; omega
        rw [e2])
    (fun R => by
      rw [round115]
      simp [scan])
    (rows.length + 1) 0 (Nat.zero_le _) (by omega)
  rw [show ((0 : Int)) = ((0 : Nat) : Int) from rfl, this]
  congr 3
  unfold scan idxI idxN
  simp [pS]
  rfl
def sysE (n : Nat) : FSys := (sysD n).tell 115 F115
theorem sysEOk (n : Nat) : SysOk Try.prog (sysE n) := (sysDOk n).tell 115 F115 fun args st r h => by
  unfold F115 at h
  split at h
  · rename_i rows s
    simp only [Option.some.injEq, Prod.mk.injEq] at h
    obtain ⟨hl, rfl⟩ := h
    exact ⟨_, ev115 n s rows (Nat.le_of_ble_eq_true hl)⟩
  · cases h
end
end Go.Proofs.Ytciighngjnjmlaa.W
namespace Go.Proofs.Ytciighngjnjmlaa.W
open Go.Fw
set_option maxRecDepth 100000
noncomputable section
def trow (r : List AV) : List AV := [.k (.int .i64 (r.getD 0 .undef).toI), .k (.string (r.getD 1 .undef).toS), .sl 25 .any (r.getD 2 .undef).rows]
abbrev TT (a : Int) (s : ByteArray) (rows : List (List AV)) : List AV := [.k (.int .i64 a), .k (.string s), .sl 25 .any rows]
def isT (n : Nat) (v : AV) : Bool := isVal tab 25 n v
def isTr (n : Nat) (r : List AV) : Bool := isRow tab 25 n r
theorem cts25 : cts tab 25 = [.int .i64, .str, .sl 25] := by kernel_rfl
theorem bytes25 : bytesT tab 25 = 48 := by kernel_rfl
theorem isTr_zero (r : List AV) : isTr 0 r = false := by unfold isTr isRow; simp [deep]
theorem isTr_succ {n : Nat} {r : List AV} (h : isTr (n + 1) r = true) : ∃ a s rows, r = TT a s rows ∧ rows.length * 48 ≤ 140737488351232 ∧ ∀ x ∈ rows, isTr n x = true := by
  unfold isTr isRow at h
  rw [Bool.and_eq_true, cts25] at h
  obtain ⟨h1, h2⟩ := h
  obtain ⟨v1, _, rfl, c1, h1⟩ := rowOk_cons h1
  obtain ⟨v3, _, rfl, c3, h1⟩ := rowOk_cons h1
  obtain ⟨v4, _, rfl, c4, h1⟩ := rowOk_cons h1
  obtain rfl := rowOk_nil h1
  obtain ⟨a, rfl⟩ := CT_int c1
  obtain ⟨s, rfl⟩ := CT_str c3
  obtain ⟨rows, rfl⟩ := CT_sl c4
  obtain ⟨h3, h4⟩ := deep_sl h2 (t := 25) (rows := rows) (by simp)
  rw [bytes25] at h3
  exact ⟨a, s, rows, rfl, h3, h4⟩
theorem trow_of {n : Nat} {r : List AV} (h : isTr n r = true) : trow r = r := by
  cases n with
  | zero => rw [isTr_zero] at h; cases h
  | succ n =>
    obtain ⟨a, s, rows, rfl, _⟩ := isTr_succ h
    rfl
theorem isT_some {n : Nat} {v : AV} (h : isT (n + 1) v = true) : ∃ a s rows, v = .agg (TT a s rows) ∧ rows.length * 48 ≤ 140737488351232 ∧ ∀ x ∈ rows, isTr n x = true := by
  cases v with
  | agg r =>
    obtain ⟨a, s, rows, rfl, h1⟩ := isTr_succ (n := n) (r := r) h
    exact ⟨a, s, rows, rfl, h1⟩
  | _ => cases h
theorem isT_zero (v : AV) : isT 0 v = false := by
  cases v with
  | agg r => exact isTr_zero r
  | _ => rfl
def FCopyT (n : Nat) : List AV → List AObj → Ab Res := fun args st => match args, st with
  | [v], [] => some (isT n v, (v, []))
  | _, _ => none
def FPut0 (n : Nat) : List AV → List AObj → Ab Res := fun args st => match args, st with
  | [v, .sl 9 .any [], .sl 25 .any _], [] => some (isT n v, (v, []))
  | _, _ => none
def sysF (n : Nat) : FSys := (sysE n).tell 116 (FCopyT n)
def sysG (n : Nat) : FSys := (sysF n).tell 73 (FPut0 n)
section
variable (N n k : Nat) (a : Int) (s : ByteArray) (rows out types : List (List AV)) (R : St → Option Res) (i : Int)
def sysFl (N n : Nat) : FSys := (sysE N).tell 116 (FCopyT n)
def sysGl (N n : Nat) : FSys := (sysF N).tell 73 (FPut0 n)
def e25 : List AV := [.k (.int .i64 0), .k (.string ByteArray.empty), .sl 0 .nil []]
def σ116 : St := ⟨tm 29 [(1, .ptr 0 0), (2, .ptr 1 0), (3, .ptr 2 0), (4, .k (.int .i64 i))], [.box 25 (TT a s rows), .box 25 e25, .box 25 [.k (.int .i64 a), .k (.string s), .sl 0 .nil []]], []⟩
def τ116 : St := ⟨tm 29 [(1, .ptr 0 0), (2, .ptr 1 0), (3, .ptr 2 0), (4, .k (.int .i64 i))], [.box 25 (TT a s rows), .box 25 e25, .box 25 [.k (.int .i64 a), .k (.string s), .sr 3], .arr 25 .any out], []⟩
theorem start116 : evTop (sysFl N n) k 116 [.agg (TT a s rows)] [] = loopAt (sysFl N n) 116 Try.f116 0 k [1,1,0,1,0] [] k (σ116 a s rows 0) := by kernel_rfl
theorem round116 : roundAt (sysFl N n) 116 Try.f116 0 k [1,1,0,1,0] [] R (σ116 a s rows i) =
  bif decide (i < (rows.length : Nat)) then (bif decide (0 ≤ i) && decide (i < (rows.length : Nat)) then (bif isT n (.agg (trow (rows.getD i.toNat []))) then R (τ116 a s rows [trow (rows.getD i.toNat [])] (IntKind.i64.wrap (i + 1))) else none) else none) else some (.agg (TT a s []), []) := by kernel_rfl
theorem next116 : roundAt (sysFl N n) 116 Try.f116 0 k [1,1,0,1,0] [] R (τ116 a s rows out i) =
  bif decide (i < (rows.length : Nat)) then (bif decide (0 ≤ i) && decide (i < (rows.length : Nat)) then (bif isT n (.agg (trow (rows.getD i.toNat []))) then (bif Nat.ble ((out.length + [trow (rows.getD i.toNat [])].length) * 48) 140737488355328 then R (τ116 a s rows (out ++ [trow (rows.getD i.toNat [])]) (IntKind.i64.wrap (i + 1))) else none) else none) else none) else some (.agg (TT a s out), []) := by kernel_rfl
def σ73 (params : List (List AV)) : St := ⟨tm 45 [(1, .sl 9 .any params), (2, .sl 25 .any types), (3, .ptr 0 0), (6, .ptr 1 0), (28, .sl 25 .any rows), (29, .k (.int .i64 (rows.length : Nat))), (30, .k (.int .i64 i))], [.box 25 [.k (.int .i64 a), .k (.string s), .sl 0 .nil []], .box 25 e25], []⟩
def τ73 (params : List (List AV)) : St := ⟨tm 45 [(1, .sl 9 .any params), (2, .sl 25 .any types), (3, .ptr 0 0), (6, .ptr 1 0), (28, .sl 25 .any rows), (29, .k (.int .i64 (rows.length : Nat))), (30, .k (.int .i64 i))], [.box 25 [.k (.int .i64 a), .k (.string s), .sr 2], .box 25 e25, .arr 25 .any out], []⟩
theorem start73 : evTop (sysGl N n) k 73 [.agg (TT a s rows), .sl 9 .any [], .sl 25 .any types] [] = bif a == 0 then (bif decide (idxI [] s ≥ 0) then (bif decide (0 ≤ idxI [] s) && decide (idxI [] s < (types.length : Nat)) then (bif isT n (.agg (trow (types.getD (idxI [] s).toNat []))) then some (.agg (trow (types.getD (idxI [] s).toNat [])), []) else none) else none)
    else loopAt (sysGl N n) 73 Try.f73 0 k [1,1,1,1,0,1,0] [] k (σ73 a s rows types 0 [])) else loopAt (sysGl N n) 73 Try.f73 0 k [1,1,1,1,0,1,0] [] k (σ73 a s rows types 0 []) := by kernel_rfl
theorem round73 : roundAt (sysGl N n) 73 Try.f73 0 k [1,1,1,1,0,1,0] [] R (σ73 a s rows types i []) =
  bif decide (i < (rows.length : Nat)) then (bif decide (0 ≤ i) && decide (i < (rows.length : Nat)) then (bif isT n (.agg (trow (rows.getD i.toNat []))) then R (τ73 a s rows [trow (rows.getD i.toNat [])] types (IntKind.i64.wrap (i + 1)) []) else none) else none) else some (.agg (TT a s []), []) := by kernel_rfl
theorem next73 : roundAt (sysGl N n) 73 Try.f73 0 k [1,1,1,1,0,1,0] [] R (τ73 a s rows out types i []) =
  bif decide (i < (rows.length : Nat)) then (bif decide (0 ≤ i) && decide (i < (rows.length : Nat)) then (bif isT n (.agg (trow (rows.getD i.toNat []))) then (bif Nat.ble ((out.length + [trow (rows.getD i.toNat [])].length) * 48) 140737488355328 then R (τ73 a s rows (out ++ [trow (rows.getD i.toNat [])]) types (IntKind.i64.wrap (i + 1)) []) else none) else none) else none) else some (.agg (TT a s out), []) := by kernel_rfl
end
theorem map_trow {n : Nat} {rows : List (List AV)} (hr : ∀ x ∈ rows, isTr n x = true) : rows.map trow = rows := (List.map_congr_left fun x hx => trow_of (hr x hx)).trans (by simp)
theorem top116 (N n : Nat) (v : AV) (h : isT (n + 1) v = true) : ∃ k, evTop (sysFl N n) k 116 [v] [] = some (v, []) := by
  obtain ⟨a, s, rows, rfl, hl, hr⟩ := isT_some h
  refine ⟨rows.length + 1, ?_⟩
  refine (start116 N n _ a s rows).trans ?_
  have := copy_loop (S := sysFl N n) (f := 116) (fn := Try.f116) (m := 0) (k := rows.length + 1) (p := [1,1,0,1,0]) (ms := []) (rows := rows) (good := fun r => isT n (.agg (trow r))) (g := trow) (b := 48) (σ116 a s rows) (τ116 a s rows) (fun out => some (.agg (TT a s out), []))
    (fun R i => round116 N n _ a s rows R i) (fun R out i => next116 N n _ a s rows out R i) (fun x hx => by rw [trow_of (hr x hx)]; exact hr x hx) hl (by omega) (rows.length + 1) (by omega)
  rw [this, map_trow hr]
theorem sysFOk (n : Nat) : SysOk Try.prog (sysF n) := (sysEOk n).tellLv 116 FCopyT (fun args st r h => by
    unfold FCopyT at h
    split at h
    · rename_i v; rw [isT_zero] at h; simp at h
    · cases h) (fun m args st r hF => by
    unfold FCopyT at hF
    split at hF
    · rename_i v
      simp only [Option.some.injEq, Prod.mk.injEq] at hF
      obtain ⟨hv, rfl⟩ := hF
      exact top116 n m v hv
    · cases hF) n
theorem idxI_nil (s : ByteArray) : idxI [] s = -1 := by simp [idxI, idxN]
theorem top73 (N n : Nat) (v : AV) (types : List (List AV)) (h : isT (n + 1) v = true) : ∃ k, evTop (sysGl N n) k 73 [v, .sl 9 .any [], .sl 25 .any types] [] = some (v, []) := by
  obtain ⟨a, s, rows, rfl, hl, hr⟩ := isT_some h
  refine ⟨rows.length + 1, ?_⟩
  refine (start73 N n _ a s rows types).trans ?_
  have := copy_loop (S := sysGl N n) (f := 73) (fn := Try.f73) (m := 0) (k := rows.length + 1) (p := [1,1,1,1,0,1,0]) (ms := []) (rows := rows) (good := fun r => isT n (.agg (trow r))) (g := trow) (b := 48) (fun i => σ73 a s rows types i []) (fun out i => τ73 a s rows out types i []) (fun out => some (.agg (TT a s out), []))
    (fun R i => round73 N n _ a s rows types R i) (fun R out i => next73 N n _ a s rows out types R i) (fun x hx => by rw [trow_of (hr x hx)]; exact hr x hx) hl (by omega) (rows.length + 1) (by omega)
  rw [this, map_trow hr, idxI_nil]
  cases a == 0 <;> rfl
theorem sysGOk (n : Nat) : SysOk Try.prog (sysG n) := (sysFOk n).tellLv 73 FPut0 (fun args st r h => by
    unfold FPut0 at h
    split at h
    · rename_i v _; rw [isT_zero] at h; simp at h
    · cases h) (fun m args st r hF => by
    unfold FPut0 at hF
    split at hF
    · rename_i v ty
      simp only [Option.some.injEq, Prod.mk.injEq] at hF
      obtain ⟨hv, rfl⟩ := hF
      exact top73 n m v ty hv
    · cases hF) n
end
end Go.Proofs.Ytciighngjnjmlaa.W
namespace Go.Proofs.Ytciighngjnjmlaa.W
open Go.Fw
set_option maxRecDepth 100000
noncomputable section
structure Def where
  name : ByteArray
  params : List (List AV)
  kind : Int
  sk : Int
  sn : ByteArray
  sr : List (List AV)
  pub : Bool
  at_ : Int
def e52 : List AV := [.k (.string ByteArray.empty), .sl 0 .nil [], .k (.int .i64 0), .sl 0 .nil [], .k (.int .i64 0), .k (.string ByteArray.empty), .sl 0 .nil [], .k (.bool false), .k (.int .i64 0)]
def Def.cells (D : Def) (c : AV) : List AV := [.k (.string D.name), .sl 9 .any D.params, .k (.int .i64 D.kind), c, .k (.int .i64 D.sk), .k (.string D.sn), .sl 25 .any D.sr, .k (.bool D.pub), .k (.int .i64 D.at_)]
def crow (s : ByteArray) (a f : List (List AV)) : List AV := [.k (.string s), .sl 25 .any a, .sl 9 .any f]
def z25 : List AV := [.k (.int .i64 0), .k (.string ByteArray.empty), .sl 25 .any []]
def σ72 (D : Def) (c : Nat) (i : Int) (rows : List (List AV)) : St := ⟨tm 81 [(1, .ptr 0 0), (2, .ptr 1 0), (20, .sr 2), (21, .k (.int .i64 (c : Nat))), (22, .k (.int .i64 i))], [.box 52 (D.cells (.sr 2)), .box 52 e52, .arx 77 rows], []⟩
def τ72 (D : Def) (c : Nat) (i : Int) (a : List (List AV)) (rows : List (List AV)) (j : Int) (more : List AObj) : St :=
  ⟨tm 81 [(1, .ptr 0 0), (2, .ptr 1 0), (3, .k (.int .i64 i)), (20, .sr 2), (21, .k (.int .i64 (c : Nat))), (22, .k (.int .i64 i)), (41, .sl 25 .any a), (42, .k (.int .i64 (a.length : Nat))), (43, .k (.int .i64 j))], [.box 52 (D.cells (.sr 2)), .box 52 e52, .arx 77 rows] ++ more, []⟩
theorem bothE_bif {c : Bool} {x : Option Res} : bothE x x = x := bothE_self x
theorem copy_loopB {S : FSys} {f : FuncId} {fn : Func} {m k : Nat} {p ms : List Nat} {rows : List (List AV)} {good : List AV → Bool} {g : List AV → List AV} {b : Nat} {z : List AV}
    (σ : Int → St) (τ : List (List AV) → Int → St) (fin : List (List AV) → Option Res)
    (h1 : ∀ (R : St → Option Res) (i : Int), roundAt S f fn m k p ms R (σ i) = bif decide (i < (rows.length : Nat)) then (bif decide (0 ≤ i) && decide (i < (rows.length : Nat)) then
      bothE (bif good (rows.getD i.toNat []) then R (τ [g (rows.getD i.toNat [])] (IntKind.i64.wrap (i + 1))) else none) (bif good (rows.getD i.toNat []) then R (τ [g (rows.getD i.toNat [])] (IntKind.i64.wrap (i + 1))) else none) else none) else fin [])
    (h2 : ∀ (R : St → Option Res) (out : List (List AV)) (i : Int), roundAt S f fn m k p ms R (τ out i) = bif decide (i < (rows.length : Nat)) then (bif decide (0 ≤ i) && decide (i < (rows.length : Nat)) then
      bothE (bif good (rows.getD i.toNat []) then (bif Nat.ble ((out.length + [g (rows.getD i.toNat [])].length) * b) 140737488355328 then R (τ (out ++ [g (rows.getD i.toNat [])]) (IntKind.i64.wrap (i + 1))) else none) else none)
        (bif good (rows.getD i.toNat []) then (bif Nat.ble ((out.length + [z].length) * b) 140737488355328 then (bif decide (0 ≤ (out.length : Int)) && decide ((out.length : Int) < ((out ++ [z]).length : Nat)) then
          R (τ ((out ++ [z]).set (out.length : Int).toNat (putAt ((out ++ [z]).getD (out.length : Int).toNat []) 0 (g (rows.getD i.toNat [])))) (IntKind.i64.wrap (i + 1))) else none) else none) else none) else none) else fin out)
    (hz : ∀ x, z.length ≤ (g x).length)
    (hgood : ∀ x ∈ rows, good x = true) (hb : rows.length * b ≤ 140737488351232) (hb0 : 0 < b) (n : Nat) (hn : rows.length < n) : loopAt S f fn m k p ms n (σ 0) = fin (rows.map g) := by
  refine copy_loop σ τ fin (fun R i => (h1 R i).trans (by rw [bothE_self])) (fun R out i => (h2 R out i).trans ?_) hgood hb hb0 n hn
  have e1 : (decide (0 ≤ (out.length : Int)) && decide ((out.length : Int) < ((out ++ [z]).length : Nat))) = true := by simp; omega
  have e2 : (out ++ [z]).set (out.length : Int).toNat (putAt ((out ++ [z]).getD (out.length : Int).toNat []) 0 (g (rows.getD i.toNat []))) = out ++ [g (rows.getD i.toNat [])] := by
    have hd : List.drop (g (rows.getD i.toNat [])).length z = [] := List.drop_eq_nil_of_le (hz _)
    generalize g (rows.getD i.toNat []) = x at hd ⊢
    simp [putAt, List.drop_eq_nil_iff.1 hd]
  have e3 : [g (rows.getD i.toNat [])].length = [z].length := rfl
  rw [e1, e2, e3, cond_true, bothE_self]
theorem cts52 : cts tab 52 = [.str, .sl 9, .int .i64, .sl 77, .int .i64, .str, .sl 25, .bool, .int .i64] := by kernel_rfl
theorem cts77 : cts tab 77 = [.str, .sl 25, .sl 9] := by kernel_rfl
theorem bytes77 : bytesT tab 77 = 64 := by kernel_rfl
theorem bytes9 : bytesT tab 9 = 16 := by kernel_rfl
def isDr (n : Nat) (r : List AV) : Bool := isRow tab 52 n r && Nat.ble (r.getD 3 .undef).rows.length 6
def isD (n : Nat) (v : AV) : Bool := match v with
  | .agg r => isDr n r
  | _ => false
theorem isTr_le {n m : Nat} {r : List AV} (h : isTr n r = true) (hm : n ≤ m) : isTr m r = true := isRow_le h hm
theorem isRow77 {n : Nat} {r : List AV} (h : isRow tab 77 (n + 1) r = true) : ∃ s a f, r = crow s a f ∧ a.length * 48 ≤ 140737488351232 ∧ (∀ x ∈ a, isTr n x = true) ∧ f.length * 16 ≤ 140737488351232 ∧ ∀ x ∈ f, isRow tab 9 n x = true := by
  unfold isRow at h
  rw [Bool.and_eq_true, cts77] at h
  obtain ⟨h1, h2⟩ := h
  obtain ⟨v1, _, rfl, c1, h1⟩ := rowOk_cons h1
  obtain ⟨v2, _, rfl, c2, h1⟩ := rowOk_cons h1
  obtain ⟨v3, _, rfl, c3, h1⟩ := rowOk_cons h1
  obtain rfl := rowOk_nil h1
  obtain ⟨s, rfl⟩ := CT_str c1
  obtain ⟨a, rfl⟩ := CT_sl c2
  obtain ⟨f, rfl⟩ := CT_sl c3
  obtain ⟨h3, h4⟩ := deep_sl h2 (t := 25) (rows := a) (by simp)
  obtain ⟨h5, h6⟩ := deep_sl h2 (t := 9) (rows := f) (by simp)
  rw [bytes25] at h3
  rw [bytes9] at h5
  exact ⟨s, a, f, rfl, h3, h4, h5, h6⟩
theorem isRow_zero {t : Nat} (r : List AV) : isRow tab t 0 r = false := by unfold isRow; simp [deep]
theorem isDr_some {n : Nat} {r : List AV} (h : isDr (n + 1) r = true) : ∃ (D : Def) (ctors : List (List AV)), r = D.cells (.sl 77 .any ctors) ∧ D.params.length * 16 ≤ 140737488351232 ∧ isT (n + 1) (.agg (TT D.sk D.sn D.sr)) = true ∧ ctors.length ≤ 6 ∧
    (∀ x ∈ D.params, isRow tab 9 n x = true) ∧ ∀ x ∈ ctors, isRow tab 77 n x = true := by
  unfold isDr isRow at h
  rw [Bool.and_eq_true, Bool.and_eq_true, cts52] at h
  obtain ⟨⟨h1, h2⟩, h0⟩ := h
  obtain ⟨v1, _, rfl, c1, h1⟩ := rowOk_cons h1
  obtain ⟨v2, _, rfl, c2, h1⟩ := rowOk_cons h1
  obtain ⟨v3, _, rfl, c3, h1⟩ := rowOk_cons h1
  obtain ⟨v4, _, rfl, c4, h1⟩ := rowOk_cons h1
  obtain ⟨v5, _, rfl, c5, h1⟩ := rowOk_cons h1
  obtain ⟨v6, _, rfl, c6, h1⟩ := rowOk_cons h1
  obtain ⟨v7, _, rfl, c7, h1⟩ := rowOk_cons h1
  obtain ⟨v8, _, rfl, c8, h1⟩ := rowOk_cons h1
  obtain ⟨v9, _, rfl, c9, h1⟩ := rowOk_cons h1
  obtain rfl := rowOk_nil h1
  obtain ⟨s1, rfl⟩ := CT_str c1
  obtain ⟨r2, rfl⟩ := CT_sl c2
  obtain ⟨i3, rfl⟩ := CT_int c3
  obtain ⟨r4, rfl⟩ := CT_sl c4
  obtain ⟨i5, rfl⟩ := CT_int c5
  obtain ⟨s6, rfl⟩ := CT_str c6
  obtain ⟨r7, rfl⟩ := CT_sl c7
  obtain ⟨b8, rfl⟩ := CT_bool c8
  obtain ⟨i9, rfl⟩ := CT_int c9
  obtain ⟨h3, h4⟩ := deep_sl h2 (t := 9) (rows := r2) (by simp)
  obtain ⟨h5, h6⟩ := deep_sl h2 (t := 77) (rows := r4) (by simp)
  rw [bytes9] at h3
  have hT : isT (n + 1) (.agg (TT i5 s6 r7)) = true := by
    simp only [isT, isVal, isRow, Bool.and_eq_true]
    refine ⟨by rw [cts25]; rfl, ?_⟩
    have := List.all_eq_true.1 (by rw [deep] at h2; exact h2)
    rw [deep, List.all_eq_true]
    intro v hv
    exact this v (by simp at hv; rcases hv with rfl | rfl | rfl <;> simp)
  exact ⟨⟨s1, r2, i3, i5, s6, r7, b8, i9⟩, r4, rfl, h3, hT, Nat.le_of_ble_eq_true h0, h4, h6⟩
theorem crow_of {n : Nat} {s : ByteArray} {a f : List (List AV)} (h : isRow tab 77 (n + 1) (crow s a f) = true) : a.length * 48 ≤ 140737488351232 ∧ (∀ x ∈ a, isTr n x = true) ∧ fits 16 f = true := by
  obtain ⟨s', a', f', e, h1, h2, h3, h4⟩ := isRow77 h
  simp only [crow, List.cons.injEq, AV.k.injEq, Value.string.injEq, AV.sl.injEq, true_and, and_true] at e
  obtain ⟨_, rfl, rfl⟩ := e
  exact ⟨h1, h2, by unfold fits; exact Nat.ble_eq_true_of_le (by omega)⟩
end
end Go.Proofs.Ytciighngjnjmlaa.W
