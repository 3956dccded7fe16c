/- A part of the proofs over these laws: what its functions come to. No conditions. -/
import Derived.Test.YtciighngjnjmlaaGd
import Derived.Test.YtciighngjnjmlaaFwZg
import Derived.Test.YtciighngjnjmlaaGe
set_option linter.all false
namespace Go.Proofs.Ytciighngjnjmlaa.W
open Go.Fw
set_option maxRecDepth 100000
noncomputable section
noncomputable def tk (r : List AV) : Int := (r.getD 0 .undef).toI
noncomputable def tn (r : List AV) : ByteArray := (r.getD 1 .undef).toS
noncomputable def ta (r : List AV) : List (List AV) := (r.getD 2 .undef).rows
noncomputable def putR (ps ts : List (List AV)) : Nat → List AV → List AV
  | 0, r => r
  | n + 1, r => bif tk r == 0 && decide (idxI ps (tn r) ≥ 0) then trow (ts.getD (idxI ps (tn r)).toNat []) else TT (tk r) (tn r) ((ta r).map (putR ps ts n))
noncomputable def putA (ps ts : List (List AV)) (n : Nat) : AV → AV
  | .agg r => .agg (putR ps ts n r)
  | v => v
noncomputable def tsOk (N : Nat) (ps ts : List (List AV)) : Bool := Nat.ble ps.length ts.length && (Nat.ble ps.length 140737488351232 && ts.all (isTr N))
noncomputable def F73 (N n : Nat) : List AV → List AObj → Ab Res := fun args st => match args, st with
  | [v, .sl 9 .any [], .sl 25 .any _], [] => some (isT n v, (v, []))
  | [v, .sl 9 .any (p :: ps), .sl 25 .any ts], [] => some (isT (n - N) v && tsOk N (p :: ps) ts, (putA (p :: ps) ts (n - N) v, []))
  | _, _ => none
noncomputable def S73 (L N n : Nat) : FSys := (sysH L).tell 73 (F73 N n)
section
variable (L N n k : Nat) (a : Int) (s : ByteArray) (rows out types ps : List (List AV)) (p : List AV) (R : St → Option Res) (i : Int)
theorem st73 : evTop (S73 L N n) k 73 [.agg (TT a s rows), .sl 9 .any [], .sl 25 .any types] [] = bif a == 0 then (bif decide (idxI [] s ≥ 0) then (bif decide (0 ≤ idxI [] s) && decide (idxI [] s < (types.length : Nat)) then (bif isT n (.agg (trow (types.getD (idxI [] s).toNat []))) then some (.agg (trow (types.getD (idxI [] s).toNat [])), []) else none) else none)
    else loopAt (S73 L N n) 73 Try.f73 0 k [1,1,1,1,0,1,0] [] k (σ73 a s rows types 0 [])) else loopAt (S73 L N n) 73 Try.f73 0 k [1,1,1,1,0,1,0] [] k (σ73 a s rows types 0 []) := by kernel_rfl
theorem rd73 : roundAt (S73 L N n) 73 Try.f73 0 k [1,1,1,1,0,1,0] [] R (σ73 a s rows types i []) =
  bif decide (i < (rows.length : Nat)) then (bif decide (0 ≤ i) && decide (i < (rows.length : Nat)) then (bif isT n (.agg (trow (rows.getD i.toNat []))) then R (τ73 a s rows [trow (rows.getD i.toNat [])] types (IntKind.i64.wrap (i + 1)) []) else none) else none) else some (.agg (TT a s []), []) := by kernel_rfl
theorem nx73 : roundAt (S73 L N n) 73 Try.f73 0 k [1,1,1,1,0,1,0] [] R (τ73 a s rows out types i []) =
  bif decide (i < (rows.length : Nat)) then (bif decide (0 ≤ i) && decide (i < (rows.length : Nat)) then (bif isT n (.agg (trow (rows.getD i.toNat []))) then (bif Nat.ble ((out.length + [trow (rows.getD i.toNat [])].length) * 48) 140737488355328 then R (τ73 a s rows (out ++ [trow (rows.getD i.toNat [])]) types (IntKind.i64.wrap (i + 1)) []) else none) else none) else none) else some (.agg (TT a s out), []) := by kernel_rfl
theorem sp73 : evTop (S73 L N n) k 73 [.agg (TT a s rows), .sl 9 .any (p :: ps), .sl 25 .any types] [] = bif a == 0 then (bif Nat.ble (p :: ps).length 140737488351232 then (bif decide (idxI (p :: ps) s ≥ 0) then (bif decide (0 ≤ idxI (p :: ps) s) && decide (idxI (p :: ps) s < (types.length : Nat)) then
      (bif isT n (.agg (trow (types.getD (idxI (p :: ps) s).toNat []))) then some (.agg (trow (types.getD (idxI (p :: ps) s).toNat [])), []) else none) else none)
    else loopAt (S73 L N n) 73 Try.f73 0 k [1,1,1,1,0,1,0] [] k (σ73 a s rows types 0 (p :: ps))) else none) else loopAt (S73 L N n) 73 Try.f73 0 k [1,1,1,1,0,1,0] [] k (σ73 a s rows types 0 (p :: ps)) := by kernel_rfl
theorem rp73 : roundAt (S73 L N n) 73 Try.f73 0 k [1,1,1,1,0,1,0] [] R (σ73 a s rows types i (p :: ps)) =
  bif decide (i < (rows.length : Nat)) then (bif decide (0 ≤ i) && decide (i < (rows.length : Nat)) then (bif isT (n - N) (.agg (trow (rows.getD i.toNat []))) && tsOk N (p :: ps) types then R (τ73 a s rows [trow (putR (p :: ps) types (n - N) (trow (rows.getD i.toNat [])))] types (IntKind.i64.wrap (i + 1)) (p :: ps)) else none) else none) else some (.agg (TT a s []), []) := by kernel_rfl
theorem np73 : roundAt (S73 L N n) 73 Try.f73 0 k [1,1,1,1,0,1,0] [] R (τ73 a s rows out types i (p :: ps)) =
  bif decide (i < (rows.length : Nat)) then (bif decide (0 ≤ i) && decide (i < (rows.length : Nat)) then (bif isT (n - N) (.agg (trow (rows.getD i.toNat []))) && tsOk N (p :: ps) types then (bif Nat.ble ((out.length + [trow (putR (p :: ps) types (n - N) (trow (rows.getD i.toNat [])))].length) * 48) 140737488355328 then R (τ73 a s rows (out ++ [trow (putR (p :: ps) types (n - N) (trow (rows.getD i.toNat [])))]) types (IntKind.i64.wrap (i + 1)) (p :: ps)) else none) else none) else none) else some (.agg (TT a s out), []) := by kernel_rfl
end
end
end Go.Proofs.Ytciighngjnjmlaa.W
namespace Go.Proofs.Ytciighngjnjmlaa.W
open Go.Fw
set_option maxRecDepth 100000
noncomputable section
theorem putR_eq (ps ts : List (List AV)) (n : Nat) (a : Int) (s : ByteArray) (rows : List (List AV)) :
    putR ps ts (n + 1) (TT a s rows) = bif a == 0 && decide (idxI ps s ≥ 0) then trow (ts.getD (idxI ps s).toNat []) else TT a s (rows.map (putR ps ts n)) := rfl
theorem trow_put {ps ts : List (List AV)} {m : Nat} {r : List AV} (h : isTr m r = true) : trow (putR ps ts m r) = putR ps ts m r := by
  cases m with
  | zero => rw [isTr_zero] at h; cases h
  | succ m =>
    obtain ⟨a, s, rows, rfl, _⟩ := isTr_succ h
    rw [putR_eq]
    cases (a == 0 && decide (idxI ps s ≥ 0)) <;> rfl
theorem isT_agg (n : Nat) (r : List AV) : isT n (.agg r) = isTr n r := rfl
theorem isT_le {n m : Nat} {v : AV} (h : isT n v = true) (hm : n ≤ m) : isT m v = true := isVal_le h hm
theorem idxI_range (ps : List (List AV)) (s : ByteArray) (h : idxI ps s ≥ 0) : 0 ≤ idxI ps s ∧ (idxI ps s).toNat < ps.length ∧ idxI ps s < (ps.length : Nat) := by
  unfold idxI at h ⊢
  split at h
  · rename_i hl
    rw [if_pos hl]
    exact ⟨by omega, by simpa using hl, by omega⟩
  · omega
theorem tsOk_iff {N : Nat} {ps ts : List (List AV)} (h : tsOk N ps ts = true) : ps.length ≤ ts.length ∧ Nat.ble ps.length 140737488351232 = true ∧ ∀ x ∈ ts, isTr N x = true := by
  unfold tsOk at h
  simp only [Bool.and_eq_true, List.all_eq_true] at h
  exact ⟨Nat.le_of_ble_eq_true h.1, h.2.1, h.2.2⟩
theorem top73n (L N n : Nat) (v : AV) (types : List (List AV)) (h : isT (n + 1) v = true) : ∃ k, evTop (S73 L N n) k 73 [v, .sl 9 .any [], .sl 25 .any types] [] = some (v, []) := by
  obtain ⟨a, s, rows, rfl, hl, hr⟩ := isT_some h
  refine ⟨rows.length + 1, ?_⟩
  refine (st73 L N n _ a s rows types).trans ?_
  have := copy_loop (S := S73 L N n) (f := 73) (fn := Try.f73) (m := 0) (k := rows.length + 1) (p := [1,1,1,1,0,1,0]) (ms := []) (rows := rows) (good := fun r => isT n (.agg (trow r))) (g := trow) (b := 48) (fun i => σ73 a s rows types i []) (fun out i => τ73 a s rows out types i []) (fun out => some (.agg (TT a s out), []))
    (fun R i => rd73 L N n _ a s rows types R i) (fun R out i => nx73 L N n _ a s rows out types R i) (fun x hx => by rw [trow_of (hr x hx)]; exact hr x hx) hl (by omega) (rows.length + 1) (by omega)
  rw [this, map_trow hr, idxI_nil]
  cases a == 0 <;> rfl
theorem pick73 {c e : Bool} {A B D L : Option Res} (hc : e = true) (hA : c = true → A = D) (hL : c = false → L = D) : (bif c then A else L) = D := by
  cases c
  · exact hL rfl
  · exact hA rfl
theorem pick73b {q f d e g : Bool} {x D L : Option Res} (hf : f = true) (hA : q = true → d = true → (bif e then (bif g then x else none) else none) = D) (hL : (q && d) = false → L = D) :
    (bif q then (bif f then (bif d then (bif e then (bif g then x else none) else none) else L) else none) else L) = D := by
  subst hf
  cases q
  · exact hL rfl
  · cases d
    · exact hL rfl
    · exact hA rfl rfl
theorem top73p (L N n : Nat) (v : AV) (p : List AV) (ps types : List (List AV)) (h : isT (n + 1 - N) v = true) (ht : tsOk N (p :: ps) types = true) :
    ∃ k, evTop (S73 L N n) k 73 [v, .sl 9 .any (p :: ps), .sl 25 .any types] [] = some (putA (p :: ps) types (n + 1 - N) v, []) := by
  have hN : n + 1 - N = (n - N) + 1 := by
    rcases Nat.lt_or_ge n N with hlt | hge
    · have : n + 1 - N = 0 := by omega
      rw [this, isT_zero] at h; cases h
    · omega
  have hNn : N ≤ n := by omega
  rw [hN] at h ⊢
  obtain ⟨a, s, rows, rfl, hl, hr⟩ := isT_some h
  obtain ⟨t1, t2, t3⟩ := tsOk_iff ht
  refine ⟨rows.length + 1, ?_⟩
  refine (sp73 L N n _ a s rows types ps p).trans (pick73b t2 (fun ha hi => ?_) fun hf => ?_)
  · have hi' : idxI (p :: ps) s ≥ 0 := of_decide_eq_true hi
    obtain ⟨k1, k2, k3⟩ := idxI_range _ _ hi'
    have hlt : (idxI (p :: ps) s).toNat < types.length := Nat.lt_of_lt_of_le k2 t1
    have hmem : types.getD (idxI (p :: ps) s).toNat [] ∈ types := by rw [getD_at hlt]; exact List.getElem_mem hlt
    have d1 : (decide (0 ≤ idxI (p :: ps) s) && decide (idxI (p :: ps) s < (types.length : Nat))) = true := by simp only [Bool.and_eq_true, decide_eq_true_eq]; omega
    have d2 : isT n (.agg (trow (types.getD (idxI (p :: ps) s).toNat []))) = true := by rw [trow_of (t3 _ hmem)]; exact isTr_le (t3 _ hmem) hNn
    rw [d1, d2]
    show some (AV.agg (trow (types.getD (idxI (p :: ps) s).toNat [])), []) = some (AV.agg (putR (p :: ps) types (n - N + 1) (TT a s rows)), [])
    rw [putR_eq, ha, hi]; rfl
  · have := copy_loop (S := S73 L N n) (f := 73) (fn := Try.f73) (m := 0) (k := rows.length + 1) (p := [1,1,1,1,0,1,0]) (ms := []) (rows := rows) (good := fun r => isT (n - N) (.agg (trow r)) && tsOk N (p :: ps) types) (g := fun r => trow (putR (p :: ps) types (n - N) (trow r))) (b := 48)
      (fun i => σ73 a s rows types i (p :: ps)) (fun out i => τ73 a s rows out types i (p :: ps)) (fun out => some (.agg (TT a s out), []))
      (fun R i => rp73 L N n _ a s rows types ps p R i) (fun R out i => np73 L N n _ a s rows out types ps p R i) (fun x hx => by rw [trow_of (hr x hx), ht, isT_agg, hr x hx]; rfl) hl (by omega) (rows.length + 1) (by omega)
    rw [this]
    show some (AV.agg (TT a s (rows.map fun r => trow (putR (p :: ps) types (n - N) (trow r)))), []) = some (AV.agg (putR (p :: ps) types (n - N + 1) (TT a s rows)), [])
    rw [putR_eq, hf]
    have hm : (rows.map fun r => trow (putR (p :: ps) types (n - N) (trow r))) = rows.map (putR (p :: ps) types (n - N)) := List.map_congr_left fun x hx => by rw [trow_of (hr x hx), trow_put (hr x hx)]
    rw [hm]; rfl
theorem F73_inv {N n : Nat} {args : List AV} {st : List AObj} {r : Res} (h : F73 N n args st = some (true, r)) :
    (∃ v ts, args = [v, .sl 9 .any [], .sl 25 .any ts] ∧ st = [] ∧ isT n v = true ∧ r = (v, [])) ∨
    (∃ v p ps ts, args = [v, .sl 9 .any (p :: ps), .sl 25 .any ts] ∧ st = [] ∧ isT (n - N) v = true ∧ tsOk N (p :: ps) ts = true ∧ r = (putA (p :: ps) ts (n - N) v, [])) := by
  unfold F73 at h
  split at h
  · rename_i v ts
    simp only [Option.some.injEq, Prod.mk.injEq] at h
    exact .inl ⟨v, ts, rfl, rfl, h.1, h.2.symm⟩
  · rename_i v p ps ts
    simp only [Option.some.injEq, Prod.mk.injEq, Bool.and_eq_true] at h
    exact .inr ⟨v, p, ps, ts, rfl, rfl, h.1.1, h.1.2, h.2.symm⟩
  · cases h
theorem S73Ok (L N n : Nat) : SysOk Try.prog (S73 L N n) := (sysHOk L).tellLv 73 (F73 N) (fun args st r h => by
    rcases F73_inv h with ⟨v, ts, _, _, h1, _⟩ | ⟨v, p, ps, ts, _, _, h1, _⟩
    · rw [isT_zero] at h1; cases h1
    · rw [Nat.zero_sub, isT_zero] at h1; cases h1) (fun n args st r h => by
    rcases F73_inv h with ⟨v, ts, rfl, rfl, h1, rfl⟩ | ⟨v, p, ps, ts, rfl, rfl, h1, h2, rfl⟩
    · exact top73n L N n v ts h1
    · exact top73p L N n v p ps ts h1 h2) n
noncomputable def FPut (N n : Nat) : List AV → List AObj → Ab Res := fun args st => match args, st with
  | [v, .sl 9 .any ps, .sl 25 .any ts], [] => some (isT n v && tsOk N ps ts, (putA ps ts n v, []))
  | _, _ => none
theorem FPut_inv {N n : Nat} {args : List AV} {st : List AObj} {r : Res} (h : FPut N n args st = some (true, r)) :
    ∃ v ps ts, args = [v, .sl 9 .any ps, .sl 25 .any ts] ∧ st = [] ∧ isT n v = true ∧ tsOk N ps ts = true ∧ r = (putA ps ts n v, []) := by
  unfold FPut at h
  split at h
  · rename_i v ps ts
    simp only [Option.some.injEq, Prod.mk.injEq, Bool.and_eq_true] at h
    exact ⟨v, ps, ts, rfl, rfl, h.1.1, h.1.2, h.2.symm⟩
  · cases h
theorem putR_nil (ts : List (List AV)) : ∀ (n : Nat) (r : List AV), isTr n r = true → putR [] ts n r = r
  | 0, r, h => by rw [isTr_zero] at h; cases h
  | n + 1, r, h => by
    obtain ⟨a, s, rows, rfl, hl, hr⟩ := isTr_succ h
    rw [putR_eq, idxI_nil]
    have : rows.map (putR [] ts n) = rows := (List.map_congr_left fun x hx => putR_nil ts n x (hr x hx)).trans (by simp)
    rw [this]
    cases a == 0 <;> rfl
noncomputable def S73u (L N n : Nat) : FSys := (S73 L N (N + n)).tell 73 (FPut N n)
theorem isT_some0 {n : Nat} {v : AV} (h : isT n v = true) : ∃ a s rows, v = .agg (TT a s rows) ∧ isTr n (TT a s rows) = true := by
  cases n with
  | zero => rw [isT_zero] at h; cases h
  | succ n =>
    obtain ⟨a, s, rows, rfl, _⟩ := isT_some h
    exact ⟨a, s, rows, rfl, h⟩
theorem put_p (L N n k : Nat) (v : AV) (p : List AV) (ps ts : List (List AV)) : ev (S73 L N (N + n)) (k + 1) 73 [v, .sl 9 .any (p :: ps), .sl 25 .any ts] [] = under (isT (N + n - N) v && tsOk N (p :: ps) ts) (some (putA (p :: ps) ts (N + n - N) v, [])) := rfl
theorem put_n (L N n k : Nat) (v : AV) (ts : List (List AV)) : ev (S73 L N (N + n)) (k + 1) 73 [v, .sl 9 .any [], .sl 25 .any ts] [] = under (isT (N + n) v) (some (v, [])) := rfl
theorem S73uOk (L N n : Nat) : SysOk Try.prog (S73u L N n) := (S73Ok L N (N + n)).tell 73 (FPut N n) fun args st r h => by
  obtain ⟨v, ps, ts, rfl, rfl, h1, h2, rfl⟩ := FPut_inv h
  cases ps with
  | nil =>
    refine ⟨0 + 1, (put_n L N n 0 v ts).trans ?_⟩
    obtain ⟨a, s, rows, rfl, h3⟩ := isT_some0 h1
    rw [isT_le h1 (by omega)]
    show some (AV.agg (TT a s rows), []) = some (AV.agg (putR [] ts n (TT a s rows)), [])
    rw [putR_nil ts n _ h3]
  | cons p ps =>
    refine ⟨0 + 1, (put_p L N n 0 v p ps ts).trans ?_⟩
    rw [Nat.add_sub_cancel_left, h1, h2]
    rfl
end
end Go.Proofs.Ytciighngjnjmlaa.W
namespace Go.Proofs.Ytciighngjnjmlaa.W
open Go.Fw
set_option maxRecDepth 100000
noncomputable section
noncomputable def S75 (L n : Nat) : FSys := (sysH L).tell 75 (FPut L n)
section
variable (L n k : Nat) (a : Int) (s : ByteArray) (rows out ts ps : List (List AV)) (R : St → Option Res) (i : Int)
noncomputable def σ75a (i : Int) : St := ⟨tm 57 [(1, .sl 9 .any ps), (2, .sl 25 .any ts), (3, .ptr 0 0), (6, .ptr 1 0), (7, .k (.int .i64 i))], [.box 25 (TT a s rows), .box 25 e25], []⟩
noncomputable def σ75b (i : Int) : St := ⟨tm 57 [(1, .sl 9 .any ps), (2, .sl 25 .any ts), (3, .ptr 0 0), (6, .ptr 1 0), (8, .ptr 2 0), (9, .k (.int .i64 i))], [.box 25 (TT a s rows), .box 25 e25, .box 25 [.k (.int .i64 a), .k (.string s), .sl 0 .nil []]], []⟩
noncomputable def τ75b (i : Int) : St := ⟨tm 57 [(1, .sl 9 .any ps), (2, .sl 25 .any ts), (3, .ptr 0 0), (6, .ptr 1 0), (8, .ptr 2 0), (9, .k (.int .i64 i))], [.box 25 (TT a s rows), .box 25 e25, .box 25 [.k (.int .i64 a), .k (.string s), .sr 3], .arr 25 .any out], []⟩
theorem st75 : evTop (S75 L n) k 75 [.agg (TT a s rows), .sl 9 .any ps, .sl 25 .any ts] [] = bif a == 0 then loopAt (S75 L n) 75 Try.f75 0 k [1,0,1,0,1,0] [] k (σ75a a s rows ts ps 0) else loopAt (S75 L n) 75 Try.f75 0 k [1,1,1,0,1,0] [] k (σ75b a s rows ts ps 0) := by kernel_rfl
theorem ra75 : roundAt (S75 L n) 75 Try.f75 0 k [1,0,1,0,1,0] [] R (σ75a a s rows ts ps i) =
  bif decide (i < (ps.length : Nat)) then (bif decide (0 ≤ i) && decide (i < (ps.length : Nat)) then (bif ((ps.getD i.toNat []).getD 0 .undef).toS == s then
    (bif decide (0 ≤ i) && decide (i < (ts.length : Nat)) then (bif isT L (.agg (trow (ts.getD i.toNat []))) then some (.agg (trow (ts.getD i.toNat [])), []) else none) else none)
    else R (σ75a a s rows ts ps (IntKind.i64.wrap (i + 1)))) else none) else loopAt (S75 L n) 75 Try.f75 0 k [1,1,1,0,1,0] [] k (σ75b a s rows ts ps 0) := by kernel_rfl
theorem rb75 : roundAt (S75 L n) 75 Try.f75 0 k [1,1,1,0,1,0] [] R (σ75b a s rows ts ps i) =
  bif decide (i < (rows.length : Nat)) then (bif decide (0 ≤ i) && decide (i < (rows.length : Nat)) then (bif isT n (.agg (trow (rows.getD i.toNat []))) && tsOk L ps ts then R (τ75b a s rows [trow (putR ps ts n (trow (rows.getD i.toNat [])))] ts ps (IntKind.i64.wrap (i + 1))) else none) else none) else some (.agg (TT a s []), []) := by kernel_rfl
theorem nb75 : roundAt (S75 L n) 75 Try.f75 0 k [1,1,1,0,1,0] [] R (τ75b a s rows out ts ps i) =
  bif decide (i < (rows.length : Nat)) then (bif decide (0 ≤ i) && decide (i < (rows.length : Nat)) then (bif isT n (.agg (trow (rows.getD i.toNat []))) && tsOk L ps ts then (bif Nat.ble ((out.length + [trow (putR ps ts n (trow (rows.getD i.toNat [])))].length) * 48) 140737488355328 then R (τ75b a s rows (out ++ [trow (putR ps ts n (trow (rows.getD i.toNat [])))]) ts ps (IntKind.i64.wrap (i + 1))) else none) else none) else none) else some (.agg (TT a s out), []) := by kernel_rfl
end
end
end Go.Proofs.Ytciighngjnjmlaa.W
namespace Go.Proofs.Ytciighngjnjmlaa.W
open Go.Fw
set_option maxRecDepth 100000
noncomputable section
theorem foldI_find (s : ByteArray) (o : Int → Option Res) (D : Option Res) : ∀ (l : List (List AV)) (i : Int),
    foldI (A := Unit) (fun _ x => pS s x) (fun _ i _ => o i) (fun c _ => c) (fun _ => D) l () i = if l.findIdx (pS s) < l.length then o (i + (l.findIdx (pS s) : Nat)) else D
  | [], i => by simp [foldI]
  | x :: xs, i => by
    rw [List.findIdx_cons]
    cases hp : pS s x with
    | true =>
      simp only [foldI, hp, cond_true]
      simp
    | false =>
      simp only [foldI, hp, cond_false]
      rw [foldI_find s o D xs (i + 1)]
      simp only [List.length_cons, Nat.add_lt_add_iff_right]
      split
      · congr 1; omega
      · rfl
theorem loopB75 (L n : Nat) (a : Int) (s : ByteArray) (rows ts ps : List (List AV)) (ht : tsOk L ps ts = true) (hl : rows.length * 48 ≤ 140737488351232) (hr : ∀ x ∈ rows, isTr n x = true) (k : Nat) (hk : rows.length < k) :
    loopAt (S75 L n) 75 Try.f75 0 k [1,1,1,0,1,0] [] k (σ75b a s rows ts ps 0) = some (.agg (TT a s (rows.map (putR ps ts n))), []) := by
  have := copy_loop (S := S75 L n) (f := 75) (fn := Try.f75) (m := 0) (k := k) (p := [1,1,1,0,1,0]) (ms := []) (rows := rows) (good := fun r => isT n (.agg (trow r)) && tsOk L ps ts) (g := fun r => trow (putR ps ts n (trow r))) (b := 48)
      (fun i => σ75b a s rows ts ps i) (fun out i => τ75b a s rows out ts ps i) (fun out => some (.agg (TT a s out), []))
      (fun R i => rb75 L n _ a s rows ts ps R i) (fun R out i => nb75 L n _ a s rows out ts ps R i) (fun x hx => by rw [trow_of (hr x hx), ht, isT_agg, hr x hx]; rfl) hl (by omega) k hk
  rw [this]
  have hm : (rows.map fun r => trow (putR ps ts n (trow r))) = rows.map (putR ps ts n) := List.map_congr_left fun x hx => by rw [trow_of (hr x hx), trow_put (hr x hx)]
  rw [hm]
theorem pick75 {c : Bool} {A B D : Option Res} (hA : c = true → A = D) (hB : c = false → B = D) : (bif c then A else B) = D := by
  cases c
  · exact hB rfl
  · exact hA rfl
theorem idxI_eq (ps : List (List AV)) (s : ByteArray) : idxI ps s = if ps.findIdx (pS s) < ps.length then ((ps.findIdx (pS s) : Nat) : Int) else -1 := rfl
theorem loopA75 (L n : Nat) (a : Int) (s : ByteArray) (rows ts ps : List (List AV)) (ht : tsOk L ps ts = true) (k : Nat) (hk : ps.length < k) (D : Option Res)
    (hB : loopAt (S75 L n) 75 Try.f75 0 k [1,1,1,0,1,0] [] k (σ75b a s rows ts ps 0) = D) :
    loopAt (S75 L n) 75 Try.f75 0 k [1,0,1,0,1,0] [] k (σ75a a s rows ts ps 0) = bif decide (idxI ps s ≥ 0) then some (.agg (trow (ts.getD (idxI ps s).toNat [])), []) else D := by
  obtain ⟨t1, t2, t3⟩ := tsOk_iff ht
  have t2 := Nat.le_of_ble_eq_true t2
  have A := loop_idx (S := S75 L n) (f := 75) (fn := Try.f75) (m := 0) (k := k) (p := [1,0,1,0,1,0]) (ms := []) (rows := ps) (A := Unit)
    (fun _ i => σ75a a s rows ts ps i) (fun _ x => pS s x) (fun _ i _ => some (.agg (trow (ts.getD i.toNat [])), [])) (fun c _ => c) (fun _ => D)
    (fun R c i hi => (ra75 L n k a s rows ts ps R i).trans (by
      have d1 : decide ((i : Int) < (ps.length : Nat)) = true := by simpa using hi
      have d2 : decide (0 ≤ (i : Int)) = true := by simp
      have hlt : i < ts.length := by omega
      have d3 : decide ((i : Int) < (ts.length : Nat)) = true := by simpa using hlt
      have hw : IntKind.i64.wrap ((i : Int) + 1) = ((i + 1 : Nat) : Int) := by rw [wrap64] <;> omega
      have hm : ts.getD i [] ∈ ts := by rw [getD_at hlt]; exact List.getElem_mem hlt
      have hg : isT L (.agg (trow (ts.getD i []))) = true := by rw [trow_of (t3 _ hm)]; exact t3 _ hm
      rw [d1, d2, d3, hw, Int.toNat_natCast, hg, getD_at hi]
      rfl))
    (fun R c => (ra75 L n k a s rows ts ps R _).trans (by
      have d1 : decide (((ps.length : Nat) : Int) < (ps.length : Nat)) = false := by simp
      rw [d1, hB]; rfl)) k 0 () (Nat.zero_le _) (by omega)
  refine A.trans ?_
  rw [List.drop_zero, foldI_find, idxI_eq]
  split
  · rename_i h
    rw [decide_eq_true (Int.natCast_nonneg _)]
    simp
  · rfl
theorem top75 (L n : Nat) (v : AV) (ps ts : List (List AV)) (h : isT (n + 1) v = true) (ht : tsOk L ps ts = true) :
    ∃ k, evTop (S75 L n) k 75 [v, .sl 9 .any ps, .sl 25 .any ts] [] = some (putA ps ts (n + 1) v, []) := by
  obtain ⟨a, s, rows, rfl, hl, hr⟩ := isT_some h
  refine ⟨rows.length + ps.length + 1, ?_⟩
  have hB := loopB75 L n a s rows ts ps ht hl hr (rows.length + ps.length + 1) (by omega)
  refine (st75 L n _ a s rows ts ps).trans (pick75 (fun ha => ?_) fun ha => ?_)
  · rw [loopA75 L n a s rows ts ps ht _ (by omega) _ hB]
    show _ = some (AV.agg (putR ps ts (n + 1) (TT a s rows)), [])
    rw [putR_eq, ha]
    cases decide (idxI ps s ≥ 0) <;> rfl
  · rw [hB]
    show _ = some (AV.agg (putR ps ts (n + 1) (TT a s rows)), [])
    rw [putR_eq, ha]; rfl
theorem S75Ok (L n : Nat) : SysOk Try.prog (S75 L n) := (sysHOk L).tellLv 75 (FPut L) (fun args st r h => by
    obtain ⟨v, ps, ts, _, _, h1, _⟩ := FPut_inv h
    rw [isT_zero] at h1; cases h1) (fun n args st r h => by
    obtain ⟨v, ps, ts, rfl, rfl, h1, h2, rfl⟩ := FPut_inv h
    exact top75 L n v ps ts h1 h2) n
end
end Go.Proofs.Ytciighngjnjmlaa.W
namespace Go.Proofs.Ytciighngjnjmlaa.W
open Go.Fw
set_option maxRecDepth 100000
noncomputable section
noncomputable def nodF (f : Int → List AV → Int) (most : Int) : List (List AV) → Int → Int
  | [], n => n
  | x :: xs, n => bif decide (n > most) then n else nodF f most xs (w64 (n + f (w64 (most - n)) x))
noncomputable def nodR : Nat → Int → List AV → Int
  | 0, _, _ => 0
  | l + 1, most, r => nodF (nodR l) most (ta r) 1
noncomputable def nodA (l : Nat) (most : Int) : AV → Int
  | .agg r => nodR l most r
  | _ => 0
noncomputable def F74 (n : Nat) : List AV → List AObj → Ab Res := fun args st => match args, st with
  | [v, .k (.int .i64 m)], [] => some (isT n v, (i64 (nodA n m v), []))
  | _, _ => none
theorem F74_inv {n : Nat} {args : List AV} {st : List AObj} {r : Res} (h : F74 n args st = some (true, r)) : ∃ v m, args = [v, i64 m] ∧ st = [] ∧ isT n v = true ∧ r = (i64 (nodA n m v), []) := by
  unfold F74 at h
  split at h
  · rename_i v m
    simp only [Option.some.injEq, Prod.mk.injEq] at h
    exact ⟨v, m, rfl, rfl, h.1, h.2.symm⟩
  · cases h
noncomputable def S74 (L n : Nat) : FSys := (sysH L).tell 74 (F74 n)
noncomputable def S76 (L n : Nat) : FSys := (sysH L).tell 76 (F74 n)
section
variable (L n k : Nat) (a : Int) (s : ByteArray) (rows : List (List AV)) (R : St → Option Res) (i c m : Int)
noncomputable def σ74 (c i : Int) : St := ⟨tm 27 [(1, i64 m), (5, i64 c), (9, .sl 25 .any rows), (10, i64 (rows.length : Nat)), (11, i64 i)], [], []⟩
noncomputable def σ76 (c i : Int) : St := ⟨tm 31 [(1, i64 m), (2, .ptr 0 0), (5, i64 c), (6, i64 i)], [.box 25 (TT a s rows)], []⟩
theorem st74 : evTop (S74 L n) k 74 [.agg (TT a s rows), i64 m] [] = loopAt (S74 L n) 74 Try.f74 0 k [1,1,0,1,0] [] k (σ74 rows m 1 0) := by kernel_rfl
theorem st76 : evTop (S76 L n) k 76 [.agg (TT a s rows), i64 m] [] = loopAt (S76 L n) 76 Try.f76 0 k [1,1,0,1,0] [] k (σ76 a s rows m 1 0) := by kernel_rfl
theorem rd74 : roundAt (S74 L n) 74 Try.f74 0 k [1,1,0,1,0] [] R (σ74 rows m c i) = bif decide (i < (rows.length : Nat)) then (bif decide (0 ≤ i) && decide (i < (rows.length : Nat)) then (bif decide (c > m) then some (i64 c, []) else
  (bif isT n (.agg (trow (rows.getD i.toNat []))) then R (σ74 rows m (w64 (c + nodR n (w64 (m - c)) (trow (rows.getD i.toNat [])))) (IntKind.i64.wrap (i + 1))) else none)) else none) else some (i64 c, []) := by kernel_rfl
theorem rd76 : roundAt (S76 L n) 76 Try.f76 0 k [1,1,0,1,0] [] R (σ76 a s rows m c i) = bif decide (i < (rows.length : Nat)) then (bif decide (c ≤ m) then (bif decide (0 ≤ i) && decide (i < (rows.length : Nat)) then
  (bif isT n (.agg (trow (rows.getD i.toNat []))) then R (σ76 a s rows m (w64 (c + nodR n (w64 (m - c)) (trow (rows.getD i.toNat [])))) (IntKind.i64.wrap (i + 1))) else none) else none) else some (i64 c, [])) else some (i64 c, []) := by kernel_rfl
end
theorem foldS_nod (f : Int → List AV → Int) (m : Int) : ∀ (l : List (List AV)) (c : Int),
    foldS (fun c _ => decide (c > m)) (fun c _ => some (i64 c, [])) (fun c x => w64 (c + f (w64 (m - c)) x)) (fun c => some (i64 c, [])) l c = some (i64 (nodF f m l c), [])
  | [], c => rfl
  | x :: xs, c => by
    simp only [foldS, nodF]
    cases decide (c > m)
    · exact foldS_nod f m xs _
    · rfl
theorem isTr_row {n i : Nat} {rows : List (List AV)} (hr : ∀ x ∈ rows, isTr n x = true) (hi : i < rows.length) : trow (rows.getD i []) = rows[i] ∧ isT n (.agg (trow (rows.getD i []))) = true := by
  have h := hr _ (List.getElem_mem hi)
  rw [getD_at hi, trow_of h]
  exact ⟨rfl, h⟩
theorem top74 (L n : Nat) (v : AV) (m : Int) (h : isT (n + 1) v = true) : ∃ k, evTop (S74 L n) k 74 [v, i64 m] [] = some (i64 (nodA (n + 1) m v), []) := by
  obtain ⟨a, s, rows, rfl, hl, hr⟩ := isT_some h
  refine ⟨rows.length + 1, (st74 L n _ a s rows m).trans ?_⟩
  have A := loop_list (S := S74 L n) (f := 74) (fn := Try.f74) (m := 0) (k := rows.length + 1) (p := [1,1,0,1,0]) (ms := []) (rows := rows) (A := Int)
    (fun c i => σ74 rows m c i) (fun c _ => decide (c > m)) (fun c _ => some (i64 c, [])) (fun c x => w64 (c + nodR n (w64 (m - c)) x)) (fun c => some (i64 c, []))
    (fun R c i hi => (rd74 L n _ rows R i c m).trans (by
      have d1 : decide ((i : Int) < (rows.length : Nat)) = true := by simpa using hi
      have d2 : decide (0 ≤ (i : Int)) = true := by simp
      have hw : IntKind.i64.wrap ((i : Int) + 1) = ((i + 1 : Nat) : Int) := by rw [wrap64] <;> omega
      obtain ⟨e1, e2⟩ := isTr_row hr hi
      rw [d1, d2, hw, Int.toNat_natCast, e2, e1]
      rfl))
    (fun R c => (rd74 L n _ rows R _ c m).trans (stopped _ _ _)) (rows.length + 1) 0 1 (Nat.zero_le _) (by omega)
  exact A.trans (foldS_nod (nodR n) m rows 1)
theorem pick76 {c m : Int} {A B : Option Res} : (bif decide (c ≤ m) then A else B) = bif decide (c > m) then B else A := by
  by_cases h : c ≤ m
  · rw [decide_eq_true h, decide_eq_false (by omega)]; rfl
  · rw [decide_eq_false h, decide_eq_true (by omega)]; rfl
theorem top76 (L n : Nat) (v : AV) (m : Int) (h : isT (n + 1) v = true) : ∃ k, evTop (S76 L n) k 76 [v, i64 m] [] = some (i64 (nodA (n + 1) m v), []) := by
  obtain ⟨a, s, rows, rfl, hl, hr⟩ := isT_some h
  refine ⟨rows.length + 1, (st76 L n _ a s rows m).trans ?_⟩
  have A := loop_list (S := S76 L n) (f := 76) (fn := Try.f76) (m := 0) (k := rows.length + 1) (p := [1,1,0,1,0]) (ms := []) (rows := rows) (A := Int)
    (fun c i => σ76 a s rows m c i) (fun c _ => decide (c > m)) (fun c _ => some (i64 c, [])) (fun c x => w64 (c + nodR n (w64 (m - c)) x)) (fun c => some (i64 c, []))
    (fun R c i hi => (rd76 L n _ a s rows R i c m).trans (by
      have d1 : decide ((i : Int) < (rows.length : Nat)) = true := by simpa using hi
      have d2 : decide (0 ≤ (i : Int)) = true := by simp
      have hw : IntKind.i64.wrap ((i : Int) + 1) = ((i + 1 : Nat) : Int) := by rw [wrap64] <;> omega
      obtain ⟨e1, e2⟩ := isTr_row hr hi
      rw [d1, d2, hw, Int.toNat_natCast, e2, e1, cond_true]
      exact pick76))
    (fun R c => (rd76 L n _ a s rows R _ c m).trans (stopped _ _ _)) (rows.length + 1) 0 1 (Nat.zero_le _) (by omega)
  exact A.trans (foldS_nod (nodR n) m rows 1)
theorem S74Ok (L n : Nat) : SysOk Try.prog (S74 L n) := (sysHOk L).tellLv 74 F74 (fun args st r h => by
    obtain ⟨v, m, _, _, h1, _⟩ := F74_inv h
    rw [isT_zero] at h1; cases h1) (fun n args st r h => by
    obtain ⟨v, m, rfl, rfl, h1, rfl⟩ := F74_inv h
    exact top74 L n v m h1) n
theorem S76Ok (L n : Nat) : SysOk Try.prog (S76 L n) := (sysHOk L).tellLv 76 F74 (fun args st r h => by
    obtain ⟨v, m, _, _, h1, _⟩ := F74_inv h
    rw [isT_zero] at h1; cases h1) (fun n args st r h => by
    obtain ⟨v, m, rfl, rfl, h1, rfl⟩ := F74_inv h
    exact top76 L n v m h1) n
noncomputable def A1 (N n : Nat) : FSys := (sysH N).tell 73 (FPut N n)
noncomputable def A2 (N n : Nat) : FSys := (A1 N n).tell 75 (FPut N n)
noncomputable def A3 (N n m : Nat) : FSys := (A2 N n).tell 74 (F74 m)
noncomputable def A4 (N n m : Nat) : FSys := (A3 N n m).tell 76 (F74 m)
theorem A1Ok (N n : Nat) : SysOk Try.prog (A1 N n) := (sysHOk N).tellMore (S73uOk N N n) rfl rfl
theorem A2Ok (N n : Nat) : SysOk Try.prog (A2 N n) := (A1Ok N n).tellMore (S75Ok N n) rfl rfl
theorem A3Ok (N n m : Nat) : SysOk Try.prog (A3 N n m) := (A2Ok N n).tellMore (S74Ok N m) rfl rfl
theorem A4Ok (N n m : Nat) : SysOk Try.prog (A4 N n m) := (A3Ok N n m).tellMore (S76Ok N m) rfl rfl
end
end Go.Proofs.Ytciighngjnjmlaa.W
namespace Go.Proofs.Ytciighngjnjmlaa.W
open Go.Fw
set_option maxRecDepth 100000
noncomputable section
theorem copy_loopS {S : FSys} {f : FuncId} {fn : Func} {m k : Nat} {p ms : List Nat} {rows : List (List AV)} {g : List AV → List AV} (st : List (List AV) → Int → St) (stop : List AV → Bool) (out : Option Res) (fin : List (List AV) → Option Res)
    (h : ∀ (R : St → Option Res) (i : Nat) (hi : i < rows.length), roundAt S f fn m k p ms R (st ((rows.take i).map g) i) = bif stop rows[i] then out else R (st ((rows.take i).map g ++ [g rows[i]]) ((i + 1 : Nat) : Int)))
    (he : ∀ R : St → Option Res, roundAt S f fn m k p ms R (st (rows.map g) (rows.length : Nat)) = fin (rows.map g)) (n : Nat) (hn : rows.length < n) :
    loopAt S f fn m k p ms n (st [] 0) = bif rows.any stop then out else fin (rows.map g) := by
  have key := loop_up (S := S) (f := f) (fn := fn) (m := m) (k := k) (p := p) (ms := ms) (fun i => st ((rows.take i).map g) ((i : Nat) : Int)) rows.length (fun i => bif (rows.drop i).any stop then out else fin (rows.map g))
    (fun i hi R hR => by
      rw [h R i hi, List.drop_eq_getElem_cons hi, List.any_cons]
      cases hs : stop rows[i] with
      | true => rfl
      | false =>
        rw [take_next hi, List.map_append] at hR
        exact hR)
    (fun R => by
      have ht : rows.take rows.length = rows := List.take_length
      simp only [ht]
      rw [he R, List.drop_length]; rfl)
    n 0 (Nat.zero_le _) (by omega)
  exact key
noncomputable def uR (ps ts : List (List AV)) (n : Nat) (x : List AV) : List AV := trow (putR ps ts n (trow x))
noncomputable def noR : Option Res := some (.tup [.sl 25 .any [], bl false], [])
noncomputable def yesR (out : List (List AV)) : Option Res := some (.tup [.sl 25 .any out, bl true], [])
noncomputable def cargs (ctors : List (List AV)) (c : Int) : List (List AV) := ((ctors.getD c.toNat []).getD 1 .undef).rows
section
variable (n N m k : Nat) (D : Def) (ctors ts rows out : List (List AV)) (R : St → Option Res) (i c : Int) (x y : List AV)
noncomputable def σ32 (i : Int) : St := ⟨tm 59 [(1, .sl 25 .any ts), (3, .ptr 0 0), (8, .sl 0 .nil []), (39, .sl 25 .any rows), (40, i64 (rows.length : Nat)), (41, i64 i)], [.box 52 (D.cells (.sl 77 .any ctors))], []⟩
noncomputable def τ32 (i : Int) : St := ⟨tm 59 [(1, .sl 25 .any ts), (3, .ptr 0 0), (8, .sr 1), (39, .sl 25 .any rows), (40, i64 (rows.length : Nat)), (41, i64 i)], [.box 52 (D.cells (.sl 77 .any ctors)), .arr 25 .any out], []⟩
noncomputable def good32 (x : List AV) (Y : Option Res) (Z : Option Res) : Option Res := bif isT n (.agg (trow x)) && tsOk N D.params ts then (bif isT m (.agg (uR D.params ts n x)) then (bif decide (nodR m 4000 (uR D.params ts n x) > 4000) then Y else Z) else none) else none
theorem st32 : ev (A4 N n m) (k + 1) 32 [.agg (D.cells (.sl 77 .any ctors)), .sl 25 .any ts, i64 c] [] = bif !(D.kind == 0) then noR else bif !(((ts.length : Nat) : Int) == ((D.params.length : Nat) : Int)) then noR else bif decide (c < 0) then noR else bif decide (c ≥ (ctors.length : Nat)) then noR else
  (bif decide (0 ≤ c) && decide (c < (ctors.length : Nat)) then loopAt (A4 N n m) 32 Try.f32 0 k [1,1,1,0,1,0] [] k (σ32 D ctors ts (cargs ctors c) 0) else none) := by kernel_rfl
theorem rd32 : roundAt (A4 N n m) 32 Try.f32 0 k [1,1,1,0,1,0] [] R (σ32 D ctors ts rows i) = bif decide (i < (rows.length : Nat)) then (bif decide (0 ≤ i) && decide (i < (rows.length : Nat)) then
  good32 n N m D ts (rows.getD i.toNat []) noR (R (τ32 D ctors ts rows [uR D.params ts n (rows.getD i.toNat [])] (IntKind.i64.wrap (i + 1)))) else none) else yesR [] := by kernel_rfl
theorem nx32 : roundAt (A4 N n m) 32 Try.f32 0 k [1,1,1,0,1,0] [] R (τ32 D ctors ts rows out i) = bif decide (i < (rows.length : Nat)) then (bif decide (0 ≤ i) && decide (i < (rows.length : Nat)) then
  good32 n N m D ts (rows.getD i.toNat []) noR (bif Nat.ble ((out.length + [uR D.params ts n (rows.getD i.toNat [])].length) * 48) 140737488355328 then R (τ32 D ctors ts rows (out ++ [uR D.params ts n (rows.getD i.toNat [])]) (IntKind.i64.wrap (i + 1))) else none) else none) else yesR out := by kernel_rfl
end
end
end Go.Proofs.Ytciighngjnjmlaa.W
namespace Go.Proofs.Ytciighngjnjmlaa.W
open Go.Fw
set_option maxRecDepth 100000
noncomputable section
section
variable (n N m k : Nat) (D : Def) (ctors ts rows out : List (List AV)) (R : St → Option Res) (i c : Int) (x y : List AV)
noncomputable def τ33 (kd : SK) (out : List (List AV)) (i : Int) : St := ⟨tm 66 [(1, .sl 25 .any ts), (2, i64 c), (3, .ptr 0 0), (8, .sr 1), (9, i64 i)], [.box 52 (D.cells (.sl 77 .any ctors)), .arr 25 kd out], []⟩
noncomputable def inC (c : Int) (l : Nat) (X : Option Res) : Option Res := bif decide (0 ≤ c) && decide (c < (l : Nat)) then X else none
noncomputable def rnd33 (i : Int) (X : Option Res) (F : Option Res) : Option Res := inC c ctors.length (bif decide (i < ((cargs ctors c).length : Nat)) then inC c ctors.length (inC i (cargs ctors c).length X) else F)
theorem st33 : ev (A4 N n m) (k + 1) 33 [.agg (D.cells (.sl 77 .any ctors)), .sl 25 .any ts, i64 c] [] = bif !(D.kind == 0) then noR else bif !(((ts.length : Nat) : Int) == ((D.params.length : Nat) : Int)) then noR else bif decide (c < 0) then noR else bif decide (c ≥ (ctors.length : Nat)) then noR else
  loopAt (A4 N n m) 33 Try.f33 0 k [1,1,1,0,1,0] [] k (τ33 D ctors ts c .full [] 0) := by kernel_rfl
theorem rd33 : roundAt (A4 N n m) 33 Try.f33 0 k [1,1,1,0,1,0] [] R (τ33 D ctors ts c .full [] i) = rnd33 ctors c i
  (good32 n N m D ts ((cargs ctors c).getD i.toNat []) noR (R (τ33 D ctors ts c .fresh [uR D.params ts n ((cargs ctors c).getD i.toNat [])] (IntKind.i64.wrap (i + 1))))) (yesR []) := by kernel_rfl
theorem rf33 : roundAt (A4 N n m) 33 Try.f33 0 k [1,1,1,0,1,0] [] R (τ33 D ctors ts c .fresh [y] i) = rnd33 ctors c i
  (good32 n N m D ts ((cargs ctors c).getD i.toNat []) noR (R (τ33 D ctors ts c .wide [y, uR D.params ts n ((cargs ctors c).getD i.toNat [])] (IntKind.i64.wrap (i + 1))))) (yesR [y]) := by kernel_rfl
theorem rw33 : roundAt (A4 N n m) 33 Try.f33 0 k [1,1,1,0,1,0] [] R (τ33 D ctors ts c .wide out i) = rnd33 ctors c i
  (good32 n N m D ts ((cargs ctors c).getD i.toNat []) noR (bif Nat.ble ((out.length + [uR D.params ts n ((cargs ctors c).getD i.toNat [])].length) * 48) 140737488355328 then R (τ33 D ctors ts c .wide (out ++ [uR D.params ts n ((cargs ctors c).getD i.toNat [])]) (IntKind.i64.wrap (i + 1))) else none)) (yesR out) := by kernel_rfl
end
end
end Go.Proofs.Ytciighngjnjmlaa.W
namespace Go.Proofs.Ytciighngjnjmlaa.W
open Go.Fw
set_option maxRecDepth 100000
noncomputable section
theorem isTr_mk {n : Nat} {a : Int} {s : ByteArray} {rows : List (List AV)} (hl : rows.length * 48 ≤ 140737488351232) (hr : ∀ x ∈ rows, isTr n x = true) : isTr (n + 1) (TT a s rows) = true := by
  have h1 : rowOk (cts tab 25) (TT a s rows) = true := by rw [cts25]; rfl
  unfold isTr isRow
  rw [h1, Bool.true_and, deep, List.all_cons, List.all_cons, List.all_cons, List.all_nil]
  have h2 : (Nat.ble (rows.length * bytesT tab 25) 140737488351232 && rows.all fun r => rowOk (cts tab 25) r && deep tab n r) = true := by
    rw [bytes25, Bool.and_eq_true]
    exact ⟨Nat.ble_eq_true_of_le hl, List.all_eq_true.2 fun x hx => hr x hx⟩
  simpa using h2
theorem put_lv {ps ts : List (List AV)} {N : Nat} (hp : ps.length ≤ ts.length) (ht : ∀ x ∈ ts, isTr N x = true) : ∀ (n : Nat) (r : List AV), isTr n r = true → isTr (n + N) (putR ps ts n r) = true
  | 0, r, h => by rw [isTr_zero] at h; cases h
  | n + 1, r, h => by
    obtain ⟨a, s, rows, rfl, hl, hr⟩ := isTr_succ h
    rw [putR_eq]
    cases hc : (a == 0 && decide (idxI ps s ≥ 0)) with
    | true =>
      simp only [Bool.and_eq_true, decide_eq_true_eq] at hc
      obtain ⟨_, k2, _⟩ := idxI_range _ _ hc.2
      have hlt : (idxI ps s).toNat < ts.length := by omega
      have hm : ts.getD (idxI ps s).toNat [] ∈ ts := by rw [getD_at hlt]; exact List.getElem_mem hlt
      rw [cond_true, trow_of (ht _ hm)]
      exact isTr_le (ht _ hm) (by omega)
    | false =>
      rw [cond_false]
      have e : n + 1 + N = (n + N) + 1 := by omega
      rw [e]
      refine isTr_mk (by simpa using hl) fun x hx => ?_
      obtain ⟨y, hy, rfl⟩ := List.mem_map.1 hx
      exact put_lv hp ht n y (hr y hy)
noncomputable def dk (d : List AV) : Int := (d.getD 2 .undef).toI
noncomputable def dps (d : List AV) : List (List AV) := (d.getD 1 .undef).rows
noncomputable def dct (d : List AV) : List (List AV) := (d.getD 3 .undef).rows
noncomputable def argsM (n m : Nat) (d : List AV) (ts : List (List AV)) (c : Int) : AV :=
  bif !(dk d == 0) then .tup [.sl 25 .any [], bl false] else bif !(((ts.length : Nat) : Int) == (((dps d).length : Nat) : Int)) then .tup [.sl 25 .any [], bl false] else bif decide (c < 0) then .tup [.sl 25 .any [], bl false] else bif decide (c ≥ ((dct d).length : Nat)) then .tup [.sl 25 .any [], bl false] else
  bif (cargs (dct d) c).any (fun x => decide (nodR m 4000 (uR (dps d) ts n x) > 4000)) then .tup [.sl 25 .any [], bl false] else .tup [.sl 25 .any ((cargs (dct d) c).map (uR (dps d) ts n)), bl true]
theorem isD_ctors {n : Nat} {D : Def} {ctors : List (List AV)} (h : isD n (.agg (D.cells (.sl 77 .any ctors))) = true) : D.params.length ≤ 140737488351232 ∧ ∀ c : Int, 0 ≤ c → c < (ctors.length : Nat) → (cargs ctors c).length * 48 ≤ 140737488351232 ∧ ∀ x ∈ cargs ctors c, isTr n x = true := by
  cases n with
  | zero => simp [isD, isDr, isRow_zero] at h
  | succ n =>
    obtain ⟨D', ctors', e, hp, _, _, _, hc⟩ := isDr_some (n := n) (r := D.cells (.sl 77 .any ctors)) h
    simp only [Def.cells, List.cons.injEq, AV.k.injEq, Value.string.injEq, AV.sl.injEq, true_and, and_true] at e
    obtain ⟨_, h2, _, h4, _⟩ := e
    subst h4
    rw [h2]
    refine ⟨by omega, fun c h0 h1 => ?_⟩
    have hlt : c.toNat < ctors.length := by omega
    have hm : ctors.getD c.toNat [] ∈ ctors := by rw [getD_at hlt]; exact List.getElem_mem hlt
    have hrow := hc _ hm
    cases n with
    | zero => rw [isRow_zero] at hrow; cases hrow
    | succ n =>
      obtain ⟨s, a, f, e, h1, h2, _, _⟩ := isRow77 hrow
      have : cargs ctors c = a := by unfold cargs; rw [e]; rfl
      rw [this]
      exact ⟨h1, fun x hx => isTr_le (h2 x hx) (by omega)⟩
theorem isD_ex {n : Nat} {v : AV} (h : isD n v = true) : ∃ (D : Def) (ctors : List (List AV)), v = .agg (D.cells (.sl 77 .any ctors)) := by
  cases v with
  | agg r =>
    cases n with
    | zero => simp [isD, isDr, isRow_zero] at h
    | succ n =>
      obtain ⟨D, ctors, rfl, _⟩ := isDr_some (n := n) (r := r) h
      exact ⟨D, ctors, rfl⟩
  | _ => cases h
noncomputable def tyOk (N : Nat) (ts : List (List AV)) : Bool := Nat.ble (ts.length * 48) 140737488351232 && ts.all (isTr N)
noncomputable def FArgs (N n : Nat) : List AV → List AObj → Ab Res := fun args st => match args, st with
  | [.agg d, .sl 25 .any ts, .k (.int .i64 c)], [] => some (isD n (.agg d) && tyOk N ts, (argsM n (n + N) d ts c, []))
  | _, _ => none
theorem FArgs_inv {N n : Nat} {args : List AV} {st : List AObj} {r : Res} (h : FArgs N n args st = some (true, r)) :
    ∃ D ctors ts c, args = [.agg (Def.cells D (.sl 77 .any ctors)), .sl 25 .any ts, i64 c] ∧ st = [] ∧ isD n (.agg (D.cells (.sl 77 .any ctors))) = true ∧ (∀ x ∈ ts, isTr N x = true) ∧ ts.length * 48 ≤ 140737488351232 ∧ r = (argsM n (n + N) (D.cells (.sl 77 .any ctors)) ts c, []) := by
  unfold FArgs at h
  split at h
  · rename_i d ts c
    simp only [Option.some.injEq, Prod.mk.injEq, Bool.and_eq_true] at h
    obtain ⟨⟨h1, h2⟩, rfl⟩ := h
    obtain ⟨D, ctors, e⟩ := isD_ex h1
    cases e
    unfold tyOk at h2
    rw [Bool.and_eq_true, List.all_eq_true] at h2
    exact ⟨D, ctors, ts, c, rfl, rfl, h1, h2.2, Nat.le_of_ble_eq_true h2.1, rfl⟩
  · cases h
section
variable {n N : Nat} {D : Def} {ts : List (List AV)}
theorem good32_of {x : List AV} (hx : isTr n x = true) (hp : D.params.length = ts.length) (hpl : D.params.length ≤ 140737488351232) (ht : ∀ x ∈ ts, isTr N x = true) (Y Z : Option Res) :
    good32 n N (n + N) D ts x Y Z = bif decide (nodR (n + N) 4000 (uR D.params ts n x) > 4000) then Y else Z := by
  have h1 : tsOk N D.params ts = true := by
    unfold tsOk
    simp only [Bool.and_eq_true, List.all_eq_true]
    exact ⟨Nat.ble_eq_true_of_le (by omega), Nat.ble_eq_true_of_le hpl, ht⟩
  have h2 : isT n (.agg (trow x)) = true := by rw [trow_of hx]; exact hx
  have h3 : isT (n + N) (.agg (uR D.params ts n x)) = true := by
    unfold uR
    rw [trow_of hx, trow_put hx]
    exact put_lv (by omega) ht n x hx
  unfold good32
  rw [h1, h2, h3]; rfl
end
theorem ext_loop {X Y : Option Res} (h : X = Y) : (bif true then X else none) = Y := h
theorem pick32 {a b c d : Bool} {L : Option Res} {X : AV} (hL : a = false → b = false → c = false → d = false → L = some (X, [])) :
    (bif a then noR else bif b then noR else bif c then noR else bif d then noR else L) = some ((bif a then .tup [.sl 25 .any [], bl false] else bif b then .tup [.sl 25 .any [], bl false] else bif c then .tup [.sl 25 .any [], bl false] else bif d then .tup [.sl 25 .any [], bl false] else X), []) := by
  cases a with
  | true => rfl
  | false =>
  cases b with
  | true => rfl
  | false =>
  cases c with
  | true => rfl
  | false =>
  cases d with
  | true => rfl
  | false =>
  exact hL rfl rfl rfl rfl
theorem endR (b : Bool) (out : List (List AV)) : (bif b then noR else yesR out) = some ((bif b then .tup [.sl 25 .any [], bl false] else .tup [.sl 25 .any out, bl true]), []) := by cases b <;> rfl
noncomputable def st2 (σ : Int → St) (τ : List (List AV) → Int → St) : List (List AV) → Int → St
  | [], i => σ i
  | x :: xs, i => τ (x :: xs) i
theorem st2_ne {σ : Int → St} {τ : List (List AV) → Int → St} {l : List (List AV)} (h : l ≠ []) (i : Int) : st2 σ τ l i = τ l i := by
  cases l with
  | nil => exact absurd rfl h
  | cons x xs => rfl
theorem take_ne {l : List (List AV)} {g : List AV → List AV} {i : Nat} (hi : i + 1 < l.length) : (l.take (i + 1)).map g ≠ [] := by
  intro e
  have : ((l.take (i + 1)).map g).length = 0 := by rw [e]; rfl
  rw [List.length_map, List.length_take] at this
  omega
theorem room {l : List (List AV)} {g : List AV → List AV} {i : Nat} {x : List AV} {b : Nat} (hi : i < l.length) (hb : l.length * b ≤ 140737488351232) : Nat.ble ((((l.take i).map g).length + [x].length) * b) 140737488355328 = true := by
  apply Nat.ble_eq_true_of_le
  have e1 : ((l.take i).map g).length + [x].length = i + 1 := by simp; omega
  rw [e1]
  exact Nat.le_trans (Nat.mul_le_mul_right b (by omega : i + 1 ≤ l.length)) (by omega)
theorem told32 (N n : Nat) (args : List AV) (st : List AObj) (r : Res) (h : FArgs N n args st = some (true, r)) : ∃ k, ev (A4 N n (n + N)) k 32 args st = some r := by
  obtain ⟨D, ctors, ts, c, rfl, rfl, h1, h2, h3, rfl⟩ := FArgs_inv h
  obtain ⟨hpl, hc⟩ := isD_ctors h1
  refine ⟨(cargs ctors c).length + 1 + 1, (st32 n N (n + N) _ D ctors ts c).trans (pick32 fun _ hb hc0 hd0 => ?_)⟩
  have hb : ts.length = D.params.length := by have : (ts.length : Int) = (D.params.length : Int) := by simpa using hb
                                              omega
  have hc0 : 0 ≤ c := by simpa using hc0
  have hd0 : c < (ctors.length : Nat) := by simpa using hd0
  obtain ⟨hl, hr⟩ := hc c hc0 hd0
  rw [show (decide (0 ≤ c) && decide (c < (ctors.length : Nat))) = true by simp [hc0, hd0], cond_true]
  refine (copy_loopS (S := A4 N n (n + N)) (f := 32) (fn := Try.f32) (m := 0) (k := (cargs ctors c).length + 1) (p := [1,1,1,0,1,0]) (ms := []) (rows := cargs ctors c) (g := uR D.params ts n)
    (st2 (fun i => σ32 D ctors ts (cargs ctors c) i) fun out i => τ32 D ctors ts (cargs ctors c) out i) (fun x => decide (nodR (n + N) 4000 (uR D.params ts n x) > 4000)) noR yesR (fun R i hi => ?_) (fun R => ?_) _ (by omega)).trans (endR _ _)
  · have d1 : decide ((i : Int) < ((cargs ctors c).length : Nat)) = true := by simpa using hi
    have d2 : decide (0 ≤ (i : Int)) = true := by simp
    have hw : IntKind.i64.wrap ((i : Int) + 1) = ((i + 1 : Nat) : Int) := by rw [wrap64] <;> omega
    have hg := hr _ (List.getElem_mem hi)
    cases i with
    | zero =>
      refine (rd32 n N (n + N) _ D ctors ts (cargs ctors c) R _).trans ?_
      rw [d1, d2, hw, Int.toNat_natCast, getD_at hi, good32_of hg hb.symm hpl h2]
      rfl
    | succ i =>
      rw [st2_ne (take_ne hi), st2_ne (by simp)]
      refine (nx32 n N (n + N) _ D ctors ts (cargs ctors c) _ R _).trans ?_
      rw [d1, d2, hw, Int.toNat_natCast, getD_at hi, good32_of hg hb.symm hpl h2, room hi hl]
      rfl
  · cases hl0 : cargs ctors c with
    | nil => exact (rd32 n N (n + N) _ D ctors ts [] R _).trans (stopped _ _ _)
    | cons x xs => exact (nx32 n N (n + N) _ D ctors ts (x :: xs) _ R _).trans (stopped _ _ _)
theorem rnd_on {ctors : List (List AV)} {c i : Int} (X F : Option Res) (h0 : 0 ≤ c) (h1 : c < (ctors.length : Nat)) (h2 : 0 ≤ i) (h3 : i < ((cargs ctors c).length : Nat)) : rnd33 ctors c i X F = X := by
  unfold rnd33 inC
  rw [decide_eq_true h0, decide_eq_true h1, decide_eq_true h2, decide_eq_true h3]; rfl
theorem rnd_off {ctors : List (List AV)} {c i : Int} (X F : Option Res) (h0 : 0 ≤ c) (h1 : c < (ctors.length : Nat)) (h3 : ¬ i < ((cargs ctors c).length : Nat)) : rnd33 ctors c i X F = F := by
  unfold rnd33 inC
  rw [decide_eq_true h0, decide_eq_true h1, decide_eq_false h3]; rfl
noncomputable def st33k (f : SK → List (List AV) → Int → St) : List (List AV) → Int → St
  | [], i => f .full [] i
  | [x], i => f .fresh [x] i
  | x :: y :: xs, i => f .wide (x :: y :: xs) i
theorem st33k_2 {f : SK → List (List AV) → Int → St} {l : List (List AV)} (h : 2 ≤ l.length) (i : Int) : st33k f l i = f .wide l i := by
  match l, h with
  | x :: y :: xs, _ => rfl
theorem told33 (N n : Nat) (args : List AV) (st : List AObj) (r : Res) (h : FArgs N n args st = some (true, r)) : ∃ k, ev (A4 N n (n + N)) k 33 args st = some r := by
  obtain ⟨D, ctors, ts, c, rfl, rfl, h1, h2, h3, rfl⟩ := FArgs_inv h
  obtain ⟨hpl, hc⟩ := isD_ctors h1
  refine ⟨(cargs ctors c).length + 1 + 1, (st33 n N (n + N) _ D ctors ts c).trans (pick32 fun _ hb hc0 hd0 => ?_)⟩
  have hb : ts.length = D.params.length := by have : (ts.length : Int) = (D.params.length : Int) := by simpa using hb
                                              omega
  have hc0 : 0 ≤ c := by simpa using hc0
  have hd0 : c < (ctors.length : Nat) := by simpa using hd0
  obtain ⟨hl, hr⟩ := hc c hc0 hd0
  refine (copy_loopS (S := A4 N n (n + N)) (f := 33) (fn := Try.f33) (m := 0) (k := (cargs ctors c).length + 1) (p := [1,1,1,0,1,0]) (ms := []) (rows := cargs ctors c) (g := uR D.params ts n)
    (st33k fun kd out i => τ33 D ctors ts c kd out i) (fun x => decide (nodR (n + N) 4000 (uR D.params ts n x) > 4000)) noR yesR (fun R i hi => ?_) (fun R => ?_) _ (by omega)).trans (endR _ _)
  · have d1 : (i : Int) < ((cargs ctors c).length : Nat) := by simpa using hi
    have d2 : 0 ≤ (i : Int) := by simp
    have hw : IntKind.i64.wrap ((i : Int) + 1) = ((i + 1 : Nat) : Int) := by rw [wrap64] <;> omega
    have hg := hr _ (List.getElem_mem hi)
    match i, hi, d1, d2, hw, hg with
    | 0, hi, d1, d2, hw, hg =>
      refine (rd33 n N (n + N) _ D ctors ts R _ c).trans ((rnd_on _ _ hc0 hd0 d2 d1).trans ?_)
      rw [hw, Int.toNat_natCast, getD_at hi, good32_of hg hb.symm hpl h2]
      rfl
    | 1, hi, d1, d2, hw, hg =>
      have e1 : ((cargs ctors c).take 1).map (uR D.params ts n) = [uR D.params ts n (cargs ctors c)[0]] := by
        have := take_next (l := cargs ctors c) (i := 0) (by omega)
        rw [this]; rfl
      rw [e1]
      refine (rf33 n N (n + N) _ D ctors ts R _ c _).trans ((rnd_on _ _ hc0 hd0 d2 d1).trans ?_)
      rw [hw, Int.toNat_natCast, getD_at hi, good32_of hg hb.symm hpl h2]
      rfl
    | i + 2, hi, d1, d2, hw, hg =>
      rw [st33k_2 (by rw [List.length_map, List.length_take]; omega), st33k_2 (by rw [List.length_append, List.length_map, List.length_take]; omega)]
      refine (rw33 n N (n + N) _ D ctors ts _ R _ c).trans ((rnd_on _ _ hc0 hd0 d2 d1).trans ?_)
      rw [hw, Int.toNat_natCast, getD_at hi, good32_of hg hb.symm hpl h2, room hi hl]
      rfl
  · have hno : ¬ (((cargs ctors c).length : Nat) : Int) < ((cargs ctors c).length : Nat) := by omega
    match hm : (cargs ctors c).map (uR D.params ts n) with
    | [] => exact (rd33 n N (n + N) _ D ctors ts R _ c).trans (rnd_off _ _ hc0 hd0 hno)
    | [y] => exact (rf33 n N (n + N) _ D ctors ts R _ c y).trans (rnd_off _ _ hc0 hd0 hno)
    | x :: y :: xs => exact (rw33 n N (n + N) _ D ctors ts (x :: y :: xs) R _ c).trans (rnd_off _ _ hc0 hd0 hno)
noncomputable def A5 (N n : Nat) : FSys := (A4 N n (n + N)).tell 32 (FArgs N n)
noncomputable def A6 (N n : Nat) : FSys := (A5 N n).tell 33 (FArgs N n)
theorem A5Ok (N n : Nat) : SysOk Try.prog (A5 N n) := (A4Ok N n (n + N)).tell 32 _ (told32 N n)
theorem A6Ok (N n : Nat) : SysOk Try.prog (A6 N n) := (A5Ok N n).tellMore ((A4Ok N n (n + N)).tell 33 _ (told33 N n)) rfl rfl
end
end Go.Proofs.Ytciighngjnjmlaa.W
