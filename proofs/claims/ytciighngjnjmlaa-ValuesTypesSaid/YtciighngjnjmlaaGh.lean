/- A part of the proofs over these laws: what its functions come to. No conditions. -/
import Derived.Test.YtciighngjnjmlaaGk
import Derived.Test.YtciighngjnjmlaaRows
set_option linter.all false
namespace Go.Proofs.Ytciighngjnjmlaa.W
open Go.Fw
set_option maxRecDepth 100000
noncomputable section
noncomputable def argsB (n m : Nat) (d : List AV) (ts : List (List AV)) (c : Int) : Bool :=
  bif !(dk d == 0) then false else bif !(((ts.length : Nat) : Int) == (((dps d).length : Nat) : Int)) then false else bif decide (c < 0) then false else bif decide (c ≥ ((dct d).length : Nat)) then false else
  bif (cargs (dct d) c).any (fun x => decide (nodR m 4000 (uR (dps d) ts n x) > 4000)) then false else true
noncomputable def argsL (n m : Nat) (d : List AV) (ts : List (List AV)) (c : Int) : List (List AV) := bif argsB n m d ts c then (cargs (dct d) c).map (uR (dps d) ts n) else []
theorem argsM_eq (n m : Nat) (d : List AV) (ts : List (List AV)) (c : Int) : argsM n m d ts c = .tup [.sl 25 .any (argsL n m d ts c), bl (argsB n m d ts c)] := by
  unfold argsM argsL argsB
  cases dk d == 0 with
  | false => rfl
  | true =>
  cases (((ts.length : Nat) : Int) == (((dps d).length : Nat) : Int)) with
  | false => rfl
  | true =>
  cases decide (c < 0) with
  | true => rfl
  | false =>
  cases decide (c ≥ ((dct d).length : Nat)) with
  | true => rfl
  | false =>
  cases (cargs (dct d) c).any (fun x => decide (nodR m 4000 (uR (dps d) ts n x) > 4000)) <;> rfl
noncomputable def FArg (N n : Nat) : List AV → List AObj → Ab Res := fun args st => match args, st with
  | [.agg d, .sl 25 .any ts, .k (.int .i64 c)], [] => some (isD n (.agg d) && tyOk N ts, (.tup [.sl 25 .any (argsL n (n + N) d ts c), bl (argsB n (n + N) d ts c)], []))
  | _, _ => none
theorem FArg_args {N n : Nat} {args : List AV} {st : List AObj} {r : Res} (h : FArg N n args st = some (true, r)) : FArgs N n args st = some (true, r) := by
  unfold FArg at h
  unfold FArgs
  split at h
  · rename_i d ts c
    have e := argsM_eq n (n + N) d ts c
    show some (isD n (.agg d) && tyOk N ts, (argsM n (n + N) d ts c, [])) = some (true, r)
    rw [e]; exact h
  · cases h
noncomputable def f29 : AV := .fn (.func 29) [] [.ptr 0 0]
noncomputable def bl22 (l : List (List AV)) : List AObj := [.box 22 [.sl 52 .any l]]
noncomputable def F29 (n : Nat) : List AV → List AObj → Ab Res := fun args st => match args, st with
  | [v, .ptr 0 0], [.box 22 [.sl 52 .any l]] => some (isT n v && rws n l, (bl (!(fewB n l v)), bl22 l))
  | _, _ => none
noncomputable def big6 (n : Nat) (l : List (List AV)) (x : List AV) : Bool := !(fewB n l (.agg x))
noncomputable def hasB6 (n : Nat) (l rows : List (List AV)) : Bool := decide (idxL (big6 n l) rows 0 ≥ 0)
noncomputable def F71c (n : Nat) : List AV → List AObj → Ab Res := fun args st => match args, st with
  | [.sl 25 .any rows, .fn (.func h) [] [.ptr 0 0]], [.box 22 [.sl 52 .any l]] => bif Nat.beq h 29 then some (tyOk n rows && rws n l, (i64 (idxL (big6 n l) rows 0), bl22 l)) else none
  | _, _ => none
noncomputable def F28c (n : Nat) : List AV → List AObj → Ab Res := fun args st => match args, st with
  | [.sl 25 .any rows, .fn (.func h) [] [.ptr 0 0]], [.box 22 [.sl 52 .any l]] => bif Nat.beq h 29 then some (tyOk n rows && rws n l, (bl (hasB6 n l rows), bl22 l)) else none
  | _, _ => none
noncomputable def M0 (L n : Nat) : FSys := (J4 L n).tell 10 (F10 n)
noncomputable def M1 (L n : Nat) : FSys := (M0 L n).tell 29 (F29 n)
noncomputable def M2 (L n : Nat) : FSys := (M1 L n).tell 71 (F71c n)
noncomputable def σ71c (l rows : List (List AV)) (i : Int) : St := ⟨tm 19 [(0, .sl 25 .any rows), (1, f29), (7, i64 (rows.length : Nat)), (8, i64 i)], bl22 l, []⟩
section
variable (a : Int) (s : ByteArray) (k n L : Nat) (l rows : List (List AV)) (R : St → Option Res) (i : Int)
theorem b29 : ev (M0 L n) (k + 1) 29 [.agg (TT a s rows), .ptr 0 0] (bl22 l) = bif isT n (.agg (TT a s rows)) && rws n l then some (bl (!(fewB n l (.agg (TT a s rows)))), bl22 l) else none := by kernel_rfl
theorem r71c : roundAt (M1 L n) 71 Try.f71 1 k [1,0,1,0] [] R (σ71c l rows i) = bif decide (i < (rows.length : Nat)) then (bif decide (0 ≤ i) && decide (i < (rows.length : Nat)) then (bif isT n (.agg (trow (rows.getD i.toNat []))) && rws n l then
  (bif !(fewB n l (.agg (trow (rows.getD i.toNat [])))) then some (i64 i, bl22 l) else R (σ71c l rows (IntKind.i64.wrap (i + 1)))) else none) else none) else some (i64 (-1), bl22 l) := by kernel_rfl
theorem b71c : ev (M1 L n) (k + 1) 71 [.sl 25 .any rows, f29] (bl22 l) = loopAt (M1 L n) 71 Try.f71 1 k [1,0,1,0] [] k (σ71c l rows 0) := by kernel_rfl
theorem b28c : ev (M2 L n) (k + 1) 28 [.sl 25 .any rows, f29] (bl22 l) = bif tyOk n rows && rws n l then some (bl (hasB6 n l rows), bl22 l) else none := by kernel_rfl
end
end
end Go.Proofs.Ytciighngjnjmlaa.W
namespace Go.Proofs.Ytciighngjnjmlaa.W
open Go.Fw
set_option maxRecDepth 100000
noncomputable section
theorem F29_inv {n : Nat} {args : List AV} {st : List AObj} {r : Res} (h : F29 n args st = some (true, r)) : ∃ v l, args = [v, .ptr 0 0] ∧ st = bl22 l ∧ isT n v = true ∧ rws n l = true ∧ r = (bl (!(fewB n l v)), bl22 l) := by
  unfold F29 at h
  split at h
  · rename_i v l
    simp only [Option.some.injEq, Prod.mk.injEq, Bool.and_eq_true] at h
    exact ⟨v, l, rfl, rfl, h.1.1, h.1.2, h.2.symm⟩
  · cases h
theorem F71c_inv {n : Nat} {args : List AV} {st : List AObj} {r : Res} (h : F71c n args st = some (true, r)) : ∃ rows l, args = [.sl 25 .any rows, f29] ∧ st = bl22 l ∧ tyOk n rows = true ∧ rws n l = true ∧ r = (i64 (idxL (big6 n l) rows 0), bl22 l) := by
  unfold F71c at h
  split at h
  · rename_i rows g l
    obtain ⟨rfl, h2⟩ := beq_fn h
    simp only [Option.some.injEq, Prod.mk.injEq, Bool.and_eq_true] at h2
    exact ⟨rows, l, rfl, rfl, h2.1.1, h2.1.2, h2.2.symm⟩
  · cases h
theorem F28c_inv {n : Nat} {args : List AV} {st : List AObj} {r : Res} (h : F28c n args st = some (true, r)) : ∃ rows l, args = [.sl 25 .any rows, f29] ∧ st = bl22 l ∧ tyOk n rows = true ∧ rws n l = true ∧ r = (bl (hasB6 n l rows), bl22 l) := by
  unfold F28c at h
  split at h
  · rename_i rows g l
    obtain ⟨rfl, h2⟩ := beq_fn h
    simp only [Option.some.injEq, Prod.mk.injEq, Bool.and_eq_true] at h2
    exact ⟨rows, l, rfl, rfl, h2.1.1, h2.1.2, h2.2.symm⟩
  · cases h
theorem M1Ok (L n : Nat) : SysOk Try.prog (M1 L n) := (K10 L n).tell 29 _ fun args st r h => by
  obtain ⟨v, l, rfl, rfl, hv, hw, rfl⟩ := F29_inv h
  obtain ⟨a, s, rows, rfl⟩ := isT_ex hv
  exact ⟨0 + 1, (b29 a s 0 n L l rows).trans (by rw [hv, hw]; rfl)⟩
theorem M2Ok (L n : Nat) : SysOk Try.prog (M2 L n) := (M1Ok L n).tell 71 _ fun args st r h => by
  obtain ⟨rows, l, rfl, rfl, hv, hw, rfl⟩ := F71c_inv h
  obtain ⟨hl, hr⟩ := tyOk_iff hv
  refine ⟨rows.length + 1 + 1, (b71c _ n L l rows).trans ?_⟩
  have Q := loop_idx (S := M1 L n) (f := 71) (fn := Try.f71) (m := 1) (k := rows.length + 1) (p := [1,0,1,0]) (ms := []) (rows := rows) (A := Unit)
    (fun _ i => σ71c l rows i) (fun _ x => big6 n l x) (fun _ i _ => some (i64 i, bl22 l)) (fun c _ => c) (fun _ => some (i64 (-1), bl22 l))
    (fun R c i hi => (r71c _ n L l rows R i).trans (by
      have hx := hr _ (List.getElem_mem hi)
      rw [Int.toNat_natCast, getD_at hi, trow_of hx, isT_agg, hx, hw, step1 hi (by omega), decide_eq_true (by omega : (i : Int) < (rows.length : Nat)), decide_eq_true (by omega : 0 ≤ (i : Int))]
      rfl))
    (fun R c => (r71c _ n L l rows R _).trans (stopped _ _ _)) (rows.length + 1) 0 () (Nat.zero_le _) (by omega)
  exact Q.trans (foldI_idx2 (big6 n l) (bl22 l) rows 0)
noncomputable def M3 (L n : Nat) : FSys := (M2 L n).tell 28 (F28c n)
theorem M3Ok (L n : Nat) : SysOk Try.prog (M3 L n) := (M2Ok L n).tell 28 _ fun args st r h => by
  obtain ⟨rows, l, rfl, rfl, hv, hw, rfl⟩ := F28c_inv h
  exact ⟨0 + 1, (b28c 0 n L l rows).trans (by rw [hv, hw]; rfl)⟩
noncomputable def M4 (n : Nat) : FSys := ((((M3 n n).tell 30 (FFind n)).tell 31 (FFind n)).tell 32 (FArg n n)).tell 33 (FArg n n)
theorem M4Ok (n : Nat) : SysOk Try.prog (M4 n) :=
  SysOk.tellMore (.tellMore (.tellMore (.tellMore (M3Ok n n) (K30 n) rfl rfl) (K31 n) rfl rfl)
    ((A4Ok n n (n + n)).tell 32 (FArg n n) fun args st r h => told32 n n args st r (FArg_args h)) rfl rfl)
    ((A4Ok n n (n + n)).tell 33 (FArg n n) fun args st r h => told33 n n args st r (FArg_args h)) rfl rfl
noncomputable def M5 (n : Nat) : FSys := (((M4 n).tell 34 (F34 n)).tell 35 (F35 (n + n))).tell 37 (F37 n)
theorem M5Ok (n : Nat) : SysOk Try.prog (M5 n) :=
  SysOk.tellMore (.tellMore (.tellMore (M4Ok n) (G6Ok n n) rfl rfl) (G2Ok n (n + n)) rfl rfl) (G7Ok n n) rfl rfl
noncomputable def M6 (n : Nat) : FSys := (((M5 n).tell 38 F38).tell 39 F38).tell 9 F9
theorem M6Ok (n : Nat) : SysOk Try.prog (M6 n) :=
  SysOk.tellMore (.tellMore (.tellMore (M5Ok n) (B1Ok n) rfl rfl) ((sysHOk n).tell 39 _ fun args st r h => by
    obtain ⟨rfl, rfl, rfl⟩ := F38_inv h
    exact ⟨20, ev39 n⟩) rfl rfl) (sysIOk n) rfl rfl
end
end Go.Proofs.Ytciighngjnjmlaa.W
namespace Go.Proofs.Ytciighngjnjmlaa.W
open Go.Fw
set_option maxRecDepth 100000
noncomputable section
noncomputable def nn (c : Bool) (x : Option Res) : Option Res := bif c then x else none
noncomputable def tT : Option Res := some (bl true, [])
noncomputable def zT : AV := .agg (TT 0 ByteArray.empty [])
noncomputable def P6 : List Nat := [1,1,1,1,1,1,1,1,0,1,0]
section
variable (k n : Nat) (l types : List (List AV)) (s : ByteArray) (c i : Int) (R : St → Option Res) (d : List AV)
noncomputable def σ6 (i : Int) : St := ⟨tm 135 [(2, .sl 25 .any types), (4, .ptr 0 0), (103, .sl 52 .any l), (104, i64 (l.length : Nat)), (105, i64 i)], [.box 46 [.k (.string s), i64 c]], []⟩
noncomputable def arg6 (n : Nat) (d : List AV) (X : Option Res) : Option Res := nn (isD n (.agg d) && tyOk n types) (nn (isD n (.agg d) && tyOk n types) X)
noncomputable def cmp6 (n : Nat) (d : List AV) (X : Option Res) : Option Res := bif !(argsB n (n + n) d types c == argsB n (n + n) d types c) then fF else nn (tyEq (n + n) (argsL n (n + n) d types c) (argsL n (n + n) d types c)) X
theorem r6 : roundAt (M6 n) 6 Try.f6 0 k P6 [] R (σ6 l types s c i) = bif decide (i < (l.length : Nat)) then (bif decide (0 ≤ i) && decide (i < (l.length : Nat)) then
  arg6 types n (drow (l.getD i.toNat [])) (cmp6 types c n (drow (l.getD i.toNat [])) (R (σ6 l types s c (IntKind.i64.wrap (i + 1))))) else none) else tT := by kernel_rfl
noncomputable def fd (l types : List (List AV)) (s : ByteArray) : List AV := drow (fndR l s (types.length : Nat))
noncomputable def rest6 : Option Res := nn (dsOk n l) (nn (dsOk n l) (arg6 types n (fd l types s) (bif !(fndB l s (types.length : Nat) == fndB l s (types.length : Nat)) then fF else nn (isD n (.agg (fd l types s)) && eqC (AV.agg (fd l types s)) (AV.agg (fd l types s)))
  (cmp6 types c n (fd l types s) (nn (dfEq n STD STD) (loopAt (M6 n) 6 Try.f6 0 k P6 [] k (σ6 l types s c 0)))))))
theorem b6 : ev (M6 n) (k + 1) 6 [.sl 52 .any l, .agg [.k (.string s), i64 c], .sl 25 .any types] [] =
  bif decide (((types.length : Nat) : Int) > 3) then tT else bif decide ((s.size : Int) > 60) then tT else nn (tyOk n types && rws n l) (bif hasB6 n l types then tT else nn (isT n zT && rws n l) (bif !(fewB n l zT) then tT else rest6 k n l types s c)) := by kernel_rfl
end
end
end Go.Proofs.Ytciighngjnjmlaa.W
namespace Go.Proofs.Ytciighngjnjmlaa.W
open Go.Fw
set_option maxRecDepth 100000
noncomputable section
theorem cond_tt {c : Bool} {x : Bool} (h : (bif c then false else x) = true) : c = false ∧ x = true := by
  cases c with
  | true => cases h
  | false => exact ⟨rfl, h⟩
theorem argsL_ok {n : Nat} {d : List AV} {ts : List (List AV)} {c : Int} (hd : isD n (.agg d) = true) (ht : tyOk n ts = true) : tyOk (n + n) (argsL n (n + n) d ts c) = true := by
  unfold argsL
  cases hb : argsB n (n + n) d ts c with
  | false => rfl
  | true =>
    obtain ⟨D, ctors, e⟩ := isD_ex hd
    cases e
    obtain ⟨_, hc⟩ := isD_ctors hd
    obtain ⟨_, ht2⟩ := tyOk_iff ht
    unfold argsB at hb
    obtain ⟨_, hb⟩ := cond_tt hb
    obtain ⟨h1, hb⟩ := cond_tt hb
    obtain ⟨h2, hb⟩ := cond_tt hb
    obtain ⟨h3, hb⟩ := cond_tt hb
    have h2 : 0 ≤ c := by simpa using h2
    have h3 : decide (c ≥ ((ctors.length : Nat) : Int)) = false := h3
    have h3 : c < (ctors.length : Nat) := by simpa using h3
    have h1 : (!(((ts.length : Nat) : Int) == ((D.params.length : Nat) : Int))) = false := h1
    have h1 : ts.length = D.params.length := by
      have : (ts.length : Int) = (D.params.length : Int) := by simpa using h1
      omega
    obtain ⟨q1, q2⟩ := hc c h2 h3
    refine tyOk_of ?_ fun y hy => ?_
    · rw [cond_true, List.length_map]; exact q1
    · obtain ⟨x, hx, rfl⟩ := List.mem_map.1 hy
      have hx' : x ∈ cargs ctors c := hx
      unfold uR
      rw [trow_of (q2 x hx'), trow_put (q2 x hx')]
      exact put_lv (by show D.params.length ≤ ts.length; omega) ht2 n x (q2 x hx')
theorem nn_true (x : Option Res) : nn true x = x := rfl
theorem arg6_ok {n : Nat} {d : List AV} {types : List (List AV)} {X : Option Res} (hd : isD n (.agg d) = true) (ht : tyOk n types = true) : arg6 types n d X = X := by
  unfold arg6; rw [hd, ht]; rfl
theorem cmp6_ok {n : Nat} {d : List AV} {types : List (List AV)} {c : Int} {X : Option Res} (hd : isD n (.agg d) = true) (ht : tyOk n types = true) : cmp6 types c n d X = X := by
  unfold cmp6 tyEq
  rw [beq_self_eq_true, argsL_ok hd ht, eqC_self]; rfl
theorem loop6 (k n : Nat) (l types : List (List AV)) (s : ByteArray) (c : Int) (hl : l.length ≤ 6) (hr : ∀ x ∈ l, isDr n x = true) (ht : tyOk n types = true) (hk : l.length < k) :
    loopAt (M6 n) 6 Try.f6 0 k P6 [] k (σ6 l types s c 0) = tT :=
  loop_all (S := M6 n) (f := 6) (fn := Try.f6) (m := 0) (k := k) (p := P6) (ms := []) (rows := l) (fun i => σ6 l types s c i) (fun _ => true) tT
    (fun R i hi => (r6 k n l types s c i R).trans (by
      have hx := hr _ (List.getElem_mem hi)
      have hd : isD n (.agg l[i]) = true := hx
      rw [Int.toNat_natCast, getD_at hi, drow_of hx, step1 hi (by omega), decide_eq_true (by omega : (i : Int) < (l.length : Nat)), decide_eq_true (by omega : 0 ≤ (i : Int)), arg6_ok hd ht, cmp6_ok hd ht]
      rfl))
    (fun R => (r6 k n l types s c _ R).trans (stopped _ _ _)) k hk
theorem few_row {n : Nat} {d : List AV} (h : isRow tab 52 n d = true) (hf : dFew n d = true) : isDr n d = true := by
  unfold isDr
  rw [h, Bool.true_and]
  unfold dFew at hf
  obtain ⟨h1, _⟩ := cond_tt hf
  have h1 : ¬ (((dct d).length : Nat) : Int) > 6 := by simpa using h1
  exact Nat.ble_eq_true_of_le (by show (dct d).length ≤ 6; omega)
theorem few_ok {n : Nat} {l : List (List AV)} {v : AV} (hw : rws n l = true) (hf : fewB n l v = true) : l.length ≤ 6 ∧ ∀ x ∈ l, isDr n x = true := by
  unfold fewB at hf
  obtain ⟨h1, hf⟩ := cond_tt hf
  obtain ⟨_, hf⟩ := cond_tt hf
  have h1 : ¬ ((l.length : Nat) : Int) > 6 := by simpa using h1
  exact ⟨by omega, fun x hx => few_row (List.all_eq_true.1 hw x hx) (List.all_eq_true.1 hf x hx)⟩
theorem ds_of {n : Nat} {l : List (List AV)} (hn : 6 ≤ n) (hl : l.length ≤ 6) (hr : ∀ x ∈ l, isDr n x = true) : dsOk n l = true := by
  unfold dsOk
  rw [Nat.ble_eq_true_of_le hn, Nat.ble_eq_true_of_le (by omega : l.length ≤ 1000), List.all_eq_true.2 hr]; rfl
theorem zT_ok {n : Nat} (hn : 1 ≤ n) : isT n zT = true := by
  have h1 : isT 1 zT = true := by kernel_rfl
  exact isT_le h1 hn
theorem std_df {n : Nat} (hn : 6 ≤ n) : dfEq n STD STD = true := by
  unfold dfEq dfOk
  rw [eqC_self, std_len, List.all_eq_true.2 fun x hx => isDr_le (List.all_eq_true.1 std_ok x hx) hn]
  rfl
theorem all6 (n : Nat) (hn : 6 ≤ n) (l types : List (List AV)) (s : ByteArray) (c : Int) (hw : rws n l = true) (ht : tyOk n types = true) : ev (M6 n) (l.length + 1 + 1) 6 [.sl 52 .any l, .agg [.k (.string s), i64 c], .sl 25 .any types] [] = some (bl true, []) := by
  refine (b6 (l.length + 1) n l types s c).trans ?_
  cases decide (((types.length : Nat) : Int) > 3) with
  | true => rfl
  | false =>
  cases decide ((s.size : Int) > 60) with
  | true => rfl
  | false =>
  rw [ht, hw, zT_ok (by omega)]
  cases hasB6 n l types with
  | true => rfl
  | false =>
  cases hf : fewB n l zT with
  | false => rfl
  | true =>
    obtain ⟨hl, hr⟩ := few_ok hw hf
    have hds := ds_of hn hl hr
    have hd : isD n (.agg (fd l types s)) = true := by
      unfold fd
      have := fnd_ok hds s (types.length : Nat)
      rw [drow_of this]; exact this
    show rest6 (l.length + 1) n l types s c = _
    unfold rest6
    rw [hds, nn_true, nn_true, arg6_ok hd ht, beq_self_eq_true, hd, eqC_self, cmp6_ok hd ht, std_df hn, loop6 _ n l types s c hl hr ht (by omega)]
    rfl
theorem arg22 {av : AV} (h : ArgOf tab 22 av) : ∃ rows n, av = .sl 52 .any rows ∧ ∀ r ∈ rows, isRow tab 52 n r = true := by
  have ht : ∃ ti, tab 22 = some ti ∧ ti.isAgg = false ∧ ti.cells = [.sl 52] := ⟨_, rfl, by kernel_rfl, by kernel_rfl⟩
  obtain ⟨ti, h1, h2, h3⟩ := ht
  obtain ⟨rows, n, e, _, hr⟩ := ArgOf_sl h h1 h2 h3
  exact ⟨rows, n, e, hr⟩
theorem arg23 {av : AV} (h : ArgOf tab 23 av) : ∃ rows n, av = .sl 25 .any rows ∧ tyOk n rows = true := by
  have ht : ∃ ti, tab 23 = some ti ∧ ti.isAgg = false ∧ ti.cells = [.sl 25] := ⟨_, rfl, by kernel_rfl, by kernel_rfl⟩
  obtain ⟨ti, h1, h2, h3⟩ := ht
  obtain ⟨rows, n, e, hl, hr⟩ := ArgOf_sl h h1 h2 h3
  rw [bytes25] at hl
  exact ⟨rows, n, e, tyOk_of hl hr⟩
theorem cts46 : cts tab 46 = [.str, .int .i64] := by kernel_rfl
theorem arg46 {av : AV} (h : ArgOf tab 46 av) : ∃ s c, av = .agg [.k (.string s), i64 c] := by
  have ht : ∃ ti, tab 46 = some ti ∧ ti.isAgg = true := ⟨_, rfl, by kernel_rfl⟩
  obtain ⟨ti, h1, h2⟩ := ht
  unfold ArgOf at h
  rw [h1] at h
  simp only [h2] at h
  obtain ⟨avs, rfl, hr, _⟩ := h
  rw [cts46] at hr
  obtain ⟨v1, _, rfl, c1, hr⟩ := rowOk_cons hr
  obtain ⟨v2, _, rfl, c2, hr⟩ := rowOk_cons hr
  obtain rfl := rowOk_nil hr
  obtain ⟨s, rfl⟩ := CT_str c1
  obtain ⟨c, rfl⟩ := CT_int c2
  exact ⟨s, c, rfl⟩
theorem pure6 (avs : List AV) (h : Args tab [22, 46, 23] avs) : ∃ S k, SysOk Try.prog S ∧ S.T = sys.T ∧ ev S k 6 avs [] = some (bl true, []) := by
  match avs, h with
  | [l, x, ts], ⟨hl, hx, ht, _⟩ =>
    obtain ⟨rows, n1, rfl, hr⟩ := arg22 hl
    obtain ⟨s, c, rfl⟩ := arg46 hx
    obtain ⟨types, n2, rfl, ht2⟩ := arg23 ht
    obtain ⟨q1, q2⟩ := tyOk_iff ht2
    have hw : rws (max n1 n2 + 6) rows = true := List.all_eq_true.2 fun r hr' => isRow_le (hr r hr') (by omega)
    have ht3 : tyOk (max n1 n2 + 6) types = true := tyOk_of q1 fun y hy => isTr_le (q2 y hy) (by omega)
    exact ⟨M6 (max n1 n2 + 6), rows.length + 1 + 1, M6Ok _, rfl, all6 _ (by omega) rows types s c hw ht3⟩
end
end Go.Proofs.Ytciighngjnjmlaa.W
namespace Go.Proofs.Ytciighngjnjmlaa.W
open Go.Fw
set_option maxRecDepth 100000
theorem own : ownKnob Try.prog.godebug = none := by kernel_rfl
theorem laidOut : laidOutB Try.prog = true := by kernel_rfl
def tys : List Nat := [22, 46, 23, 52, 25, 77, 9, 3, 4, 49, 50]
theorem plain : plainT tab tys = true := by kernel_rfl
def vl : Value := .slice none 0 0
def vx : Value := .agg #[.string ByteArray.empty, .int .i64 0]
end Go.Proofs.Ytciighngjnjmlaa.W
