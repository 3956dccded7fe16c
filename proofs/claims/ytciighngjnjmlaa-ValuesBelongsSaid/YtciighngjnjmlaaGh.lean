/- A part of the proofs over these laws: what its functions come to. No conditions. -/
import Derived.Test.YtciighngjnjmlaaGk
import Derived.Test.YtciighngjnjmlaaRows
set_option linter.all false
namespace Go.Proofs.Ytciighngjnjmlaa.W
open Go.Fw
set_option maxRecDepth 100000
noncomputable section
noncomputable def F13 (D B n : Nat) : List AV → List AObj → Ab Res := fun args st => match args, st with
  | [.sl 52 .any l, .agg t, .agg v], [] => some (okB D B n l t v, (bl (belR D B l n t v), []))
  | _, _ => none
noncomputable def R0 (D B n : Nat) : FSys := (N3 D B).tell 13 (F13 D B n)
noncomputable def tp (p q : Bool) : Option Res := some (.tup [bl p, bl q], [])
noncomputable def P61 : List Nat := [1,1,1,0,1,0,1,0,1,0]
noncomputable def iP (c : Bool) (X : Option Res) : Option Res := bif c then X else tp true false
section
variable (D B n k : Nat) (l z rows : List (List AV)) (y s : ByteArray) (R : St → Option Res) (x a b i : Int) (ok : Bool)
noncomputable def σ61 (ok : Bool) (i : Int) : St := ⟨tm 164 [(0, .sl 52 .any l), (4, .ptr 0 0), (5, .ptr 1 0), (8, bl ok), (9, i64 i)], [.box 25 (TT x y z), .box 28 (VV a b s rows)], []⟩
theorem r61 : roundAt (R0 D B n) 61 Try.f61 0 k P61 [] R (σ61 l z rows y s x a b ok i) = bif decide (i < (rows.length : Nat)) then (bif ok then (bif decide ((0 : Int) ≤ 0) && decide ((0 : Int) < (z.length : Nat)) then (bif decide (0 ≤ i) && decide (i < (rows.length : Nat)) then
  (bif okB D B n l (elT z) (nx rows i) then R (σ61 l z rows y s x a b (belR D B l n (elT z) (nx rows i)) (IntKind.i64.wrap (i + 1))) else none) else none) else none) else tp true ok) else tp true ok := by kernel_rfl
noncomputable def L61 (ok : Bool) : Option Res := loopAt (R0 D B n) 61 Try.f61 0 k P61 [] k (σ61 l z rows y s x a b ok 0)
noncomputable def nm61 : Option Res := bif y == sInt then iP (a == 1) (iP (bareB true false false b s rows) (iP (decide (b ≥ -4611686018427387903)) (tp true (decide (b ≤ 4611686018427387903)))))
  else bif y == sChar then iP (a == 2) (iP (bareB true false false b s rows) (tp true (chr b)))
  else bif y == sStr then iP (a == 3) (iP (bareB false true false b s rows) (nB (Nat.ble s.size 1000) (tp true (txt s))))
  else bif y == sIo then iP (a == 8) (iP (bareB true false false b s rows) (tp true (decide (b ≥ 0)))) else tp false false
noncomputable def pl61 : Option Res := bif !(x == 1) then tp (!(x == 1)) false else bif decide (((z.length : Nat) : Int) > 0) then tp (!(x == 1)) false else nm61 rows y s a b
noncomputable def ar61 : Option Res := bif a == 7 then (bif bareB false false true b s rows then L61 D B n k l z rows y s x a b (decide (((rows.length : Nat) : Int) ≤ 65536)) else L61 D B n k l z rows y s x a b false) else L61 D B n k l z rows y s x a b false
theorem b61 : ev (R0 D B n) (k + 1) 61 [.sl 52 .any l, .agg (TT x y z), .agg (VV a b s rows)] [] =
  bif x == 2 then iP (a == 5) (iP (bareB true false true b s rows) (tp true (decide (b ≥ 0)))) else bif x == 3 then iP (a == 6) (iP (bareB true false true b s rows) (tp true (decide (b ≥ 0)))) else
  bif x == 1 then (bif y == sArr then (bif ((z.length : Nat) : Int) == 1 then ar61 D B n k l z rows y s x a b else pl61 z rows y s x a b) else pl61 z rows y s x a b) else pl61 z rows y s x a b := by kernel_rfl
end
end
end Go.Proofs.Ytciighngjnjmlaa.W
namespace Go.Proofs.Ytciighngjnjmlaa.W
open Go.Fw
set_option maxRecDepth 100000
noncomputable section
noncomputable def cl (t : List AV) : Nat := clsN (tk t) (tn t) (ta t)
noncomputable def F61 (D B n : Nat) : List AV → List AObj → Ab Res := fun args st => match args, st with
  | [.sl 52 .any l, .agg t, .agg v], [] => some (okB D B (n + 1) l t v, (.tup [bl (!(Nat.beq (cl t) 129)), bl (bif Nat.beq (cl t) 129 then false else belR D B l (n + 1) t v)], []))
  | _, _ => none
theorem fold61 (p : List AV → Bool) : ∀ (rows : List (List AV)) (c : Bool), foldS (A := Bool) (fun c _ => !c) (fun c _ => tp true c) (fun _ x => p x) (fun c => tp true c) rows c = tp true (c && rows.all p)
  | [], c => by simp only [foldS, List.all_nil, Bool.and_true]
  | x :: xs, c => by
    simp only [foldS, List.all_cons]
    cases c with
    | false => rfl
    | true =>
      simp only [Bool.not_true, cond_false, Bool.true_and]
      exact fold61 p xs (p x)
theorem loop61 {D B n k : Nat} {l z rows : List (List AV)} {y s : ByteArray} {x a b : Int} (ok : Bool) (hz : 0 < z.length) (h : okBs D B n l z rows = true) (hk : rows.length < k) :
    L61 D B n k l z rows y s x a b ok = tp true (ok && rows.all (belR D B l n (elT z))) := by
  obtain ⟨hl, hr⟩ := okBs_iff h
  have hrv : ∀ r ∈ rows, isVr n r = true := fun r hr' => (okB_iff (hr r hr')).1
  have Q := loop_list (S := R0 D B n) (f := 61) (fn := Try.f61) (m := 0) (k := k) (p := P61) (ms := []) (rows := rows) (A := Bool) (fun c i => σ61 l z rows y s x a b c i) (fun c _ => !c) (fun c _ => tp true c) (fun _ v => belR D B l n (elT z) v) (fun c => tp true c)
    (fun R c i hi => (r61 D B n k l z rows y s R x a b i c).trans (by
      rw [nx_at hrv hi, hr _ (List.getElem_mem hi), step1 hi (by omega), decide_eq_true (by omega : (i : Int) < (rows.length : Nat)), decide_eq_true (by omega : 0 ≤ (i : Int)), decide_eq_true (by omega : (0 : Int) < (z.length : Nat))]
      cases c <;> rfl))
    (fun R c => (r61 D B n k l z rows y s R x a b _ c).trans (stopped _ _ _)) k 0 ok (Nat.zero_le _) (by omega)
  exact Q.trans (fold61 _ rows ok)
theorem iP3 {p q u : Bool} : iP p (iP q (tp true u)) = tp true (p && (q && u)) := by cases p <;> cases q <;> rfl
theorem iP4 {p q u v : Bool} : iP p (iP q (iP u (tp true v))) = tp true (p && (q && (u && v))) := by cases p <;> cases q <;> cases u <;> rfl
theorem bare_tft (b : Int) (s : ByteArray) (rows : List (List AV)) : bareB true false true b s rows = (s == ByteArray.empty) := by
  unfold bareB
  cases s == ByteArray.empty <;> rfl
section
variable {q2 q3 q1 qa qc : Bool} {X2 X3 A P : Option Res}
theorem pick61a (h2 : q2 = false) (h3 : q3 = false) (h1 : q1 = true) (ha : qa = true) (hc : qc = true) : (bif q2 then X2 else bif q3 then X3 else bif q1 then (bif qa then (bif qc then A else P) else P) else P) = A := by subst h2 h3 h1 ha hc; rfl
theorem pick61p (h2 : q2 = false) (h3 : q3 = false) (h : (q1 && (qa && qc)) = false) : (bif q2 then X2 else bif q3 then X3 else bif q1 then (bif qa then (bif qc then A else P) else P) else P) = P := by
  subst h2 h3
  cases q1 <;> cases qa <;> cases qc <;> first | rfl | cases h
theorem pick61b (h2 : q2 = true) : (bif q2 then X2 else A) = X2 := by subst h2; rfl
theorem pick61c (h2 : q2 = false) (h3 : q3 = true) : (bif q2 then X2 else bif q3 then X3 else A) = X3 := by subst h2 h3; rfl
end
theorem pl61_args {rows z : List (List AV)} {y s : ByteArray} {x a b : Int} (h : (!(x == 1)) = false) (h2 : decide (((z.length : Nat) : Int) > 0) = true) : pl61 z rows y s x a b = tp false false := by
  unfold pl61; rw [h, h2]; rfl
theorem nm61_eq {rows z : List (List AV)} {y s : ByteArray} {a b : Int} (z0 : (((z.length : Nat) : Int) == 0) = true) (z1 : (((z.length : Nat) : Int) == 1) = false) (hs : Nat.ble s.size 1000 = true) :
    nm61 rows y s a b = tp (!(Nat.beq (clsN 1 y z) 129)) (bif Nat.beq (clsN 1 y z) 129 then false else lf (clsN 1 y z) a b s rows) := by
  unfold nm61 clsN isPl plN
  rw [z0, z1, hs]
  cases y == sInt with
  | true => exact iP4
  | false =>
  cases y == sChar with
  | true => exact iP3
  | false =>
  cases y == sStr with
  | true => exact iP3
  | false =>
  cases y == sIo with
  | true => exact iP3
  | false => rfl
noncomputable def res61 (c : Nat) (m : Bool) : Option Res := tp (!(Nat.beq c 129)) (bif Nat.beq c 129 then false else m)
noncomputable def mod61 (D B n : Nat) (l z rows : List (List AV)) (y s : ByteArray) (x a b : Int) : Bool := bif Nat.beq (clsN x y z) 128 then arrB a b s rows && rows.all (belR D B l n (elT z)) else bif Nat.beq (clsN x y z) 129 then datM D B n l y z a b s rows else lf (clsN x y z) a b s rows
theorem e61 {D B n k : Nat} {l z rows : List (List AV)} {y s : ByteArray} {x a b : Int} (ho : okB D B (n + 1) l (TT x y z) (VV a b s rows) = true) (hs : Nat.ble s.size 1000 = true) (hk : rows.length < k) :
    ev (R0 D B n) (k + 1) 61 [.sl 52 .any l, .agg (TT x y z), .agg (VV a b s rows)] [] = res61 (clsN x y z) (mod61 D B n l z rows y s x a b) := by
  refine (b61 D B n k l z rows y s x a b).trans ?_
  unfold res61 mod61
  cases e2 : x == 2 with
  | true =>
    have x2 : x = 2 := eq_of_beq e2
    have hc : clsN x y z = 130 := by subst x2; rfl
    refine (pick61b rfl).trans ?_
    rw [hc, bare_tft, iP3]
    show tp true _ = tp true (a == 5 && (decide (b ≥ 0) && s == ByteArray.empty))
    cases a == 5 <;> cases s == ByteArray.empty <;> cases decide (b ≥ 0) <;> rfl
  | false =>
  cases e3 : x == 3 with
  | true =>
    have x3 : x = 3 := eq_of_beq e3
    have hc : clsN x y z = 131 := by subst x3; rfl
    refine (pick61c rfl rfl).trans ?_
    rw [hc, bare_tft, iP3]
    show tp true _ = tp true (a == 6 && (decide (b ≥ 0) && s == ByteArray.empty))
    cases a == 6 <;> cases s == ByteArray.empty <;> cases decide (b ≥ 0) <;> rfl
  | false =>
  cases e1 : x == 1 with
  | false =>
    have hc : clsN x y z = 0 := by unfold clsN; rw [e1, e2, e3]; rfl
    refine (pick61p rfl rfl rfl).trans ?_
    rw [hc]
    unfold pl61
    rw [e1]; rfl
  | true =>
    have n1 : (!(x == 1)) = false := by rw [e1]; rfl
    by_cases hz1 : z.length = 1
    · have hz : 0 < z.length := by omega
      have z1 : (((z.length : Nat) : Int) == 1) = true := by rw [beq_iff_eq]; omega
      have z0 : (((z.length : Nat) : Int) == 0) = false := by rw [beq_eq_false_iff_ne]; omega
      have zp : decide (((z.length : Nat) : Int) > 0) = true := decide_eq_true (by omega)
      cases hy : y == sArr with
      | true =>
        have hc : clsN x y z = 128 := by unfold clsN; rw [e1, z1, z0, hy]; rfl
        have hl := fun ok => loop61 (k := k) (x := x) (y := y) (s := s) (a := a) (b := b) ok hz (child_arr ho hz) hk
        refine (pick61a rfl rfl rfl rfl z1).trans ?_
        rw [hc]
        unfold ar61 arrB
        rw [hl, hl]
        cases a == 7 <;> cases bareB false false true b s rows <;> rfl
      | false =>
        have hc : clsN x y z = 129 := by unfold clsN; rw [e1, z1, z0, hy]; rfl
        refine (pick61p rfl rfl rfl).trans ((pl61_args n1 zp).trans ?_)
        rw [hc]; rfl
    · have z1 : (((z.length : Nat) : Int) == 1) = false := by rw [beq_eq_false_iff_ne]; omega
      refine (pick61p rfl rfl (by rw [z1]; simp)).trans ?_
      by_cases hz0 : z.length = 0
      · have z0 : (((z.length : Nat) : Int) == 0) = true := by rw [beq_iff_eq]; omega
        have zp : decide (((z.length : Nat) : Int) > 0) = false := decide_eq_false (by omega)
        have x1 : x = 1 := eq_of_beq e1
        subst x1
        have n128 : Nat.beq (clsN 1 y z) 128 = false := by
          unfold clsN plN; rw [z0, z1]
          cases isPl y <;> cases y == sInt <;> cases y == sChar <;> cases y == sStr <;> rfl
        unfold pl61
        rw [zp, n1, n128]
        refine (nm61_eq (z := z) z0 z1 hs).trans ?_
        cases hb : Nat.beq (clsN 1 y z) 129 <;> rfl
      · have z0 : (((z.length : Nat) : Int) == 0) = false := by rw [beq_eq_false_iff_ne]; omega
        have zp : decide (((z.length : Nat) : Int) > 0) = true := decide_eq_true (by omega)
        have hc : clsN x y z = 129 := by unfold clsN; rw [e1, z1, z0]; rfl
        refine (pl61_args n1 zp).trans ?_
        rw [hc]; rfl
theorem told61 {D B n : Nat} (args : List AV) (st : List AObj) (r : Res) (h : F61 D B n args st = some (true, r)) : ∃ k, ev (R0 D B n) k 61 args st = some r := by
  unfold F61 at h
  split at h
  · rename_i l t v
    simp only [Option.some.injEq, Prod.mk.injEq] at h
    obtain ⟨ho, rfl⟩ := h
    obtain ⟨h1, h2, h3, h4⟩ := okB_iff ho
    obtain ⟨a, b, s, rows, rfl⟩ := isVr_ex h1
    obtain ⟨x, y, z, rfl⟩ := isTr_ex h3
    obtain ⟨hs, _⟩ := txR_lit h2
    exact ⟨rows.length + 1 + 1, (e61 ho hs (Nat.lt_succ_self _)).trans rfl⟩
  · cases h
noncomputable def R1 (D B n : Nat) : FSys := (R0 D B n).tell 61 (F61 D B n)
noncomputable def σ13 (l T rows : List (List AV)) (s : ByteArray) (a b i : Int) : St := ⟨tm 94 [(0, .sl 52 .any l), (5, .ptr 0 0), (11, .sl 25 .any T), (12, i64 i)], [.box 28 (VV a b s rows)], []⟩
noncomputable def P13 : List Nat := [1,1,1,1,1,1,0,1,0]
section
variable (D B n k : Nat) (l z rows T : List (List AV)) (y s : ByteArray) (R : St → Option Res) (x a b i : Int)
theorem r13 : roundAt (R1 D B n) 13 Try.f13 0 k P13 [] R (σ13 l T rows s a b i) = bif decide (i < (T.length : Nat)) then (bif decide (0 ≤ i) && decide (i < (T.length : Nat)) then (bif decide (0 ≤ i) && decide (i < (rows.length : Nat)) then
  (bif okB D B n l (trow (T.getD i.toNat [])) (nx rows i) then (bif !(belR D B l n (trow (T.getD i.toNat [])) (nx rows i)) then fF else R (σ13 l T rows s a b (IntKind.i64.wrap (i + 1)))) else none) else none) else none) else some tr := by kernel_rfl
theorem b13 : evTop (R1 D B n) k 13 [.sl 52 .any l, .agg (TT x y z), .agg (VV a b s rows)] [] = nB (okB D B (n + 1) l (TT x y z) (VV a b s rows)) (bif !(Nat.beq (clsN x y z) 129) then some (bl (bif Nat.beq (clsN x y z) 129 then false else belR D B l (n + 1) (TT x y z) (VV a b s rows)), []) else
  nB (dsOk D l) (bif !(fndB l y (z.length : Nat)) then fF else bif !(a == 4) then fF else bif !(bareB true false true b s rows) then fF else bif decide (b < 0) then fF else bif decide (b ≥ ((dct (dfn l y z)).length : Nat)) then fF else
  nB (isD D (.agg (dfn l y z)) && tyOk B z) (bif !(isTy D B l y z b) then fF else bif !((((typs D B l y z b).length : Nat) : Int) == ((rows.length : Nat) : Int)) then fF else loopAt (R1 D B n) 13 Try.f13 0 k P13 [] k (σ13 l (typs D B l y z b) rows s a b 0)))) := by kernel_rfl
end
end
end Go.Proofs.Ytciighngjnjmlaa.W
namespace Go.Proofs.Ytciighngjnjmlaa.W
open Go.Fw
set_option maxRecDepth 100000
noncomputable section
theorem F13_inv {D B n : Nat} {args : List AV} {st : List AObj} {r : Res} (h : F13 D B n args st = some (true, r)) : ∃ l t v, args = [.sl 52 .any l, .agg t, .agg v] ∧ st = [] ∧ okB D B n l t v = true ∧ r = (bl (belR D B l n t v), []) := by
  unfold F13 at h
  split at h
  · rename_i l t v
    simp only [Option.some.injEq, Prod.mk.injEq] at h
    exact ⟨l, t, v, rfl, rfl, h.1, h.2.symm⟩
  · cases h
section
variable {D B n : Nat}
theorem loop13 {l T rows : List (List AV)} {s : ByteArray} {a b : Int} {k : Nat} (he : T.length = rows.length) (hb : rows.length * 56 ≤ 140737488351232) (h : all2 (okB D B n l) T rows = true) (hk : rows.length < k) :
    loopAt (R1 D B n) 13 Try.f13 0 k P13 [] k (σ13 l T rows s a b 0) = some (bl (all2 (belR D B l n) T rows), []) := by
  have hrv : ∀ r ∈ rows, isVr n r = true := fun r hr => by
    obtain ⟨i, hi, rfl⟩ := List.getElem_of_mem hr
    exact (okB_iff (all2_at h i (by omega) hi)).1
  have key := loop_up (S := R1 D B n) (f := 13) (fn := Try.f13) (m := 0) (k := k) (p := P13) (ms := []) (fun i => σ13 l T rows s a b ((i : Nat) : Int)) T.length (fun i => some (bl (all2 (belR D B l n) (T.drop i) (rows.drop i)), []))
    (fun i hT R hR => by
      have hi : i < rows.length := by omega
      have ho := all2_at h i hT hi
      have ht := (okB_iff ho).2.2.1
      refine (r13 D B n k l rows T s R a b i).trans ?_
      rw [nx_at hrv hi, Int.toNat_natCast, getD_at hT, trow_of ht, ho, step1 hi (by omega), hR, decide_eq_true (by omega : (i : Int) < (rows.length : Nat)), decide_eq_true (by omega : 0 ≤ (i : Int)), decide_eq_true (by omega : (i : Int) < (T.length : Nat)), List.drop_eq_getElem_cons hT, List.drop_eq_getElem_cons hi]
      simp only [all2]
      cases belR D B l n T[i] rows[i] <;> rfl)
    (fun R => by
      refine (r13 D B n k l rows T s R a b _).trans ((stopped _ _ _).trans ?_)
      have e : rows.drop T.length = [] := by rw [he, List.drop_length]
      rw [List.drop_length, e]; rfl)
    k 0 (Nat.zero_le _) (by omega)
  exact key
theorem top13 (args : List AV) (st : List AObj) (r : Res) (h : F13 D B (n + 1) args st = some (true, r)) : ∃ k, evTop (R1 D B n) k 13 args st = some r := by
  obtain ⟨l, t, v, rfl, rfl, ho, rfl⟩ := F13_inv h
  obtain ⟨h1, h2, h3, h4⟩ := okB_iff ho
  obtain ⟨a, b, s, rows, rfl⟩ := isVr_ex h1
  obtain ⟨x, y, z, rfl⟩ := isTr_ex h3
  refine ⟨rows.length + 1, (b13 D B n _ l z rows y s x a b).trans ?_⟩
  rw [ho]
  cases hc : Nat.beq (clsN x y z) 129 with
  | false => rfl
  | true =>
    have hcc := Nat.eq_of_beq_eq_true hc
    have hd := child_dat ho
    unfold ok129 at hd
    simp only [Bool.and_eq_true] at hd
    obtain ⟨_, g2, g3⟩ := hd
    have e : belR D B l (n + 1) (TT x y z) (VV a b s rows) = datM D B n l y z a b s rows := by rw [belR_eq, hcc]; rfl
    rw [e, h4, bare_tft, dfn_ok h4, g2]
    unfold datM datB
    rw [dec_le, dec_lt b ((dct (dfn l y z)).length : Nat), len_eq]
    cases fndB l y (z.length : Nat) with
    | false => rfl
    | true =>
    cases a == 4 with
    | false => rfl
    | true =>
    cases s == ByteArray.empty with
    | false => rfl
    | true =>
    cases decide (b < 0) with
    | true => rfl
    | false =>
    cases decide (b ≥ ((dct (dfn l y z)).length : Nat)) with
    | true => rfl
    | false =>
    cases isTy D B l y z b with
    | false => rfl
    | true =>
    cases hL : Nat.beq (typs D B l y z b).length rows.length with
    | false => rfl
    | true =>
      unfold okT at g3
      rw [hL, cond_true, Bool.and_eq_true] at g3
      exact loop13 (Nat.eq_of_beq_eq_true hL) (Nat.le_of_ble_eq_true g3.1) g3.2 (by omega)
end
theorem R0Ok (D B : Nat) : ∀ n, SysOk Try.prog (R0 D B n) :=
  (N3Ok D B).lvRec 13 (F13 D B) (R1 D B) (fun args st r hF => by
    obtain ⟨l, t, v, _, _, ho, _⟩ := F13_inv hF
    have := (okB_iff ho).1
    rw [isVr_zero] at this; cases this) (fun n h => h.tell 61 _ told61) (fun _ => rfl) (fun _ => rfl) (fun n args st r h => top13 args st r h)
theorem b12 (D B n k : Nat) (l z rows : List (List AV)) (y s : ByteArray) (x a b : Int) : ev (U0 D B n) (k + 1) 12 [.sl 52 .any l, .agg (TT x y z), .agg (VV a b s rows)] [] = nB (okB D B n l (TT x y z) (VV a b s rows)) (some (bl (belR D B l n (TT x y z) (VV a b s rows)), [])) := by kernel_rfl
theorem K12 (D B n : Nat) : SysOk Try.prog ((U0 D B n).tell 12 (F13 D B n)) := (U0Ok D B n).tell 12 _ fun args st r h => by
  obtain ⟨l, t, v, rfl, rfl, ho, rfl⟩ := F13_inv h
  obtain ⟨h1, _, h3, _⟩ := okB_iff ho
  obtain ⟨a, b, s, rows, rfl⟩ := isVr_ex h1
  obtain ⟨x, y, z, rfl⟩ := isTr_ex h3
  exact ⟨0 + 1, (b12 D B n 0 l z rows y s x a b).trans (by rw [ho]; rfl)⟩
noncomputable def Bq (q : Nat) : Nat := q * q + q
noncomputable def Z3 (q : Nat) : FSys := (((((U0 q (Bq q) q).tell 12 (F13 q (Bq q) q)).tell 13 (F13 q (Bq q) q)).tell 10 (F10 q)).tell 11 (F11 q)).tell 9 F9
theorem Z3Ok (q : Nat) : SysOk Try.prog (Z3 q) :=
  SysOk.tellMore (.tellMore (.tellMore (.tellMore (K12 q (Bq q) q) (R0Ok q (Bq q) q) rfl rfl) (K10 q q) rfl rfl) (K11 q q) rfl rfl) (sysIOk q) rfl rfl
theorem b3 (q k : Nat) (l z rows : List (List AV)) (y s : ByteArray) (x a b : Int) : ev (Z3 q) (k + 1) 3 [.sl 52 .any l, .agg (TT x y z), .agg (VV a b s rows)] [] =
  nB (isT q (.agg (TT x y z)) && rws q l) (bif !(fewB q l (.agg (TT x y z))) then some tr else nB (isV q (.agg (VV a b s rows))) (bif !(cntA q 100 (.agg (VV a b s rows))).1 then some tr else
    nB (okB q (Bq q) q l (TT x y z) (VV a b s rows)) (nB (okB q (Bq q) q l (TT x y z) (VV a b s rows)) (some (bl (belR q (Bq q) l q (TT x y z) (VV a b s rows) == belR q (Bq q) l q (TT x y z) (VV a b s rows)), []))))) := by kernel_rfl
end
end Go.Proofs.Ytciighngjnjmlaa.W
namespace Go.Proofs.Ytciighngjnjmlaa.W
open Go.Fw
set_option maxRecDepth 100000
noncomputable section
theorem fIdx_all {f : Int → List AV → Bool × Int} : ∀ (l : List (List AV)) (c i : Int), 0 ≤ i → (fIdx f l c i).1 < 0 → ∀ x ∈ l, ∃ c', (f c' x).1 = true
  | [], _, _, _, _, x, hx => by cases hx
  | y :: ys, c, i, hi, h, x, hx => by
    simp only [fIdx] at h
    cases hp : (f c y).1 with
    | false => rw [hp] at h; simp only [cond_false] at h; omega
    | true =>
      rw [hp] at h
      simp only [cond_true] at h
      rcases List.mem_cons.1 hx with rfl | hx
      · exact ⟨c, hp⟩
      · exact fIdx_all ys _ (i + 1) (by omega) h x hx
theorem cnt_tx : ∀ (n : Nat) (r : List AV) (c : Int), isVr n r = true → (cntR n c r).1 = true → txR n r = true
  | 0, r, c, h, _ => by rw [isVr_zero] at h; cases h
  | n + 1, r, c, h, ht => by
    obtain ⟨a, b, s, rows, rfl, _, hr⟩ := isVr_succ h
    have e : cntR (n + 1) c (VV a b s rows) = bif decide (w64 (c - 1) ≥ 0) then (bif decide ((s.size : Int) ≤ 300) then (!(decide ((fIdx (cntR n) rows (w64 (c - 1)) 0).1 ≥ 0)), (fIdx (cntR n) rows (w64 (c - 1)) 0).2) else (false, w64 (c - 1))) else (false, w64 (c - 1)) := rfl
    rw [e] at ht
    cases h1 : decide (w64 (c - 1) ≥ 0) with
    | false => rw [h1] at ht; cases ht
    | true =>
      rw [h1] at ht
      cases h2 : decide ((s.size : Int) ≤ 300) with
      | false => rw [h2] at ht; cases ht
      | true =>
        rw [h2] at ht
        have ht : (!(decide ((fIdx (cntR n) rows (w64 (c - 1)) 0).1 ≥ 0))) = true := ht
        have hlt : (fIdx (cntR n) rows (w64 (c - 1)) 0).1 < 0 := by
          rw [Bool.not_eq_true', decide_eq_false_iff_not] at ht
          omega
        have h2 := of_decide_eq_true h2
        show (Nat.ble s.size 1000 && rows.all (txR n)) = true
        rw [Nat.ble_eq_true_of_le (by omega : s.size ≤ 1000), Bool.true_and, List.all_eq_true]
        intro x hx
        obtain ⟨c', hc'⟩ := fIdx_all rows _ 0 (Int.le_refl _) hlt x hx
        exact cnt_tx n x c' (hr x hx) hc'
theorem few_row' {n : Nat} {d : List AV} (h : isRow tab 52 n d = true) (hf : dFew n d = true) : isDr n d = true := by
  unfold isDr
  rw [h, Bool.true_and]
  unfold dFew at hf
  obtain ⟨h1, _⟩ := cond_tt' hf
  have h1 : ¬ (((dct d).length : Nat) : Int) > 6 := by simpa using h1
  exact Nat.ble_eq_true_of_le (by show (dct d).length ≤ 6; omega)
theorem few_ds {n : Nat} {l : List (List AV)} {v : AV} (hn : 6 ≤ n) (hw : rws n l = true) (hf : fewB n l v = true) : dsOk n l = true := by
  unfold fewB at hf
  obtain ⟨h1, hf⟩ := cond_tt' hf
  obtain ⟨_, hf⟩ := cond_tt' hf
  have h1 : ¬ ((l.length : Nat) : Int) > 6 := by simpa using h1
  unfold dsOk
  rw [Nat.ble_eq_true_of_le hn, Nat.ble_eq_true_of_le (by omega : l.length ≤ 1000), Bool.true_and, Bool.true_and, List.all_eq_true]
  exact fun x hx => few_row' (List.all_eq_true.1 hw x hx) (List.all_eq_true.1 hf x hx)
theorem all3 (q : Nat) (hq : 6 ≤ q) (l z rows : List (List AV)) (y s : ByteArray) (x a b : Int) (hw : rws q l = true) (ht : isTr q (TT x y z) = true) (hv : isVr q (VV a b s rows) = true) :
    ev (Z3 q) (0 + 1) 3 [.sl 52 .any l, .agg (TT x y z), .agg (VV a b s rows)] [] = some (bl true, []) := by
  refine (b3 q 0 l z rows y s x a b).trans ?_
  have h1 : isT q (.agg (TT x y z)) = true := ht
  have h2 : isV q (.agg (VV a b s rows)) = true := hv
  rw [h1, h2, hw]
  cases hf : fewB q l (.agg (TT x y z)) with
  | false => rfl
  | true =>
  cases hc : (cntA q 100 (.agg (VV a b s rows))).1 with
  | false => rfl
  | true =>
    have hlv : Bq q - q * q = q := by unfold Bq; omega
    have ho : okB q (Bq q) q l (TT x y z) (VV a b s rows) = true := okB_of hv (cnt_tx q _ 100 hv hc) (by rw [hlv]; exact ht) (few_ds hq hw hf)
    rw [ho, beq_self_eq_true]
    rfl
theorem a22 {av : AV} (h : ArgOf tab 22 av) : ∃ rows n, av = .sl 52 .any rows ∧ ∀ r ∈ rows, isRow tab 52 n r = true := by
  have ht : ∃ ti, tab 22 = some ti ∧ ti.isAgg = false ∧ ti.cells = [.sl 52] := ⟨_, rfl, by kernel_rfl, by kernel_rfl⟩
  obtain ⟨ti, h1, h2, h3⟩ := ht
  obtain ⟨rows, n, e, _, hr⟩ := ArgOf_sl h h1 h2 h3
  exact ⟨rows, n, e, hr⟩
theorem a25 {av : AV} (h : ArgOf tab 25 av) : ∃ n, isT n av = true := by
  have ht : ∃ ti, tab 25 = some ti ∧ ti.isAgg = true := ⟨_, rfl, by kernel_rfl⟩
  obtain ⟨ti, h1, h2⟩ := ht
  exact ArgOf_isVal h h1 h2
theorem a28 {av : AV} (h : ArgOf tab 28 av) : ∃ n, isV n av = true := by
  have ht : ∃ ti, tab 28 = some ti ∧ ti.isAgg = true := ⟨_, rfl, by kernel_rfl⟩
  obtain ⟨ti, h1, h2⟩ := ht
  exact ArgOf_isVal h h1 h2
theorem pure3 (avs : List AV) (h : Args tab [22, 25, 28] avs) : ∃ S k, SysOk Try.prog S ∧ S.T = sys.T ∧ ev S k 3 avs [] = some (bl true, []) := by
  match avs, h with
  | [l, t, v], ⟨hl, ht, hv, _⟩ =>
    obtain ⟨rows, n1, rfl, hr⟩ := a22 hl
    obtain ⟨n2, h2⟩ := a25 ht
    obtain ⟨n3, h3⟩ := a28 hv
    obtain ⟨x, y, z, rfl⟩ := isT_ex h2
    obtain ⟨a, b, s, rs, rfl⟩ := isV_ex h3
    have hw : rws (n1 + n2 + n3 + 6) rows = true := List.all_eq_true.2 fun r hr' => isRow_le (hr r hr') (by omega)
    exact ⟨Z3 (n1 + n2 + n3 + 6), 0 + 1, Z3Ok _, rfl, all3 _ (by omega) rows z rs y s x a b hw (isTr_le h2 (by omega)) (isRow_le (t := 28) h3 (by omega))⟩
theorem own : ownKnob Try.prog.godebug = none := by kernel_rfl
theorem laidOut : laidOutB Try.prog = true := by kernel_rfl
def tys : List Nat := [22, 25, 28, 23, 26, 52, 77, 9, 3, 2, 4, 49, 50]
theorem plain : plainT tab tys = true := by kernel_rfl
def vl : Value := .slice none 0 0
def vt : Value := .agg #[.int .i64 0, .string ByteArray.empty, .slice none 0 0]
def vz : Value := .agg #[.int .i64 0, .int .i64 0, .string ByteArray.empty, .slice none 0 0]
end
end Go.Proofs.Ytciighngjnjmlaa.W
