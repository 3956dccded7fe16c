/- A part of the proofs over these laws: what its functions come to. No conditions. -/
import Derived.Test.YtciighngjnjmlaaGj
set_option linter.all false
namespace Go.Proofs.Ytciighngjnjmlaa.W
open Go.Fw
set_option maxRecDepth 100000
noncomputable section
noncomputable def NB (D B : Nat) : FSys := ((((B2 D).tell 30 (FFind D)).tell 31 (FFind D)).tell 32 (FArg B D)).tell 33 (FArg B D)
theorem dummyNB : True := trivial
noncomputable def bareB (p q r : Bool) (b : Int) (s : ByteArray) (rows : List (List AV)) : Bool := (p || b == 0) && ((q || s == ByteArray.empty) && (r || ((rows.length : Nat) : Int) == 0))
noncomputable def Fbare : List AV → List AObj → Ab Res := fun args st => match args, st with
  | [.agg [.k (.int .i64 _), .k (.int .i64 b), .k (.string s), .sl 28 .any rows], .k (.bool p), .k (.bool q), .k (.bool r)], [] => some (true, (bl (bareB p q r b s rows), []))
  | _, _ => none
noncomputable def chr (n : Int) : Bool := n == 9 || (n == 10 || (decide (n ≥ 32) && decide (n ≤ 126)))
noncomputable def Fchr : List AV → List AObj → Ab Res := fun args st => match args, st with
  | [.k (.int .i64 n)], [] => some (true, (bl (chr n), []))
  | _, _ => none
section
variable (D B k : Nat) (rows : List (List AV)) (s : ByteArray) (R : St → Option Res) (a b i n : Int) (p q r : Bool)
noncomputable def ebare (p q r : Bool) (b : Int) (s : ByteArray) (rows : List (List AV)) : Option Res := bif p || b == 0 then (bif q || s == ByteArray.empty then some (bl (r || ((rows.length : Nat) : Int) == 0), []) else fF) else fF
theorem b62 : ev (NB D B) (k + 1) 62 [.agg (VV a b s rows), bl p, bl q, bl r] [] = ebare p q r b s rows := by cases p <;> cases q <;> cases r <;> kernel_rfl
theorem b122 : ev (NB D B) (k + 1) 122 [.agg (VV a b s rows), bl p, bl q, bl r] [] = ebare p q r b s rows := by cases p <;> cases q <;> cases r <;> kernel_rfl
noncomputable def echr (n : Int) : Option Res := bif n == 9 then tT' else bif n == 10 then tT' else bif decide (n ≥ 32) then some (bl (decide (n ≤ 126)), []) else fF
where tT' : Option Res := some (bl true, [])
theorem b99 : ev (NB D B) (k + 1) 99 [i64 n] [] = echr n := by kernel_rfl
theorem b124 : ev (NB D B) (k + 1) 124 [i64 n] [] = echr n := by kernel_rfl
end
end
end Go.Proofs.Ytciighngjnjmlaa.W
namespace Go.Proofs.Ytciighngjnjmlaa.W
open Go.Fw
set_option maxRecDepth 100000
noncomputable section
theorem NBOk (D B : Nat) : SysOk Try.prog (NB D B) := by
  have h2 : ∀ args st r, FArg B D args st = some (true, r) → ∃ k, ev (A4 B D (D + B)) k 32 args st = some r := fun args st r h => told32 B D args st r (FArg_args h)
  have h3 : ∀ args st r, FArg B D args st = some (true, r) → ∃ k, ev (A4 B D (D + B)) k 33 args st = some r := fun args st r h => told33 B D args st r (FArg_args h)
  exact SysOk.tellMore (.tellMore (.tellMore (.tellMore (B2Ok D) (K30 D) rfl rfl) (K31 D) rfl rfl) ((A4Ok B D (D + B)).tell 32 _ h2) rfl rfl) ((A4Ok B D (D + B)).tell 33 _ h3) rfl rfl
theorem Fbare_inv {args : List AV} {st : List AObj} {r : Res} (h : Fbare args st = some (true, r)) : ∃ a b s rows p q u, args = [.agg (VV a b s rows), bl p, bl q, bl u] ∧ st = [] ∧ r = (bl (bareB p q u b s rows), []) := by
  unfold Fbare at h
  split at h
  · rename_i a b s rows p q u
    simp only [Option.some.injEq, Prod.mk.injEq, true_and] at h
    exact ⟨a, b, s, rows, p, q, u, rfl, rfl, h.symm⟩
  · cases h
theorem ebare_eq (p q r : Bool) (b : Int) (s : ByteArray) (rows : List (List AV)) : ebare p q r b s rows = some (bl (bareB p q r b s rows), []) := by
  unfold ebare bareB
  cases (p || b == 0) <;> cases (q || s == ByteArray.empty) <;> rfl
theorem Fchr_inv {args : List AV} {st : List AObj} {r : Res} (h : Fchr args st = some (true, r)) : ∃ n, args = [i64 n] ∧ st = [] ∧ r = (bl (chr n), []) := by
  unfold Fchr at h
  split at h
  · rename_i n
    simp only [Option.some.injEq, Prod.mk.injEq, true_and] at h
    exact ⟨n, rfl, rfl, h.symm⟩
  · cases h
theorem echr_eq (n : Int) : echr n = some (bl (chr n), []) := by
  unfold echr chr
  cases n == 9 <;> cases n == 10 <;> cases decide (n ≥ 32) <;> rfl
noncomputable def N1 (D B : Nat) : FSys := ((((NB D B).tell 62 Fbare).tell 122 Fbare).tell 99 Fchr).tell 124 Fchr
theorem N1Ok (D B : Nat) : SysOk Try.prog (N1 D B) := by
  have h62 := (NBOk D B).tell 62 Fbare fun args st r h => by
    obtain ⟨a, b, s, rows, p, q, u, rfl, rfl, rfl⟩ := Fbare_inv h
    exact ⟨0 + 1, (b62 D B 0 rows s a b p q u).trans (ebare_eq _ _ _ _ _ _)⟩
  have h122 := (NBOk D B).tell 122 Fbare fun args st r h => by
    obtain ⟨a, b, s, rows, p, q, u, rfl, rfl, rfl⟩ := Fbare_inv h
    exact ⟨0 + 1, (b122 D B 0 rows s a b p q u).trans (ebare_eq _ _ _ _ _ _)⟩
  have h99 := (NBOk D B).tell 99 Fchr fun args st r h => by
    obtain ⟨n, rfl, rfl, rfl⟩ := Fchr_inv h
    exact ⟨0 + 1, (b99 D B 0 n).trans (echr_eq _)⟩
  have h124 := (NBOk D B).tell 124 Fchr fun args st r h => by
    obtain ⟨n, rfl, rfl, rfl⟩ := Fchr_inv h
    exact ⟨0 + 1, (b124 D B 0 n).trans (echr_eq _)⟩
  exact SysOk.tellMore (.tellMore (.tellMore h62 h122 rfl rfl) h99 rfl rfl) h124 rfl rfl
noncomputable def σ100 (s : ByteArray) (i : Int) : St := ⟨tm 19 [(0, .k (.string s)), (3, i64 i)], [], []⟩
noncomputable def σ126 (s : ByteArray) (i : Int) : St := ⟨tm 19 [(0, .k (.string s)), (5, i64 (s.size : Nat)), (6, i64 i)], [], []⟩
noncomputable def cb (s : ByteArray) (i : Int) : Int := IntKind.i64.wrap (byteAt s i)
noncomputable def rtx (s : ByteArray) (i : Int) (X : Option Res) : Option Res := bif decide (i < (s.size : Nat)) then (bif decide (0 ≤ i) && decide (i < (s.size : Nat)) then (bif !(chr (cb s i)) then fF else X) else none) else some (bl (decide (((s.size : Nat) : Int) ≤ 65536)), [])
section
variable (D B k : Nat) (s : ByteArray) (R : St → Option Res) (i : Int)
theorem b100 : ev (N1 D B) (k + 1) 100 [.k (.string s)] [] = loopAt (N1 D B) 100 Try.f100 0 k [1,0,1,0] [] k (σ100 s 0) := by kernel_rfl
theorem r100 : roundAt (N1 D B) 100 Try.f100 0 k [1,0,1,0] [] R (σ100 s i) = rtx s i (R (σ100 s (IntKind.i64.wrap (i + 1)))) := by kernel_rfl
theorem b126 : ev (N1 D B) (k + 1) 126 [.k (.string s)] [] = loopAt (N1 D B) 126 Try.f126 0 k [1,0,1,0] [] k (σ126 s 0) := by kernel_rfl
theorem r126 : roundAt (N1 D B) 126 Try.f126 0 k [1,0,1,0] [] R (σ126 s i) = rtx s i (R (σ126 s (IntKind.i64.wrap (i + 1)))) := by kernel_rfl
end
end
end Go.Proofs.Ytciighngjnjmlaa.W
namespace Go.Proofs.Ytciighngjnjmlaa.W
open Go.Fw
set_option maxRecDepth 100000
noncomputable section
noncomputable def chs (s : ByteArray) (i : Nat) : Bool := (List.range' i (s.size - i)).all fun j => chr (cb s (j : Nat))
noncomputable def txt (s : ByteArray) : Bool := chs s 0 && decide (((s.size : Nat) : Int) ≤ 65536)
noncomputable def Ftxt : List AV → List AObj → Ab Res := fun args st => match args, st with
  | [.k (.string s)], [] => some (Nat.ble s.size 1000, (bl (txt s), []))
  | _, _ => none
theorem Ftxt_inv {args : List AV} {st : List AObj} {r : Res} (h : Ftxt args st = some (true, r)) : ∃ s, args = [.k (.string s)] ∧ st = [] ∧ s.size ≤ 1000 ∧ r = (bl (txt s), []) := by
  unfold Ftxt at h
  split at h
  · rename_i s
    simp only [Option.some.injEq, Prod.mk.injEq] at h
    exact ⟨s, rfl, rfl, Nat.le_of_ble_eq_true h.1, h.2.symm⟩
  · cases h
theorem txt_loop {S : FSys} {f : FuncId} {fn : Func} {k : Nat} {s : ByteArray} (hs : s.size ≤ 1000) (σ : Int → St)
    (h : ∀ (R : St → Option Res) (i : Int), roundAt S f fn 0 k [1,0,1,0] [] R (σ i) = rtx s i (R (σ (IntKind.i64.wrap (i + 1))))) (n : Nat) (hn : s.size < n) :
    loopAt S f fn 0 k [1,0,1,0] [] n (σ 0) = some (bl (txt s), []) := by
  have key := loop_up (S := S) (f := f) (fn := fn) (m := 0) (k := k) (p := [1,0,1,0]) (ms := []) (fun i => σ ((i : Nat) : Int)) s.size (fun i => some (bl (chs s i && decide (((s.size : Nat) : Int) ≤ 65536)), []))
    (fun i hi R hR => by
      refine (h R i).trans ?_
      have e : chs s i = (chr (cb s (i : Nat)) && chs s (i + 1)) := by
        unfold chs
        have : s.size - i = (s.size - (i + 1)) + 1 := by omega
        rw [this, List.range'_succ, List.all_cons]
      unfold rtx
      rw [step1 hi (by omega), decide_eq_true (by omega : (i : Int) < (s.size : Nat)), decide_eq_true (by omega : 0 ≤ (i : Int)), e, hR]
      cases chr (cb s (i : Nat)) <;> rfl)
    (fun R => by
      refine (h R _).trans ?_
      unfold rtx
      rw [decide_eq_false (by omega : ¬ ((s.size : Nat) : Int) < (s.size : Nat))]
      have e : chs s s.size = true := by unfold chs; rw [Nat.sub_self]; rfl
      rw [e]; rfl)
    n 0 (Nat.zero_le _) (by omega)
  exact key
noncomputable def N2 (D B : Nat) : FSys := ((N1 D B).tell 100 Ftxt).tell 126 Ftxt
theorem N2Ok (D B : Nat) : SysOk Try.prog (N2 D B) := by
  have h100 := (N1Ok D B).tell 100 Ftxt fun args st r h => by
    obtain ⟨s, rfl, rfl, h1, rfl⟩ := Ftxt_inv h
    exact ⟨s.size + 1 + 1, (b100 D B _ s).trans (txt_loop h1 (fun i => σ100 s i) (fun R i => r100 D B _ s R i) _ (by omega))⟩
  have h126 := (N1Ok D B).tell 126 Ftxt fun args st r h => by
    obtain ⟨s, rfl, rfl, h1, rfl⟩ := Ftxt_inv h
    exact ⟨s.size + 1 + 1, (b126 D B _ s).trans (txt_loop h1 (fun i => σ126 s i) (fun R i => r126 D B _ s R i) _ (by omega))⟩
  exact h100.tellMore h126 rfl rfl
noncomputable def stL (l : List (List AV)) : List AObj := [.box 87 [.sl 52 .any l]]
noncomputable def fL (l : List (List AV)) : Option Res := some (bl false, stL l)
noncomputable def bL (c : Bool) (l : List (List AV)) : Option Res := some (bl c, stL l)
noncomputable def iL (c : Bool) (l : List (List AV)) (X : Option Res) : Option Res := bif c then X else fL l
section
variable (D B k : Nat) (l z rows : List (List AV)) (y s : ByteArray) (R : St → Option Res) (x a b i : Int)
theorem b121 : ev (N2 D B) (k + 1) 121 [.ptr 0 0, .agg (TT x y z), .agg (VV a b s rows)] (stL l) = iL (a == 1) l (iL (bareB true false false b s rows) l (iL (decide (b ≥ -4611686018427387903)) l (bL (decide (b ≤ 4611686018427387903)) l))) := by kernel_rfl
theorem b123 : ev (N2 D B) (k + 1) 123 [.ptr 0 0, .agg (TT x y z), .agg (VV a b s rows)] (stL l) = iL (a == 2) l (iL (bareB true false false b s rows) l (bL (chr b) l)) := by kernel_rfl
theorem b125 : ev (N2 D B) (k + 1) 125 [.ptr 0 0, .agg (TT x y z), .agg (VV a b s rows)] (stL l) = iL (a == 3) l (iL (bareB false true false b s rows) l (bif Nat.ble s.size 1000 then bL (txt s) l else none)) := by kernel_rfl
theorem b127 : ev (N2 D B) (k + 1) 127 [.ptr 0 0, .agg (TT x y z), .agg (VV a b s rows)] (stL l) = iL (a == 8) l (iL (bareB true false false b s rows) l (bL (decide (b ≥ 0)) l)) := by kernel_rfl
theorem b130 : ev (N2 D B) (k + 1) 130 [.ptr 0 0, .agg (TT x y z), .agg (VV a b s rows)] (stL l) = iL (a == 5) l (iL (decide (b ≥ 0)) l (bL (s == ByteArray.empty) l)) := by kernel_rfl
theorem b131 : ev (N2 D B) (k + 1) 131 [.ptr 0 0, .agg (TT x y z), .agg (VV a b s rows)] (stL l) = iL (a == 6) l (iL (decide (b ≥ 0)) l (bL (s == ByteArray.empty) l)) := by kernel_rfl
end
end
end Go.Proofs.Ytciighngjnjmlaa.W
namespace Go.Proofs.Ytciighngjnjmlaa.W
open Go.Fw
set_option maxRecDepth 100000
noncomputable section
noncomputable def sInt : ByteArray := ⟨#[105, 110, 116]⟩
noncomputable def sChar : ByteArray := ⟨#[99, 104, 97, 114]⟩
noncomputable def sStr : ByteArray := ⟨#[115, 116, 114, 105, 110, 103]⟩
noncomputable def sIo : ByteArray := ⟨#[105, 111]⟩
noncomputable def sArr : ByteArray := ⟨#[97, 114, 114, 97, 121]⟩
noncomputable def fnO (c : Nat) : AV := match c with
  | 0 => .k .nilFunc
  | c + 1 => .fn (.func (c + 1)) [] []
noncomputable def oF (c : Nat) : Option Res := some (fnO c, [])
noncomputable def lkC (y : ByteArray) (X : Nat → Option Res) : Option Res := bif y == sInt then X 121 else bif y == sChar then X 123 else bif y == sStr then X 125 else bif y == sIo then X 127 else X 0
noncomputable def plC (y : ByteArray) (T E : Option Res) : Option Res := bif y == sInt then T else bif y == sChar then T else bif y == sStr then T else bif y == sIo then T else E
noncomputable def r6C (x : Int) : Option Res := bif x == 1 then oF 129 else bif x == 2 then oF 130 else bif x == 3 then oF 131 else oF 0
noncomputable def r4C (x : Int) (y : ByteArray) (z : List (List AV)) : Option Res := bif x == 1 then (bif ((z.length : Nat) : Int) == 1 then (bif y == sArr then oF 128 else r6C x) else r6C x) else r6C x
theorem b98 (D B k : Nat) (x : Int) (y : ByteArray) (z : List (List AV)) : ev (N2 D B) (k + 1) 98 [.agg (TT x y z)] [] =
  bif x == 1 then (bif ((z.length : Nat) : Int) == 0 then plC y (lkC y oF) (r4C x y z) else r4C x y z) else r4C x y z := by kernel_rfl
end
end Go.Proofs.Ytciighngjnjmlaa.W
namespace Go.Proofs.Ytciighngjnjmlaa.W
open Go.Fw
set_option maxRecDepth 100000
noncomputable section
noncomputable def isPl (y : ByteArray) : Bool := y == sInt || (y == sChar || (y == sStr || y == sIo))
noncomputable def plN (y : ByteArray) : Nat := bif y == sInt then 121 else bif y == sChar then 123 else bif y == sStr then 125 else 127
noncomputable def clsN (x : Int) (y : ByteArray) (z : List (List AV)) : Nat :=
  bif x == 1 then (bif ((z.length : Nat) : Int) == 0 && isPl y then plN y else bif ((z.length : Nat) : Int) == 1 && y == sArr then 128 else 129) else bif x == 2 then 130 else bif x == 3 then 131 else 0
theorem cls_eq (x : Int) (y : ByteArray) (z : List (List AV)) : (bif x == 1 then (bif ((z.length : Nat) : Int) == 0 then plC y (lkC y oF) (r4C x y z) else r4C x y z) else r4C x y z) = oF (clsN x y z) := by
  unfold clsN r4C r6C plC lkC isPl plN
  cases x == 1 with
  | false => cases x == 2 <;> cases x == 3 <;> rfl
  | true =>
    cases h1 : (((z.length : Nat) : Int) == 1) <;> cases h0 : (((z.length : Nat) : Int) == 0) <;> cases y == sInt <;> cases y == sChar <;> cases y == sStr <;> cases y == sIo <;> cases y == sArr <;> first | rfl | (exfalso; rw [beq_iff_eq] at h0 h1; omega)
noncomputable def F98 (c : Nat) : List AV → List AObj → Ab Res := fun args st => match args, st with
  | [.agg [.k (.int .i64 x), .k (.string y), .sl 25 .any z]], [] => some (Nat.beq (clsN x y z) c, (fnO c, []))
  | _, _ => none
theorem told98 (D B c : Nat) (args : List AV) (st : List AObj) (r : Res) (h : F98 c args st = some (true, r)) : ∃ k, ev (N2 D B) k 98 args st = some r := by
  unfold F98 at h
  split at h
  · rename_i x y z
    simp only [Option.some.injEq, Prod.mk.injEq] at h
    obtain ⟨h1, rfl⟩ := h
    have h1 := Nat.eq_of_beq_eq_true h1
    exact ⟨0 + 1, (b98 D B 0 x y z).trans ((cls_eq x y z).trans (by rw [h1]; rfl))⟩
  · cases h
noncomputable def lf (c : Nat) (a b : Int) (s : ByteArray) (rows : List (List AV)) : Bool :=
  bif Nat.beq c 121 then a == 1 && (bareB true false false b s rows && (decide (b ≥ -4611686018427387903) && decide (b ≤ 4611686018427387903))) else
  bif Nat.beq c 123 then a == 2 && (bareB true false false b s rows && chr b) else
  bif Nat.beq c 125 then a == 3 && (bareB false true false b s rows && txt s) else
  bif Nat.beq c 127 then a == 8 && (bareB true false false b s rows && decide (b ≥ 0)) else
  bif Nat.beq c 130 then a == 5 && (decide (b ≥ 0) && s == ByteArray.empty) else
  bif Nat.beq c 131 then a == 6 && (decide (b ≥ 0) && s == ByteArray.empty) else false
noncomputable def Flf (c : Nat) : List AV → List AObj → Ab Res := fun args st => match args, st with
  | [.ptr 0 0, .agg [.k (.int .i64 _), .k (.string _), .sl 25 .any _], .agg [.k (.int .i64 a), .k (.int .i64 b), .k (.string s), .sl 28 .any rows]], [.box 87 [.sl 52 .any l]] => some (Nat.ble s.size 1000, (bl (lf c a b s rows), stL l))
  | _, _ => none
theorem Flf_inv {c : Nat} {args : List AV} {st : List AObj} {r : Res} (h : Flf c args st = some (true, r)) : ∃ x y z a b s rows l, args = [.ptr 0 0, .agg (TT x y z), .agg (VV a b s rows)] ∧ st = stL l ∧ Nat.ble s.size 1000 = true ∧ r = (bl (lf c a b s rows), stL l) := by
  unfold Flf at h
  split at h
  · rename_i x y z a b s rows l
    simp only [Option.some.injEq, Prod.mk.injEq] at h
    exact ⟨x, y, z, a, b, s, rows, l, rfl, rfl, h.1, h.2.symm⟩
  · cases h
theorem iL3 {p q u : Bool} {l : List (List AV)} : iL p l (iL q l (bL u l)) = some (bl (p && (q && u)), stL l) := by cases p <;> cases q <;> rfl
theorem iL4 {p q u v : Bool} {l : List (List AV)} : iL p l (iL q l (iL u l (bL v l))) = some (bl (p && (q && (u && v))), stL l) := by cases p <;> cases q <;> cases u <;> rfl
noncomputable def N3 (D B : Nat) : FSys := ((((((N2 D B).tell 121 (Flf 121)).tell 123 (Flf 123)).tell 125 (Flf 125)).tell 127 (Flf 127)).tell 130 (Flf 130)).tell 131 (Flf 131)
theorem N3Ok (D B : Nat) : SysOk Try.prog (N3 D B) := by
  have h := N2Ok D B
  refine SysOk.tellMore (.tellMore (.tellMore (.tellMore (.tellMore (h.tell 121 _ fun args st r h => ?_) (h.tell 123 _ fun args st r h => ?_) rfl rfl) (h.tell 125 _ fun args st r h => ?_) rfl rfl) (h.tell 127 _ fun args st r h => ?_) rfl rfl) (h.tell 130 _ fun args st r h => ?_) rfl rfl) (h.tell 131 _ fun args st r h => ?_) rfl rfl
  · obtain ⟨x, y, z, a, b, s, rows, l, rfl, rfl, _, rfl⟩ := Flf_inv h
    exact ⟨0 + 1, (b121 D B 0 l z rows y s x a b).trans iL4⟩
  · obtain ⟨x, y, z, a, b, s, rows, l, rfl, rfl, _, rfl⟩ := Flf_inv h
    exact ⟨0 + 1, (b123 D B 0 l z rows y s x a b).trans iL3⟩
  · obtain ⟨x, y, z, a, b, s, rows, l, rfl, rfl, hs, rfl⟩ := Flf_inv h
    exact ⟨0 + 1, (b125 D B 0 l z rows y s x a b).trans (by rw [hs]; exact iL3)⟩
  · obtain ⟨x, y, z, a, b, s, rows, l, rfl, rfl, _, rfl⟩ := Flf_inv h
    exact ⟨0 + 1, (b127 D B 0 l z rows y s x a b).trans iL3⟩
  · obtain ⟨x, y, z, a, b, s, rows, l, rfl, rfl, _, rfl⟩ := Flf_inv h
    exact ⟨0 + 1, (b130 D B 0 l z rows y s x a b).trans iL3⟩
  · obtain ⟨x, y, z, a, b, s, rows, l, rfl, rfl, _, rfl⟩ := Flf_inv h
    exact ⟨0 + 1, (b131 D B 0 l z rows y s x a b).trans iL3⟩
noncomputable def arrB (a b : Int) (s : ByteArray) (rows : List (List AV)) : Bool := a == 7 && (bareB false false true b s rows && decide (((rows.length : Nat) : Int) ≤ 65536))
noncomputable def dfn (l : List (List AV)) (y : ByteArray) (z : List (List AV)) : List AV := drow (fndR l y (z.length : Nat))
noncomputable def datB (D B : Nat) (l : List (List AV)) (y : ByteArray) (z : List (List AV)) (a b : Int) (s : ByteArray) : Bool :=
  fndB l y (z.length : Nat) && (a == 4 && (s == ByteArray.empty && (decide (0 ≤ b) && decide (b < ((dct (dfn l y z)).length : Nat)))))
noncomputable def typs (D B : Nat) (l : List (List AV)) (y : ByteArray) (z : List (List AV)) (b : Int) : List (List AV) := argsL D (D + B) (dfn l y z) z b
noncomputable def isTy (D B : Nat) (l : List (List AV)) (y : ByteArray) (z : List (List AV)) (b : Int) : Bool := argsB D (D + B) (dfn l y z) z b
noncomputable def belR (D B : Nat) (l : List (List AV)) : Nat → List AV → List AV → Bool
  | 0, _, _ => false
  | n + 1, t, v => bif Nat.beq (clsN (tk t) (tn t) (ta t)) 128 then arrB (kd v) (nm v) (tx v) (kids v) && (kids v).all (belR D B l n (trow ((ta t).getD 0 [])))
    else bif Nat.beq (clsN (tk t) (tn t) (ta t)) 129 then (datB D B l (tn t) (ta t) (kd v) (nm v) (tx v) && (isTy D B l (tn t) (ta t) (nm v) && (Nat.beq (typs D B l (tn t) (ta t) (nm v)).length (kids v).length && all2 (belR D B l n) (typs D B l (tn t) (ta t) (nm v)) (kids v))))
    else lf (clsN (tk t) (tn t) (ta t)) (kd v) (nm v) (tx v) (kids v)
noncomputable def txR : Nat → List AV → Bool
  | 0, _ => false
  | n + 1, v => Nat.ble (tx v).size 1000 && (kids v).all (txR n)
noncomputable def okB (D B n : Nat) (l : List (List AV)) (t v : List AV) : Bool := (isVr n v && txR n v) && (isTr (B - n * D) t && dsOk D l)
noncomputable def F60 (D B n : Nat) : List AV → List AObj → Ab Res := fun args st => match args, st with
  | [.ptr 0 0, .agg t, .agg v], [.box 87 [.sl 52 .any l]] => some (okB D B n l t v, (bl (belR D B l n t v), stL l))
  | _, _ => none
noncomputable def f136 : AV := .fn (.func 136) [] [.ptr 0 0, .ptr 1 0]
noncomputable def stK (x : Int) (y : ByteArray) (z l : List (List AV)) : List AObj := [.box 85 [.ptr 2 0], .box 25 (TT x y z), .box 87 [.sl 52 .any l]]
noncomputable def elT (z : List (List AV)) : List AV := trow (z.getD 0 [])
noncomputable def okE1 (z : List (List AV)) (q : AV) : Bool := eqC q (.ptr 2 0) && decide ((0 : Int) < (z.length : Nat))
noncomputable def F136 (D B n : Nat) : List AV → List AObj → Ab Res := fun args st => match args, st with
  | [.agg v, .ptr 0 0, .ptr 1 0], [.box 85 [q], .box 25 [.k (.int .i64 x), .k (.string y), .sl 25 .any z], .box 87 [.sl 52 .any l]] => some (okE1 z q && okB D B n l (elT z) v, (bl (!(belR D B l n (elT z) v)), stK x y z l))
  | _, _ => none
noncomputable def okBs (D B n : Nat) (l z rows : List (List AV)) : Bool := Nat.ble (rows.length * 56) 140737488351232 && rows.all (okB D B n l (elT z))
noncomputable def notB (D B n : Nat) (l z : List (List AV)) (v : List AV) : Bool := !(belR D B l n (elT z) v)
noncomputable def F89a (D B n : Nat) : List AV → List AObj → Ab Res := fun args st => match args, st with
  | [.sl 28 .any rows, .fn (.func h) [] [.ptr 0 0, .ptr 1 0]], [.box 85 [q], .box 25 [.k (.int .i64 x), .k (.string y), .sl 25 .any z], .box 87 [.sl 52 .any l]] => bif Nat.beq h 136 then some (okE1 z q && okBs D B n l z rows, (i64 (idxL (notB D B n l z) rows 0), stK x y z l)) else none
  | _, _ => none
noncomputable def F40a (D B n : Nat) : List AV → List AObj → Ab Res := fun args st => match args, st with
  | [.sl 28 .any rows, .fn (.func h) [] [.ptr 0 0, .ptr 1 0]], [.box 85 [q], .box 25 [.k (.int .i64 x), .k (.string y), .sl 25 .any z], .box 87 [.sl 52 .any l]] => bif Nat.beq h 136 then some (okE1 z q && okBs D B n l z rows, (bl (decide (idxL (notB D B n l z) rows 0 ≥ 0)), stK x y z l)) else none
  | _, _ => none
noncomputable def U0 (D B n : Nat) : FSys := (N3 D B).tell 60 (F60 D B n)
noncomputable def U1 (D B n : Nat) : FSys := (U0 D B n).tell 136 (F136 D B n)
noncomputable def U2 (D B n : Nat) : FSys := (U1 D B n).tell 89 (F89a D B n)
noncomputable def U3 (D B n : Nat) : FSys := (U2 D B n).tell 40 (F40a D B n)
noncomputable def okQ1 (z : List (List AV)) : Bool := okE1 z (.ptr 2 0)
noncomputable def σ89a (x : Int) (y : ByteArray) (z l rows : List (List AV)) (i : Int) : St := ⟨tm 19 [(0, .sl 28 .any rows), (1, f136), (7, i64 (rows.length : Nat)), (8, i64 i)], stK x y z l, []⟩
section
variable (D B n k : Nat) (l z rows : List (List AV)) (y s : ByteArray) (R : St → Option Res) (x a b i : Int)
theorem b136 : ev (U0 D B n) (k + 1) 136 [.agg (VV a b s rows), .ptr 0 0, .ptr 1 0] (stK x y z l) = bif decide ((0 : Int) ≤ 0) && decide ((0 : Int) < (z.length : Nat)) then (bif okB D B n l (elT z) (VV a b s rows) then some (bl (!(belR D B l n (elT z) (VV a b s rows))), stK x y z l) else none) else none := by kernel_rfl
theorem r89a : roundAt (U1 D B n) 89 Try.f89 3 k [1,0,1,0] [] R (σ89a x y z l rows i) = bif decide (i < (rows.length : Nat)) then (bif decide (0 ≤ i) && decide (i < (rows.length : Nat)) then (bif okQ1 z && okB D B n l (elT z) (nx rows i) then (bif notB D B n l z (nx rows i) then some (i64 i, stK x y z l) else R (σ89a x y z l rows (IntKind.i64.wrap (i + 1)))) else none) else none) else some (i64 (-1), stK x y z l) := by kernel_rfl
theorem b89a : ev (U1 D B n) (k + 1) 89 [.sl 28 .any rows, f136] (stK x y z l) = loopAt (U1 D B n) 89 Try.f89 3 k [1,0,1,0] [] k (σ89a x y z l rows 0) := by kernel_rfl
theorem b40a : ev (U2 D B n) (k + 1) 40 [.sl 28 .any rows, f136] (stK x y z l) = bif okQ1 z && okBs D B n l z rows then some (bl (decide (idxL (notB D B n l z) rows 0 ≥ 0)), stK x y z l) else none := by kernel_rfl
theorem b128 : ev (U3 D B n) (k + 1) 128 [.ptr 0 0, .agg (TT x y z), .agg (VV a b s rows)] (stL l) = bif !(a == 7) then fL l else bif !(bareB false false true b s rows) then fL l else bif decide (((rows.length : Nat) : Int) > 65536) then fL l else (bif okQ1 z && okBs D B n l z rows then some (bl (!(decide (idxL (notB D B n l z) rows 0 ≥ 0))), stL l) else none) := by kernel_rfl
end
end
end Go.Proofs.Ytciighngjnjmlaa.W
namespace Go.Proofs.Ytciighngjnjmlaa.W
open Go.Fw
set_option maxRecDepth 100000
noncomputable section
theorem okE1_of {z : List (List AV)} (h : 0 < z.length) : okQ1 z = true := by
  unfold okQ1 okE1
  rw [eqC_self, decide_eq_true (by omega : (0 : Int) < (z.length : Nat))]; rfl
theorem okE1_inv {z : List (List AV)} {q : AV} (h : okE1 z q = true) : q = .ptr 2 0 ∧ 0 < z.length := by
  unfold okE1 at h
  rw [Bool.and_eq_true, eqC_iff, decide_eq_true_iff] at h
  exact ⟨h.1, by omega⟩
theorem okB_iff {D B n : Nat} {l : List (List AV)} {t v : List AV} (h : okB D B n l t v = true) : isVr n v = true ∧ txR n v = true ∧ isTr (B - n * D) t = true ∧ dsOk D l = true := by
  unfold okB at h
  simp only [Bool.and_eq_true] at h
  exact ⟨h.1.1, h.1.2, h.2.1, h.2.2⟩
theorem okB_of {D B n : Nat} {l : List (List AV)} {t v : List AV} (h1 : isVr n v = true) (h2 : txR n v = true) (h3 : isTr (B - n * D) t = true) (h4 : dsOk D l = true) : okB D B n l t v = true := by
  unfold okB; rw [h1, h2, h3, h4]; rfl
theorem isVr_ex {n : Nat} {v : List AV} (h : isVr n v = true) : ∃ a b s rows, v = VV a b s rows := by
  obtain ⟨a, b, s, rows, e⟩ := isV_ex (n := n) (v := .agg v) h
  cases e
  exact ⟨a, b, s, rows, rfl⟩
theorem isTr_ex {n : Nat} {t : List AV} (h : isTr n t = true) : ∃ x y z, t = TT x y z := by
  obtain ⟨x, y, z, e⟩ := isT_ex (n := n) (v := .agg t) h
  cases e
  exact ⟨x, y, z, rfl⟩
theorem F136_inv {D B n : Nat} {args : List AV} {st : List AObj} {r : Res} (h : F136 D B n args st = some (true, r)) :
    ∃ v x y z l, args = [.agg v, .ptr 0 0, .ptr 1 0] ∧ st = stK x y z l ∧ 0 < z.length ∧ okB D B n l (elT z) v = true ∧ r = (bl (!(belR D B l n (elT z) v)), stK x y z l) := by
  unfold F136 at h
  split at h
  · rename_i v q x y z l
    simp only [Option.some.injEq, Prod.mk.injEq, Bool.and_eq_true] at h
    obtain ⟨⟨h1, h2⟩, rfl⟩ := h
    obtain ⟨rfl, h3⟩ := okE1_inv h1
    exact ⟨v, x, y, z, l, rfl, rfl, h3, h2, rfl⟩
  · cases h
theorem F89a_inv {D B n : Nat} {args : List AV} {st : List AObj} {r : Res} (h : F89a D B n args st = some (true, r)) :
    ∃ rows x y z l, args = [.sl 28 .any rows, f136] ∧ st = stK x y z l ∧ 0 < z.length ∧ okBs D B n l z rows = true ∧ r = (i64 (idxL (notB D B n l z) rows 0), stK x y z l) := by
  unfold F89a at h
  split at h
  · rename_i rows g q x y z l
    obtain ⟨rfl, h2⟩ := beq_fn h
    simp only [Option.some.injEq, Prod.mk.injEq, Bool.and_eq_true] at h2
    obtain ⟨⟨h1, h2⟩, rfl⟩ := h2
    obtain ⟨rfl, h3⟩ := okE1_inv h1
    exact ⟨rows, x, y, z, l, rfl, rfl, h3, h2, rfl⟩
  · cases h
theorem F40a_inv {D B n : Nat} {args : List AV} {st : List AObj} {r : Res} (h : F40a D B n args st = some (true, r)) :
    ∃ rows x y z l, args = [.sl 28 .any rows, f136] ∧ st = stK x y z l ∧ 0 < z.length ∧ okBs D B n l z rows = true ∧ r = (bl (decide (idxL (notB D B n l z) rows 0 ≥ 0)), stK x y z l) := by
  unfold F40a at h
  split at h
  · rename_i rows g q x y z l
    obtain ⟨rfl, h2⟩ := beq_fn h
    simp only [Option.some.injEq, Prod.mk.injEq, Bool.and_eq_true] at h2
    obtain ⟨⟨h1, h2⟩, rfl⟩ := h2
    obtain ⟨rfl, h3⟩ := okE1_inv h1
    exact ⟨rows, x, y, z, l, rfl, rfl, h3, h2, rfl⟩
  · cases h
theorem okBs_iff {D B n : Nat} {l z rows : List (List AV)} (h : okBs D B n l z rows = true) : rows.length * 56 ≤ 140737488351232 ∧ ∀ r ∈ rows, okB D B n l (elT z) r = true := by
  unfold okBs at h
  rw [Bool.and_eq_true, List.all_eq_true] at h
  exact ⟨Nat.le_of_ble_eq_true h.1, h.2⟩
section
variable {D B n : Nat}
theorem told136 (args : List AV) (st : List AObj) (r : Res) (h : F136 D B n args st = some (true, r)) : ∃ k, ev (U0 D B n) k 136 args st = some r := by
  obtain ⟨v, x, y, z, l, rfl, rfl, hz, hv, rfl⟩ := F136_inv h
  obtain ⟨a, b, s, rows, rfl⟩ := isVr_ex (okB_iff hv).1
  exact ⟨0 + 1, (b136 D B n 0 l z rows y s x a b).trans (by rw [hv, decide_eq_true (by omega : (0 : Int) < (z.length : Nat))]; rfl)⟩
theorem told89a (args : List AV) (st : List AObj) (r : Res) (h : F89a D B n args st = some (true, r)) : ∃ k, ev (U1 D B n) k 89 args st = some r := by
  obtain ⟨rows, x, y, z, l, rfl, rfl, hz, hv, rfl⟩ := F89a_inv h
  obtain ⟨hl, hr⟩ := okBs_iff hv
  have hrv : ∀ r ∈ rows, isVr n r = true := fun r hr' => (okB_iff (hr r hr')).1
  refine ⟨rows.length + 1 + 1, (b89a D B n _ l z rows y x).trans ?_⟩
  have Q := loop_idx (S := U1 D B n) (f := 89) (fn := Try.f89) (m := 3) (k := rows.length + 1) (p := [1,0,1,0]) (ms := []) (rows := rows) (A := Unit)
    (fun _ i => σ89a x y z l rows i) (fun _ v => notB D B n l z v) (fun _ i _ => some (i64 i, stK x y z l)) (fun c _ => c) (fun _ => some (i64 (-1), stK x y z l))
    (fun R c i hi => (r89a D B n _ l z rows y R x i).trans (by
      rw [nx_at hrv hi, okE1_of hz, hr _ (List.getElem_mem hi), step1 hi (by omega), decide_eq_true (by omega : (i : Int) < (rows.length : Nat)), decide_eq_true (by omega : 0 ≤ (i : Int))]
      rfl))
    (fun R c => (r89a D B n _ l z rows y R x _).trans (stopped _ _ _)) (rows.length + 1) 0 () (Nat.zero_le _) (by omega)
  exact Q.trans (foldI_idx2 (notB D B n l z) (stK x y z l) rows 0)
theorem told40a (args : List AV) (st : List AObj) (r : Res) (h : F40a D B n args st = some (true, r)) : ∃ k, ev (U2 D B n) k 40 args st = some r := by
  obtain ⟨rows, x, y, z, l, rfl, rfl, hz, hv, rfl⟩ := F40a_inv h
  exact ⟨0 + 1, (b40a D B n 0 l z rows y x).trans (by rw [okE1_of hz, hv]; rfl)⟩
theorem U3Ok (h : SysOk Try.prog (U0 D B n)) : SysOk Try.prog (U3 D B n) := ((h.tell 136 _ told136).tell 89 _ told89a).tell 40 _ told40a
noncomputable def F128 (D B n : Nat) : List AV → List AObj → Ab Res := fun args st => match args, st with
  | [.ptr 0 0, .agg [.k (.int .i64 _), .k (.string _), .sl 25 .any z], .agg [.k (.int .i64 a), .k (.int .i64 b), .k (.string s), .sl 28 .any rows]], [.box 87 [.sl 52 .any l]] => some (decide (0 < z.length) && okBs D B n l z rows, (bl (arrB a b s rows && rows.all (belR D B l n (elT z))), stL l))
  | _, _ => none
theorem all_not (p : List AV → Bool) (l : List (List AV)) : (!(decide (idxL (fun v => !(p v)) l 0 ≥ 0))) = l.all p := by
  rw [idxL_any _ l 0 (Int.le_refl _), List.any_eq_not_all_not]
  simp
theorem told128 (args : List AV) (st : List AObj) (r : Res) (h : F128 D B n args st = some (true, r)) : ∃ k, ev (U3 D B n) k 128 args st = some r := by
  unfold F128 at h
  split at h
  · rename_i x y z a b s rows l
    simp only [Option.some.injEq, Prod.mk.injEq, Bool.and_eq_true, decide_eq_true_eq] at h
    obtain ⟨⟨hz, hv⟩, rfl⟩ := h
    refine ⟨0 + 1, (b128 D B n 0 l z rows y s x a b).trans ?_⟩
    have e : (!(decide (idxL (notB D B n l z) rows 0 ≥ 0))) = rows.all (belR D B l n (elT z)) := all_not (belR D B l n (elT z)) rows
    rw [okE1_of hz, hv, e]
    unfold arrB
    have e2 : decide (((rows.length : Nat) : Int) ≤ 65536) = !(decide (((rows.length : Nat) : Int) > 65536)) := by
      by_cases hh : ((rows.length : Nat) : Int) > 65536
      · rw [decide_eq_true hh, decide_eq_false (by omega)]; rfl
      · rw [decide_eq_false hh, decide_eq_true (by omega)]; rfl
    rw [e2]
    cases a == 7 <;> cases bareB false false true b s rows <;> cases decide (((rows.length : Nat) : Int) > 65536) <;> rfl
  · cases h
end
noncomputable def σ129 (l T rows : List (List AV)) (i : Int) : St := ⟨tm 86 [(0, .ptr 0 0), (9, .sl 25 .any T), (70, .sl 28 .any rows), (71, i64 (rows.length : Nat)), (72, i64 i)], stL l, []⟩
noncomputable def nB (c : Bool) (X : Option Res) : Option Res := bif c then X else none
section
variable (D B n k : Nat) (l z rows T : List (List AV)) (y s : ByteArray) (R : St → Option Res) (x a b i : Int)
theorem b129 : ev (U3 D B n) (k + 1) 129 [.ptr 0 0, .agg (TT x y z), .agg (VV a b s rows)] (stL l) = nB (dsOk D l) (bif !(fndB l y (z.length : Nat)) then fL l else bif !(a == 4) then fL l else bif !(s == ByteArray.empty) then fL l else bif decide (b < 0) then fL l else bif decide (b ≥ ((dct (dfn l y z)).length : Nat)) then fL l else
  nB (isD D (.agg (dfn l y z)) && tyOk B z) (bif !(isTy D B l y z b) then fL l else bif !((((typs D B l y z b).length : Nat) : Int) == ((rows.length : Nat) : Int)) then fL l else loopAt (U3 D B n) 129 Try.f129 1 k [1,1,1,1,1,0,1,0] [] k (σ129 l (typs D B l y z b) rows 0))) := by kernel_rfl
theorem r129 : roundAt (U3 D B n) 129 Try.f129 1 k [1,1,1,1,1,0,1,0] [] R (σ129 l T rows i) = bif decide (i < (rows.length : Nat)) then (bif decide (0 ≤ i) && decide (i < (rows.length : Nat)) then (bif decide (0 ≤ i) && decide (i < (T.length : Nat)) then
  (bif okB D B n l (trow (T.getD i.toNat [])) (nx rows i) then (bif !(belR D B l n (trow (T.getD i.toNat [])) (nx rows i)) then fL l else R (σ129 l T rows (IntKind.i64.wrap (i + 1)))) else none) else none) else none) else bL true l := by kernel_rfl
end
end
end Go.Proofs.Ytciighngjnjmlaa.W
namespace Go.Proofs.Ytciighngjnjmlaa.W
open Go.Fw
set_option maxRecDepth 100000
noncomputable section
theorem lvRecX {P : Program} {S : FSys} (hS : SysOk P S) (g : FuncId) (F : Nat → List AV → List AObj → Ab Res) (X : Nat → Nat → FSys)
    (h0 : ∀ args st r, F 0 args st ≠ some (true, r)) (hX : ∀ n c, SysOk P (S.tell g (F n)) → SysOk P (X n c)) (hT : ∀ n c, (X n c).T = S.T) (ha : ∀ n c, (X n c).ann = S.ann)
    (h : ∀ n args st r, F (n + 1) args st = some (true, r) → ∃ c k, evTop (X n c) k g args st = some r) : ∀ n, SysOk P (S.tell g (F n)) :=
  hS.tellRec g F (fun n hn args st r st' hF => by
    obtain ⟨c, k, hk⟩ := h n args st _ hF
    have := evTop_ok (hX n c hn) k g args st r st' hk
    rw [hT, ha] at this
    exact this) h0
noncomputable def okT (D B n : Nat) (l T rows : List (List AV)) : Bool := bif Nat.beq T.length rows.length then Nat.ble (rows.length * 56) 140737488351232 && all2 (okB D B n l) T rows else true
noncomputable def datM (D B n : Nat) (l : List (List AV)) (y : ByteArray) (z : List (List AV)) (a b : Int) (s : ByteArray) (rows : List (List AV)) : Bool :=
  datB D B l y z a b s && (isTy D B l y z b && (Nat.beq (typs D B l y z b).length rows.length && all2 (belR D B l n) (typs D B l y z b) rows))
noncomputable def ok129 (D B n : Nat) (l : List (List AV)) (y : ByteArray) (z : List (List AV)) (b : Int) (rows : List (List AV)) : Bool := dsOk D l && (tyOk B z && okT D B n l (typs D B l y z b) rows)
noncomputable def F129 (D B n : Nat) : List AV → List AObj → Ab Res := fun args st => match args, st with
  | [.ptr 0 0, .agg [.k (.int .i64 _), .k (.string y), .sl 25 .any z], .agg [.k (.int .i64 a), .k (.int .i64 b), .k (.string s), .sl 28 .any rows]], [.box 87 [.sl 52 .any l]] => some (ok129 D B n l y z b rows, (bl (datM D B n l y z a b s rows), stL l))
  | _, _ => none
theorem all2_at {p : List AV → List AV → Bool} : ∀ {T rows : List (List AV)}, all2 p T rows = true → ∀ (i : Nat) (h1 : i < T.length) (h2 : i < rows.length), p T[i] rows[i] = true
  | t :: T, r :: rows, h, 0, _, _ => by simp only [all2, Bool.and_eq_true] at h; exact h.1
  | t :: T, r :: rows, h, i + 1, h1, h2 => by
    simp only [all2, Bool.and_eq_true] at h
    exact all2_at h.2 i (by simpa using h1) (by simpa using h2)
theorem dfn_ok {D : Nat} {l : List (List AV)} (h : dsOk D l = true) (y : ByteArray) (z : List (List AV)) : isD D (.agg (dfn l y z)) = true := by
  have := fnd_ok h y (z.length : Nat)
  unfold dfn
  rw [drow_of this]; exact this
theorem dec_le (b : Int) : decide (0 ≤ b) = !(decide (b < 0)) := by
  by_cases h : b < 0
  · rw [decide_eq_true h, decide_eq_false (by omega)]; rfl
  · rw [decide_eq_false h, decide_eq_true (by omega)]; rfl
theorem dec_lt (b c : Int) : decide (b < c) = !(decide (b ≥ c)) := by
  by_cases h : b ≥ c
  · rw [decide_eq_true h, decide_eq_false (by omega)]; rfl
  · rw [decide_eq_false h, decide_eq_true (by omega)]; rfl
theorem len_eq (T rows : List (List AV)) : ((((T.length : Nat) : Int) == ((rows.length : Nat) : Int))) = Nat.beq T.length rows.length := by
  rw [Bool.eq_iff_iff, beq_iff_eq, Nat.beq_eq]
  omega
section
variable {D B n : Nat}
theorem loop129 {l T rows : List (List AV)} {k : Nat} (he : T.length = rows.length) (hb : rows.length * 56 ≤ 140737488351232) (h : all2 (okB D B n l) T rows = true) (hk : rows.length < k) :
    loopAt (U3 D B n) 129 Try.f129 1 k [1,1,1,1,1,0,1,0] [] k (σ129 l T rows 0) = bL (all2 (belR D B l n) T rows) l := by
  have hrv : ∀ r ∈ rows, isVr n r = true := fun r hr => by
    obtain ⟨i, hi, rfl⟩ := List.getElem_of_mem hr
    exact (okB_iff (all2_at h i (by omega) hi)).1
  have key := loop_up (S := U3 D B n) (f := 129) (fn := Try.f129) (m := 1) (k := k) (p := [1,1,1,1,1,0,1,0]) (ms := []) (fun i => σ129 l T rows ((i : Nat) : Int)) rows.length (fun i => bL (all2 (belR D B l n) (T.drop i) (rows.drop i)) l)
    (fun i hi R hR => by
      have hT : i < T.length := by omega
      have ho := all2_at h i hT hi
      have ht := (okB_iff ho).2.2.1
      refine (r129 D B n k l rows T R i).trans ?_
      rw [nx_at hrv hi, Int.toNat_natCast, getD_at hT, trow_of ht, ho, step1 hi (by omega), hR, decide_eq_true (by omega : (i : Int) < (rows.length : Nat)), decide_eq_true (by omega : 0 ≤ (i : Int)), decide_eq_true (by omega : (i : Int) < (T.length : Nat)), List.drop_eq_getElem_cons hT, List.drop_eq_getElem_cons hi]
      simp only [all2]
      cases belR D B l n T[i] rows[i] <;> rfl)
    (fun R => by
      refine (r129 D B n k l rows T R _).trans ((stopped _ _ _).trans ?_)
      rw [List.drop_length, ← he, List.drop_length]; rfl)
    k 0 (Nat.zero_le _) (by omega)
  exact key
theorem told129 (args : List AV) (st : List AObj) (r : Res) (h : F129 D B n args st = some (true, r)) : ∃ k, ev (U3 D B n) k 129 args st = some r := by
  unfold F129 at h
  split at h
  · rename_i x y z a b s rows l
    simp only [Option.some.injEq, Prod.mk.injEq] at h
    obtain ⟨h1, rfl⟩ := h
    unfold ok129 at h1
    simp only [Bool.and_eq_true] at h1
    obtain ⟨h1, h2, h3⟩ := h1
    refine ⟨rows.length + 1 + 1, (b129 D B n _ l z rows y s x a b).trans ?_⟩
    unfold datM datB
    rw [h1, dfn_ok h1, h2, dec_le, dec_lt b ((dct (dfn l y z)).length : Nat), len_eq]
    cases fndB l y (z.length : Nat) with
    | false => rfl
    | true =>
    cases a == 4 with
    | false => rfl
    | true =>
    cases s == ByteArray.empty with
    | false => rfl
    | true =>
    cases decide (b < 0) with
    | true => rfl
    | false =>
    cases decide (b ≥ ((dct (dfn l y z)).length : Nat)) with
    | true => rfl
    | false =>
    cases isTy D B l y z b with
    | false => rfl
    | true =>
    cases hL : Nat.beq (typs D B l y z b).length rows.length with
    | false => rfl
    | true =>
      unfold okT at h3
      rw [hL, cond_true, Bool.and_eq_true] at h3
      exact loop129 (Nat.eq_of_beq_eq_true hL) (Nat.le_of_ble_eq_true h3.1) h3.2 (by omega)
  · cases h
end
noncomputable def U4 (D B n : Nat) : FSys := (U3 D B n).tell 128 (F128 D B n)
noncomputable def U5 (D B n : Nat) : FSys := (U4 D B n).tell 129 (F129 D B n)
noncomputable def X60 (D B n c : Nat) : FSys := (U5 D B n).tell 98 (F98 c)
theorem X60Ok {D B : Nat} (n c : Nat) (h : SysOk Try.prog (U0 D B n)) : SysOk Try.prog (X60 D B n c) :=
  SysOk.tellMore (.tellMore (.tellMore (U3Ok h) ((U3Ok h).tell 128 _ told128) rfl rfl) ((U3Ok h).tell 129 _ told129) rfl rfl) ((N2Ok D B).tell 98 _ (told98 D B c)) rfl rfl
section
variable (D B n k : Nat) (l z rows : List (List AV)) (y s : ByteArray) (x a b : Int)
noncomputable def cN (x : Int) (y : ByteArray) (z : List (List AV)) (c : Nat) (X : Option Res) : Option Res := nB (Nat.beq (clsN x y z) c) X
noncomputable def lfO (c : Nat) (a b : Int) (s : ByteArray) (rows l : List (List AV)) : Option Res := nB (Nat.ble s.size 1000) (bL (lf c a b s rows) l)
abbrev a60 : List AV := [.ptr 0 0, .agg (TT x y z), .agg (VV a b s rows)]
theorem c0 : evTop (X60 D B n 0) k 60 (a60 z rows y s x a b) (stL l) = cN x y z 0 (fL l) := by kernel_rfl
theorem c121 : evTop (X60 D B n 121) k 60 (a60 z rows y s x a b) (stL l) = cN x y z 121 (lfO 121 a b s rows l) := by kernel_rfl
theorem c123 : evTop (X60 D B n 123) k 60 (a60 z rows y s x a b) (stL l) = cN x y z 123 (lfO 123 a b s rows l) := by kernel_rfl
theorem c125 : evTop (X60 D B n 125) k 60 (a60 z rows y s x a b) (stL l) = cN x y z 125 (lfO 125 a b s rows l) := by kernel_rfl
theorem c127 : evTop (X60 D B n 127) k 60 (a60 z rows y s x a b) (stL l) = cN x y z 127 (lfO 127 a b s rows l) := by kernel_rfl
theorem c130 : evTop (X60 D B n 130) k 60 (a60 z rows y s x a b) (stL l) = cN x y z 130 (lfO 130 a b s rows l) := by kernel_rfl
theorem c131 : evTop (X60 D B n 131) k 60 (a60 z rows y s x a b) (stL l) = cN x y z 131 (lfO 131 a b s rows l) := by kernel_rfl
theorem c128 : evTop (X60 D B n 128) k 60 (a60 z rows y s x a b) (stL l) = cN x y z 128 (nB (decide (0 < z.length) && okBs D B n l z rows) (bL (arrB a b s rows && rows.all (belR D B l n (elT z))) l)) := by kernel_rfl
theorem c129 : evTop (X60 D B n 129) k 60 (a60 z rows y s x a b) (stL l) = cN x y z 129 (nB (ok129 D B n l y z b rows) (bL (datM D B n l y z a b s rows) l)) := by kernel_rfl
end
end
end Go.Proofs.Ytciighngjnjmlaa.W
namespace Go.Proofs.Ytciighngjnjmlaa.W
open Go.Fw
set_option maxRecDepth 100000
noncomputable section
theorem isVr_lit {n : Nat} {a b : Int} {s : ByteArray} {rows : List (List AV)} (h : isVr (n + 1) (VV a b s rows) = true) : rows.length * 56 ≤ 140737488351232 ∧ ∀ x ∈ rows, isVr n x = true := by
  obtain ⟨a', b', s', rows', e, hl, hr⟩ := isVr_succ h
  have e' : rows = rows' := congrArg kids e
  subst e'
  exact ⟨hl, hr⟩
theorem isTr_lit {m : Nat} {x : Int} {y : ByteArray} {z : List (List AV)} (h : isTr m (TT x y z) = true) : ∃ m', m = m' + 1 ∧ z.length * 48 ≤ 140737488351232 ∧ ∀ t ∈ z, isTr m' t = true := by
  cases m with
  | zero => rw [isTr_zero] at h; cases h
  | succ m =>
    obtain ⟨x', y', z', e, hl, hr⟩ := isTr_succ h
    have e' : z = z' := congrArg ta e
    subst e'
    exact ⟨m, rfl, hl, hr⟩
theorem txR_lit {n : Nat} {a b : Int} {s : ByteArray} {rows : List (List AV)} (h : txR (n + 1) (VV a b s rows) = true) : Nat.ble s.size 1000 = true ∧ ∀ x ∈ rows, txR n x = true := by
  have h : (Nat.ble s.size 1000 && rows.all (txR n)) = true := h
  rw [Bool.and_eq_true, List.all_eq_true] at h
  exact h
theorem cond_tt' {c : Bool} {x : Bool} (h : (bif c then false else x) = true) : c = false ∧ x = true := by
  cases c with
  | true => cases h
  | false => exact ⟨rfl, h⟩
theorem argsL_lv {D N m : Nat} {d : List AV} {ts : List (List AV)} {c : Int} (hd : isD D (.agg d) = true) (ht : ∀ x ∈ ts, isTr N x = true) : ∀ t ∈ argsL D m d ts c, isTr (D + N) t = true := by
  unfold argsL
  cases hb : argsB D m d ts c with
  | false => intro t h; cases h
  | true =>
    obtain ⟨De, ctors, e⟩ := isD_ex hd
    cases e
    obtain ⟨_, hc⟩ := isD_ctors hd
    unfold argsB at hb
    obtain ⟨_, hb⟩ := cond_tt' hb
    obtain ⟨h1, hb⟩ := cond_tt' hb
    obtain ⟨h2, hb⟩ := cond_tt' hb
    obtain ⟨h3, hb⟩ := cond_tt' hb
    have h2 : 0 ≤ c := by simpa using h2
    have h3 : decide (c ≥ ((ctors.length : Nat) : Int)) = false := h3
    have h3 : c < (ctors.length : Nat) := by simpa using h3
    have h1 : (!(((ts.length : Nat) : Int) == ((De.params.length : Nat) : Int))) = false := h1
    have h1 : ts.length = De.params.length := by
      have : (ts.length : Int) = (De.params.length : Int) := by simpa using h1
      omega
    obtain ⟨q1, q2⟩ := hc c h2 h3
    intro t hy
    obtain ⟨x, hx, rfl⟩ := List.mem_map.1 hy
    have hx' : x ∈ cargs ctors c := hx
    unfold uR
    rw [trow_of (q2 x hx'), trow_put (q2 x hx')]
    exact put_lv (by show De.params.length ≤ ts.length; omega) ht D x (q2 x hx')
theorem all2_of {p : List AV → List AV → Bool} : ∀ {T rows : List (List AV)}, T.length = rows.length → (∀ t ∈ T, ∀ r ∈ rows, p t r = true) → all2 p T rows = true
  | [], [], _, _ => rfl
  | [], _ :: _, h, _ => by simp at h
  | _ :: _, [], h, _ => by simp at h
  | t :: T, r :: rows, h, hp => by
    simp only [all2]
    rw [hp t List.mem_cons_self r List.mem_cons_self, all2_of (by simpa using h) fun a ha b hb => hp a (List.mem_cons_of_mem _ ha) b (List.mem_cons_of_mem _ hb)]
    rfl
section
variable {D B n : Nat} {l z rows : List (List AV)} {x a b : Int} {y s : ByteArray}
theorem child_arr (h : okB D B (n + 1) l (TT x y z) (VV a b s rows) = true) (hz : 0 < z.length) : okBs D B n l z rows = true := by
  obtain ⟨h1, h2, h3, h4⟩ := okB_iff h
  obtain ⟨hl, hr⟩ := isVr_lit h1
  obtain ⟨_, ht⟩ := txR_lit h2
  obtain ⟨m, hm, _, hz2⟩ := isTr_lit h3
  have hmem : z.getD 0 [] ∈ z := by rw [getD_at hz]; exact List.getElem_mem hz
  have e0 := hz2 _ hmem
  have hlv : m ≤ B - n * D := by rw [Nat.succ_mul] at hm; omega
  unfold okBs
  rw [Nat.ble_eq_true_of_le hl, Bool.true_and, List.all_eq_true]
  intro v hv
  refine okB_of (hr v hv) (ht v hv) ?_ h4
  unfold elT
  rw [trow_of e0]
  exact isTr_le e0 hlv
theorem child_dat (h : okB D B (n + 1) l (TT x y z) (VV a b s rows) = true) : ok129 D B n l y z b rows = true := by
  obtain ⟨h1, h2, h3, h4⟩ := okB_iff h
  obtain ⟨hl, hr⟩ := isVr_lit h1
  obtain ⟨_, ht⟩ := txR_lit h2
  obtain ⟨m, hm, hzl, hz2⟩ := isTr_lit h3
  rw [Nat.succ_mul] at hm
  unfold ok129
  rw [h4, tyOk_of hzl fun t ht' => isTr_le (hz2 t ht') (by omega)]
  unfold okT
  cases hL : Nat.beq (typs D B l y z b).length rows.length with
  | false => rfl
  | true =>
    rw [cond_true, Nat.ble_eq_true_of_le hl, Bool.true_and, Bool.true_and, Bool.true_and]
    refine all2_of (Nat.eq_of_beq_eq_true hL) fun t ht' v hv => okB_of (hr v hv) (ht v hv) ?_ h4
    exact isTr_le (argsL_lv (dfn_ok h4 y z) hz2 t ht') (by omega)
theorem belR_eq : belR D B l (n + 1) (TT x y z) (VV a b s rows) = (bif Nat.beq (clsN x y z) 128 then arrB a b s rows && rows.all (belR D B l n (elT z)) else bif Nat.beq (clsN x y z) 129 then datM D B n l y z a b s rows else lf (clsN x y z) a b s rows) := rfl
end
theorem cls_cases (x : Int) (y : ByteArray) (z : List (List AV)) : clsN x y z = 0 ∨ clsN x y z = 121 ∨ clsN x y z = 123 ∨ clsN x y z = 125 ∨ clsN x y z = 127 ∨ clsN x y z = 130 ∨ clsN x y z = 131 ∨ (clsN x y z = 128 ∧ 0 < z.length) ∨ clsN x y z = 129 := by
  unfold clsN plN
  cases x == 1 with
  | false => cases x == 2 <;> cases x == 3 <;> simp
  | true =>
    cases h0 : (((z.length : Nat) : Int) == 0 && isPl y) with
    | true => cases y == sInt <;> cases y == sChar <;> cases y == sStr <;> simp
    | false =>
      cases h1 : (((z.length : Nat) : Int) == 1 && y == sArr) with
      | true =>
        rw [Bool.and_eq_true, beq_iff_eq] at h1
        have : 0 < z.length := by omega
        simp [this]
      | false => simp
theorem F60_inv {D B n : Nat} {args : List AV} {st : List AObj} {r : Res} (h : F60 D B n args st = some (true, r)) : ∃ t v l, args = [.ptr 0 0, .agg t, .agg v] ∧ st = stL l ∧ okB D B n l t v = true ∧ r = (bl (belR D B l n t v), stL l) := by
  unfold F60 at h
  split at h
  · rename_i t v l
    simp only [Option.some.injEq, Prod.mk.injEq] at h
    exact ⟨t, v, l, rfl, rfl, h.1, h.2.symm⟩
  · cases h
theorem top60 {D B n : Nat} (args : List AV) (st : List AObj) (r : Res) (h : F60 D B (n + 1) args st = some (true, r)) : ∃ c k, evTop (X60 D B n c) k 60 args st = some r := by
  obtain ⟨t, v, l, rfl, rfl, ho, rfl⟩ := F60_inv h
  obtain ⟨h1, h2, h3, h4⟩ := okB_iff ho
  obtain ⟨a, b, s, rows, rfl⟩ := isVr_ex h1
  obtain ⟨x, y, z, rfl⟩ := isTr_ex h3
  obtain ⟨hs, _⟩ := txR_lit h2
  rw [belR_eq]
  rcases cls_cases x y z with hc | hc | hc | hc | hc | hc | hc | ⟨hc, hz⟩ | hc
  · exact ⟨0, 1, (c0 D B n 1 l z rows y s x a b).trans (by unfold cN; rw [hc]; rfl)⟩
  · exact ⟨121, 1, (c121 D B n 1 l z rows y s x a b).trans (by unfold cN lfO; rw [hc, hs]; rfl)⟩
  · exact ⟨123, 1, (c123 D B n 1 l z rows y s x a b).trans (by unfold cN lfO; rw [hc, hs]; rfl)⟩
  · exact ⟨125, 1, (c125 D B n 1 l z rows y s x a b).trans (by unfold cN lfO; rw [hc, hs]; rfl)⟩
  · exact ⟨127, 1, (c127 D B n 1 l z rows y s x a b).trans (by unfold cN lfO; rw [hc, hs]; rfl)⟩
  · exact ⟨130, 1, (c130 D B n 1 l z rows y s x a b).trans (by unfold cN lfO; rw [hc, hs]; rfl)⟩
  · exact ⟨131, 1, (c131 D B n 1 l z rows y s x a b).trans (by unfold cN lfO; rw [hc, hs]; rfl)⟩
  · exact ⟨128, 1, (c128 D B n 1 l z rows y s x a b).trans (by unfold cN; rw [hc, child_arr ho hz, decide_eq_true hz]; rfl)⟩
  · exact ⟨129, 1, (c129 D B n 1 l z rows y s x a b).trans (by unfold cN; rw [hc, child_dat ho]; rfl)⟩
theorem U0Ok (D B : Nat) : ∀ n, SysOk Try.prog (U0 D B n) :=
  lvRecX (N3Ok D B) 60 (F60 D B) (X60 D B) (fun args st r hF => by
    obtain ⟨t, v, l, _, _, ho, _⟩ := F60_inv hF
    have := (okB_iff ho).1
    rw [isVr_zero] at this; cases this) (fun n c h => X60Ok n c h) (fun _ _ => rfl) (fun _ _ => rfl) (fun n args st r h => top60 args st r h)
end
end Go.Proofs.Ytciighngjnjmlaa.W
