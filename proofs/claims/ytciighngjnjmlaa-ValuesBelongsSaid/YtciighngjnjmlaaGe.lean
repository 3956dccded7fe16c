/- A part of the proofs over these laws: what its functions come to. No conditions. -/
import Derived.Test.YtciighngjnjmlaaGc
import Derived.Test.YtciighngjnjmlaaFwZg
set_option linter.all false
namespace Go.Proofs.Ytciighngjnjmlaa.W
open Go.Fw
set_option maxRecDepth 100000
theorem bytesLess_eq : ∀ (x y : List UInt8), Op.bytesLess x y = decide (x < y)
  | [], [] => by simp [Op.bytesLess]
  | _ :: _, [] => by simp [Op.bytesLess]
  | [], _ :: _ => by simp [Op.bytesLess]
  | a :: x, b :: y => by
    rw [Op.bytesLess, bytesLess_eq x y]
    simp only [List.cons_lt_cons_iff]
    by_cases h1 : a < b <;> by_cases h2 : a = b <;> by_cases h3 : x < y <;> simp [h1, h2, h3]
theorem compareBytes_lt : ∀ (x y : List UInt8), Lib.compareBytes x y < 0 ↔ x < y
  | [], [] => by simp [Lib.compareBytes]
  | _ :: _, [] => by simp [Lib.compareBytes]
  | [], _ :: _ => by simp [Lib.compareBytes]
  | a :: x, b :: y => by
    have ih := compareBytes_lt x y
    simp only [Lib.compareBytes, List.cons_lt_cons_iff]
    by_cases h1 : a < b
    · simp [h1]
    · by_cases h2 : b < a
      · have : a ≠ b := fun e => by subst e; exact h1 h2
        simp [h1, h2, this]
      · have : a = b := by
          rw [UInt8.lt_iff_toNat_lt] at h1 h2
          exact UInt8.toNat_inj.1 (by omega)
        simp [h1, h2, this, ih]
theorem compareBytes_eq : ∀ (x y : List UInt8), Lib.compareBytes x y = 0 ↔ x = y
  | [], [] => by simp [Lib.compareBytes]
  | _ :: _, [] => by simp [Lib.compareBytes]
  | [], _ :: _ => by simp [Lib.compareBytes]
  | a :: x, b :: y => by
    have ih := compareBytes_eq x y
    simp only [Lib.compareBytes, List.cons.injEq]
    by_cases h1 : a < b
    · have : a ≠ b := fun e => by subst e; rw [UInt8.lt_iff_toNat_lt] at h1; omega
      simp [h1, this]
    · by_cases h2 : b < a
      · have : a ≠ b := fun e => by subst e; exact h1 h2
        simp [h1, h2, this]
      · have : a = b := by
          rw [UInt8.lt_iff_toNat_lt] at h1 h2
          exact UInt8.toNat_inj.1 (by omega)
        simp [this, ih]
def ltB (a b : ByteArray) : Prop := a.data.toList < b.data.toList
theorem cmpB_lt (a b : ByteArray) : cmpB a b < 0 ↔ ltB a b := compareBytes_lt _ _
theorem cmpB_eq (a b : ByteArray) : cmpB a b = 0 ↔ a = b := by
  unfold cmpB
  rw [compareBytes_eq]
  exact ⟨fun h => ByteArray.ext (Array.ext' h), fun h => by rw [h]⟩
theorem ltB_trans {a b c : ByteArray} (h : ltB a b) (k : ltB b c) : ltB a c := List.lt_trans h k
theorem ltB_irrefl (a : ByteArray) : ¬ ltB a a := List.lt_irrefl _
theorem less_ltB (a b : ByteArray) : (Op.bytesLess a.toList b.toList = true) ↔ ltB a b := by
  rw [bytesLess_eq, decide_eq_true_eq, ByteArray.toList_eq, ByteArray.toList_eq]; exact Iff.rfl
noncomputable section
abbrev i64 (n : Int) : AV := .k (.int .i64 n)
abbrev bl (b : Bool) : AV := .k (.bool b)
def cmpI (a b : Int) : Int := bif decide (a < b) then -1 else bif decide (a > b) then 1 else 0
def cmpS (s t : ByteArray) : Int := bif Op.bytesLess s.toList t.toList then -1 else bif !(Op.bytesLess s.toList t.toList || s == t) then 1 else 0
theorem compareBytes_or : ∀ (x y : List UInt8), Lib.compareBytes x y = -1 ∨ Lib.compareBytes x y = 0 ∨ Lib.compareBytes x y = 1
  | [], [] => by simp [Lib.compareBytes]
  | _ :: _, [] => by simp [Lib.compareBytes]
  | [], _ :: _ => by simp [Lib.compareBytes]
  | a :: x, b :: y => by
    have ih := compareBytes_or x y
    simp only [Lib.compareBytes]
    split
    · simp
    · split
      · simp
      · exact ih
theorem cmpS_eq (s t : ByteArray) : cmpS s t = cmpB s t := by
  unfold cmpS
  rw [ba_beq]
  rcases compareBytes_or s.data.toList t.data.toList with h | h | h
  · have h1 : ltB s t := (cmpB_lt s t).1 (by unfold cmpB; omega)
    rw [(less_ltB s t).2 h1]
    unfold cmpB; rw [h]; rfl
  · have h1 : s = t := (cmpB_eq s t).1 h
    have h2 : Op.bytesLess s.toList t.toList = false := by
      cases hb : Op.bytesLess s.toList t.toList
      · rfl
      · have := (less_ltB s t).1 hb; rw [h1] at this; exact absurd this (ltB_irrefl t)
    rw [h2]; unfold cmpB; rw [h]; simp [h1]
  · have h2 : Op.bytesLess s.toList t.toList = false := by
      cases hb : Op.bytesLess s.toList t.toList
      · rfl
      · have := (cmpB_lt s t).2 ((less_ltB s t).1 hb); unfold cmpB at this; omega
    have h3 : s ≠ t := fun e => by have := (cmpB_eq s t).2 e; unfold cmpB at this; omega
    rw [h2]; unfold cmpB; rw [h]; simp [h3]
def FI (h : Int → Int → Int) : List AV → List AObj → Ab Res := fun args st => match args, st with
  | [.k (.int .i64 a), .k (.int .i64 b)], [] => some (true, (i64 (h a b), []))
  | _, _ => none
def FS (h : ByteArray → ByteArray → Int) : List AV → List AObj → Ab Res := fun args st => match args, st with
  | [.k (.string a), .k (.string b)], [] => some (true, (i64 (h a b), []))
  | _, _ => none
theorem FI_ok {h : Int → Int → Int} {S : FSys} {g : FuncId} (hh : ∀ a b, ∃ k, ev S k g [i64 a, i64 b] [] = some (i64 (h a b), [])) (args : List AV) (st : List AObj) (r : Res) (hF : FI h args st = some (true, r)) : ∃ k, ev S k g args st = some r := by
  unfold FI at hF
  split at hF
  · simp only [Option.some.injEq, Prod.mk.injEq] at hF
    obtain ⟨_, rfl⟩ := hF
    exact hh _ _
  · cases hF
theorem FS_ok {h : ByteArray → ByteArray → Int} {S : FSys} {g : FuncId} (hh : ∀ a b, ∃ k, ev S k g [.k (.string a), .k (.string b)] [] = some (i64 (h a b), [])) (args : List AV) (st : List AObj) (r : Res) (hF : FS h args st = some (true, r)) : ∃ k, ev S k g args st = some r := by
  unfold FS at hF
  split at hF
  · simp only [Option.some.injEq, Prod.mk.injEq] at hF
    obtain ⟨_, rfl⟩ := hF
    exact hh _ _
  · cases hF
def K1 (n : Nat) : FSys := (sysH n).tell 137 (FS cmpB)
theorem K1Ok (n : Nat) : SysOk Try.prog (K1 n) := (sysHOk n).tellCF 137 (FS cmpB) fun args st r st' h => by
  unfold FS at h
  split at h
  · rename_i a b
    cases h
    exact ⟨CF_cmpstring (fn := Try.f137) Try.func137 (by kernel_rfl) (by kernel_rfl) (by kernel_rfl) (by kernel_rfl) a b [] _, by kernel_rfl, by kernel_rfl, Nat.le_refl _⟩
  · cases h
theorem ev103 (n k : Nat) (a b : ByteArray) : ev (K1 n) (k + 2) 103 [.k (.string a), .k (.string b)] [] = some (i64 (cmpB a b), []) := by kernel_rfl
def K2 (n : Nat) : FSys := (K1 n).tell 103 (FS cmpS)
theorem K2Ok (n : Nat) : SysOk Try.prog (K2 n) := (K1Ok n).tell 103 _ (FS_ok fun a b => ⟨_, by rw [cmpS_eq]; exact ev103 n 0 a b⟩)
theorem ev106 (n k : Nat) (a b : ByteArray) : ev (K2 n) (k + 2) 106 [.k (.string a), .k (.string b)] [] = bif Op.bytesLess a.toList b.toList then some (i64 (-1), []) else bif !(Op.bytesLess a.toList b.toList || a == b) then some (i64 1, []) else some (i64 0, []) := by kernel_rfl
def K3 (n : Nat) : FSys := (K2 n).tell 106 (FS cmpS)
theorem K3Ok (n : Nat) : SysOk Try.prog (K3 n) := (K2Ok n).tell 106 _ (FS_ok fun a b => ⟨_, (ev106 n 0 a b).trans (by
  unfold cmpS
  cases Op.bytesLess a.toList b.toList <;> cases a == b <;> rfl)⟩)
theorem ev105 (n k : Nat) (a b : Int) : ev (K3 n) (k + 2) 105 [i64 a, i64 b] [] = bif decide (a < b) then some (i64 (-1), []) else bif decide (a > b) then some (i64 1, []) else some (i64 0, []) := by kernel_rfl
theorem ev101 (n k : Nat) (a b : Int) : ev (K3 n) (k + 3) 101 [i64 a, i64 b] [] = bif !(a == a) then (bif !(b == b) then some (i64 0, []) else some (i64 (-1), [])) else (bif !(b == b) then some (i64 1, []) else (bif decide (a < b) then some (i64 (-1), []) else bif decide (a > b) then some (i64 1, []) else some (i64 0, []))) := by kernel_rfl
theorem ev102 (n k : Nat) (a b : Int) : ev (K3 n) (k + 3) 102 [i64 a, i64 b] [] = bif !(a == a) then (bif !(b == b) then some (i64 0, []) else some (i64 (-1), [])) else (bif !(b == b) then some (i64 1, []) else (bif decide (a < b) then some (i64 (-1), []) else bif decide (a > b) then some (i64 1, []) else some (i64 0, []))) := by kernel_rfl
theorem cmpI_out (a b : Int) : (bif decide (a < b) then some (i64 (-1), ([] : List AObj)) else bif decide (a > b) then some (i64 1, []) else some (i64 0, [])) = some (i64 (cmpI a b), []) := by
  unfold cmpI
  cases decide (a < b) <;> cases decide (a > b) <;> rfl
def K4 (n : Nat) : FSys := (((K3 n).tell 105 (FI cmpI)).tell 101 (FI cmpI)).tell 102 (FI cmpI)
theorem K4Ok (n : Nat) : SysOk Try.prog (K4 n) :=
  .tellFrom (.tellFrom ((K3Ok n).tell 105 _ (FI_ok fun a b => ⟨_, (ev105 n 0 a b).trans (cmpI_out a b)⟩)) (K3Ok n) rfl rfl 101 _ (FI_ok fun a b => ⟨_, (ev101 n 0 a b).trans (by rw [beq_self_eq_true, beq_self_eq_true]; exact cmpI_out a b)⟩))
    (K3Ok n) rfl rfl 102 _ (FI_ok fun a b => ⟨_, (ev102 n 0 a b).trans (by rw [beq_self_eq_true, beq_self_eq_true]; exact cmpI_out a b)⟩)
end
end Go.Proofs.Ytciighngjnjmlaa.W
namespace Go.Proofs.Ytciighngjnjmlaa.W
open Go.Fw
set_option maxRecDepth 100000
noncomputable section
def kd (r : List AV) : Int := (r.getD 0 .undef).toI
def nm (r : List AV) : Int := (r.getD 1 .undef).toI
def tx (r : List AV) : ByteArray := (r.getD 2 .undef).toS
def kids (r : List AV) : List (List AV) := (r.getD 3 .undef).rows
def onV (f : List AV → Int) : AV → Int
  | .agg r => f r
  | _ => 0
def onB (f : List AV → Bool) : AV → Bool
  | .agg r => f r
  | _ => false
def onVV (f : List AV → List AV → Int) : AV → AV → Int
  | .agg r, .agg q => f r q
  | _, _ => 0
def onBB (f : List AV → List AV → Bool) : AV → AV → Bool
  | .agg r, .agg q => f r q
  | _, _ => false
def okK (a : Int) : Bool := a == 1 || (a == 2 || (a == 3 || (a == 4 || a == 7)))
def sortR : Nat → List AV → Bool
  | 0, _ => false
  | n + 1, r => okK (kd r) && (kids r).all (sortR n)
def sortV (n : Nat) : AV → Bool := onB (sortR n)
def w64 (n : Int) : Int := IntKind.i64.wrap n
def sizeR : Nat → List AV → Int
  | 0, _ => 0
  | n + 1, r => (kids r).foldl (fun c x => w64 (c + sizeR n x)) 1
def sizeV (n : Nat) : AV → Int := onV (sizeR n)
def maxI (a b : Int) : Int := bif decide (b > a) then b else a
def depthR : Nat → List AV → Int
  | 0, _ => 0
  | n + 1, r => w64 ((kids r).foldl (fun c x => maxI c (depthR n x)) 0 + 1)
def depthV (n : Nat) : AV → Int := onV (depthR n)
def cell0 (r : List AV) : Int :=
  bif kd r == 4 then (bif decide ((((kids r).length : Nat) : Int) > 0) then w64 (1 + ((kids r).length : Nat)) else 0)
  else bif kd r == 5 || (kd r == 6 || kd r == 7) then w64 (1 + ((kids r).length : Nat))
  else bif kd r == 3 then w64 (1 + w64 (Int.tdiv ((tx r).size : Nat) 8)) else 0
def cellR : Nat → List AV → Int
  | 0, _ => 0
  | n + 1, r => (kids r).foldl (fun c x => w64 (c + cellR n x)) (cell0 r)
def cellV (n : Nat) : AV → Int := onV (cellR n)
def eqR : Nat → List AV → List AV → Bool
  | 0, _, _ => false
  | n + 1, r, q => kd r == kd q && (nm r == nm q && (tx r == tx q && all2 (eqR n) (kids r) (kids q)))
def eqV (n : Nat) : AV → AV → Bool := onBB (eqR n)
def headC (r q : List AV) : Int := bif kd r == 3 then cmpS (tx r) (tx q) else bif kd r == 7 then cmpI ((kids r).length : Nat) ((kids q).length : Nat) else cmpI (nm r) (nm q)
def ordR : Nat → List AV → List AV → Int
  | 0, _, _ => 0
  | n + 1, r, q => bif cmpI (kd r) (kd q) == 0 then (bif headC r q == 0 then lexR (ordR n) (kids r) (kids q) else headC r q) else cmpI (kd r) (kd q)
def ordV (n : Nat) : AV → AV → Int := onVV (ordR n)
def FVb (h : AV → Bool) (c : AV → Bool) : List AV → List AObj → Ab Res := fun args st => match args, st with
  | [v], [] => some (c v, (bl (h v), []))
  | _, _ => none
def FVi (h : AV → Int) (c : AV → Bool) : List AV → List AObj → Ab Res := fun args st => match args, st with
  | [v], [] => some (c v, (i64 (h v), []))
  | _, _ => none
def FWb (h : AV → AV → Bool) (c : AV → AV → Bool) : List AV → List AObj → Ab Res := fun args st => match args, st with
  | [u, v], [] => some (c u v, (bl (h u v), []))
  | _, _ => none
def FWi (h : AV → AV → Int) (c : AV → AV → Bool) : List AV → List AObj → Ab Res := fun args st => match args, st with
  | [u, v], [] => some (c u v, (i64 (h u v), []))
  | _, _ => none
theorem FVb_inv {h c} {args : List AV} {st : List AObj} {r : Res} (hF : FVb h c args st = some (true, r)) : ∃ v, args = [v] ∧ st = [] ∧ c v = true ∧ r = (bl (h v), []) := by
  unfold FVb at hF
  split at hF
  · simp only [Option.some.injEq, Prod.mk.injEq] at hF
    exact ⟨_, rfl, rfl, hF.1, hF.2.symm⟩
  · cases hF
theorem FVi_inv {h c} {args : List AV} {st : List AObj} {r : Res} (hF : FVi h c args st = some (true, r)) : ∃ v, args = [v] ∧ st = [] ∧ c v = true ∧ r = (i64 (h v), []) := by
  unfold FVi at hF
  split at hF
  · simp only [Option.some.injEq, Prod.mk.injEq] at hF
    exact ⟨_, rfl, rfl, hF.1, hF.2.symm⟩
  · cases hF
theorem FWb_inv {h c} {args : List AV} {st : List AObj} {r : Res} (hF : FWb h c args st = some (true, r)) : ∃ u v, args = [u, v] ∧ st = [] ∧ c u v = true ∧ r = (bl (h u v), []) := by
  unfold FWb at hF
  split at hF
  · simp only [Option.some.injEq, Prod.mk.injEq] at hF
    exact ⟨_, _, rfl, rfl, hF.1, hF.2.symm⟩
  · cases hF
theorem FWi_inv {h c} {args : List AV} {st : List AObj} {r : Res} (hF : FWi h c args st = some (true, r)) : ∃ u v, args = [u, v] ∧ st = [] ∧ c u v = true ∧ r = (i64 (h u v), []) := by
  unfold FWi at hF
  split at hF
  · simp only [Option.some.injEq, Prod.mk.injEq] at hF
    exact ⟨_, _, rfl, rfl, hF.1, hF.2.symm⟩
  · cases hF
abbrev R4 (P : AV → Prop) := P
def lvB (f : Nat → AV → Bool) (n : Nat) : List AV → List AObj → Ab Res := FVb (f n) (isV n)
def lvI (f : Nat → AV → Int) (n : Nat) : List AV → List AObj → Ab Res := FVi (f n) (isV n)
def isVV (n : Nat) (u v : AV) : Bool := isV n u && isV n v
def lvBB (f : Nat → AV → AV → Bool) (n : Nat) : List AV → List AObj → Ab Res := FWb (f n) (isVV n)
def isSS (n : Nat) (u v : AV) : Bool := (isV n u && isV n v) && (sortV n u && sortV n v)
def lvO (n : Nat) : List AV → List AObj → Ab Res := FWi (ordV n) (isSS n)
theorem tellB {S : FSys} (hS : SysOk Try.prog S) (g : FuncId) (f : Nat → AV → Bool) (h : ∀ n v, isV (n + 1) v = true → ∃ k, evTop (S.tell g (lvB f n)) k g [v] [] = some (bl (f (n + 1) v), [])) (n : Nat) : SysOk Try.prog (S.tell g (lvB f n)) :=
  hS.tellLv g (lvB f) (fun args st r hF => by obtain ⟨v, _, _, h1, _⟩ := FVb_inv hF; rw [isV_zero] at h1; cases h1) (fun n args st r hF => by
    obtain ⟨v, rfl, rfl, h1, rfl⟩ := FVb_inv hF
    exact h n v h1) n
theorem tellI {S : FSys} (hS : SysOk Try.prog S) (g : FuncId) (f : Nat → AV → Int) (h : ∀ n v, isV (n + 1) v = true → ∃ k, evTop (S.tell g (lvI f n)) k g [v] [] = some (i64 (f (n + 1) v), [])) (n : Nat) : SysOk Try.prog (S.tell g (lvI f n)) :=
  hS.tellLv g (lvI f) (fun args st r hF => by obtain ⟨v, _, _, h1, _⟩ := FVi_inv hF; rw [isV_zero] at h1; cases h1) (fun n args st r hF => by
    obtain ⟨v, rfl, rfl, h1, rfl⟩ := FVi_inv hF
    exact h n v h1) n
theorem isVV_zero (u v : AV) : isVV 0 u v = false := by unfold isVV; rw [isV_zero]; rfl
theorem isSS_zero (u v : AV) : isSS 0 u v = false := by unfold isSS; rw [isV_zero]; rfl
theorem tellBB {S : FSys} (hS : SysOk Try.prog S) (g : FuncId) (f : Nat → AV → AV → Bool) (h : ∀ n u v, isVV (n + 1) u v = true → ∃ k, evTop (S.tell g (lvBB f n)) k g [u, v] [] = some (bl (f (n + 1) u v), [])) (n : Nat) : SysOk Try.prog (S.tell g (lvBB f n)) :=
  hS.tellLv g (lvBB f) (fun args st r hF => by obtain ⟨u, v, _, _, h1, _⟩ := FWb_inv hF; rw [isVV_zero] at h1; cases h1) (fun n args st r hF => by
    obtain ⟨u, v, rfl, rfl, h1, rfl⟩ := FWb_inv hF
    exact h n u v h1) n
theorem tellO {S : FSys} (hS : SysOk Try.prog S) (g : FuncId) (h : ∀ n u v, isSS (n + 1) u v = true → ∃ k, evTop (S.tell g (lvO n)) k g [u, v] [] = some (i64 (ordV (n + 1) u v), [])) (n : Nat) : SysOk Try.prog (S.tell g (lvO n)) :=
  hS.tellLv g lvO (fun args st r hF => by obtain ⟨u, v, _, _, h1, _⟩ := FWi_inv hF; rw [isSS_zero] at h1; cases h1) (fun n args st r hF => by
    obtain ⟨u, v, rfl, rfl, h1, rfl⟩ := FWi_inv hF
    exact h n u v h1) n
abbrev nx (rows : List (List AV)) (i : Int) : List AV := vrow (rows.getD i.toNat [])
theorem nx_at {rows : List (List AV)} {n i : Nat} (hr : ∀ x ∈ rows, isVr n x = true) (hi : i < rows.length) : nx rows i = rows[i] := by
  unfold nx
  rw [Int.toNat_natCast, getD_at hi, vrow_of (hr _ (List.getElem_mem hi))]
theorem pass {α : Type} {rows : List (List AV)} {n i : Nat} (hr : ∀ x ∈ rows, isVr n x = true) (hl : rows.length * 56 ≤ 140737488351232) (hi : i < rows.length) (X : List AV → Int → α) (N M F : α) :
    (bif decide ((i : Int) < (rows.length : Nat)) then (bif decide (0 ≤ (i : Int)) && decide ((i : Int) < (rows.length : Nat)) then (bif isV n (.agg (nx rows i)) then X (nx rows i) (IntKind.i64.wrap ((i : Int) + 1)) else N) else M) else F) = X rows[i] ((i + 1 : Nat) : Int) := by
  have d1 : decide ((i : Int) < (rows.length : Nat)) = true := by simpa using hi
  have d2 : decide (0 ≤ (i : Int)) = true := by simp
  have hw : IntKind.i64.wrap ((i : Int) + 1) = ((i + 1 : Nat) : Int) := by rw [wrap64] <;> omega
  rw [d1, d2, hw, nx_at hr hi, isV_agg, hr _ (List.getElem_mem hi)]
  rfl
theorem stopped {α : Type} (l : Nat) (x y : α) : (bif decide (((l : Nat) : Int) < ((l : Nat) : Int)) then x else y) = y := by simp
section
variable (a b a2 b2: Int) (s t : ByteArray) (k n N : Nat) (rows rows2 : List (List AV)) (R : St → Option Res) (i c : Int)
def L65 (N n : Nat) : FSys := (K4 N).tell 65 (lvB sortV n)
theorem r65 : roundAt (L65 N n) 65 Try.f65 0 k [1,1,0,1,0] [] R ⟨tm 41 [(1, .ptr 0 0), (3, i64 i)], [.box 28 (VV a b s rows)], []⟩ = bif decide (i < (rows.length : Nat)) then (bif decide (0 ≤ i) && decide (i < (rows.length : Nat)) then (bif isV n (.agg (nx rows i)) then (bif !(sortV n (.agg (nx rows i))) then some (bl false, []) else R ⟨tm 41 [(1, .ptr 0 0), (3, i64 (IntKind.i64.wrap (i + 1)))], [.box 28 (VV a b s rows)], []⟩) else none) else none) else some (bl true, []) := by kernel_rfl
theorem b65 : evTop (L65 N n) k 65 [.agg (VV a b s rows)] [] = bif !(a == 1) then (bif !(a == 2) then (bif !(a == 3) then (bif !(a == 4) then (bif !(a == 7) then some (bl false, []) else loopAt (L65 N n) 65 Try.f65 0 k [1,1,0,1,0] [] k ⟨tm 41 [(1, .ptr 0 0), (3, i64 0)], [.box 28 (VV a b s rows)], []⟩) else loopAt (L65 N n) 65 Try.f65 0 k [1,1,0,1,0] [] k ⟨tm 41 [(1, .ptr 0 0), (3, i64 0)], [.box 28 (VV a b s rows)], []⟩) else loopAt (L65 N n) 65 Try.f65 0 k [1,1,0,1,0] [] k ⟨tm 41 [(1, .ptr 0 0), (3, i64 0)], [.box 28 (VV a b s rows)], []⟩) else loopAt (L65 N n) 65 Try.f65 0 k [1,1,0,1,0] [] k ⟨tm 41 [(1, .ptr 0 0), (3, i64 0)], [.box 28 (VV a b s rows)], []⟩) else loopAt (L65 N n) 65 Try.f65 0 k [1,1,0,1,0] [] k ⟨tm 41 [(1, .ptr 0 0), (3, i64 0)], [.box 28 (VV a b s rows)], []⟩ := by kernel_rfl
def L19 (N n : Nat) : FSys := (K4 N).tell 19 (lvI sizeV n)
theorem r19 : roundAt (L19 N n) 19 Try.f19 0 k [1,1,0,1,0] [] R ⟨tm 21 [(1, .ptr 0 0), (3, i64 c), (4, i64 i)], [.box 28 (VV a b s rows)], []⟩ = bif decide (i < (rows.length : Nat)) then (bif decide (0 ≤ i) && decide (i < (rows.length : Nat)) then (bif isV n (.agg (nx rows i)) then R ⟨tm 21 [(1, .ptr 0 0), (3, i64 (w64 (c + sizeV n (.agg (nx rows i))))), (4, i64 (IntKind.i64.wrap (i + 1)))], [.box 28 (VV a b s rows)], []⟩ else none) else none) else some (i64 c, []) := by kernel_rfl
theorem b19 : evTop (L19 N n) k 19 [.agg (VV a b s rows)] [] = loopAt (L19 N n) 19 Try.f19 0 k [1,1,0,1,0] [] k ⟨tm 21 [(1, .ptr 0 0), (3, i64 1), (4, i64 0)], [.box 28 (VV a b s rows)], []⟩ := by kernel_rfl
def L21 (N n : Nat) : FSys := (K4 N).tell 21 (lvI depthV n)
theorem r21 : roundAt (L21 N n) 21 Try.f21 0 k [1,1,0,1,0] [] R ⟨tm 25 [(1, .ptr 0 0), (3, i64 c), (4, i64 i)], [.box 28 (VV a b s rows)], []⟩ = bif decide (i < (rows.length : Nat)) then (bif decide (0 ≤ i) && decide (i < (rows.length : Nat)) then (bif isV n (.agg (nx rows i)) then (bif decide (depthV n (.agg (nx rows i)) > c) then R ⟨tm 25 [(1, .ptr 0 0), (3, i64 (depthV n (.agg (nx rows i)))), (4, i64 (IntKind.i64.wrap (i + 1)))], [.box 28 (VV a b s rows)], []⟩ else R ⟨tm 25 [(1, .ptr 0 0), (3, i64 c), (4, i64 (IntKind.i64.wrap (i + 1)))], [.box 28 (VV a b s rows)], []⟩) else none) else none) else some (i64 (w64 (c + 1)), []) := by kernel_rfl
theorem b21 : evTop (L21 N n) k 21 [.agg (VV a b s rows)] [] = loopAt (L21 N n) 21 Try.f21 0 k [1,1,0,1,0] [] k ⟨tm 25 [(1, .ptr 0 0), (3, i64 0), (4, i64 0)], [.box 28 (VV a b s rows)], []⟩ := by kernel_rfl
def L20 (N n : Nat) : FSys := (K4 N).tell 20 (lvI depthV n)
theorem r20 : roundAt (L20 N n) 20 Try.f20 0 k [1,1,0,1,0] [] R ⟨tm 20 [(3, i64 c), (7, .sl 28 .any rows), (8, i64 (rows.length : Nat)), (9, i64 i)], [], []⟩ = bif decide (i < (rows.length : Nat)) then (bif decide (0 ≤ i) && decide (i < (rows.length : Nat)) then (bif isV n (.agg (nx rows i)) then R ⟨tm 20 [(3, i64 (if depthV n (.agg (nx rows i)) > c then depthV n (.agg (nx rows i)) else c)), (7, .sl 28 .any rows), (8, i64 (rows.length : Nat)), (9, i64 (IntKind.i64.wrap (i + 1)))], [], []⟩ else none) else none) else some (i64 (w64 (c + 1)), []) := by kernel_rfl
theorem b20 : evTop (L20 N n) k 20 [.agg (VV a b s rows)] [] = loopAt (L20 N n) 20 Try.f20 0 k [1,1,0,1,0] [] k ⟨tm 20 [(3, i64 0), (7, .sl 28 .any rows), (8, i64 (rows.length : Nat)), (9, i64 0)], [], []⟩ := by kernel_rfl
def L23 (N n : Nat) : FSys := (K4 N).tell 23 (lvI cellV n)
theorem r23 : roundAt (L23 N n) 23 Try.f23 0 k [1,1,1,0,1,0] [] R ⟨tm 48 [(1, .ptr 0 0), (3, i64 c), (4, i64 i)], [.box 28 (VV a b s rows)], []⟩ = bif decide (i < (rows.length : Nat)) then (bif decide (0 ≤ i) && decide (i < (rows.length : Nat)) then (bif isV n (.agg (nx rows i)) then R ⟨tm 48 [(1, .ptr 0 0), (3, i64 (w64 (c + cellV n (.agg (nx rows i))))), (4, i64 (IntKind.i64.wrap (i + 1)))], [.box 28 (VV a b s rows)], []⟩ else none) else none) else some (i64 c, []) := by kernel_rfl
def m23 (c : Int) : Option Res := loopAt (L23 N n) 23 Try.f23 0 k [1,1,1,0,1,0] [] k ⟨tm 48 [(1, .ptr 0 0), (3, i64 c), (4, i64 0)], [.box 28 (VV a b s rows)], []⟩
theorem b23 : evTop (L23 N n) k 23 [.agg (VV a b s rows)] [] = bif a == 4 then (bif decide (((rows.length : Nat) : Int) > 0) then m23 a b s k n N rows (w64 (1 + (rows.length : Nat))) else m23 a b s k n N rows 0) else (bif a == 5 then (bif a == 5 then m23 a b s k n N rows (w64 (1 + (rows.length : Nat))) else (bif a == 3 then m23 a b s k n N rows (w64 (1 + w64 (Int.tdiv (s.size : Nat) 8))) else m23 a b s k n N rows 0)) else (bif a == 6 then (bif a == 6 then m23 a b s k n N rows (w64 (1 + (rows.length : Nat))) else (bif a == 3 then m23 a b s k n N rows (w64 (1 + w64 (Int.tdiv (s.size : Nat) 8))) else m23 a b s k n N rows 0)) else (bif a == 7 then m23 a b s k n N rows (w64 (1 + (rows.length : Nat))) else (bif a == 3 then m23 a b s k n N rows (w64 (1 + w64 (Int.tdiv (s.size : Nat) 8))) else m23 a b s k n N rows 0)))) := by kernel_rfl
end
end
end Go.Proofs.Ytciighngjnjmlaa.W
namespace Go.Proofs.Ytciighngjnjmlaa.W
open Go.Fw
set_option maxRecDepth 100000
noncomputable section
def rowsOk (n : Nat) (rows : List (List AV)) : Bool := Nat.ble (rows.length * 56) 140737488351232 && rows.all (isVr n)
theorem rowsOk_iff {n : Nat} {rows : List (List AV)} (h : rowsOk n rows = true) : rows.length * 56 ≤ 140737488351232 ∧ ∀ x ∈ rows, isVr n x = true := by
  unfold rowsOk at h
  rw [Bool.and_eq_true, List.all_eq_true] at h
  exact ⟨Nat.le_of_ble_eq_true h.1, h.2⟩
theorem rowsOk_of {n : Nat} {rows : List (List AV)} (h1 : rows.length * 56 ≤ 140737488351232) (h2 : ∀ x ∈ rows, isVr n x = true) : rowsOk n rows = true := by
  unfold rowsOk
  rw [Bool.and_eq_true, List.all_eq_true]
  exact ⟨Nat.ble_eq_true_of_le h1, h2⟩
end
end Go.Proofs.Ytciighngjnjmlaa.W
namespace Go.Proofs.Ytciighngjnjmlaa.W
open Go.Fw
set_option maxRecDepth 100000
noncomputable section
noncomputable def fIdx (f : Int → List AV → Bool × Int) : List (List AV) → Int → Int → Int × Int
  | [], c, _ => (-1, c)
  | x :: xs, c, i => bif (f c x).1 then fIdx f xs (f c x).2 (i + 1) else (i, (f c x).2)
noncomputable def cntR : Nat → Int → List AV → Bool × Int
  | 0, c, _ => (false, c)
  | n + 1, c, r => bif decide (w64 (c - 1) ≥ 0) then (bif decide (((tx r).size : Int) ≤ 300) then (!(decide ((fIdx (cntR n) (kids r) (w64 (c - 1)) 0).1 ≥ 0)), (fIdx (cntR n) (kids r) (w64 (c - 1)) 0).2) else (false, w64 (c - 1))) else (false, w64 (c - 1))
noncomputable def cntA (n : Nat) (c : Int) : AV → Bool × Int
  | .agg r => cntR n c r
  | _ => (false, c)
noncomputable def fnA : AV := .fn (.func 58) [] [.ptr 0 0, .ptr 1 0]
noncomputable def fnB : AV := .fn (.func 58) [] [.ptr 1 0, .ptr 0 0]
noncomputable def stC (c : Int) : List AObj := [.box 3 [i64 c], .box 39 [fnA]]
noncomputable def stD (c : Int) : List AObj := [.box 39 [fnB], .box 3 [i64 c]]
noncomputable def F58 (n : Nat) : List AV → List AObj → Ab Res := fun args st => match args, st with
  | [v, .ptr 0 0, .ptr 1 0], [.box 3 [x], .box 39 [y]] => some (isV n v && (eqC x (i64 x.toI) && eqC y fnA), (bl (cntA n x.toI v).1, stC (cntA n x.toI v).2))
  | _, _ => none
theorem F58_inv {n : Nat} {args : List AV} {st : List AObj} {r : Res} (h : F58 n args st = some (true, r)) :
    ∃ v c, args = [v, .ptr 0 0, .ptr 1 0] ∧ st = stC c ∧ isV n v = true ∧ r = (bl (cntA n c v).1, stC (cntA n c v).2) := by
  unfold F58 at h
  split at h
  · rename_i v x y
    simp only [Option.some.injEq, Prod.mk.injEq, Bool.and_eq_true, eqC_iff] at h
    obtain ⟨⟨hv, hx, rfl⟩, rfl⟩ := h
    exact ⟨v, x.toI, rfl, by unfold stC; rw [← hx], hv, rfl⟩
  · cases h
noncomputable def F59 (n : Nat) : List AV → List AObj → Ab Res := fun args st => match args, st with
  | [v, .ptr 0 0], [.box 39 [y], .box 3 [x]] => some (isV n v && (eqC x (i64 x.toI) && eqC y fnB), (bl (!(cntA n x.toI v).1), stD (cntA n x.toI v).2))
  | _, _ => none
theorem F59_inv {n : Nat} {args : List AV} {st : List AObj} {r : Res} (h : F59 n args st = some (true, r)) :
    ∃ v c, args = [v, .ptr 0 0] ∧ st = stD c ∧ isV n v = true ∧ r = (bl (!(cntA n c v).1), stD (cntA n c v).2) := by
  unfold F59 at h
  split at h
  · rename_i v y x
    simp only [Option.some.injEq, Prod.mk.injEq, Bool.and_eq_true, eqC_iff] at h
    obtain ⟨⟨hv, hx, rfl⟩, rfl⟩ := h
    exact ⟨v, x.toI, rfl, by unfold stD; rw [← hx], hv, rfl⟩
  · cases h
noncomputable def F89 (n : Nat) : List AV → List AObj → Ab Res := fun args st => match args, st with
  | [.sl 28 .any rows, .fn (.func h) [] [.ptr 0 0]], [.box 39 [y], .box 3 [x]] => bif Nat.beq h 59 then some (rowsOk n rows && (eqC x (i64 x.toI) && eqC y fnB), (i64 (fIdx (cntR n) rows x.toI 0).1, stD (fIdx (cntR n) rows x.toI 0).2)) else none
  | _, _ => none
theorem F89_inv {n : Nat} {args : List AV} {st : List AObj} {r : Res} (h : F89 n args st = some (true, r)) :
    ∃ rows c, args = [.sl 28 .any rows, .fn (.func 59) [] [.ptr 0 0]] ∧ st = stD c ∧ rowsOk n rows = true ∧ r = (i64 (fIdx (cntR n) rows c 0).1, stD (fIdx (cntR n) rows c 0).2) := by
  unfold F89 at h
  split at h
  · rename_i rows h' y x
    cases hb : Nat.beq h' 59 with
    | false => rw [hb] at h; cases h
    | true =>
      rw [hb] at h
      obtain rfl := Nat.eq_of_beq_eq_true hb
      simp only [cond_true, Option.some.injEq, Prod.mk.injEq, Bool.and_eq_true, eqC_iff] at h
      obtain ⟨⟨hv, hx, rfl⟩, rfl⟩ := h
      exact ⟨rows, x.toI, rfl, by unfold stD; rw [← hx], hv, rfl⟩
  · cases h
noncomputable def F40 (n : Nat) : List AV → List AObj → Ab Res := fun args st => match args, st with
  | [.sl 28 .any rows, .fn (.func h) [] [.ptr 0 0]], [.box 39 [y], .box 3 [x]] => bif Nat.beq h 59 then some (rowsOk n rows && (eqC x (i64 x.toI) && eqC y fnB), (bl (decide ((fIdx (cntR n) rows x.toI 0).1 ≥ 0)), stD (fIdx (cntR n) rows x.toI 0).2)) else none
  | _, _ => none
theorem F40_inv {n : Nat} {args : List AV} {st : List AObj} {r : Res} (h : F40 n args st = some (true, r)) :
    ∃ rows c, args = [.sl 28 .any rows, .fn (.func 59) [] [.ptr 0 0]] ∧ st = stD c ∧ rowsOk n rows = true ∧ r = (bl (decide ((fIdx (cntR n) rows c 0).1 ≥ 0)), stD (fIdx (cntR n) rows c 0).2) := by
  unfold F40 at h
  split at h
  · rename_i rows h' y x
    cases hb : Nat.beq h' 59 with
    | false => rw [hb] at h; cases h
    | true =>
      rw [hb] at h
      obtain rfl := Nat.eq_of_beq_eq_true hb
      simp only [cond_true, Option.some.injEq, Prod.mk.injEq, Bool.and_eq_true, eqC_iff] at h
      obtain ⟨⟨hv, hx, rfl⟩, rfl⟩ := h
      exact ⟨rows, x.toI, rfl, by unfold stD; rw [← hx], hv, rfl⟩
  · cases h
noncomputable def L58 (N n : Nat) : FSys := (K4 N).tell 58 (F58 n)
noncomputable def L59 (N n : Nat) : FSys := (L58 N n).tell 59 (F59 n)
noncomputable def L89 (N n : Nat) : FSys := (L59 N n).tell 89 (F89 n)
noncomputable def X58 (N n : Nat) : FSys := (L89 N n).tell 40 (F40 n)
noncomputable def okC (c : Int) : Bool := eqC (i64 c) (i64 c) && eqC fnA fnA
noncomputable def okD (c : Int) : Bool := eqC (i64 c) (i64 c) && eqC fnB fnB
noncomputable def σ89 (rows : List (List AV)) (i c : Int) : St := ⟨tm 19 [(0, .sl 28 .any rows), (1, .fn (.func 59) [] [.ptr 0 0]), (7, i64 (rows.length : Nat)), (8, i64 i)], stD c, []⟩
section
variable (a b c : Int) (s : ByteArray) (k n N : Nat) (rows : List (List AV)) (R : St → Option Res) (i : Int)
theorem b59 : ev (L58 N n) (k + 1) 59 [.agg (VV a b s rows), .ptr 0 0] (stD c) = bif isV n (.agg (VV a b s rows)) && okC c then some (bl (!(cntA n c (.agg (VV a b s rows))).1), stD (cntA n c (.agg (VV a b s rows))).2) else none := by kernel_rfl
theorem r89 : roundAt (L59 N n) 89 Try.f89 2 k [1,0,1,0] [] R (σ89 rows i c) = bif decide (i < (rows.length : Nat)) then (bif decide (0 ≤ i) && decide (i < (rows.length : Nat)) then (bif isV n (.agg (nx rows i)) && okD c then
  (bif !(cntA n c (.agg (nx rows i))).1 then some (i64 i, stD (cntA n c (.agg (nx rows i))).2) else R (σ89 rows (IntKind.i64.wrap (i + 1)) (cntA n c (.agg (nx rows i))).2)) else none) else none) else some (i64 (-1), stD c) := by kernel_rfl
theorem b89 : ev (L59 N n) (k + 1) 89 [.sl 28 .any rows, .fn (.func 59) [] [.ptr 0 0]] (stD c) = loopAt (L59 N n) 89 Try.f89 2 k [1,0,1,0] [] k (σ89 rows 0 c) := by kernel_rfl
theorem b40 : ev (L89 N n) (k + 1) 40 [.sl 28 .any rows, .fn (.func 59) [] [.ptr 0 0]] (stD c) = bif rowsOk n rows && okD c then some (bl (decide ((fIdx (cntR n) rows c 0).1 ≥ 0)), stD (fIdx (cntR n) rows c 0).2) else none := by kernel_rfl
theorem b58 : evTop (X58 N n) k 58 [.agg (VV a b s rows), .ptr 0 0, .ptr 1 0] (stC c) = bif decide (w64 (c - 1) ≥ 0) then (bif decide ((s.size : Int) ≤ 300) then (bif rowsOk n rows && okD (w64 (c - 1)) then some (bl (!(decide ((fIdx (cntR n) rows (w64 (c - 1)) 0).1 ≥ 0))), stC (fIdx (cntR n) rows (w64 (c - 1)) 0).2) else none) else some (bl false, stC (w64 (c - 1)))) else some (bl false, stC (w64 (c - 1))) := by kernel_rfl
theorem b11 : ev (L58 N n) (k + 1) 11 [.agg (VV a b s rows), i64 c] [] = bif isV n (.agg (VV a b s rows)) && okC c then some (bl (cntA n c (.agg (VV a b s rows))).1, []) else none := by kernel_rfl
end
end
end Go.Proofs.Ytciighngjnjmlaa.W
namespace Go.Proofs.Ytciighngjnjmlaa.W
open Go.Fw
set_option maxRecDepth 100000
noncomputable section
theorem okC_self (c : Int) : okC c = true := by unfold okC; rw [eqC_self, eqC_self]; rfl
theorem okD_self (c : Int) : okD c = true := by unfold okD; rw [eqC_self, eqC_self]; rfl
theorem isV_ex {n : Nat} {v : AV} (h : isV n v = true) : ∃ a b s rows, v = .agg (VV a b s rows) := by
  cases n with
  | zero => rw [isV_zero] at h; cases h
  | succ n =>
    obtain ⟨a, b, s, rows, rfl, _⟩ := isV_some h
    exact ⟨a, b, s, rows, rfl⟩
theorem told59 (N n : Nat) (args : List AV) (st : List AObj) (r : Res) (h : F59 n args st = some (true, r)) : ∃ k, ev (L58 N n) k 59 args st = some r := by
  obtain ⟨v, c, rfl, rfl, hv, rfl⟩ := F59_inv h
  obtain ⟨a, b, s, rows, rfl⟩ := isV_ex hv
  exact ⟨0 + 1, (b59 a b c s 0 n N rows).trans (by rw [hv, okC_self]; rfl)⟩
def foldI {A : Type} (stop : A → List AV → Bool) (out : A → Int → List AV → Option Res) (upd : A → List AV → A) (fin : A → Option Res) : List (List AV) → A → Int → Option Res
  | [], c, _ => fin c
  | x :: xs, c, i => bif stop c x then out c i x else foldI stop out upd fin xs (upd c x) (i + 1)
theorem loop_idx {S : FSys} {f : FuncId} {fn : Func} {m k : Nat} {p ms : List Nat} {rows : List (List AV)} {A : Type}
    (σ : A → Int → St) (stop : A → List AV → Bool) (out : A → Int → List AV → Option Res) (upd : A → List AV → A) (fin : A → Option Res)
    (h : ∀ (R : St → Option Res) (c : A) (i : Nat) (h1 : i < rows.length), roundAt S f fn m k p ms R (σ c i) = bif stop c rows[i] then out c i rows[i] else R (σ (upd c rows[i]) ((i + 1 : Nat) : Int)))
    (he : ∀ (R : St → Option Res) (c : A), roundAt S f fn m k p ms R (σ c (rows.length : Nat)) = fin c) :
    ∀ (n i : Nat) (c : A), i ≤ rows.length → rows.length - i < n → loopAt S f fn m k p ms n (σ c i) = foldI stop out upd fin (rows.drop i) c i
  | 0, i, c, _, h => by omega
  | n + 1, i, c, hi, hn => by
    rw [loopAt_succ]
    rcases Nat.lt_or_eq_of_le hi with h1 | h1
    · rw [h _ c i h1, List.drop_eq_getElem_cons h1, loop_idx σ stop out upd fin h he n (i + 1) _ h1 (by omega)]
      rfl
    · subst h1
      rw [he, List.drop_length]
      rfl
theorem foldI_fIdx (f : Int → List AV → Bool × Int) : ∀ (l : List (List AV)) (c i : Int),
    foldI (fun c x => !(f c x).1) (fun c i x => some (i64 i, stD (f c x).2)) (fun c x => (f c x).2) (fun c => some (i64 (-1), stD c)) l c i = some (i64 (fIdx f l c i).1, stD (fIdx f l c i).2)
  | [], c, i => rfl
  | x :: xs, c, i => by
    simp only [foldI, fIdx]
    cases hp : (f c x).1 with
    | true => simp only [Bool.not_true, cond_false, cond_true]; exact foldI_fIdx f xs _ _
    | false => rfl
theorem told89 (N n : Nat) (args : List AV) (st : List AObj) (r : Res) (h : F89 n args st = some (true, r)) : ∃ k, ev (L59 N n) k 89 args st = some r := by
  obtain ⟨rows, c, rfl, rfl, hv, rfl⟩ := F89_inv h
  obtain ⟨hl, hr⟩ := rowsOk_iff hv
  refine ⟨rows.length + 1 + 1, (b89 c _ n N rows).trans ?_⟩
  have L := loop_idx (S := L59 N n) (f := 89) (fn := Try.f89) (m := 2) (k := rows.length + 1) (p := [1,0,1,0]) (ms := []) (rows := rows) (A := Int)
    (fun c i => σ89 rows i c) (fun c x => !(cntR n c x).1) (fun c i x => some (i64 i, stD (cntR n c x).2)) (fun c x => (cntR n c x).2) (fun c => some (i64 (-1), stD c))
    (fun R c i hi => (r89 c _ n N rows R i).trans (by
      have d1 : decide ((i : Int) < (rows.length : Nat)) = true := by simpa using hi
      have d2 : decide (0 ≤ (i : Int)) = true := by simp
      have hw : IntKind.i64.wrap ((i : Int) + 1) = ((i + 1 : Nat) : Int) := by rw [wrap64] <;> omega
      rw [d1, d2, hw, nx_at hr hi, isV_agg, hr _ (List.getElem_mem hi), okD_self]
      rfl))
    (fun R c => (r89 c _ n N rows R _).trans (stopped _ _ _)) (rows.length + 1) 0 c (Nat.zero_le _) (by omega)
  exact L.trans (foldI_fIdx (cntR n) rows c 0)
theorem told40 (N n : Nat) (args : List AV) (st : List AObj) (r : Res) (h : F40 n args st = some (true, r)) : ∃ k, ev (L89 N n) k 40 args st = some r := by
  obtain ⟨rows, c, rfl, rfl, hv, rfl⟩ := F40_inv h
  exact ⟨0 + 1, (b40 c 0 n N rows).trans (by rw [hv, okD_self]; rfl)⟩
theorem X58Ok (N n : Nat) (h : SysOk Try.prog (L58 N n)) : SysOk Try.prog (X58 N n) :=
  ((h.tell 59 _ (told59 N n)).tell 89 _ (told89 N n)).tell 40 _ (told40 N n)
theorem cnt_eq (n : Nat) (c a b : Int) (s : ByteArray) (rows : List (List AV)) : cntA (n + 1) c (.agg (VV a b s rows)) = bif decide (w64 (c - 1) ≥ 0) then (bif decide ((s.size : Int) ≤ 300) then (!(decide ((fIdx (cntR n) rows (w64 (c - 1)) 0).1 ≥ 0)), (fIdx (cntR n) rows (w64 (c - 1)) 0).2) else (false, w64 (c - 1))) else (false, w64 (c - 1)) := rfl
theorem top58 (N n : Nat) (v : AV) (c : Int) (h : isV (n + 1) v = true) : ∃ k, evTop (X58 N n) k 58 [v, .ptr 0 0, .ptr 1 0] (stC c) = some (bl (cntA (n + 1) c v).1, stC (cntA (n + 1) c v).2) := by
  obtain ⟨a, b, s, rows, rfl, hl, hr⟩ := isV_some h
  refine ⟨1, (b58 a b c s 1 n N rows).trans ?_⟩
  rw [cnt_eq, rowsOk_of hl hr, okD_self]
  cases decide (w64 (c - 1) ≥ 0) <;> cases decide ((s.size : Int) ≤ 300) <;> rfl
theorem K58 (N : Nat) (n : Nat) : SysOk Try.prog (L58 N n) :=
  (K4Ok N).lvRec 58 F58 (X58 N) (fun args st r hF => by obtain ⟨v, _, _, _, h1, _⟩ := F58_inv hF; rw [isV_zero] at h1; cases h1) (fun n h => X58Ok N n h) (fun _ => rfl) (fun _ => rfl)
    (fun n args st r hF => by
      obtain ⟨v, c, rfl, rfl, h1, rfl⟩ := F58_inv hF
      exact top58 N n v c h1) n
noncomputable def F11 (n : Nat) : List AV → List AObj → Ab Res := fun args st => match args, st with
  | [v, .k (.int .i64 c)], [] => some (isV n v, (bl (cntA n c v).1, []))
  | _, _ => none
theorem K11 (N n : Nat) : SysOk Try.prog ((L58 N n).tell 11 (F11 n)) := (K58 N n).tell 11 _ fun args st r h => by
  unfold F11 at h
  split at h
  · rename_i v c
    simp only [Option.some.injEq, Prod.mk.injEq] at h
    obtain ⟨hv, rfl⟩ := h
    obtain ⟨a, b, s, rows, rfl⟩ := isV_ex hv
    exact ⟨0 + 1, (b11 a b c s 0 n N rows).trans (by rw [hv, okC_self]; rfl)⟩
  · cases h
noncomputable def idxL (p : List AV → Bool) : List (List AV) → Int → Int
  | [], _ => -1
  | x :: xs, i => bif p x then i else idxL p xs (i + 1)
theorem foldI_idx (p : List AV → Bool) : ∀ (l : List (List AV)) (i : Int), foldI (A := Unit) (fun _ x => p x) (fun _ i _ => some (i64 i, [])) (fun c _ => c) (fun _ => some (i64 (-1), [])) l () i = some (i64 (idxL p l i), [])
  | [], i => rfl
  | x :: xs, i => by
    simp only [foldI, idxL]
    cases p x with
    | true => rfl
    | false => exact foldI_idx p xs (i + 1)
theorem idxL_any (p : List AV → Bool) : ∀ (l : List (List AV)) (i : Int), 0 ≤ i → decide (idxL p l i ≥ 0) = l.any p
  | [], i, _ => rfl
  | x :: xs, i, h => by
    rw [List.any_cons]
    by_cases c : p x = true
    · rw [c, Bool.true_or]
      have : idxL p (x :: xs) i = i := by simp only [idxL, c, cond_true]
      rw [this]; exact decide_eq_true h
    · have c : p x = false := by simpa using c
      rw [c, Bool.false_or]
      have : idxL p (x :: xs) i = idxL p xs (i + 1) := by simp only [idxL, c, cond_false]
      rw [this]; exact idxL_any p xs (i + 1) (by omega)
end
end Go.Proofs.Ytciighngjnjmlaa.W
