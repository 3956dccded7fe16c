/- A part of the proofs over these laws: what its functions come to. No conditions. -/
import Derived.Test.YtciighngjnjmlaaGc
import Derived.Test.YtciighngjnjmlaaFwZg
set_option linter.all false
namespace Go.Proofs.Ytciighngjnjmlaa.W
open Go.Fw
set_option maxRecDepth 100000
theorem bytesLess_eq : ∀ (x y : List UInt8), Op.bytesLess x y = decide (x < y)
  | [], [] => by simp [Op.bytesLess]
  | _ :: _, [] => by simp [Op.bytesLess]
  | [], _ :: _ => by simp [Op.bytesLess]
  | a :: x, b :: y => by
    rw [Op.bytesLess, bytesLess_eq x y]
    simp only [List.cons_lt_cons_iff]
    by_cases h1 : a < b <;> by_cases h2 : a = b <;> by_cases h3 : x < y <;> simp [h1, h2, h3]
theorem compareBytes_lt : ∀ (x y : List UInt8), Lib.compareBytes x y < 0 ↔ x < y
  | [], [] => by simp [Lib.compareBytes]
  | _ :: _, [] => by simp [Lib.compareBytes]
  | [], _ :: _ => by simp [Lib.compareBytes]
  | a :: x, b :: y => by
    have ih := compareBytes_lt x y
    simp only [Lib.compareBytes, List.cons_lt_cons_iff]
    by_cases h1 : a < b
    · simp [h1]
    · by_cases h2 : b < a
      · have : a ≠ b := fun e => by subst e; exact h1 h2
        simp [h1, h2, this]
      · have : a = b := by
          rw [UInt8.lt_iff_toNat_lt] at h1 h2
          exact UInt8.toNat_inj.1 (by omega)
        simp [h1, h2, this, ih]
theorem compareBytes_eq : ∀ (x y : List UInt8), Lib.compareBytes x y = 0 ↔ x = y
  | [], [] => by simp [Lib.compareBytes]
  | _ :: _, [] => by simp [Lib.compareBytes]
  | [], _ :: _ => by simp [Lib.compareBytes]
  | a :: x, b :: y => by
    have ih := compareBytes_eq x y
    simp only [Lib.compareBytes, List.cons.injEq]
    by_cases h1 : a < b
    · have : a ≠ b := fun e => by subst e; rw [UInt8.lt_iff_toNat_lt] at h1; omega
      simp [h1, this]
    · by_cases h2 : b < a
      · have : a ≠ b := fun e => by subst e; exact h1 h2
        simp [h1, h2, this]
      · have : a = b := by
          rw [UInt8.lt_iff_toNat_lt] at h1 h2
          exact UInt8.toNat_inj.1 (by omega)
        simp [this, ih]
def ltB (a b : ByteArray) : Prop := a.data.toList < b.data.toList
theorem cmpB_lt (a b : ByteArray) : cmpB a b < 0 ↔ ltB a b := compareBytes_lt _ _
theorem cmpB_eq (a b : ByteArray) : cmpB a b = 0 ↔ a = b := by
  unfold cmpB
  rw [compareBytes_eq]
  exact ⟨fun h => ByteArray.ext (Array.ext' h), fun h => by rw [h]⟩
theorem ltB_trans {a b c : ByteArray} (h : ltB a b) (k : ltB b c) : ltB a c := List.lt_trans h k
theorem ltB_irrefl (a : ByteArray) : ¬ ltB a a := List.lt_irrefl _
theorem less_ltB (a b : ByteArray) : (Op.bytesLess a.toList b.toList = true) ↔ ltB a b := by
  rw [bytesLess_eq, decide_eq_true_eq, ByteArray.toList_eq, ByteArray.toList_eq]; exact Iff.rfl
noncomputable section
abbrev i64 (n : Int) : AV := .k (.int .i64 n)
abbrev bl (b : Bool) : AV := .k (.bool b)
def cmpI (a b : Int) : Int := bif decide (a < b) then -1 else bif decide (a > b) then 1 else 0
def cmpS (s t : ByteArray) : Int := bif Op.bytesLess s.toList t.toList then -1 else bif !(Op.bytesLess s.toList t.toList || s == t) then 1 else 0
theorem compareBytes_or : ∀ (x y : List UInt8), Lib.compareBytes x y = -1 ∨ Lib.compareBytes x y = 0 ∨ Lib.compareBytes x y = 1
  | [], [] => by simp [Lib.compareBytes]
  | _ :: _, [] => by simp [Lib.compareBytes]
  | [], _ :: _ => by simp [Lib.compareBytes]
  | a :: x, b :: y => by
    have ih := compareBytes_or x y
    simp only [Lib.compareBytes]
    split
    · simp
    · split
      · simp
      · exact ih
theorem cmpS_eq (s t : ByteArray) : cmpS s t = cmpB s t := by
  unfold cmpS
  rw [ba_beq]
  rcases compareBytes_or s.data.toList t.data.toList with h | h | h
  · have h1 : ltB s t := (cmpB_lt s t).1 (by unfold cmpB; omega)
    rw [(less_ltB s t).2 h1]
    unfold cmpB; rw [h]; rfl
  · have h1 : s = t := (cmpB_eq s t).1 h
    have h2 : Op.bytesLess s.toList t.toList = false := by
      cases hb : Op.bytesLess s.toList t.toList
      · rfl
      · have := (less_ltB s t).1 hb; rw [h1] at this; exact absurd this (ltB_irrefl t)
    rw [h2]; unfold cmpB; rw [h]; simp [h1]
  · have h2 : Op.bytesLess s.toList t.toList = false := by
      cases hb : Op.bytesLess s.toList t.toList
      · rfl
      · have := (cmpB_lt s t).2 ((less_ltB s t).1 hb); unfold cmpB at this; omega
    have h3 : s ≠ t := fun e => by have := (cmpB_eq s t).2 e; unfold cmpB at this; omega
    rw [h2]; unfold cmpB; rw [h]; simp [h3]
def FI (h : Int → Int → Int) : List AV → List AObj → Ab Res := fun args st => match args, st with
  | [.k (.int .i64 a), .k (.int .i64 b)], [] => some (true, (i64 (h a b), []))
  | _, _ => none
def FS (h : ByteArray → ByteArray → Int) : List AV → List AObj → Ab Res := fun args st => match args, st with
  | [.k (.string a), .k (.string b)], [] => some (true, (i64 (h a b), []))
  | _, _ => none
theorem FI_ok {h : Int → Int → Int} {S : FSys} {g : FuncId} (hh : ∀ a b, ∃ k, ev S k g [i64 a, i64 b] [] = some (i64 (h a b), [])) (args : List AV) (st : List AObj) (r : Res) (hF : FI h args st = some (true, r)) : ∃ k, ev S k g args st = some r := by
  unfold FI at hF
  split at hF
  · simp only [Option.some.injEq, Prod.mk.injEq] at hF
    obtain ⟨_, rfl⟩ := hF
    exact hh _ _
  · cases hF
theorem FS_ok {h : ByteArray → ByteArray → Int} {S : FSys} {g : FuncId} (hh : ∀ a b, ∃ k, ev S k g [.k (.string a), .k (.string b)] [] = some (i64 (h a b), [])) (args : List AV) (st : List AObj) (r : Res) (hF : FS h args st = some (true, r)) : ∃ k, ev S k g args st = some r := by
  unfold FS at hF
  split at hF
  · simp only [Option.some.injEq, Prod.mk.injEq] at hF
    obtain ⟨_, rfl⟩ := hF
    exact hh _ _
  · cases hF
def K1 (n : Nat) : FSys := (sysH n).tell 137 (FS cmpB)
theorem K1Ok (n : Nat) : SysOk Try.prog (K1 n) := (sysHOk n).tellCF 137 (FS cmpB) fun args st r st' h => by
  unfold FS at h
  split at h
  · rename_i a b
    cases h
    exact ⟨CF_cmpstring (fn := Try.f137) Try.func137 (by kernel_rfl) (by kernel_rfl) (by kernel_rfl) (by kernel_rfl) a b [] _, by kernel_rfl, by kernel_rfl, Nat.le_refl _⟩
  · cases h
theorem ev103 (n k : Nat) (a b : ByteArray) : ev (K1 n) (k + 2) 103 [.k (.string a), .k (.string b)] [] = some (i64 (cmpB a b), []) := by kernel_rfl
def K2 (n : Nat) : FSys := (K1 n).tell 103 (FS cmpS)
theorem K2Ok (n : Nat) : SysOk Try.prog (K2 n) := (K1Ok n).tell 103 _ (FS_ok fun a b => ⟨_, by rw [cmpS_eq]; exact ev103 n 0 a b⟩)
theorem ev106 (n k : Nat) (a b : ByteArray) : ev (K2 n) (k + 2) 106 [.k (.string a), .k (.string b)] [] = bif Op.bytesLess a.toList b.toList then some (i64 (-1), []) else bif !(Op.bytesLess a.toList b.toList || a == b) then some (i64 1, []) else some (i64 0, []) := by kernel_rfl
def K3 (n : Nat) : FSys := (K2 n).tell 106 (FS cmpS)
theorem K3Ok (n : Nat) : SysOk Try.prog (K3 n) := (K2Ok n).tell 106 _ (FS_ok fun a b => ⟨_, (ev106 n 0 a b).trans (by
  unfold cmpS
  cases Op.bytesLess a.toList b.toList <;> cases a == b <;> rfl)⟩)
theorem ev105 (n k : Nat) (a b : Int) : ev (K3 n) (k + 2) 105 [i64 a, i64 b] [] = bif decide (a < b) then some (i64 (-1), []) else bif decide (a > b) then some (i64 1, []) else some (i64 0, []) := by kernel_rfl
theorem ev101 (n k : Nat) (a b : Int) : ev (K3 n) (k + 3) 101 [i64 a, i64 b] [] = bif !(a == a) then (bif !(b == b) then some (i64 0, []) else some (i64 (-1), [])) else (bif !(b == b) then some (i64 1, []) else (bif decide (a < b) then some (i64 (-1), []) else bif decide (a > b) then some (i64 1, []) else some (i64 0, []))) := by kernel_rfl
theorem ev102 (n k : Nat) (a b : Int) : ev (K3 n) (k + 3) 102 [i64 a, i64 b] [] = bif !(a == a) then (bif !(b == b) then some (i64 0, []) else some (i64 (-1), [])) else (bif !(b == b) then some (i64 1, []) else (bif decide (a < b) then some (i64 (-1), []) else bif decide (a > b) then some (i64 1, []) else some (i64 0, []))) := by kernel_rfl
theorem cmpI_out (a b : Int) : (bif decide (a < b) then some (i64 (-1), ([] : List AObj)) else bif decide (a > b) then some (i64 1, []) else some (i64 0, [])) = some (i64 (cmpI a b), []) := by
  unfold cmpI
  cases decide (a < b) <;> cases decide (a > b) <;> rfl
def K4 (n : Nat) : FSys := (((K3 n).tell 105 (FI cmpI)).tell 101 (FI cmpI)).tell 102 (FI cmpI)
theorem K4Ok (n : Nat) : SysOk Try.prog (K4 n) :=
  .tellFrom (.tellFrom ((K3Ok n).tell 105 _ (FI_ok fun a b => ⟨_, (ev105 n 0 a b).trans (cmpI_out a b)⟩)) (K3Ok n) rfl rfl 101 _ (FI_ok fun a b => ⟨_, (ev101 n 0 a b).trans (by rw [beq_self_eq_true, beq_self_eq_true]; exact cmpI_out a b)⟩))
    (K3Ok n) rfl rfl 102 _ (FI_ok fun a b => ⟨_, (ev102 n 0 a b).trans (by rw [beq_self_eq_true, beq_self_eq_true]; exact cmpI_out a b)⟩)
end
end Go.Proofs.Ytciighngjnjmlaa.W
namespace Go.Proofs.Ytciighngjnjmlaa.W
open Go.Fw
set_option maxRecDepth 100000
noncomputable section
def kd (r : List AV) : Int := (r.getD 0 .undef).toI
def nm (r : List AV) : Int := (r.getD 1 .undef).toI
def tx (r : List AV) : ByteArray := (r.getD 2 .undef).toS
def kids (r : List AV) : List (List AV) := (r.getD 3 .undef).rows
def onV (f : List AV → Int) : AV → Int
  | .agg r => f r
  | _ => 0
def onB (f : List AV → Bool) : AV → Bool
  | .agg r => f r
  | _ => false
def onVV (f : List AV → List AV → Int) : AV → AV → Int
  | .agg r, .agg q => f r q
  | _, _ => 0
def onBB (f : List AV → List AV → Bool) : AV → AV → Bool
  | .agg r, .agg q => f r q
  | _, _ => false
def okK (a : Int) : Bool := a == 1 || (a == 2 || (a == 3 || (a == 4 || a == 7)))
def sortR : Nat → List AV → Bool
  | 0, _ => false
  | n + 1, r => okK (kd r) && (kids r).all (sortR n)
def sortV (n : Nat) : AV → Bool := onB (sortR n)
def w64 (n : Int) : Int := IntKind.i64.wrap n
def sizeR : Nat → List AV → Int
  | 0, _ => 0
  | n + 1, r => (kids r).foldl (fun c x => w64 (c + sizeR n x)) 1
def sizeV (n : Nat) : AV → Int := onV (sizeR n)
def maxI (a b : Int) : Int := bif decide (b > a) then b else a
def depthR : Nat → List AV → Int
  | 0, _ => 0
  | n + 1, r => w64 ((kids r).foldl (fun c x => maxI c (depthR n x)) 0 + 1)
def depthV (n : Nat) : AV → Int := onV (depthR n)
def cell0 (r : List AV) : Int :=
  bif kd r == 4 then (bif decide ((((kids r).length : Nat) : Int) > 0) then w64 (1 + ((kids r).length : Nat)) else 0)
  else bif kd r == 5 || (kd r == 6 || kd r == 7) then w64 (1 + ((kids r).length : Nat))
  else bif kd r == 3 then w64 (1 + w64 (Int.tdiv ((tx r).size : Nat) 8)) else 0
def cellR : Nat → List AV → Int
  | 0, _ => 0
  | n + 1, r => (kids r).foldl (fun c x => w64 (c + cellR n x)) (cell0 r)
def cellV (n : Nat) : AV → Int := onV (cellR n)
def eqR : Nat → List AV → List AV → Bool
  | 0, _, _ => false
  | n + 1, r, q => kd r == kd q && (nm r == nm q && (tx r == tx q && all2 (eqR n) (kids r) (kids q)))
def eqV (n : Nat) : AV → AV → Bool := onBB (eqR n)
def headC (r q : List AV) : Int := bif kd r == 3 then cmpS (tx r) (tx q) else bif kd r == 7 then cmpI ((kids r).length : Nat) ((kids q).length : Nat) else cmpI (nm r) (nm q)
def ordR : Nat → List AV → List AV → Int
  | 0, _, _ => 0
  | n + 1, r, q => bif cmpI (kd r) (kd q) == 0 then (bif headC r q == 0 then lexR (ordR n) (kids r) (kids q) else headC r q) else cmpI (kd r) (kd q)
def ordV (n : Nat) : AV → AV → Int := onVV (ordR n)
def FVb (h : AV → Bool) (c : AV → Bool) : List AV → List AObj → Ab Res := fun args st => match args, st with
  | [v], [] => some (c v, (bl (h v), []))
  | _, _ => none
def FVi (h : AV → Int) (c : AV → Bool) : List AV → List AObj → Ab Res := fun args st => match args, st with
  | [v], [] => some (c v, (i64 (h v), []))
  | _, _ => none
def FWb (h : AV → AV → Bool) (c : AV → AV → Bool) : List AV → List AObj → Ab Res := fun args st => match args, st with
  | [u, v], [] => some (c u v, (bl (h u v), []))
  | _, _ => none
def FWi (h : AV → AV → Int) (c : AV → AV → Bool) : List AV → List AObj → Ab Res := fun args st => match args, st with
  | [u, v], [] => some (c u v, (i64 (h u v), []))
  | _, _ => none
theorem FVb_inv {h c} {args : List AV} {st : List AObj} {r : Res} (hF : FVb h c args st = some (true, r)) : ∃ v, args = [v] ∧ st = [] ∧ c v = true ∧ r = (bl (h v), []) := by
  unfold FVb at hF
  split at hF
  · simp only [Option.some.injEq, Prod.mk.injEq] at hF
    exact ⟨_, rfl, rfl, hF.1, hF.2.symm⟩
  · cases hF
theorem FVi_inv {h c} {args : List AV} {st : List AObj} {r : Res} (hF : FVi h c args st = some (true, r)) : ∃ v, args = [v] ∧ st = [] ∧ c v = true ∧ r = (i64 (h v), []) := by
  unfold FVi at hF
  split at hF
  · simp only [Option.some.injEq, Prod.mk.injEq] at hF
    exact ⟨_, rfl, rfl, hF.1, hF.2.symm⟩
  · cases hF
theorem FWb_inv {h c} {args : List AV} {st : List AObj} {r : Res} (hF : FWb h c args st = some (true, r)) : ∃ u v, args = [u, v] ∧ st = [] ∧ c u v = true ∧ r = (bl (h u v), []) := by
  unfold FWb at hF
  split at hF
  · simp only [Option.some.injEq, Prod.mk.injEq] at hF
    exact ⟨_, _, rfl, rfl, hF.1, hF.2.symm⟩
  · cases hF
theorem FWi_inv {h c} {args : List AV} {st : List AObj} {r : Res} (hF : FWi h c args st = some (true, r)) : ∃ u v, args = [u, v] ∧ st = [] ∧ c u v = true ∧ r = (i64 (h u v), []) := by
  unfold FWi at hF
  split at hF
  · simp only [Option.some.injEq, Prod.mk.injEq] at hF
    exact ⟨_, _, rfl, rfl, hF.1, hF.2.symm⟩
  · cases hF
abbrev R4 (P : AV → Prop) := P
def lvB (f : Nat → AV → Bool) (n : Nat) : List AV → List AObj → Ab Res := FVb (f n) (isV n)
def lvI (f : Nat → AV → Int) (n : Nat) : List AV → List AObj → Ab Res := FVi (f n) (isV n)
def isVV (n : Nat) (u v : AV) : Bool := isV n u && isV n v
def lvBB (f : Nat → AV → AV → Bool) (n : Nat) : List AV → List AObj → Ab Res := FWb (f n) (isVV n)
def isSS (n : Nat) (u v : AV) : Bool := (isV n u && isV n v) && (sortV n u && sortV n v)
def lvO (n : Nat) : List AV → List AObj → Ab Res := FWi (ordV n) (isSS n)
theorem tellB {S : FSys} (hS : SysOk Try.prog S) (g : FuncId) (f : Nat → AV → Bool) (h : ∀ n v, isV (n + 1) v = true → ∃ k, evTop (S.tell g (lvB f n)) k g [v] [] = some (bl (f (n + 1) v), [])) (n : Nat) : SysOk Try.prog (S.tell g (lvB f n)) :=
  hS.tellLv g (lvB f) (fun args st r hF => by obtain ⟨v, _, _, h1, _⟩ := FVb_inv hF; rw [isV_zero] at h1; cases h1) (fun n args st r hF => by
    obtain ⟨v, rfl, rfl, h1, rfl⟩ := FVb_inv hF
    exact h n v h1) n
theorem tellI {S : FSys} (hS : SysOk Try.prog S) (g : FuncId) (f : Nat → AV → Int) (h : ∀ n v, isV (n + 1) v = true → ∃ k, evTop (S.tell g (lvI f n)) k g [v] [] = some (i64 (f (n + 1) v), [])) (n : Nat) : SysOk Try.prog (S.tell g (lvI f n)) :=
  hS.tellLv g (lvI f) (fun args st r hF => by obtain ⟨v, _, _, h1, _⟩ := FVi_inv hF; rw [isV_zero] at h1; cases h1) (fun n args st r hF => by
    obtain ⟨v, rfl, rfl, h1, rfl⟩ := FVi_inv hF
    exact h n v h1) n
theorem isVV_zero (u v : AV) : isVV 0 u v = false := by unfold isVV; rw [isV_zero]; rfl
theorem isSS_zero (u v : AV) : isSS 0 u v = false := by unfold isSS; rw [isV_zero]; rfl
theorem tellBB {S : FSys} (hS : SysOk Try.prog S) (g : FuncId) (f : Nat → AV → AV → Bool) (h : ∀ n u v, isVV (n + 1) u v = true → ∃ k, evTop (S.tell g (lvBB f n)) k g [u, v] [] = some (bl (f (n + 1) u v), [])) (n : Nat) : SysOk Try.prog (S.tell g (lvBB f n)) :=
  hS.tellLv g (lvBB f) (fun args st r hF => by obtain ⟨u, v, _, _, h1, _⟩ := FWb_inv hF; rw [isVV_zero] at h1; cases h1) (fun n args st r hF => by
    obtain ⟨u, v, rfl, rfl, h1, rfl⟩ := FWb_inv hF
    exact h n u v h1) n
theorem tellO {S : FSys} (hS : SysOk Try.prog S) (g : FuncId) (h : ∀ n u v, isSS (n + 1) u v = true → ∃ k, evTop (S.tell g (lvO n)) k g [u, v] [] = some (i64 (ordV (n + 1) u v), [])) (n : Nat) : SysOk Try.prog (S.tell g (lvO n)) :=
  hS.tellLv g lvO (fun args st r hF => by obtain ⟨u, v, _, _, h1, _⟩ := FWi_inv hF; rw [isSS_zero] at h1; cases h1) (fun n args st r hF => by
    obtain ⟨u, v, rfl, rfl, h1, rfl⟩ := FWi_inv hF
    exact h n u v h1) n
abbrev nx (rows : List (List AV)) (i : Int) : List AV := vrow (rows.getD i.toNat [])
theorem nx_at {rows : List (List AV)} {n i : Nat} (hr : ∀ x ∈ rows, isVr n x = true) (hi : i < rows.length) : nx rows i = rows[i] := by
  unfold nx
  rw [Int.toNat_natCast, getD_at hi, vrow_of (hr _ (List.getElem_mem hi))]
theorem pass {α : Type} {rows : List (List AV)} {n i : Nat} (hr : ∀ x ∈ rows, isVr n x = true) (hl : rows.length * 56 ≤ 140737488351232) (hi : i < rows.length) (X : List AV → Int → α) (N M F : α) :
    (bif decide ((i : Int) < (rows.length : Nat)) then (bif decide (0 ≤ (i : Int)) && decide ((i : Int) < (rows.length : Nat)) then (bif isV n (.agg (nx rows i)) then X (nx rows i) (IntKind.i64.wrap ((i : Int) + 1)) else N) else M) else F) = X rows[i] ((i + 1 : Nat) : Int) := by
  have d1 : decide ((i : Int) < (rows.length : Nat)) = true := by simpa using hi
  have d2 : decide (0 ≤ (i : Int)) = true := by simp
  have hw : IntKind.i64.wrap ((i : Int) + 1) = ((i + 1 : Nat) : Int) := by rw [wrap64] <;> omega
  rw [d1, d2, hw, nx_at hr hi, isV_agg, hr _ (List.getElem_mem hi)]
  rfl
theorem stopped {α : Type} (l : Nat) (x y : α) : (bif decide (((l : Nat) : Int) < ((l : Nat) : Int)) then x else y) = y := by simp
section
variable (a b a2 b2: Int) (s t : ByteArray) (k n N : Nat) (rows rows2 : List (List AV)) (R : St → Option Res) (i c : Int)
def L65 (N n : Nat) : FSys := (K4 N).tell 65 (lvB sortV n)
theorem r65 : roundAt (L65 N n) 65 Try.f65 0 k [1,1,0,1,0] [] R ⟨tm 41 [(1, .ptr 0 0), (3, i64 i)], [.box 28 (VV a b s rows)], []⟩ = bif decide (i < (rows.length : Nat)) then (bif decide (0 ≤ i) && decide (i < (rows.length : Nat)) then (bif isV n (.agg (nx rows i)) then (bif !(sortV n (.agg (nx rows i))) then some (bl false, []) else R ⟨tm 41 [(1, .ptr 0 0), (3, i64 (IntKind.i64.wrap (i + 1)))], [.box 28 (VV a b s rows)], []⟩) else none) else none) else some (bl true, []) := by kernel_rfl
theorem b65 : evTop (L65 N n) k 65 [.agg (VV a b s rows)] [] = bif !(a == 1) then (bif !(a == 2) then (bif !(a == 3) then (bif !(a == 4) then (bif !(a == 7) then some (bl false, []) else loopAt (L65 N n) 65 Try.f65 0 k [1,1,0,1,0] [] k ⟨tm 41 [(1, .ptr 0 0), (3, i64 0)], [.box 28 (VV a b s rows)], []⟩) else loopAt (L65 N n) 65 Try.f65 0 k [1,1,0,1,0] [] k ⟨tm 41 [(1, .ptr 0 0), (3, i64 0)], [.box 28 (VV a b s rows)], []⟩) else loopAt (L65 N n) 65 Try.f65 0 k [1,1,0,1,0] [] k ⟨tm 41 [(1, .ptr 0 0), (3, i64 0)], [.box 28 (VV a b s rows)], []⟩) else loopAt (L65 N n) 65 Try.f65 0 k [1,1,0,1,0] [] k ⟨tm 41 [(1, .ptr 0 0), (3, i64 0)], [.box 28 (VV a b s rows)], []⟩) else loopAt (L65 N n) 65 Try.f65 0 k [1,1,0,1,0] [] k ⟨tm 41 [(1, .ptr 0 0), (3, i64 0)], [.box 28 (VV a b s rows)], []⟩ := by kernel_rfl
def L19 (N n : Nat) : FSys := (K4 N).tell 19 (lvI sizeV n)
theorem r19 : roundAt (L19 N n) 19 Try.f19 0 k [1,1,0,1,0] [] R ⟨tm 21 [(1, .ptr 0 0), (3, i64 c), (4, i64 i)], [.box 28 (VV a b s rows)], []⟩ = bif decide (i < (rows.length : Nat)) then (bif decide (0 ≤ i) && decide (i < (rows.length : Nat)) then (bif isV n (.agg (nx rows i)) then R ⟨tm 21 [(1, .ptr 0 0), (3, i64 (w64 (c + sizeV n (.agg (nx rows i))))), (4, i64 (IntKind.i64.wrap (i + 1)))], [.box 28 (VV a b s rows)], []⟩ else none) else none) else some (i64 c, []) := by kernel_rfl
theorem b19 : evTop (L19 N n) k 19 [.agg (VV a b s rows)] [] = loopAt (L19 N n) 19 Try.f19 0 k [1,1,0,1,0] [] k ⟨tm 21 [(1, .ptr 0 0), (3, i64 1), (4, i64 0)], [.box 28 (VV a b s rows)], []⟩ := by kernel_rfl
def L21 (N n : Nat) : FSys := (K4 N).tell 21 (lvI depthV n)
theorem r21 : roundAt (L21 N n) 21 Try.f21 0 k [1,1,0,1,0] [] R ⟨tm 25 [(1, .ptr 0 0), (3, i64 c), (4, i64 i)], [.box 28 (VV a b s rows)], []⟩ = bif decide (i < (rows.length : Nat)) then (bif decide (0 ≤ i) && decide (i < (rows.length : Nat)) then (bif isV n (.agg (nx rows i)) then (bif decide (depthV n (.agg (nx rows i)) > c) then R ⟨tm 25 [(1, .ptr 0 0), (3, i64 (depthV n (.agg (nx rows i)))), (4, i64 (IntKind.i64.wrap (i + 1)))], [.box 28 (VV a b s rows)], []⟩ else R ⟨tm 25 [(1, .ptr 0 0), (3, i64 c), (4, i64 (IntKind.i64.wrap (i + 1)))], [.box 28 (VV a b s rows)], []⟩) else none) else none) else some (i64 (w64 (c + 1)), []) := by kernel_rfl
theorem b21 : evTop (L21 N n) k 21 [.agg (VV a b s rows)] [] = loopAt (L21 N n) 21 Try.f21 0 k [1,1,0,1,0] [] k ⟨tm 25 [(1, .ptr 0 0), (3, i64 0), (4, i64 0)], [.box 28 (VV a b s rows)], []⟩ := by kernel_rfl
def L20 (N n : Nat) : FSys := (K4 N).tell 20 (lvI depthV n)
theorem r20 : roundAt (L20 N n) 20 Try.f20 0 k [1,1,0,1,0] [] R ⟨tm 20 [(3, i64 c), (7, .sl 28 .any rows), (8, i64 (rows.length : Nat)), (9, i64 i)], [], []⟩ = bif decide (i < (rows.length : Nat)) then (bif decide (0 ≤ i) && decide (i < (rows.length : Nat)) then (bif isV n (.agg (nx rows i)) then R ⟨tm 20 [(3, i64 (if depthV n (.agg (nx rows i)) > c then depthV n (.agg (nx rows i)) else c)), (7, .sl 28 .any rows), (8, i64 (rows.length : Nat)), (9, i64 (IntKind.i64.wrap (i + 1)))], [], []⟩ else none) else none) else some (i64 (w64 (c + 1)), []) := by kernel_rfl
theorem b20 : evTop (L20 N n) k 20 [.agg (VV a b s rows)] [] = loopAt (L20 N n) 20 Try.f20 0 k [1,1,0,1,0] [] k ⟨tm 20 [(3, i64 0), (7, .sl 28 .any rows), (8, i64 (rows.length : Nat)), (9, i64 0)], [], []⟩ := by kernel_rfl
def L23 (N n : Nat) : FSys := (K4 N).tell 23 (lvI cellV n)
theorem r23 : roundAt (L23 N n) 23 Try.f23 0 k [1,1,1,0,1,0] [] R ⟨tm 48 [(1, .ptr 0 0), (3, i64 c), (4, i64 i)], [.box 28 (VV a b s rows)], []⟩ = bif decide (i < (rows.length : Nat)) then (bif decide (0 ≤ i) && decide (i < (rows.length : Nat)) then (bif isV n (.agg (nx rows i)) then R ⟨tm 48 [(1, .ptr 0 0), (3, i64 (w64 (c + cellV n (.agg (nx rows i))))), (4, i64 (IntKind.i64.wrap (i + 1)))], [.box 28 (VV a b s rows)], []⟩ else none) else none) else some (i64 c, []) := by kernel_rfl
def m23 (c : Int) : Option Res := loopAt (L23 N n) 23 Try.f23 0 k [1,1,1,0,1,0] [] k ⟨tm 48 [(1, .ptr 0 0), (3, i64 c), (4, i64 0)], [.box 28 (VV a b s rows)], []⟩
theorem b23 : evTop (L23 N n) k 23 [.agg (VV a b s rows)] [] = bif a == 4 then (bif decide (((rows.length : Nat) : Int) > 0) then m23 a b s k n N rows (w64 (1 + (rows.length : Nat))) else m23 a b s k n N rows 0) else (bif a == 5 then (bif a == 5 then m23 a b s k n N rows (w64 (1 + (rows.length : Nat))) else (bif a == 3 then m23 a b s k n N rows (w64 (1 + w64 (Int.tdiv (s.size : Nat) 8))) else m23 a b s k n N rows 0)) else (bif a == 6 then (bif a == 6 then m23 a b s k n N rows (w64 (1 + (rows.length : Nat))) else (bif a == 3 then m23 a b s k n N rows (w64 (1 + w64 (Int.tdiv (s.size : Nat) 8))) else m23 a b s k n N rows 0)) else (bif a == 7 then m23 a b s k n N rows (w64 (1 + (rows.length : Nat))) else (bif a == 3 then m23 a b s k n N rows (w64 (1 + w64 (Int.tdiv (s.size : Nat) 8))) else m23 a b s k n N rows 0)))) := by kernel_rfl
end
end
end Go.Proofs.Ytciighngjnjmlaa.W
namespace Go.Proofs.Ytciighngjnjmlaa.W
open Go.Fw
set_option maxRecDepth 100000
noncomputable section
theorem top65 (N n : Nat) (v : AV) (h : isV (n + 1) v = true) : ∃ k, evTop (L65 N n) k 65 [v] [] = some (bl (sortV (n + 1) v), []) := by
  obtain ⟨a, b, s, rows, rfl, hl, hr⟩ := isV_some h
  refine ⟨rows.length + 1, (b65 a b s _ n N rows).trans ?_⟩
  have L := loop_list (S := L65 N n) (f := 65) (fn := Try.f65) (m := 0) (k := rows.length + 1) (p := [1,1,0,1,0]) (ms := []) (rows := rows) (A := Unit)
    (fun _ i => ⟨tm 41 [(1, .ptr 0 0), (3, i64 i)], [.box 28 (VV a b s rows)], []⟩) (fun _ x => !(sortR n x)) (fun _ _ => some (bl false, [])) (fun c _ => c) (fun _ => some (bl true, []))
    (fun R c i hi => (r65 a b s _ n N rows R i).trans (pass hr hl hi (fun x j => bif !(sortR n x) then some (bl false, []) else R ⟨tm 41 [(1, .ptr 0 0), (3, i64 j)], [.box 28 (VV a b s rows)], []⟩) _ _ _))
    (fun R c => (r65 a b s _ n N rows R _).trans (stopped _ _ _)) (rows.length + 1) 0 () (Nat.zero_le _) (by omega)
  have L2 := L.trans (foldS_all (sortR n) () rows)
  have e : sortV (n + 1) (.agg (VV a b s rows)) = (okK a && rows.all (sortR n)) := rfl
  rw [e]
  simp only [Int.natCast_zero] at L2
  rw [L2]
  unfold okK
  cases a == 1 <;> cases a == 2 <;> cases a == 3 <;> cases a == 4 <;> cases a == 7 <;> simp
theorem top19 (N n : Nat) (v : AV) (h : isV (n + 1) v = true) : ∃ k, evTop (L19 N n) k 19 [v] [] = some (i64 (sizeV (n + 1) v), []) := by
  obtain ⟨a, b, s, rows, rfl, hl, hr⟩ := isV_some h
  refine ⟨rows.length + 1, (b19 a b s _ n N rows).trans ?_⟩
  have L := loop_list (S := L19 N n) (f := 19) (fn := Try.f19) (m := 0) (k := rows.length + 1) (p := [1,1,0,1,0]) (ms := []) (rows := rows) (A := Int)
    (fun c i => ⟨tm 21 [(1, .ptr 0 0), (3, i64 c), (4, i64 i)], [.box 28 (VV a b s rows)], []⟩) (fun _ x => false) (fun _ _ => none) (fun c x => w64 (c + sizeR n x)) (fun c => some (i64 c, []))
    (fun R c i hi => (r19 a b s _ n N rows R i c).trans (pass hr hl hi (fun x j => R ⟨tm 21 [(1, .ptr 0 0), (3, i64 (w64 (c + sizeR n x))), (4, i64 j)], [.box 28 (VV a b s rows)], []⟩) _ _ _))
    (fun R c => (r19 a b s _ n N rows R _ c).trans (stopped _ _ _)) (rows.length + 1) 0 1 (Nat.zero_le _) (by omega)
  exact L.trans (foldS_sum _ _ _ rows 1)
theorem top21 (N n : Nat) (v : AV) (h : isV (n + 1) v = true) : ∃ k, evTop (L21 N n) k 21 [v] [] = some (i64 (depthV (n + 1) v), []) := by
  obtain ⟨a, b, s, rows, rfl, hl, hr⟩ := isV_some h
  refine ⟨rows.length + 1, (b21 a b s _ n N rows).trans ?_⟩
  have L := loop_list (S := L21 N n) (f := 21) (fn := Try.f21) (m := 0) (k := rows.length + 1) (p := [1,1,0,1,0]) (ms := []) (rows := rows) (A := Int)
    (fun c i => ⟨tm 25 [(1, .ptr 0 0), (3, i64 c), (4, i64 i)], [.box 28 (VV a b s rows)], []⟩) (fun _ x => false) (fun _ _ => none) (fun c x => maxI c (depthR n x)) (fun c => some (i64 (w64 (c + 1)), []))
    (fun R c i hi => (r21 a b s _ n N rows R i c).trans ((pass hr hl hi (fun x j => bif decide (depthR n x > c) then R ⟨tm 25 [(1, .ptr 0 0), (3, i64 (depthR n x)), (4, i64 j)], [.box 28 (VV a b s rows)], []⟩ else R ⟨tm 25 [(1, .ptr 0 0), (3, i64 c), (4, i64 j)], [.box 28 (VV a b s rows)], []⟩) _ _ _).trans (by
      unfold maxI
      cases decide (depthR n rows[i] > c) <;> rfl)))
    (fun R c => (r21 a b s _ n N rows R _ c).trans (stopped _ _ _)) (rows.length + 1) 0 0 (Nat.zero_le _) (by omega)
  exact L.trans (foldS_sum _ _ _ rows 0)
theorem top20 (N n : Nat) (v : AV) (h : isV (n + 1) v = true) : ∃ k, evTop (L20 N n) k 20 [v] [] = some (i64 (depthV (n + 1) v), []) := by
  obtain ⟨a, b, s, rows, rfl, hl, hr⟩ := isV_some h
  refine ⟨rows.length + 1, (b20 a b s _ n N rows).trans ?_⟩
  have L := loop_list (S := L20 N n) (f := 20) (fn := Try.f20) (m := 0) (k := rows.length + 1) (p := [1,1,0,1,0]) (ms := []) (rows := rows) (A := Int)
    (fun c i => ⟨tm 20 [(3, i64 c), (7, .sl 28 .any rows), (8, i64 (rows.length : Nat)), (9, i64 i)], [], []⟩) (fun _ x => false) (fun _ _ => none) (fun c x => maxI c (depthR n x)) (fun c => some (i64 (w64 (c + 1)), []))
    (fun R c i hi => (r20 _ n N rows R i c).trans ((pass hr hl hi (fun x j => R ⟨tm 20 [(3, i64 (if depthR n x > c then depthR n x else c)), (7, .sl 28 .any rows), (8, i64 (rows.length : Nat)), (9, i64 j)], [], []⟩) _ _ _).trans (by
      have e : maxI c (depthR n rows[i]) = if depthR n rows[i] > c then depthR n rows[i] else c := by
        unfold maxI
        by_cases hd : depthR n rows[i] > c <;> simp [hd]
      rw [e]; rfl)))
    (fun R c => (r20 _ n N rows R _ c).trans (stopped _ _ _)) (rows.length + 1) 0 0 (Nat.zero_le _) (by omega)
  exact L.trans (foldS_sum _ _ _ rows 0)
theorem loop23 (N n : Nat) (a b : Int) (s : ByteArray) (rows : List (List AV)) (hl : rows.length * 56 ≤ 140737488351232) (hr : ∀ x ∈ rows, isVr n x = true) (c : Int) :
    m23 a b s (rows.length + 1) n N rows c = some (i64 (rows.foldl (fun c x => w64 (c + cellR n x)) c), []) := by
  have L := loop_list (S := L23 N n) (f := 23) (fn := Try.f23) (m := 0) (k := rows.length + 1) (p := [1,1,1,0,1,0]) (ms := []) (rows := rows) (A := Int)
    (fun c i => ⟨tm 48 [(1, .ptr 0 0), (3, i64 c), (4, i64 i)], [.box 28 (VV a b s rows)], []⟩) (fun _ x => false) (fun _ _ => none) (fun c x => w64 (c + cellR n x)) (fun c => some (i64 c, []))
    (fun R c i hi => (r23 a b s _ n N rows R i c).trans (pass hr hl hi (fun x j => R ⟨tm 48 [(1, .ptr 0 0), (3, i64 (w64 (c + cellR n x))), (4, i64 j)], [.box 28 (VV a b s rows)], []⟩) _ _ _))
    (fun R c => (r23 a b s _ n N rows R _ c).trans (stopped _ _ _)) (rows.length + 1) 0 c (Nat.zero_le _) (by omega)
  exact L.trans (foldS_sum _ _ _ rows c)
theorem top23 (N n : Nat) (v : AV) (h : isV (n + 1) v = true) : ∃ k, evTop (L23 N n) k 23 [v] [] = some (i64 (cellV (n + 1) v), []) := by
  obtain ⟨a, b, s, rows, rfl, hl, hr⟩ := isV_some h
  refine ⟨rows.length + 1, (b23 a b s _ n N rows).trans ?_⟩
  have e : cellV (n + 1) (.agg (VV a b s rows)) = rows.foldl (fun c x => w64 (c + cellR n x)) (cell0 (VV a b s rows)) := rfl
  rw [e]
  simp only [loop23 N n a b s rows hl hr]
  have e0 : cell0 (VV a b s rows) = bif a == 4 then (bif decide (((rows.length : Nat) : Int) > 0) then w64 (1 + (rows.length : Nat)) else 0)
    else bif a == 5 || (a == 6 || a == 7) then w64 (1 + (rows.length : Nat)) else bif a == 3 then w64 (1 + w64 (Int.tdiv (s.size : Nat) 8)) else 0 := rfl
  rw [e0]
  cases a == 4 <;> cases a == 5 <;> cases a == 6 <;> cases a == 7 <;> cases a == 3 <;> cases decide (((rows.length : Nat) : Int) > 0) <;> rfl
end
end Go.Proofs.Ytciighngjnjmlaa.W
namespace Go.Proofs.Ytciighngjnjmlaa.W
open Go.Fw
set_option maxRecDepth 100000
noncomputable section
def rowsOk (n : Nat) (rows : List (List AV)) : Bool := Nat.ble (rows.length * 56) 140737488351232 && rows.all (isVr n)
theorem rowsOk_iff {n : Nat} {rows : List (List AV)} (h : rowsOk n rows = true) : rows.length * 56 ≤ 140737488351232 ∧ ∀ x ∈ rows, isVr n x = true := by
  unfold rowsOk at h
  rw [Bool.and_eq_true, List.all_eq_true] at h
  exact ⟨Nat.le_of_ble_eq_true h.1, h.2⟩
theorem rowsOk_of {n : Nat} {rows : List (List AV)} (h1 : rows.length * 56 ≤ 140737488351232) (h2 : ∀ x ∈ rows, isVr n x = true) : rowsOk n rows = true := by
  unfold rowsOk
  rw [Bool.and_eq_true, List.all_eq_true]
  exact ⟨Nat.ble_eq_true_of_le h1, h2⟩
def FEq (g : Nat) (n : Nat) : List AV → List AObj → Ab Res := fun args st => match args, st with
  | [.sl 28 .any rows, .sl 28 .any rows2, .fn (.func h) [] []], [] => bif Nat.beq h g then some (rowsOk n rows && rowsOk n rows2, (bl (all2 (eqR n) rows rows2), [])) else none
  | _, _ => none
section
variable (a b a2 b2: Int) (s t : ByteArray) (k n N : Nat) (rows rows2 : List (List AV)) (R : St → Option Res) (i c : Int)
def L17 (N n : Nat) : FSys := (K4 N).tell 17 (lvBB eqV n)
def σ17 : St := ⟨tm 53 [(2, .ptr 0 0), (3, .ptr 1 0), (5, i64 i)], [.box 28 (VV a b s rows), .box 28 (VV a2 b2 t rows2)], []⟩
theorem r17 : roundAt (L17 N n) 17 Try.f17 0 k [1,1,0,1,0] [] R (σ17 a b a2 b2 s t rows rows2 i) = bif decide (i < (rows.length : Nat)) then (bif decide (0 ≤ i) && decide (i < (rows.length : Nat)) then (bif decide (0 ≤ i) && decide (i < (rows2.length : Nat)) then (bif isV n (.agg (nx rows i)) && isV n (.agg (nx rows2 i)) then (bif !(eqV n (.agg (nx rows i)) (.agg (nx rows2 i))) then some (bl false, []) else R (σ17 a b a2 b2 s t rows rows2 (IntKind.i64.wrap (i + 1)))) else none) else none) else none) else some (bl true, []) := by kernel_rfl
theorem b17 : evTop (L17 N n) k 17 [.agg (VV a b s rows), .agg (VV a2 b2 t rows2)] [] = bif a != a2 then some (bl false, []) else (bif b != b2 then some (bl false, []) else (bif !(s == t) then some (bl false, []) else (bif ((rows.length : Nat) : Int) != ((rows2.length : Nat) : Int) then some (bl false, []) else loopAt (L17 N n) 17 Try.f17 0 k [1,1,0,1,0] [] k (σ17 a b a2 b2 s t rows rows2 0)))) := by kernel_rfl
def L16 (N n : Nat) : FSys := (K4 N).tell 16 (lvBB eqV n)
def X16 (N n : Nat) : FSys := (L16 N n).tell 27 (FEq 16 n)
def σ27 : St := ⟨tm 32 [(1, .sl 28 .any rows2), (2, .fn (.func 16) [] []), (15, .sl 28 .any rows), (16, i64 (rows.length : Nat)), (17, i64 i)], [], []⟩
theorem r27 : roundAt (L16 N n) 27 Try.f27 0 k [1,1,0,1,0] [] R (σ27 rows rows2 i) = bif decide (i < (rows.length : Nat)) then (bif decide (0 ≤ i) && decide (i < (rows.length : Nat)) then (bif decide (0 ≤ i) && decide (i < (rows2.length : Nat)) then (bif isV n (.agg (nx rows i)) && isV n (.agg (nx rows2 i)) then (bif !(eqV n (.agg (nx rows i)) (.agg (nx rows2 i))) then some (bl false, []) else R (σ27 rows rows2 (IntKind.i64.wrap (i + 1)))) else none) else none) else none) else some (bl true, []) := by kernel_rfl
theorem b27 : ev (L16 N n) (k + 1) 27 [.sl 28 .any rows, .sl 28 .any rows2, .fn (.func 16) [] []] [] = bif ((rows.length : Nat) : Int) != ((rows2.length : Nat) : Int) then some (bl false, []) else loopAt (L16 N n) 27 Try.f27 0 k [1,1,0,1,0] [] k (σ27 rows rows2 0) := by kernel_rfl
theorem b16 : evTop (X16 N n) k 16 [.agg (VV a b s rows), .agg (VV a2 b2 t rows2)] [] = bif a == a2 then (bif b == b2 then (bif s == t then (bif rowsOk n rows && rowsOk n rows2 then some (bl (all2 (eqR n) rows rows2), []) else none) else some (bl false, [])) else some (bl false, [])) else some (bl false, []) := by kernel_rfl
end
theorem pass2 {α : Type} {rows rows2 : List (List AV)} {n i : Nat} (hr : ∀ x ∈ rows, isVr n x = true) (hr2 : ∀ x ∈ rows2, isVr n x = true) (hl : rows.length * 56 ≤ 140737488351232) (hi : i < rows.length) (hj : i < rows2.length) (X : List AV → List AV → Int → α) (N M O F : α) :
    (bif decide ((i : Int) < (rows.length : Nat)) then (bif decide (0 ≤ (i : Int)) && decide ((i : Int) < (rows.length : Nat)) then (bif decide (0 ≤ (i : Int)) && decide ((i : Int) < (rows2.length : Nat)) then (bif isV n (.agg (nx rows i)) && isV n (.agg (nx rows2 i)) then X (nx rows i) (nx rows2 i) (IntKind.i64.wrap ((i : Int) + 1)) else N) else M) else O) else F) = X rows[i] rows2[i] ((i + 1 : Nat) : Int) := by
  have d1 : decide ((i : Int) < (rows.length : Nat)) = true := by simpa using hi
  have d3 : decide ((i : Int) < (rows2.length : Nat)) = true := by simpa using hj
  have d2 : decide (0 ≤ (i : Int)) = true := by simp
  have hw : IntKind.i64.wrap ((i : Int) + 1) = ((i + 1 : Nat) : Int) := by rw [wrap64] <;> omega
  rw [d1, d2, d3, hw, nx_at hr hi, nx_at hr2 hj, isV_agg, isV_agg, hr _ (List.getElem_mem hi), hr2 _ (List.getElem_mem hj)]
  rfl
theorem len_ne {l m : Nat} : (((l : Nat) : Int) != ((m : Nat) : Int)) = decide (l ≠ m) := by
  rw [Bool.eq_iff_iff]; simp; omega
theorem isVV_some {n : Nat} {u v : AV} (h : isVV n u v = true) : isV n u = true ∧ isV n v = true := by
  unfold isVV at h; rwa [Bool.and_eq_true] at h
theorem top17 (N n : Nat) (u v : AV) (h : isVV (n + 1) u v = true) : ∃ k, evTop (L17 N n) k 17 [u, v] [] = some (bl (eqV (n + 1) u v), []) := by
  obtain ⟨h1, h2⟩ := isVV_some h
  obtain ⟨a, b, s, rows, rfl, hl, hr⟩ := isV_some h1
  obtain ⟨a2, b2, t, rows2, rfl, hl2, hr2⟩ := isV_some h2
  refine ⟨rows.length + 1, (b17 a b a2 b2 s t _ n N rows rows2).trans ?_⟩
  have e : eqV (n + 1) (.agg (VV a b s rows)) (.agg (VV a2 b2 t rows2)) = (a == a2 && (b == b2 && (s == t && all2 (eqR n) rows rows2))) := rfl
  rw [e, len_ne]
  by_cases hlen : rows.length = rows2.length
  · have L := loop_pair (S := L17 N n) (f := 17) (fn := Try.f17) (m := 0) (k := rows.length + 1) (p := [1,1,0,1,0]) (ms := []) (rows := rows) (rows2 := rows2) (A := Unit)
      (fun _ i => σ17 a b a2 b2 s t rows rows2 i) (fun _ x y => !(eqR n x y)) (fun _ _ _ => some (bl false, [])) (fun c _ _ => c) (fun _ _ _ => some (bl true, []))
      (fun R c i hi hj => (r17 a b a2 b2 s t _ n N rows rows2 R i).trans (pass2 hr hr2 hl hi hj (fun x y j => bif !(eqR n x y) then some (bl false, []) else R (σ17 a b a2 b2 s t rows rows2 j)) _ _ _ _))
      (fun R c i hi hj ho => (r17 a b a2 b2 s t _ n N rows rows2 R _).trans (by
        have : i = rows.length := by omega
        subst this
        exact stopped _ _ _)) (rows.length + 1) 0 () (Nat.zero_le _) (Nat.zero_le _) (by omega)
    have L2 := L.trans (foldP_all2 (eqR n) () rows rows2 hlen)
    simp only [Int.natCast_zero] at L2
    rw [L2]
    have d : decide (rows.length ≠ rows2.length) = false := by simpa using hlen
    rw [d]
    simp only [bne]
    cases a == a2 <;> cases b == b2 <;> cases s == t <;> simp
  · have d : decide (rows.length ≠ rows2.length) = true := by simpa using hlen
    rw [d, all2_len hlen]
    simp only [bne]
    cases a == a2 <;> cases b == b2 <;> cases s == t <;> simp
theorem K17 (N n : Nat) : SysOk Try.prog (L17 N n) := tellBB (K4Ok N) 17 eqV (top17 N) n
theorem ev27 (N n : Nat) (rows rows2 : List (List AV)) (h1 : rowsOk n rows = true) (h2 : rowsOk n rows2 = true) : ∃ k, ev (L16 N n) k 27 [.sl 28 .any rows, .sl 28 .any rows2, .fn (.func 16) [] []] [] = some (bl (all2 (eqR n) rows rows2), []) := by
  obtain ⟨hl, hr⟩ := rowsOk_iff h1
  obtain ⟨hl2, hr2⟩ := rowsOk_iff h2
  refine ⟨rows.length + 1 + 1, (b27 _ n N rows rows2).trans ?_⟩
  rw [len_ne]
  by_cases hlen : rows.length = rows2.length
  · have L := loop_pair (S := L16 N n) (f := 27) (fn := Try.f27) (m := 0) (k := rows.length + 1) (p := [1,1,0,1,0]) (ms := []) (rows := rows) (rows2 := rows2) (A := Unit)
      (fun _ i => σ27 rows rows2 i) (fun _ x y => !(eqR n x y)) (fun _ _ _ => some (bl false, [])) (fun c _ _ => c) (fun _ _ _ => some (bl true, []))
      (fun R c i hi hj => (r27 _ n N rows rows2 R i).trans (pass2 hr hr2 hl hi hj (fun x y j => bif !(eqR n x y) then some (bl false, []) else R (σ27 rows rows2 j)) _ _ _ _))
      (fun R c i hi hj ho => (r27 _ n N rows rows2 R _).trans (by
        have : i = rows.length := by omega
        subst this
        exact stopped _ _ _)) (rows.length + 1) 0 () (Nat.zero_le _) (Nat.zero_le _) (by omega)
    have L2 := L.trans (foldP_all2 (eqR n) () rows rows2 hlen)
    simp only [Int.natCast_zero] at L2
    rw [L2]
    have d : decide (rows.length ≠ rows2.length) = false := by simpa using hlen
    rw [d]
    rfl
  · have d : decide (rows.length ≠ rows2.length) = true := by simpa using hlen
    rw [d, all2_len hlen]
    rfl
theorem FEq_inv {g n : Nat} {args : List AV} {st : List AObj} {r : Res} (h : FEq g n args st = some (true, r)) : ∃ rows rows2, args = [.sl 28 .any rows, .sl 28 .any rows2, .fn (.func g) [] []] ∧ st = [] ∧ rowsOk n rows = true ∧ rowsOk n rows2 = true ∧ r = (bl (all2 (eqR n) rows rows2), []) := by
  unfold FEq at h
  split at h
  · rename_i rows rows2 h'
    cases hb : Nat.beq h' g with
    | false => rw [hb] at h; cases h
    | true =>
      rw [hb] at h
      obtain rfl := Nat.eq_of_beq_eq_true hb
      simp only [cond_true, Option.some.injEq, Prod.mk.injEq, Bool.and_eq_true] at h
      exact ⟨rows, rows2, rfl, rfl, h.1.1, h.1.2, h.2.symm⟩
  · cases h
theorem told27 (N n : Nat) (args : List AV) (st : List AObj) (r : Res) (h : FEq 16 n args st = some (true, r)) : ∃ k, ev (L16 N n) k 27 args st = some r := by
  obtain ⟨rows, rows2, rfl, rfl, h1, h2, rfl⟩ := FEq_inv h
  exact ev27 N n rows rows2 h1 h2
theorem X16Ok (N n : Nat) (h : SysOk Try.prog (L16 N n)) : SysOk Try.prog (X16 N n) := h.tell 27 _ (told27 N n)
theorem top16 (N n : Nat) (u v : AV) (h : isVV (n + 1) u v = true) : ∃ k, evTop (X16 N n) k 16 [u, v] [] = some (bl (eqV (n + 1) u v), []) := by
  obtain ⟨h1, h2⟩ := isVV_some h
  obtain ⟨a, b, s, rows, rfl, hl, hr⟩ := isV_some h1
  obtain ⟨a2, b2, t, rows2, rfl, hl2, hr2⟩ := isV_some h2
  refine ⟨1, (b16 a b a2 b2 s t _ n N rows rows2).trans ?_⟩
  have e : eqV (n + 1) (.agg (VV a b s rows)) (.agg (VV a2 b2 t rows2)) = (a == a2 && (b == b2 && (s == t && all2 (eqR n) rows rows2))) := rfl
  rw [e, rowsOk_of hl hr, rowsOk_of hl2 hr2]
  cases a == a2 <;> cases b == b2 <;> cases s == t <;> rfl
theorem K16 (N : Nat) (n : Nat) : SysOk Try.prog (L16 N n) :=
  (K4Ok N).lvRec 16 (lvBB eqV) (X16 N) (fun args st r hF => by obtain ⟨u, v, _, _, h1, _⟩ := FWb_inv hF; rw [isVV_zero] at h1; cases h1) (fun n h => X16Ok N n h) (fun _ => rfl) (fun _ => rfl)
    (fun n args st r hF => by
      obtain ⟨u, v, rfl, rfl, h1, rfl⟩ := FWb_inv hF
      exact top16 N n u v h1) n
end
end Go.Proofs.Ytciighngjnjmlaa.W
namespace Go.Proofs.Ytciighngjnjmlaa.W
open Go.Fw
set_option maxRecDepth 100000
noncomputable section
def sortsR (n : Nat) (rows : List (List AV)) : Bool := rows.all (sortR n)
def FCm (g : Nat) (n : Nat) : List AV → List AObj → Ab Res := fun args st => match args, st with
  | [.sl 28 .any rows, .sl 28 .any rows2, .fn (.func h) [] []], [] => bif Nat.beq h g then some ((rowsOk n rows && rowsOk n rows2) && (sortsR n rows && sortsR n rows2), (i64 (lexR (ordR n) rows rows2), [])) else none
  | _, _ => none
section
variable (a b a2 b2: Int) (s t : ByteArray) (k n N : Nat) (rows rows2 : List (List AV)) (R : St → Option Res) (i c : Int)
def L66 (N n : Nat) : FSys := (K4 N).tell 66 (lvO n)
def σ66 : St := ⟨tm 78 [(2, .ptr 0 0), (3, .ptr 1 0), (6, i64 c), (7, i64 i)], [.box 28 (VV a b s rows), .box 28 (VV a2 b2 t rows2)], []⟩
abbrev ssN (n : Nat) (x y : List AV) : Bool := isSS n (.agg x) (.agg y)
def e66 (rows rows2 : List (List AV)) (c : Int) : Option Res := bif c == 0 then some (i64 (cmpI (rows.length : Nat) (rows2.length : Nat)), []) else some (i64 c, [])
theorem r66 : roundAt (L66 N n) 66 Try.f66 0 k [1,1,1,1,0,1,0] [] R (σ66 a b a2 b2 s t rows rows2 i c) = bif decide (i < (rows.length : Nat)) then (bif decide (i < (rows2.length : Nat)) then (bif c == 0 then (bif decide (0 ≤ i) && decide (i < (rows.length : Nat)) then (bif decide (0 ≤ i) && decide (i < (rows2.length : Nat)) then (bif ssN n (nx rows i) (nx rows2 i) then R (σ66 a b a2 b2 s t rows rows2 (IntKind.i64.wrap (i + 1)) (ordV n (.agg (nx rows i)) (.agg (nx rows2 i)))) else none) else none) else none) else e66 rows rows2 c) else e66 rows rows2 c) else e66 rows rows2 c := by kernel_rfl
def m66 (c : Int) : Option Res := loopAt (L66 N n) 66 Try.f66 0 k [1,1,1,1,0,1,0] [] k (σ66 a b a2 b2 s t rows rows2 0 c)
theorem b66 : evTop (L66 N n) k 66 [.agg (VV a b s rows), .agg (VV a2 b2 t rows2)] [] = bif cmpI a a2 != 0 then some (i64 (cmpI a a2), []) else (bif a == 3 then m66 a b a2 b2 s t k n N rows rows2 (cmpS s t) else (bif a == 7 then m66 a b a2 b2 s t k n N rows rows2 (cmpI (rows.length : Nat) (rows2.length : Nat)) else m66 a b a2 b2 s t k n N rows rows2 (cmpI b b2))) := by kernel_rfl
def L64 (N n : Nat) : FSys := (K4 N).tell 64 (lvO n)
def X64 (N n : Nat) : FSys := (L64 N n).tell 104 (FCm 64 n)
def σ104 : St := ⟨tm 39 [(0, .sl 28 .any rows), (1, .sl 28 .any rows2), (2, .fn (.func 64) [] []), (11, .sl 28 .any rows), (12, i64 (rows.length : Nat)), (13, i64 i)], [], []⟩
theorem r104 : roundAt (L64 N n) 104 Try.f104 0 k [1,0,1,0] [] R (σ104 rows rows2 i) = bif decide (i < (rows.length : Nat)) then (bif decide (0 ≤ i) && decide (i < (rows.length : Nat)) then (bif decide (i ≥ (rows2.length : Nat)) then some (i64 1, []) else (bif decide (0 ≤ i) && decide (i < (rows2.length : Nat)) then (bif ssN n (nx rows i) (nx rows2 i) then (bif ordV n (.agg (nx rows i)) (.agg (nx rows2 i)) != 0 then some (i64 (ordV n (.agg (nx rows i)) (.agg (nx rows2 i))), []) else R (σ104 rows rows2 (IntKind.i64.wrap (i + 1)))) else none) else none)) else none) else (bif decide (((rows.length : Nat) : Int) < ((rows2.length : Nat) : Int)) then some (i64 (-1), []) else some (i64 0, [])) := by kernel_rfl
theorem b104 : ev (L64 N n) (k + 1) 104 [.sl 28 .any rows, .sl 28 .any rows2, .fn (.func 64) [] []] [] = loopAt (L64 N n) 104 Try.f104 0 k [1,0,1,0] [] k (σ104 rows rows2 0) := by kernel_rfl
def q64 (c : Int) : Option Res := bif c != 0 then some (i64 c, []) else (bif (rowsOk n rows && rowsOk n rows2) && (sortsR n rows && sortsR n rows2) then some (i64 (lexR (ordR n) rows rows2), []) else none)
def t64 : Option Res := bif a == 3 then q64 n rows rows2 (cmpS s t) else (bif a == 7 then q64 n rows rows2 (cmpI (rows.length : Nat) (rows2.length : Nat)) else q64 n rows rows2 (cmpI a a2))
theorem b64 : evTop (X64 N n) k 64 [.agg (VV a b s rows), .agg (VV a2 b2 t rows2)] [] = bif cmpI a a2 != 0 then some (i64 (cmpI a a2), []) else (bif a == 1 then (bif a == 1 then q64 n rows rows2 (cmpI b b2) else t64 a a2 s t n rows rows2) else (bif a == 2 then (bif a == 2 then q64 n rows rows2 (cmpI b b2) else t64 a a2 s t n rows rows2) else (bif a == 4 then q64 n rows rows2 (cmpI b b2) else t64 a a2 s t n rows rows2))) := by kernel_rfl
end
theorem isSS_some {n : Nat} {u v : AV} (h : isSS n u v = true) : isV n u = true ∧ isV n v = true ∧ sortV n u = true ∧ sortV n v = true := by
  unfold isSS at h
  simp only [Bool.and_eq_true] at h
  exact ⟨h.1.1, h.1.2, h.2.1, h.2.2⟩
theorem ss_of {n : Nat} {x y : List AV} (h1 : isVr n x = true) (h2 : isVr n y = true) (h3 : sortR n x = true) (h4 : sortR n y = true) : ssN n x y = true := by
  change ((isVr n x && isVr n y) && (sortR n x && sortR n y)) = true
  rw [h1, h2, h3, h4]; rfl
theorem sortR_some {n : Nat} {a b : Int} {s : ByteArray} {rows : List (List AV)} (h : sortV (n + 1) (.agg (VV a b s rows)) = true) : okK a = true ∧ ∀ x ∈ rows, sortR n x = true := by
  change (okK a && rows.all (sortR n)) = true at h
  rw [Bool.and_eq_true, List.all_eq_true] at h
  exact h
theorem cmpI_succ (n m : Nat) : cmpI ((n + 1 : Nat) : Int) ((m + 1 : Nat) : Int) = cmpI (n : Nat) (m : Nat) := by
  unfold cmpI
  have e1 : decide (((n + 1 : Nat) : Int) < ((m + 1 : Nat) : Int)) = decide ((n : Int) < (m : Int)) := decide_eq_decide.2 (by omega)
  have e2 : decide (((n + 1 : Nat) : Int) > ((m + 1 : Nat) : Int)) = decide ((n : Int) > (m : Int)) := decide_eq_decide.2 (by omega)
  rw [e1, e2]
theorem foldP_lex (f : List AV → List AV → Int) (K : Int) : ∀ (l m : List (List AV)) (c : Int), K = cmpI (l.length : Nat) (m.length : Nat) →
    foldP (fun (c : Int) _ _ => !(c == 0)) (fun c _ _ => some (i64 c, [])) (fun _ x y => f x y) (fun c _ _ => bif c == 0 then some (i64 K, []) else some (i64 c, [])) l m c = some (i64 (bif c == 0 then lexR f l m else c), [])
  | [], [], c, h => by
    subst h
    simp only [foldP]
    cases hc : c == 0 <;> simp [lexR, cmpI]
  | [], y :: ys, c, h => by
    subst h
    simp only [foldP]
    have e : cmpI (([] : List (List AV)).length : Nat) ((y :: ys).length : Nat) = -1 := by simp [cmpI]
    rw [e]
    cases hc : c == 0 <;> simp [lexR]
  | x :: xs, [], c, h => by
    subst h
    simp only [foldP]
    have e : cmpI ((x :: xs).length : Nat) (([] : List (List AV)).length : Nat) = 1 := by
      have h1 : ¬ (((x :: xs).length : Nat) : Int) < ((0 : Nat) : Int) := by omega
      have h2 : (((x :: xs).length : Nat) : Int) > ((0 : Nat) : Int) := by simp
      unfold cmpI
      simp only [List.length_nil]
      rw [decide_eq_false h1, decide_eq_true h2]; rfl
    rw [e]
    cases hc : c == 0 <;> simp [lexR]
  | x :: xs, y :: ys, c, h => by
    simp only [foldP]
    cases hc : c == 0 with
    | false => rfl
    | true =>
      simp only [Bool.not_true, cond_false, cond_true]
      rw [foldP_lex f K xs ys (f x y) (by rw [h, List.length_cons, List.length_cons, cmpI_succ])]
      rfl
theorem loop66 (N n : Nat) (a b a2 b2 : Int) (s t : ByteArray) (rows rows2 : List (List AV)) (hl : rows.length * 56 ≤ 140737488351232) (hr : ∀ x ∈ rows, isVr n x = true) (hr2 : ∀ x ∈ rows2, isVr n x = true)
    (hs : ∀ x ∈ rows, sortR n x = true) (hs2 : ∀ x ∈ rows2, sortR n x = true) (c : Int) : m66 a b a2 b2 s t (rows.length + 1) n N rows rows2 c = some (i64 (bif c == 0 then lexR (ordR n) rows rows2 else c), []) := by
  have L := loop_pair (S := L66 N n) (f := 66) (fn := Try.f66) (m := 0) (k := rows.length + 1) (p := [1,1,1,1,0,1,0]) (ms := []) (rows := rows) (rows2 := rows2) (A := Int)
    (fun c i => σ66 a b a2 b2 s t rows rows2 i c) (fun (c : Int) _ _ => !(c == 0)) (fun c _ _ => some (i64 c, [])) (fun _ x y => ordR n x y) (fun c _ _ => bif c == 0 then some (i64 (cmpI (rows.length : Nat) (rows2.length : Nat)), []) else some (i64 c, []))
    (fun R c i hi hj => (r66 a b a2 b2 s t _ n N rows rows2 R i c).trans (by
      have d1 : decide ((i : Int) < (rows.length : Nat)) = true := by simpa using hi
      have d3 : decide ((i : Int) < (rows2.length : Nat)) = true := by simpa using hj
      have d2 : decide (0 ≤ (i : Int)) = true := by simp
      have hw : IntKind.i64.wrap ((i : Int) + 1) = ((i + 1 : Nat) : Int) := by rw [wrap64] <;> omega
      rw [d1, d2, d3, hw, nx_at hr hi, nx_at hr2 hj, ss_of (hr _ (List.getElem_mem hi)) (hr2 _ (List.getElem_mem hj)) (hs _ (List.getElem_mem hi)) (hs2 _ (List.getElem_mem hj))]
      unfold e66
      cases c == 0 <;> rfl))
    (fun R c i hi hj ho => (r66 a b a2 b2 s t _ n N rows rows2 R _ c).trans (by
      have d : decide ((i : Int) < (rows.length : Nat)) = false ∨ decide ((i : Int) < (rows2.length : Nat)) = false := by
        rcases ho with h | h
        · left; simp; omega
        · right; simp; omega
      unfold e66
      rcases d with d | d <;> rw [d]
      · rfl
      · cases decide ((i : Int) < (rows.length : Nat)) <;> rfl)) (rows.length + 1) 0 c (Nat.zero_le _) (Nat.zero_le _) (by omega)
  exact L.trans (foldP_lex (ordR n) _ rows rows2 c rfl)
theorem ord_eq (n : Nat) (a b a2 b2 : Int) (s t : ByteArray) (rows rows2 : List (List AV)) : ordV (n + 1) (.agg (VV a b s rows)) (.agg (VV a2 b2 t rows2)) =
    bif cmpI a a2 == 0 then (bif (bif a == 3 then cmpS s t else bif a == 7 then cmpI (rows.length : Nat) (rows2.length : Nat) else cmpI b b2) == 0 then lexR (ordR n) rows rows2 else (bif a == 3 then cmpS s t else bif a == 7 then cmpI (rows.length : Nat) (rows2.length : Nat) else cmpI b b2)) else cmpI a a2 := rfl
theorem top66 (N n : Nat) (u v : AV) (h : isSS (n + 1) u v = true) : ∃ k, evTop (L66 N n) k 66 [u, v] [] = some (i64 (ordV (n + 1) u v), []) := by
  obtain ⟨h1, h2, h3, h4⟩ := isSS_some h
  obtain ⟨a, b, s, rows, rfl, hl, hr⟩ := isV_some h1
  obtain ⟨a2, b2, t, rows2, rfl, hl2, hr2⟩ := isV_some h2
  refine ⟨rows.length + 1, (b66 a b a2 b2 s t _ n N rows rows2).trans ?_⟩
  have L := loop66 N n a b a2 b2 s t rows rows2 hl hr hr2 (sortR_some h3).2 (sortR_some h4).2
  rw [ord_eq]
  simp only [L, bne]
  cases cmpI a a2 == 0 <;> cases a == 3 <;> cases a == 7 <;> rfl
theorem K66 (N n : Nat) : SysOk Try.prog (L66 N n) := tellO (K4Ok N) 66 (top66 N) n
theorem foldP_lex2 (f : List AV → List AV → Int) (u : Unit) : ∀ (l m : List (List AV)),
    foldP (fun _ x y => f x y != 0) (fun _ x y => some (i64 (f x y), [])) (fun c _ _ => c) (fun _ e1 e2 => bif e1 then (bif e2 then some (i64 0, []) else some (i64 (-1), [])) else some (i64 1, [])) l m u = some (i64 (lexR f l m), [])
  | [], [] => rfl
  | [], _ :: _ => rfl
  | _ :: _, [] => rfl
  | x :: xs, y :: ys => by
    simp only [foldP, lexR, bne]
    cases hc : f x y == 0 with
    | false => rfl
    | true => simp only [Bool.not_true, cond_false, cond_true]; exact foldP_lex2 f u xs ys
theorem ev104 (N n : Nat) (rows rows2 : List (List AV)) (h1 : rowsOk n rows = true) (h2 : rowsOk n rows2 = true) (h3 : sortsR n rows = true) (h4 : sortsR n rows2 = true) :
    ∃ k, ev (L64 N n) k 104 [.sl 28 .any rows, .sl 28 .any rows2, .fn (.func 64) [] []] [] = some (i64 (lexR (ordR n) rows rows2), []) := by
  obtain ⟨hl, hr⟩ := rowsOk_iff h1
  obtain ⟨hl2, hr2⟩ := rowsOk_iff h2
  have hs := List.all_eq_true.1 h3
  have hs2 := List.all_eq_true.1 h4
  refine ⟨rows.length + 1 + 1, (b104 _ n N rows rows2).trans ?_⟩
  have L := loop_pair (S := L64 N n) (f := 104) (fn := Try.f104) (m := 0) (k := rows.length + 1) (p := [1,0,1,0]) (ms := []) (rows := rows) (rows2 := rows2) (A := Unit)
    (fun _ i => σ104 rows rows2 i) (fun _ x y => ordR n x y != 0) (fun _ x y => some (i64 (ordR n x y), [])) (fun c _ _ => c) (fun _ e1 e2 => bif e1 then (bif e2 then some (i64 0, []) else some (i64 (-1), [])) else some (i64 1, []))
    (fun R c i hi hj => (r104 _ n N rows rows2 R i).trans (by
      have d1 : decide ((i : Int) < (rows.length : Nat)) = true := by simpa using hi
      have d3 : decide ((i : Int) < (rows2.length : Nat)) = true := by simpa using hj
      have d4 : decide ((i : Int) ≥ (rows2.length : Nat)) = false := by simp; omega
      have d2 : decide (0 ≤ (i : Int)) = true := by simp
      have hw : IntKind.i64.wrap ((i : Int) + 1) = ((i + 1 : Nat) : Int) := by rw [wrap64] <;> omega
      rw [d1, d2, d3, d4, hw, nx_at hr hi, nx_at hr2 hj, ss_of (hr _ (List.getElem_mem hi)) (hr2 _ (List.getElem_mem hj)) (hs _ (List.getElem_mem hi)) (hs2 _ (List.getElem_mem hj))]
      rfl))
    (fun R c i hi hj ho => (r104 _ n N rows rows2 R i).trans (by
      have d2 : decide (0 ≤ (i : Int)) = true := by simp
      by_cases e1 : i = rows.length
      · have d1 : decide ((i : Int) < (rows.length : Nat)) = false := by simp; omega
        rw [d1, decide_eq_true e1]
        by_cases e2 : i = rows2.length
        · have d5 : decide (((rows.length : Nat) : Int) < ((rows2.length : Nat) : Int)) = false := by simp; omega
          rw [decide_eq_true e2, d5]; rfl
        · have d5 : decide (((rows.length : Nat) : Int) < ((rows2.length : Nat) : Int)) = true := by simp; omega
          rw [decide_eq_false e2, d5]; rfl
      · have e2 : i = rows2.length := by omega
        have d1 : decide ((i : Int) < (rows.length : Nat)) = true := by simp; omega
        have d4 : decide ((i : Int) ≥ (rows2.length : Nat)) = true := by simp; omega
        rw [d1, d2, d4, decide_eq_false e1]; rfl)) (rows.length + 1) 0 () (Nat.zero_le _) (Nat.zero_le _) (by omega)
  exact L.trans (foldP_lex2 (ordR n) () rows rows2)
theorem FCm_inv {g n : Nat} {args : List AV} {st : List AObj} {r : Res} (h : FCm g n args st = some (true, r)) : ∃ rows rows2, args = [.sl 28 .any rows, .sl 28 .any rows2, .fn (.func g) [] []] ∧ st = [] ∧ rowsOk n rows = true ∧ rowsOk n rows2 = true ∧
    sortsR n rows = true ∧ sortsR n rows2 = true ∧ r = (i64 (lexR (ordR n) rows rows2), []) := by
  unfold FCm at h
  split at h
  · rename_i rows rows2 h'
    cases hb : Nat.beq h' g with
    | false => rw [hb] at h; cases h
    | true =>
      rw [hb] at h
      obtain rfl := Nat.eq_of_beq_eq_true hb
      simp only [cond_true, Option.some.injEq, Prod.mk.injEq, Bool.and_eq_true] at h
      exact ⟨rows, rows2, rfl, rfl, h.1.1.1, h.1.1.2, h.1.2.1, h.1.2.2, h.2.symm⟩
  · cases h
theorem told104 (N n : Nat) (args : List AV) (st : List AObj) (r : Res) (h : FCm 64 n args st = some (true, r)) : ∃ k, ev (L64 N n) k 104 args st = some r := by
  obtain ⟨rows, rows2, rfl, rfl, h1, h2, h3, h4, rfl⟩ := FCm_inv h
  exact ev104 N n rows rows2 h1 h2 h3 h4
theorem okK_iff {a : Int} (h : okK a = true) : a = 1 ∨ a = 2 ∨ a = 3 ∨ a = 4 ∨ a = 7 := by
  unfold okK at h
  simpa using h
theorem top64 (N n : Nat) (u v : AV) (h : isSS (n + 1) u v = true) : ∃ k, evTop (X64 N n) k 64 [u, v] [] = some (i64 (ordV (n + 1) u v), []) := by
  obtain ⟨h1, h2, h3, h4⟩ := isSS_some h
  obtain ⟨a, b, s, rows, rfl, hl, hr⟩ := isV_some h1
  obtain ⟨a2, b2, t, rows2, rfl, hl2, hr2⟩ := isV_some h2
  refine ⟨1, (b64 a b a2 b2 s t _ n N rows rows2).trans ?_⟩
  have hs1 : sortsR n rows = true := List.all_eq_true.2 (sortR_some h3).2
  have hs2 : sortsR n rows2 = true := List.all_eq_true.2 (sortR_some h4).2
  rw [ord_eq]
  unfold t64 q64
  rw [rowsOk_of hl hr, rowsOk_of hl2 hr2, hs1, hs2]
  simp only [bne, Bool.and_self, cond_true]
  have fin : ∀ (x y : Int), (bif !(x == 0) then some (i64 x, ([] : List AObj)) else some (i64 y, [])) = some (i64 (bif x == 0 then y else x), []) := fun x y => by cases x == 0 <;> rfl
  simp only [fin]
  rcases okK_iff (sortR_some h3).1 with rfl | rfl | rfl | rfl | rfl
  · generalize cmpI 1 a2 = z
    cases z == 0 <;> rfl
  · generalize cmpI 2 a2 = z
    cases z == 0 <;> rfl
  · generalize cmpI 3 a2 = z
    cases z == 0 <;> rfl
  · generalize cmpI 4 a2 = z
    cases z == 0 <;> rfl
  · generalize cmpI 7 a2 = z
    cases z == 0 <;> rfl
theorem K64 (N : Nat) (n : Nat) : SysOk Try.prog (L64 N n) :=
  (K4Ok N).lvRec 64 lvO (X64 N) (fun args st r hF => by obtain ⟨u, v, _, _, h1, _⟩ := FWi_inv hF; rw [isSS_zero] at h1; cases h1) (fun n h => h.tell 104 _ (told104 N n)) (fun _ => rfl) (fun _ => rfl)
    (fun n args st r hF => by
      obtain ⟨u, v, rfl, rfl, h1, rfl⟩ := FWi_inv hF
      exact top64 N n u v h1) n
end
end Go.Proofs.Ytciighngjnjmlaa.W
