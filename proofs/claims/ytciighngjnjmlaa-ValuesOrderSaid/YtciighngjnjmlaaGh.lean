/- A part of the proofs over these laws: what its functions come to. No conditions. -/
import Derived.Test.YtciighngjnjmlaaGg
import Derived.Test.YtciighngjnjmlaaGd
import Derived.Test.YtciighngjnjmlaaRows
set_option linter.all false
/- Chapter 07: the law of the order. -/
namespace Go.Proofs.Ytciighngjnjmlaa.W
open Go.Fw
set_option maxRecDepth 100000
noncomputable section
/-- the system of the laws: at a level that is high enough for awake -/
noncomputable def QW (n : Nat) : FSys := (QV (n + 8)).tell 9 F9
theorem QWOk (n : Nat) : SysOk Try.prog (QW n) := (QVOk (n + 8)).tellMore (sysIOk n) rfl rfl
noncomputable def thenN (c : Bool) (x : Option Res) : Option Res := bif c then x else none
noncomputable def thenF (c : Bool) (x : Option Res) : Option Res := bif c then x else some (bl false, [])
noncomputable def rest4 (n : Nat) (u v : AV) : Option Res :=
  thenN (isVV n u v) (thenN (isVV n u v) (thenF (cmpN n u v == cmpN n u v) (thenF (cmpE n u v == cmpE n u v) (thenN (isVV n u v) (thenN (isVV n u v) (thenF (eqV n u v == eqV n u v)
    (thenN (isV n u) (thenN (isV n u) (thenF (sizeV n u == sizeV n u) (thenN (isV n u) (thenN (isV n u) (thenF (depthV n u == depthV n u) (thenN (isV n u) (thenN (isV n u) (some (bl (cellV n u == cellV n u), []))))))))))))))))
noncomputable def all4 (n : Nat) (u v : AV) : Option Res := thenN (isV n u) (bif !(cntA n 100 u).1 then some (bl true, []) else thenN (isV n v) (bif !(cntA n 100 v).1 then some (bl true, []) else rest4 n u v))
section
variable (a b a2 b2 : Int) (s t : ByteArray) (k n : Nat) (rows rows2 : List (List AV))
theorem b4 : ev (QW n) (k + 1) 4 [.agg (VV a b s rows), .agg (VV a2 b2 t rows2)] [] = all4 (n + 8) (.agg (VV a b s rows)) (.agg (VV a2 b2 t rows2)) := by kernel_rfl
end
theorem all4_true {n : Nat} {u v : AV} (h1 : isV n u = true) (h2 : isV n v = true) : all4 n u v = some (bl true, []) := by
  have h3 : isVV n u v = true := by unfold isVV; rw [h1, h2]; rfl
  unfold all4 rest4 thenN thenF
  simp only [h1, h2, h3, beq_self_eq_true, cond_true]
  cases (cntA n 100 u).1 <;> cases (cntA n 100 v).1 <;> rfl
theorem arg28 {av : AV} (h : ArgOf tab 28 av) : ∃ n, isV n av = true := by
  have ht : ∃ ti, tab 28 = some ti ∧ ti.isAgg = true := ⟨_, rfl, by kernel_rfl⟩
  obtain ⟨ti, h1, h2⟩ := ht
  exact ArgOf_isVal h h1 h2
theorem isV_up {n m : Nat} {v : AV} (h : isV n v = true) (hm : n ≤ m) : isV m v = true := isVal_le h hm
theorem pure4 (avs : List AV) (h : Args tab [28, 28] avs) : ∃ S k, SysOk Try.prog S ∧ S.T = sys.T ∧ ev S k 4 avs [] = some (bl true, []) := by
  match avs, h with
  | [u, v], ⟨hu, hv, _⟩ =>
    obtain ⟨n1, h1⟩ := arg28 hu
    obtain ⟨n2, h2⟩ := arg28 hv
    have h3 : isV (max n1 n2 + 8) u = true := isV_up h1 (by omega)
    have h4 : isV (max n1 n2 + 8) v = true := isV_up h2 (by omega)
    obtain ⟨a, b, s, rows, rfl⟩ := isV_ex h3
    obtain ⟨a2, b2, t, rows2, rfl⟩ := isV_ex h4
    exact ⟨QW (max n1 n2), 0 + 1, QWOk _, rfl, (b4 a b a2 b2 s t 0 _ rows rows2).trans (all4_true h3 h4)⟩
end
end Go.Proofs.Ytciighngjnjmlaa.W
/- Chapter 07: what the rows of the laws ask. -/
namespace Go.Proofs.Ytciighngjnjmlaa.W
open Go.Fw
set_option maxRecDepth 100000
theorem own : ownKnob Try.prog.godebug = none := by kernel_rfl
theorem laidOut : laidOutB Try.prog = true := by kernel_rfl
def tys : List Nat := [28, 3, 2, 9, 26]
theorem plain : plainT tab tys = true := by kernel_rfl
def vz : Value := .agg #[.int .i64 0, .int .i64 0, .string ByteArray.empty, .slice none 0 0]
end Go.Proofs.Ytciighngjnjmlaa.W
