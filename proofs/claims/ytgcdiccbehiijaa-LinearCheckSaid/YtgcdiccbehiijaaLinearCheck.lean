/- LinearCheck returns true and leaves its arguments alone, for every input (check, Solves and Refutes say what a system, a solution and a refutation are). No conditions but the row's own. -/
import Derived.Test.YtgcdiccbehiijaaGj
set_option linter.all false
namespace Go.Proofs.Ytgcdiccbehiijaa.W
open Go.Fw
set_option maxRecDepth 100000
open Go.ChangeShapes Go.WideShapes Go.ChangeAt Go.RowKit in
theorem lifted7 (os : Os) (started : os.Started) (H : Type) (enc : TypeId × Value → H) :
    ReturnsInHanded {} Try.checked os 7 .any (Rows.linearCheckSpec.pre6 enc Try.prog Try.f7 Rows.linearCheckRow.domain false) (Rows.linearCheckSpec.post enc Try.prog Try.f7 false true false false) :=
  law_returns (C := Try.checked) V.L7Ok U.plain8 Try.func7 (by kernel_rfl) (by kernel_rfl) (by kernel_rfl) V.pure7 rfl (fun ds hd => by
    have h1 : Try.f7.params.size = 3 := by kernel_rfl
    match ds, hd.trans h1 with
    | [a, b, c], _ => rfl) (rt := 4) (by kernel_rfl) (by kernel_rfl) laidOut (by kernel_rfl) own started (by kernel_rfl)
    (ChangeSpec.witness6 (enc := enc) (C := Try.checked) false ⟨#[], #[U.wS, U.wL, U.wL], []⟩ 8 (by kernel_rfl) (by kernel_rfl) (by kernel_rfl) (by kernel_rfl))
theorem over7 : Rows.linearCheckRow.holds Try.pinned (OpenSpec.ofChange Rows.linearCheckSpec) :=
  OpenClaim.holds_of_wide 7 Try.f7 rfl rfl rfl rfl rfl rfl rfl ⟨rfl, rfl, rfl, rfl, rfl⟩ rfl rfl rfl rfl rfl (by kernel_rfl) Try.func7 (by kernel_rfl)
    (of_decide_eq_true (by kernel_rfl)) (by unfold Func.isWrapper; first | (rw [if_pos (by decide +kernel)]; kernel_rfl) | (rw [if_neg (by decide +kernel)]; exact ⟨rfl, rfl⟩))
    (fun os started H enc _ => lifted7 os started H enc)
end Go.Proofs.Ytgcdiccbehiijaa.W
namespace Go.Proofs.Ytgcdiccbehiijaa
theorem linearCheck_holds : Rows.LinearCheckSaid := W.over7
end Go.Proofs.Ytgcdiccbehiijaa
