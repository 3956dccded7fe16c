/- LinearNever returns true and leaves its arguments alone, for every input (no system has a solution and a refutation). No conditions but the row's own. -/
import Derived.Test.YtgcdiccbehiijaaGf
set_option linter.all false
namespace Go.Proofs.Ytgcdiccbehiijaa.W
open Go.Fw
set_option maxRecDepth 100000
open Go.ChangeShapes Go.WideShapes Go.ChangeAt Go.RowKit in
theorem lifted8 (os : Os) (started : os.Started) (H : Type) (enc : TypeId × Value → H) :
    ReturnsInHanded {} Try.checked os 8 .any (Rows.linearNeverSpec.pre6 enc Try.prog Try.f8 Rows.linearNeverRow.domain false) (Rows.linearNeverSpec.post enc Try.prog Try.f8 false true false false) :=
  law_returns (C := Try.checked) U.N7Ok U.plain8 Try.func8 (by kernel_rfl) (by kernel_rfl) (by kernel_rfl) U.pure8 rfl (fun ds hd => by
    have h1 : Try.f8.params.size = 3 := by kernel_rfl
    match ds, hd.trans h1 with
    | [a, b, c], _ => rfl) (rt := 4) (by kernel_rfl) (by kernel_rfl) laidOut (by kernel_rfl) own started (by kernel_rfl)
    (ChangeSpec.witness6 (enc := enc) (C := Try.checked) false ⟨#[], #[U.wS, U.wL, U.wL], []⟩ 8 (by kernel_rfl) (by kernel_rfl) (by kernel_rfl) (by kernel_rfl))
theorem over8 : Rows.linearNeverRow.holds Try.pinned (OpenSpec.ofChange Rows.linearNeverSpec) :=
  OpenClaim.holds_of_wide 8 Try.f8 rfl rfl rfl rfl rfl rfl rfl ⟨rfl, rfl, rfl, rfl, rfl⟩ rfl rfl rfl rfl rfl (by kernel_rfl) Try.func8 (by kernel_rfl)
    (of_decide_eq_true (by kernel_rfl)) (by unfold Func.isWrapper; first | (rw [if_pos (by decide +kernel)]; kernel_rfl) | (rw [if_neg (by decide +kernel)]; exact ⟨rfl, rfl⟩))
    (fun os started H enc _ => lifted8 os started H enc)
end Go.Proofs.Ytgcdiccbehiijaa.W
namespace Go.Proofs.Ytgcdiccbehiijaa
theorem linearNever_holds : Rows.LinearNeverSaid := W.over8
end Go.Proofs.Ytgcdiccbehiijaa
