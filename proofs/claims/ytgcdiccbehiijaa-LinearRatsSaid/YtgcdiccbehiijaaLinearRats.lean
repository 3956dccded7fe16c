/- LinearRats returns true and leaves its arguments alone, for every input (make, Add, Sub, Mul, Div and Compare reckon exactly). No conditions but the row's own. -/
import Derived.Test.YtgcdiccbehiijaaGd
set_option linter.all false
namespace Go.Proofs.Ytgcdiccbehiijaa.W
open Go.Fw
set_option maxRecDepth 100000
open Go.ChangeShapes Go.WideShapes Go.ChangeAt Go.RowKit in
theorem lifted6 (os : Os) (started : os.Started) (H : Type) (enc : TypeId × Value → H) :
    ReturnsInHanded {} Try.checked os 6 .any (Rows.linearRatsSpec.pre6 enc Try.prog Try.f6 Rows.linearRatsRow.domain false) (Rows.linearRatsSpec.post enc Try.prog Try.f6 false true false false) :=
  law_returns (C := Try.checked) sysLOk plain Try.func6 (by kernel_rfl) (by kernel_rfl) (by kernel_rfl) pure6 rfl (fun ds hd => by
    have h1 : Try.f6.params.size = 3 := by kernel_rfl
    match ds, hd.trans h1 with
    | [a, b, c], _ => rfl) (rt := 4) (by kernel_rfl) (by kernel_rfl) laidOut (by kernel_rfl) own started (by kernel_rfl)
    (ChangeSpec.witness6 (enc := enc) (C := Try.checked) false ⟨#[], #[rz, rz, nw6], []⟩ 8 (by kernel_rfl) (by kernel_rfl) (by kernel_rfl) (by kernel_rfl))
theorem over6 : Rows.linearRatsRow.holds Try.pinned (OpenSpec.ofChange Rows.linearRatsSpec) :=
  OpenClaim.holds_of_wide 6 Try.f6 rfl rfl rfl rfl rfl rfl rfl ⟨rfl, rfl, rfl, rfl, rfl⟩ rfl rfl rfl rfl rfl (by kernel_rfl) Try.func6 (by kernel_rfl)
    (of_decide_eq_true (by kernel_rfl)) (by unfold Func.isWrapper; first | (rw [if_pos (by decide +kernel)]; kernel_rfl) | (rw [if_neg (by decide +kernel)]; exact ⟨rfl, rfl⟩))
    (fun os started H enc _ => lifted6 os started H enc)
end Go.Proofs.Ytgcdiccbehiijaa.W
namespace Go.Proofs.Ytgcdiccbehiijaa
theorem linearRats_holds : Rows.LinearRatsSaid := W.over6
end Go.Proofs.Ytgcdiccbehiijaa
