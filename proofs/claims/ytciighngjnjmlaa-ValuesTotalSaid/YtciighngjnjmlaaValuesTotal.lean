/- ValuesTotal returns true and leaves its arguments alone, for every input (a total order). No conditions but the row's own. -/
import Derived.Test.YtciighngjnjmlaaGh
set_option linter.all false
namespace Go.Proofs.Ytciighngjnjmlaa.W
open Go.Fw
set_option maxRecDepth 100000
open Go.ChangeShapes Go.WideShapes Go.ChangeAt Go.RowKit in
theorem lifted5 (os : Os) (started : os.Started) (H : Type) (enc : TypeId × Value → H) :
    ReturnsInHanded {} Try.checked os 5 .any (Rows.valuesTotalSpec.pre6 enc Try.prog Try.f5 Rows.valuesTotalRow.domain false) (Rows.valuesTotalSpec.post enc Try.prog Try.f5 false true false false) :=
  law_returnsN (C := Try.checked) sysOk plain Try.func5 (by kernel_rfl) (by kernel_rfl) (by kernel_rfl) pure5 rfl (fun ds hd => by
    have h1 : Try.f5.params.size = 1 := by kernel_rfl
    match ds, hd.trans h1 with
    | [a], _ => rfl) (rt := 4) (by kernel_rfl) (by kernel_rfl) laidOut (by kernel_rfl) own started (by kernel_rfl)
    (ChangeSpec.witness6 (enc := enc) (C := Try.checked) false ⟨#[], #[va], []⟩ 8 (by kernel_rfl) (by kernel_rfl) (by kernel_rfl) (by kernel_rfl))
theorem over5 : Rows.valuesTotalRow.holds Try.pinned (OpenSpec.ofChange Rows.valuesTotalSpec) :=
  OpenClaim.holds_of_wide 5 Try.f5 rfl rfl rfl rfl rfl rfl rfl ⟨rfl, rfl, rfl, rfl, rfl⟩ rfl rfl rfl rfl rfl (by kernel_rfl) Try.func5 (by kernel_rfl)
    (of_decide_eq_true (by kernel_rfl)) (by unfold Func.isWrapper; first | (rw [if_pos (by decide +kernel)]; kernel_rfl) | (rw [if_neg (by decide +kernel)]; exact ⟨rfl, rfl⟩))
    (fun os started H enc _ => lifted5 os started H enc)
end Go.Proofs.Ytciighngjnjmlaa.W
namespace Go.Proofs.Ytciighngjnjmlaa
theorem valuesTotal_holds : Rows.ValuesTotalSaid := W.over5
end Go.Proofs.Ytciighngjnjmlaa
