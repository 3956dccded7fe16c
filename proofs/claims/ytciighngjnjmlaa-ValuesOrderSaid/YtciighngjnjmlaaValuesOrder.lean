/- ValuesOrder returns true and leaves its arguments alone, for every input (the order, equality, and sizes). No conditions but the row's own. -/
import Derived.Test.YtciighngjnjmlaaGh
set_option linter.all false
namespace Go.Proofs.Ytciighngjnjmlaa.W
open Go.Fw
set_option maxRecDepth 100000
open Go.ChangeShapes Go.WideShapes Go.ChangeAt Go.RowKit in
theorem lifted4 (os : Os) (started : os.Started) (H : Type) (enc : TypeId × Value → H) :
    ReturnsInHanded {} Try.checked os 4 .any (Rows.valuesOrderSpec.pre6 enc Try.prog Try.f4 Rows.valuesOrderRow.domain false) (Rows.valuesOrderSpec.post enc Try.prog Try.f4 false true false false) :=
  law_returnsN (C := Try.checked) sysOk plain Try.func4 (by kernel_rfl) (by kernel_rfl) (by kernel_rfl) pure4 rfl (fun ds hd => by
    have h1 : Try.f4.params.size = 2 := by kernel_rfl
    match ds, hd.trans h1 with
    | [a, b], _ => rfl) (rt := 4) (by kernel_rfl) (by kernel_rfl) laidOut (by kernel_rfl) own started (by kernel_rfl)
    (ChangeSpec.witness6 (enc := enc) (C := Try.checked) false ⟨#[], #[vz, vz], []⟩ 8 (by kernel_rfl) (by kernel_rfl) (by kernel_rfl) (by kernel_rfl))
theorem over4 : Rows.valuesOrderRow.holds Try.pinned (OpenSpec.ofChange Rows.valuesOrderSpec) :=
  OpenClaim.holds_of_wide 4 Try.f4 rfl rfl rfl rfl rfl rfl rfl ⟨rfl, rfl, rfl, rfl, rfl⟩ rfl rfl rfl rfl rfl (by kernel_rfl) Try.func4 (by kernel_rfl)
    (of_decide_eq_true (by kernel_rfl)) (by unfold Func.isWrapper; first | (rw [if_pos (by decide +kernel)]; kernel_rfl) | (rw [if_neg (by decide +kernel)]; exact ⟨rfl, rfl⟩))
    (fun os started H enc _ => lifted4 os started H enc)
end Go.Proofs.Ytciighngjnjmlaa.W
namespace Go.Proofs.Ytciighngjnjmlaa
/-- the statement -/
theorem valuesOrder_holds : Rows.ValuesOrderSaid := W.over4
end Go.Proofs.Ytciighngjnjmlaa
