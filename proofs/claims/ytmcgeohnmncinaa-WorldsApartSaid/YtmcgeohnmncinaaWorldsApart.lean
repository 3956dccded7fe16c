/- WorldsApart returns true and leaves its arguments alone, for every input (a file that is put is read as it was put, other files and the input stay; what was dropped is gone). No conditions but the row's own. -/
import Derived.Test.YtmcgeohnmncinaaG6
set_option linter.all false
namespace Go.Proofs.Ytmcgeohnmncinaa.W
open Go.Fw
set_option maxRecDepth 100000
open Go.ChangeShapes Go.WideShapes Go.ChangeAt Go.RowKit in
theorem lifted9 (os : Os) (started : os.Started) (H : Type) (enc : TypeId × Value → H) :
    ReturnsInHanded {} Try.checked os 9 .any (Rows.worldsApartSpec.pre6 enc Try.prog Try.f9 Rows.worldsApartRow.domain false) (Rows.worldsApartSpec.post enc Try.prog Try.f9 false true false false) :=
  law_returns (C := Try.checked) sys37Ok plain Try.func9 (by kernel_rfl) (by kernel_rfl) (by kernel_rfl) pure9 rfl (fun ds hd => by
    have h1 : Try.f9.params.size = 3 := by kernel_rfl
    match ds, hd.trans h1 with
    | [a, b, c], _ => rfl) (rt := 4) (by kernel_rfl) (by kernel_rfl) laidOut (by kernel_rfl) own started (by kernel_rfl)
    (ChangeSpec.witness6 (enc := enc) (C := Try.checked) false ⟨#[], #[wz, .string ByteArray.empty, .string ByteArray.empty], []⟩ 8 (by kernel_rfl) (by kernel_rfl) (by kernel_rfl) (by kernel_rfl))
theorem over9 : Rows.worldsApartRow.holds Try.pinned (OpenSpec.ofChange Rows.worldsApartSpec) :=
  OpenClaim.holds_of_wide 9 Try.f9 rfl rfl rfl rfl rfl rfl rfl ⟨rfl, rfl, rfl, rfl, rfl⟩ rfl rfl rfl rfl rfl (by kernel_rfl) Try.func9 (by kernel_rfl)
    (of_decide_eq_true (by kernel_rfl)) (by unfold Func.isWrapper; first | (rw [if_pos (by decide +kernel)]; kernel_rfl) | (rw [if_neg (by decide +kernel)]; exact ⟨rfl, rfl⟩))
    (fun os started H enc _ => lifted9 os started H enc)
end Go.Proofs.Ytmcgeohnmncinaa.W
namespace Go.Proofs.Ytmcgeohnmncinaa
/-- the statement -/
theorem worldsApart_holds : Rows.WorldsApartSaid := W.over9
end Go.Proofs.Ytmcgeohnmncinaa
