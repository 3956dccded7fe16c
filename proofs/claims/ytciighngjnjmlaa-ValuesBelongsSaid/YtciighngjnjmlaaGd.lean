/- A part of the proofs over these laws: what its functions come to. No conditions. -/
import Derived.Test.YtciighngjnjmlaaGc
set_option linter.all false
namespace Go.Proofs.Ytciighngjnjmlaa.W
open Go.Fw
set_option maxRecDepth 100000
noncomputable section
theorem ev9 (n : Nat) : ev (sysH (n + 8)) 60 9 [] [] = some (.k (.bool true), []) := by kernel_rfl
def F9 : List AV → List AObj → Ab Res := fun args st => match args, st with
  | [], [] => some (true, (.k (.bool true), []))
  | _, _ => none
def sysI (n : Nat) : FSys := (sysH (n + 8)).tell 9 F9
theorem sysIOk (n : Nat) : SysOk Try.prog (sysI n) := (sysHOk (n + 8)).tell 9 F9 fun args st r h => by
  unfold F9 at h
  split at h
  · simp only [Option.some.injEq, Prod.mk.injEq] at h
    obtain ⟨_, rfl⟩ := h
    exact ⟨_, ev9 n⟩
  · cases h
end
end Go.Proofs.Ytciighngjnjmlaa.W
