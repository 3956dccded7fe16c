/- A part of the proofs over the laws of layer 8 (worlds): what its functions come to. No conditions. -/
import Derived.Test.YtmcgeohnmncinaaE61
set_option linter.all false
namespace Go.Proofs.Ytmcgeohnmncinaa.W
open Go.Fw
set_option maxRecDepth 100000
def F61 : List AV → List AObj → Ab Res
  | [.k (.string s), .fn (.func 50) [] [], .k (.bool true)], [] => some (true, .k (.int .i64 (firstBad s.data.toList 0)), [])
  | _, _ => none
theorem told61 (args : List AV) (st : List AObj) (r : Res) (h : F61 args st = some (true, r)) : ∃ k, ev sys1 k 61 args st = some r := by
  unfold F61 at h
  split at h
  · rename_i s
    cases h
    exact ⟨s.size + 2, ev61 s s.size (by omega)⟩
  · cases h
noncomputable def sys2 : FSys := sys1.tell 61 F61
theorem firstBad_neg : ∀ (l : List UInt8) (i : Nat), decide (firstBad l i ≥ 0) = !l.all okName
  | [], i => by simp [firstBad]
  | b :: l, i => by
    simp only [firstBad, List.all_cons]
    by_cases hb : okName b = true
    · have := firstBad_neg l (i + 1)
      simp_all
    · simp [hb]
theorem ev49 (s : ByteArray) (k : Nat) : ev sys2 (k + 3) 49 [.k (.string s), .fn (.func 50) [] []] [] = some (.k (.bool (decide (firstBad s.data.toList 0 ≥ 0))), []) := by kernel_rfl
def F49 : List AV → List AObj → Ab Res
  | [.k (.string s), .fn (.func 50) [] []], [] => some (true, .k (.bool (!s.data.toList.all okName)), [])
  | _, _ => none
theorem told49 (args : List AV) (st : List AObj) (r : Res) (h : F49 args st = some (true, r)) : ∃ k, ev sys2 k 49 args st = some r := by
  unfold F49 at h
  split at h
  · rename_i s
    cases h
    exact ⟨0 + 3, by rw [ev49, firstBad_neg]⟩
  · cases h
noncomputable def sys3 : FSys := sys2.tell 49 F49
def isName (s : ByteArray) : Bool := !(s == ByteArray.empty) && (decide (s.size ≤ 40) && s.data.toList.all okName)
theorem ev41 (s : ByteArray) (k : Nat) : ev sys3 (k + 2) 41 [.k (.string s)] [] = bif s == ByteArray.empty then some (.k (.bool false), []) else (bif decide ((s.size : Int) > 40) then some (.k (.bool false), []) else some (.k (.bool (!!s.data.toList.all okName)), [])) := by kernel_rfl
def F41 : List AV → List AObj → Ab Res
  | [.k (.string s)], [] => some (true, .k (.bool (isName s)), [])
  | _, _ => none
theorem told41 (args : List AV) (st : List AObj) (r : Res) (h : F41 args st = some (true, r)) : ∃ k, ev sys3 k 41 args st = some r := by
  unfold F41 at h
  split at h
  · rename_i s
    cases h
    refine ⟨0 + 2, ?_⟩
    rw [ev41]
    have c1 : decide ((s.size : Int) > 40) = !decide (s.size ≤ 40) := by rw [Bool.eq_iff_iff]; simp; omega
    rw [c1]
    unfold isName
    cases s == ByteArray.empty <;> cases decide (s.size ≤ 40) <;> cases s.data.toList.all okName <;> rfl
  · cases h
noncomputable def sys4 : FSys := sys3.tell 41 F41
end Go.Proofs.Ytmcgeohnmncinaa.W
