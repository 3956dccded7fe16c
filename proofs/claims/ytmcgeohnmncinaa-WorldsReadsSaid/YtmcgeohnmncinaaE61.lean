/- A part of the proofs over the laws of layer 8 (worlds): what its functions come to. No conditions. -/
import Derived.Test.YtmcgeohnmncinaaE30
import Derived.Laws.RangeAny
set_option linter.all false
namespace Go.Proofs.Ytmcgeohnmncinaa.W
open Go.Fw
set_option maxRecDepth 100000
def F50 : List AV → List AObj → Ab Res
  | [.k (.int .i32 c)], [] => some (true, .k (.bool (decide (c < 33) || decide (c > 126))), [])
  | _, _ => none
theorem ev50 (c : Int) (k : Nat) : ev sys0 (k + 1) 50 [.k (.int .i32 c)] [] = bif decide (c < 33) then some (.k (.bool true), []) else some (.k (.bool (decide (c > 126))), []) := by kernel_rfl
theorem told50 (args : List AV) (st : List AObj) (r : Res) (h : F50 args st = some (true, r)) : ∃ k, ev sys0 k 50 args st = some r := by
  unfold F50 at h
  split at h
  · rename_i c
    cases h
    refine ⟨1, ?_⟩
    rw [ev50]
    cases decide (c < 33) <;> rfl
  · cases h
noncomputable def sys1 : FSys := sys0.tell 50 F50

def σ61 (s : ByteArray) (i : Nat) : St := ⟨tm 21 [(1, .fn (.func 50) [] []), (2, .k (.bool true)), (10, .ptr 0 0)], [.iter s i], []⟩
theorem round61 (s : ByteArray) (k pos : Nat) (R : St → Option Res) : roundAt sys1 61 Try.f61 0 (k+1) [1,0,1,0] [] R (σ61 s pos) =
  bif decide (pos < s.size) then (bif (decide (((Utf8.decode s pos).1 : Int) < 33) || decide (((Utf8.decode s pos).1 : Int) > 126)) == true then some (.k (.int .i64 (pos : Int)), []) else R (σ61 s (pos + (Utf8.decode s pos).2))) else some (.k (.int .i64 (-1)), []) := by kernel_rfl
theorem start61 (s : ByteArray) (k : Nat) : ev sys1 (k + 2) 61 [.k (.string s), .fn (.func 50) [] [], .k (.bool true)] [] = loopAt sys1 61 Try.f61 0 (k + 1) [1,0,1,0] [] (k + 1) (σ61 s 0) := by kernel_rfl
def okName (b : UInt8) : Bool := decide (33 ≤ b.toNat) && decide (b.toNat ≤ 126)
def firstBad : List UInt8 → Nat → Int
  | [], _ => -1
  | b :: l, i => bif okName b then firstBad l (i + 1) else i
theorem ev61 (s : ByteArray) (k : Nat) (hk : s.size < k + 1) : ev sys1 (k + 2) 61 [.k (.string s), .fn (.func 50) [] [], .k (.bool true)] [] = some (.k (.int .i64 (firstBad s.data.toList 0)), []) := by
  have hl : s.data.toList.length = s.size := by simp
  rw [start61]
  exact loop_up (S := sys1) (f := 61) (fn := Try.f61) (m := 0) (k := k + 1) (p := [1,0,1,0]) (ms := []) (σ61 s) s.data.toList.length (fun i => some (.k (.int .i64 (firstBad (s.data.toList.drop i) i)), []))
    (fun i hi R hR => by
      have hi' : i < s.size := hl ▸ hi
      rw [round61, List.drop_eq_getElem_cons hi]
      have h1 : decide (i < s.size) = true := by simpa using hi'
      have hb : s.data.toList[i] = s[i] := rfl
      rw [h1, hb]
      simp only [cond_true, firstBad]
      by_cases ha : (s[i]).toNat < 128
      · rw [decode_ascii s i hi' ha, hR]
        generalize s[i] = b
        have c1 : decide (((b.toNat : Nat) : Int) < 33) = !decide (33 ≤ b.toNat) := by rw [Bool.eq_iff_iff]; simp; omega
        have c2 : decide (((b.toNat : Nat) : Int) > 126) = !decide (b.toNat ≤ 126) := by rw [Bool.eq_iff_iff]; simp; omega
        simp only
        rw [c1, c2]
        unfold okName
        cases decide (33 ≤ b.toNat) <;> cases decide (b.toNat ≤ 126) <;> rfl
      · have h2 := (decode_high s i hi' (by omega)).1
        have h3 : decide (((Utf8.decode s i).1 : Int) > 126) = true := by simp; omega
        have h4 : okName s[i] = false := by unfold okName; simp; omega
        rw [h3, h4]
        simp)
    (fun R => by
      rw [round61, hl, List.drop_of_length_le (by omega)]
      simp [firstBad])
    (k + 1) 0 (Nat.zero_le _) (by omega)
end Go.Proofs.Ytmcgeohnmncinaa.W
