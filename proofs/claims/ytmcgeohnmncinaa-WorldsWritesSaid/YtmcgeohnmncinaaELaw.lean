/- A part of the proofs over the laws of layer 8 (worlds): what its functions come to. No conditions. -/
import Derived.Test.YtmcgeohnmncinaaE16
set_option linter.all false
namespace Go.Proofs.Ytmcgeohnmncinaa.W
open Go.Fw
set_option maxRecDepth 100000
theorem zeroW_ok : zeroW.Ok := ⟨.inr ⟨rfl, rfl⟩, Nat.zero_le _, rfl, rfl, fun r h => by cases h⟩
theorem eqRow_self (r : List AV) : eqRow r r = true := by
  unfold eqRow
  rw [ba_beq, ba_beq]; simp
theorem eqRows_self : ∀ r : List (List AV), eqRows r r = true
  | [] => rfl
  | r :: rs => by rw [eqRows, eqRow_self, eqRows_self rs]; rfl
theorem eqF_self (r : List (List AV)) : eqF r r = true := by
  unfold eqF
  rw [len_ne, eqRows_self]; simp
theorem same_self (w : Wd) : same w w = true := by
  unfold same
  rw [ba_beq, ba_beq, eqF_self]; simp
theorem same_copied (w : Wd) : same w (copied w) = true := same_self w

/-! ### WorldsWrites -/
theorem wrt_ok {w : Wd} {t : ByteArray} (hw : w.Ok) : (wrt w t).1.Ok := by
  unfold wrt
  cases chk w != 0 with
  | true => exact zeroW_ok
  | false => cases isText t with
    | false => exact zeroW_ok
    | true =>
      by_cases h : w.out.size + t.size > 1048576
      · have : decide (w.out.size + t.size > 1048576) = true := by simpa using h
        rw [this]; exact zeroW_ok
      · have : decide (w.out.size + t.size > 1048576) = false := by simpa using h
        rw [this]
        refine ⟨hw.kd, hw.len, hw.inp, ?_, hw.rows⟩
        simp only [cond_false, textC, decide_eq_true_eq, ByteArray.size_append, Bool.not_true]
        unfold reachBytes; omega
theorem law4 (w : Wd) (t : ByteArray) (k : Nat) : ev sys27 (k + 1) 4 [w.av, .k (.string t)] [] =
  bif w.okB (w.kd.tag 42) then (bif large w then boolR true else bif decide ((t.size : Int) > 2097152) then boolR true else bif w.okB (w.kd.tag 42) && textC t then (bif w.okB (w.kd.tag 42) && textC t then
    (bif (wrt w t).2 == (wrt w t).2 then (bif (wrt w t).1.okB ((wrt w t).1.kd.tag 42) && (wrt w t).1.okB ((wrt w t).1.kd.tag 42) then (bif same (wrt w t).1 (wrt w t).1 then boolR true else boolR false) else none) else boolR false) else none) else none) else none := by kernel_rfl
theorem law4_true (w : Wd) (t : ByteArray) (hw : w.Ok) (ht : textC t = true) : ev sys27 (0 + 1) 4 [w.av, .k (.string t)] [] = boolR true := by
  rw [law4, hw.okB, ht, (wrt_ok hw).okB, same_self]
  simp only [cond_true, Bool.and_self, beq_self_eq_true]
  cases large w <;> cases decide ((t.size : Int) > 2097152) <;> rfl

/-! ### WorldsCheck -/
theorem copied_ok {w : Wd} (hw : w.Ok) : (copied w).Ok := ⟨.inl rfl, hw.len, hw.inp, hw.out, hw.rows⟩
theorem law5 (v w : Wd) (k : Nat) : ev sys27 (k + 1) 5 [v.av, w.av] [] =
  bif v.okB (v.kd.tag 42) then (bif large v then boolR true else bif w.okB (w.kd.tag 42) then (bif large w then boolR true else bif v.okB (v.kd.tag 42) then (bif v.okB (v.kd.tag 42) then (bif chk v == chk v then
   (bif v.okB (v.kd.tag 42) && w.okB (w.kd.tag 42) then (bif v.okB (v.kd.tag 42) && w.okB (w.kd.tag 42) then (bif same v w == same v w then (bif v.okB (v.kd.tag 42) then (bif v.okB (v.kd.tag 42) && (copied v).okB 42 then (bif same v (copied v) then boolR true else boolR false) else none) else none) else boolR false) else none) else none) else boolR false) else none) else none) else none) else none := by kernel_rfl
theorem law5_true (v w : Wd) (hv : v.Ok) (hw : w.Ok) : ev sys27 (0 + 1) 5 [v.av, w.av] [] = boolR true := by
  have hc : (copied v).okB 42 = true := (copied_ok hv).okB
  rw [law5, hv.okB, hw.okB, hc, same_copied]
  simp only [cond_true, Bool.and_self, beq_self_eq_true]
  cases large v <;> cases large w <;> rfl

/-! ### WorldsReads -/
theorem chr_ok {w : Wd} (hw : w.Ok) : (chr w).2.2.Ok := by
  unfold chr
  cases chk w != 0 with
  | true => exact zeroW_ok
  | false => cases w.at_ == (w.inp.size : Int) with
    | true => exact hw
    | false => exact ⟨hw.kd, hw.len, hw.inp, hw.out, hw.rows⟩
theorem line_ok {w : Wd} (hw : w.Ok) : (line w).2.2.Ok := by
  unfold line
  cases chk w != 0 with
  | true => exact zeroW_ok
  | false => cases w.at_ == (w.inp.size : Int) with
    | true => exact hw
    | false => exact ⟨hw.kd, hw.len, hw.inp, hw.out, hw.rows⟩
theorem peek_chr (w : Wd) : peek w = ((chr w).1, (chr w).2.1) := by
  unfold peek chr
  cases chk w != 0 <;> cases w.at_ == (w.inp.size : Int) <;> rfl
theorem law6 (w : Wd) (k : Nat) : ev sys27 (k + 1) 6 [w.av] [] =
  bif w.okB (w.kd.tag 42) then (bif large w then boolR true else bif w.okB (w.kd.tag 42) then (bif w.okB (w.kd.tag 42) then (bif w.okB (w.kd.tag 42) then (bif w.okB (w.kd.tag 42) then (bif w.okB (w.kd.tag 42) then
    (bif (chr w).1 == (chr w).1 then (bif (chr w).2.1 == (chr w).2.1 then (bif (chr w).2.2.okB ((chr w).2.2.kd.tag 42) && (chr w).2.2.okB ((chr w).2.2.kd.tag 42) then (bif same (chr w).2.2 (chr w).2.2 then
     (bif (peek w).1 == (chr w).1 then (bif (peek w).2 == (chr w).2.1 then (bif (line w).1 == (line w).1 then (bif (line w).2.1 == (line w).2.1 then
      (bif (line w).2.2.okB ((line w).2.2.kd.tag 42) && (line w).2.2.okB ((line w).2.2.kd.tag 42) then (bif same (line w).2.2 (line w).2.2 then boolR true else boolR false) else none) else boolR false) else boolR false) else boolR false) else boolR false) else boolR false) else none) else boolR false) else boolR false) else none) else none) else none) else none) else none) else none := by kernel_rfl
theorem law6_true (w : Wd) (hw : w.Ok) : ev sys27 (0 + 1) 6 [w.av] [] = boolR true := by
  rw [law6, hw.okB, (chr_ok hw).okB, (line_ok hw).okB, same_self, same_self, peek_chr, ba_beq]
  simp only [cond_true, Bool.and_self, beq_self_eq_true, decide_true]
  cases large w <;> rfl
end Go.Proofs.Ytmcgeohnmncinaa.W
