/- A part of the proofs over the laws of layer 8 (worlds): what its functions come to. No conditions. -/
import Derived.Test.YtmcgeohnmncinaaE13b
set_option linter.all false
namespace Go.Proofs.Ytmcgeohnmncinaa.W
open Go.Fw
set_option maxRecDepth 100000
theorem fin23_eq (w : Wd) (hi : w.inp.size ≤ reachBytes) (h0 : 0 ≤ w.at_) (h1 : w.at_ ≤ (w.inp.size : Int)) :
    fin23 w.inp w.out ((endL w : Nat) : Int) w.at_ w.kd w.rows = lineR (w.inp.extract w.at_.toNat (endL w)) true { w with at_ := bif decide (endL w < w.inp.size) then ((endL w + 1 : Nat) : Int) else (endL w : Int) } := by
  have hle := endL_le w h1
  unfold fin23
  have g1 : decide (((endL w : Nat) : Int) ≤ (w.inp.size : Int)) = true := by rw [decide_eq_true_eq]; omega
  have g2 : decide (w.at_ ≤ ((endL w : Nat) : Int)) = true := by rw [decide_eq_true_eq]; unfold endL; omega
  have g3 : decide (0 ≤ w.at_) = true := by rw [decide_eq_true_eq]; exact h0
  have g4 : decide (((endL w : Nat) : Int) < (w.inp.size : Int)) = decide (endL w < w.inp.size) := by congr 1; apply propext; omega
  have hw2 : IntKind.i64.wrap ((endL w : Int) + 1) = ((endL w + 1 : Nat) : Int) := by unfold reachBytes at hi; rw [wrap64] <;> omega
  rw [Int.toNat_natCast, leN, g1, g2, g3, g4, hw2]
  cases decide (endL w < w.inp.size) <;> simp
theorem loop23 (w : Wd) (hw : w.kd = .wide ∨ w.kd = .nil ∧ w.rows = []) (hi : w.inp.size ≤ reachBytes) (h1 : w.at_ ≤ (w.inp.size : Int)) (k : Nat) (hk : stopN (w.inp.data.toList.drop w.at_.toNat) < k) :
    loopAt sys15 23 Try.f23 0 k [1,1,1,1,0,0] [] k (σ23 w 0) = fin23 w.inp w.out ((endL w : Nat) : Int) w.at_ w.kd w.rows := by
  have hl : w.inp.data.toList.length = w.inp.size := by simp
  have hle := endL_le w h1
  refine loop_up (σ23 w) (stopN (w.inp.data.toList.drop w.at_.toNat)) (fun _ => fin23 w.inp w.out ((endL w : Nat) : Int) w.at_ w.kd w.rows) ?_ ?_ k 0 (Nat.zero_le _) (by omega)
  · intro i hi' R hR
    have hlt : w.at_.toNat + i < w.inp.size := by unfold endL at hle; omega
    have hn := stopN_before (w.inp.data.toList.drop w.at_.toNat) i (by rw [List.length_drop]; omega) hi'
    unfold σ23 at hR ⊢
    rw [round23 _ _ _ _ _ _ hw, ltN hlt, leN, byteAt_nat _ _ (by omega)]
    rw [List.getElem_drop] at hn
    have hb : (((w.inp.data.toList[w.at_.toNat + i]'(by omega)).toNat : Int) != 10) = true := by
      generalize w.inp.data.toList[w.at_.toNat + i]'(by omega) = b at hn
      simp only [bne_iff_ne, ne_eq]
      intro h
      have h10 : b.toNat = (10 : UInt8).toNat := by
        have : (10 : UInt8).toNat = 10 := by decide
        omega
      rw [UInt8.toNat_inj.1 h10] at hn
      cases hn
    rw [hb, wrapS hlt hi]
    rw [← Nat.add_assoc] at hR
    simp only [cond_true, Bool.and_self]
    exact hR
  · intro R
    unfold σ23
    rw [round23 _ _ _ _ _ _ hw]
    have he : w.at_.toNat + stopN (w.inp.data.toList.drop w.at_.toNat) = endL w := by unfold endL; exact Eq.refl _
    rw [he]
    by_cases hlt : endL w < w.inp.size
    · have hs : stopN (w.inp.data.toList.drop w.at_.toNat) < (w.inp.data.toList.drop w.at_.toNat).length := by rw [List.length_drop]; unfold endL at hlt; omega
      have hn := stopN_at _ hs
      rw [List.getElem_drop] at hn
      have hb : (byteAt w.inp (endL w : Int) != 10) = false := by
        rw [byteAt_nat _ _ (by omega)]
        have h10 : w.inp.data.toList[endL w]'(by omega) = 10 := by simpa [endL] using hn
        rw [h10]
        decide
      rw [ltN hlt, leN, hb]
      simp only [cond_true, cond_false, Bool.and_self]
    · have hf : decide (((endL w : Nat) : Int) < (w.inp.size : Int)) = false := by rw [decide_eq_false_iff_not]; omega
      rw [hf]
      simp only [cond_false]
theorem pick23 (w : Wd) (hw : w.Ok) (L : Option Res) (hL : (chk w != 0) = false → (w.at_ == (w.inp.size : Int)) = false → L = lineR (w.inp.extract w.at_.toNat (endL w)) true { w with at_ := bif decide (endL w < w.inp.size) then ((endL w + 1 : Nat) : Int) else (endL w : Int) }) :
    (bif w.okB (w.kd.tag 42) then (bif chk w != 0 then lineR .empty false zeroW else bif w.at_ == (w.inp.size : Int) then lineR .empty false w else L) else none) = some (lineAV w, []) := by
  rw [hw.okB]
  unfold lineAV line
  cases hc : chk w != 0 with
  | true => rfl
  | false => cases hz : w.at_ == (w.inp.size : Int) with
    | true => rfl
    | false => rw [hL hc hz]; rfl
theorem evw23 (w : Wd) (hw : w.Ok) : ∃ k, ev sys15 k 23 [w.av] [] = some (lineAV w, []) := by
  have hi : w.inp.size ≤ reachBytes := of_decide_eq_true hw.inp
  refine ⟨stopN (w.inp.data.toList.drop w.at_.toNat) + 1 + 1, (start23 w hw.kd _).trans (pick23 w hw _ ?_)⟩
  intro hc hz
  obtain ⟨h0, h1⟩ := chk_at hc
  have e0 : ((w.at_.toNat + 0 : Nat) : Int) = w.at_ := by omega
  have hl := loop23 w hw.kd hi h1 (stopN (w.inp.data.toList.drop w.at_.toNat) + 1) (by omega)
  unfold σ23 at hl
  rw [e0] at hl
  exact hl.trans (fin23_eq w hi h0 h1)
noncomputable def sys16 : FSys := sys15.tell 23 (FW lineAV)

/-! ### Peek, Char -/
def peek (w : Wd) : Int × Bool := bif chk w != 0 then (0, false) else bif w.at_ == (w.inp.size : Int) then (0, false) else (byteAt w.inp w.at_, true)
def peekAV (w : Wd) : AV := .tup [.k (.int .i64 (peek w).1), .k (.bool (peek w).2)]
def chr (w : Wd) : Int × Bool × Wd := bif chk w != 0 then (0, false, zeroW) else bif w.at_ == (w.inp.size : Int) then (0, false, w) else (byteAt w.inp w.at_, true, { w with at_ := w.at_ + 1 })
def chrAV (w : Wd) : AV := .tup [.k (.int .i64 (chr w).1), .k (.bool (chr w).2.1), (chr w).2.2.av]
def peekR (n : Int) (b : Bool) : Option Res := some (.tup [.k (.int .i64 n), .k (.bool b)], [])
def chrR (n : Int) (b : Bool) (w : Wd) : Option Res := some (.tup [.k (.int .i64 n), .k (.bool b), w.av], [])
theorem byte_small (s : ByteArray) (n : Int) : IntKind.i64.wrap (byteAt s n) = byteAt s n := by
  have : (s.data.toList.getD n.toNat 0).toNat < 256 := UInt8.toNat_lt _
  rw [wrap64] <;> unfold byteAt <;> omega
theorem ev22 (w : Wd) (hw : w.kd = .wide ∨ w.kd = .nil ∧ w.rows = []) (k : Nat) : ev sys16 (k + 1) 22 [w.av] [] =
  bif w.okB (w.kd.tag 42) then (bif chk w != 0 then peekR 0 false else bif w.at_ == (w.inp.size : Int) then peekR 0 false else bif decide (0 ≤ w.at_) && decide (w.at_ < (w.inp.size : Int)) then peekR (IntKind.i64.wrap (byteAt w.inp w.at_)) true else none) else none := by
  obtain ⟨inp, i, out, kd, rows⟩ := w
  simp only at hw
  rcases hw with rfl | ⟨rfl, rfl⟩
  · kernel_rfl
  · kernel_rfl
theorem in_range {w : Wd} (hc : (chk w != 0) = false) (hz : (w.at_ == (w.inp.size : Int)) = false) : (decide (0 ≤ w.at_) && decide (w.at_ < (w.inp.size : Int))) = true := by
  obtain ⟨h0, h1⟩ := chk_at hc
  have hz' : w.at_ ≠ (w.inp.size : Int) := by simpa using hz
  simp only [Bool.and_eq_true, decide_eq_true_eq]; omega
theorem evw22 (w : Wd) (hw : w.Ok) : ∃ k, ev sys16 k 22 [w.av] [] = some (peekAV w, []) := by
  refine ⟨0 + 1, ?_⟩
  rw [ev22 w hw.kd, hw.okB]
  unfold peekAV peek
  cases hc : chk w != 0 with
  | true => rfl
  | false => cases hz : w.at_ == (w.inp.size : Int) with
    | true => rfl
    | false => rw [in_range hc hz, byte_small]; rfl
noncomputable def sys17 : FSys := sys16.tell 22 (FW peekAV)
theorem ev20 (w : Wd) (hw : w.kd = .wide ∨ w.kd = .nil ∧ w.rows = []) (k : Nat) : ev sys17 (k + 1) 20 [w.av] [] =
  bif w.okB (w.kd.tag 42) then (bif chk w != 0 then chrR 0 false zeroW else bif w.okB (w.kd.tag 42) then (bif w.okB (w.kd.tag 42) then (bif (peek w).2 then chrR (peek w).1 (peek w).2 { w with at_ := IntKind.i64.wrap (w.at_ + 1) } else chrR (peek w).1 (peek w).2 w) else none) else none) else none := by
  obtain ⟨inp, i, out, kd, rows⟩ := w
  simp only at hw
  rcases hw with rfl | ⟨rfl, rfl⟩
  · kernel_rfl
  · kernel_rfl
theorem at_wrap {w : Wd} (hw : w.Ok) (hc : (chk w != 0) = false) : IntKind.i64.wrap (w.at_ + 1) = w.at_ + 1 := by
  obtain ⟨h0, h1⟩ := chk_at hc
  have hi : w.inp.size ≤ reachBytes := of_decide_eq_true hw.inp
  unfold reachBytes at hi
  rw [wrap64] <;> omega
theorem evw20 (w : Wd) (hw : w.Ok) : ∃ k, ev sys17 k 20 [w.av] [] = some (chrAV w, []) := by
  refine ⟨0 + 1, ?_⟩
  rw [ev20 w hw.kd, hw.okB]
  unfold chrAV chr peek
  cases hc : chk w != 0 with
  | true => rfl
  | false => cases hz : w.at_ == (w.inp.size : Int) with
    | true => rfl
    | false => rw [at_wrap hw hc]; rfl
noncomputable def sys18 : FSys := sys17.tell 20 (FW chrAV)
theorem ev21 (w : Wd) (hw : w.kd = .wide ∨ w.kd = .nil ∧ w.rows = []) (k : Nat) : ev sys18 (k + 1) 21 [w.av] [] =
  bif w.okB (w.kd.tag 42) then (bif chk w != 0 then chrR 0 false zeroW else bif w.at_ == (w.inp.size : Int) then chrR 0 false w else bif decide (0 ≤ w.at_) && decide (w.at_ < (w.inp.size : Int)) then chrR (IntKind.i64.wrap (byteAt w.inp w.at_)) true { w with at_ := IntKind.i64.wrap (w.at_ + 1) } else none) else none := by
  obtain ⟨inp, i, out, kd, rows⟩ := w
  simp only at hw
  rcases hw with rfl | ⟨rfl, rfl⟩
  · kernel_rfl
  · kernel_rfl
theorem evw21 (w : Wd) (hw : w.Ok) : ∃ k, ev sys18 k 21 [w.av] [] = some (chrAV w, []) := by
  refine ⟨0 + 1, ?_⟩
  rw [ev21 w hw.kd, hw.okB]
  unfold chrAV chr
  cases hc : chk w != 0 with
  | true => rfl
  | false => cases hz : w.at_ == (w.inp.size : Int) with
    | true => rfl
    | false => rw [in_range hc hz, at_wrap hw hc, byte_small]; rfl
noncomputable def sys19 : FSys := sys18.tell 21 (FW chrAV)
end Go.Proofs.Ytmcgeohnmncinaa.W
