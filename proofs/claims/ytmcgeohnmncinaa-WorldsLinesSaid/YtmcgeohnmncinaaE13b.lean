/- A part of the proofs over the laws of layer 8 (worlds): what its functions come to. No conditions. -/
import Derived.Test.YtmcgeohnmncinaaE13
set_option linter.all false
namespace Go.Proofs.Ytmcgeohnmncinaa.W
open Go.Fw
set_option maxRecDepth 100000
theorem rest_list (s : ByteArray) (a : Nat) : (s.extract a s.size).data.toList = s.data.toList.drop a := by
  rw [ByteArray.data_extract, Array.toList_extract]
  have h : s.data.toList.length = s.size := by simp
  rw [List.extract_eq_take_drop, List.take_of_length_le]
  rw [List.length_drop]; omega
theorem rest_size (s : ByteArray) (a : Nat) : (s.extract a s.size).size = s.size - a := by
  rw [ByteArray.size_extract]; omega
theorem extract_extract (s : ByteArray) (a e : Nat) (h : a + e ≤ s.size) : (s.extract a s.size).extract 0 e = s.extract a (a + e) := by
  apply ByteArray.ext
  rw [ByteArray.data_extract, ByteArray.data_extract, ByteArray.data_extract, Array.extract_extract]
  congr 1
  omega
theorem endL_le (w : Wd) (h : w.at_ ≤ (w.inp.size : Int)) : endL w ≤ w.inp.size := by
  have := stopN_le (w.inp.data.toList.drop w.at_.toNat)
  have hl : w.inp.data.toList.length = w.inp.size := by simp
  rw [List.length_drop] at this
  unfold endL
  omega
theorem cut_rest (w : Wd) (h : w.at_ ≤ (w.inp.size : Int)) (h0 : 0 ≤ w.at_) : cut (w.inp.extract w.at_.toNat w.inp.size) = (w.inp.extract w.at_.toNat (endL w), (cut (w.inp.extract w.at_.toNat w.inp.size)).2.1, decide (endL w < w.inp.size)) := by
  have hle := endL_le w h
  unfold cut
  rw [rest_list, rest_size]
  have hd : decide (stopN (w.inp.data.toList.drop w.at_.toNat) < w.inp.size - w.at_.toNat) = decide (endL w < w.inp.size) := by
    unfold endL; congr 1; apply propext; omega
  rw [hd]
  by_cases hc : endL w < w.inp.size
  · have : decide (endL w < w.inp.size) = true := by simpa using hc
    rw [this]
    simp only [cond_true]
    rw [extract_extract _ _ _ hle]
    rfl
  · have : decide (endL w < w.inp.size) = false := by simpa using hc
    rw [this]
    simp only [cond_false]
    have he : endL w = w.inp.size := by omega
    rw [he]
theorem evw13 (w : Wd) (hw : w.Ok) : ∃ k, ev sys14 k 13 [w.av] [] = some (lineAV w, []) := by
  refine ⟨0 + 1, ?_⟩
  have hi : w.inp.size ≤ reachBytes := of_decide_eq_true hw.inp
  rw [ev13 w hw.kd, hw.okB]
  unfold lineAV line
  simp only [cond_true]
  cases hc : chk w != 0 with
  | true => rfl
  | false =>
    obtain ⟨h0, h1⟩ := chk_at hc
    have hd : (decide (0 ≤ w.at_) && decide (w.at_ ≤ (w.inp.size : Int))) = true := by simp [h0, h1]
    have hr : (w.inp.extract w.at_.toNat w.inp.size == .empty) = (w.at_ == (w.inp.size : Int)) := by
      rw [empty_size, rest_size, Bool.eq_iff_iff, decide_eq_true_eq, beq_iff_eq]; omega
    have hn : nlC (w.inp.extract w.at_.toNat w.inp.size) nl = true := by
      simp only [nlC, textC, ba_beq, decide_true, Bool.true_and, decide_eq_true_eq, rest_size]; omega
    rw [hd, hr, hn, cut_rest w h1 h0]
    simp only [cond_true, cond_false]
    have hle := endL_le w h1
    have hsz : (w.inp.extract w.at_.toNat (endL w)).size = endL w - w.at_.toNat := by rw [ByteArray.size_extract]; omega
    have hge : w.at_.toNat ≤ endL w := by unfold endL; omega
    unfold reachBytes at hi
    have hw1 : IntKind.i64.wrap (w.at_ + ((endL w - w.at_.toNat : Nat) : Int)) = (endL w : Int) := by rw [wrap64] <;> omega
    have hw2 : IntKind.i64.wrap ((endL w : Int) + 1) = ((endL w + 1 : Nat) : Int) := by rw [wrap64] <;> omega
    rw [hsz, hw1, hw2]
    cases w.at_ == (w.inp.size : Int) with
    | true => rfl
    | false => cases decide (endL w < w.inp.size) <;> rfl
noncomputable def sys15 : FSys := sys14.tell 13 (FW lineAV)

/-! ### Line of the reference -/
def σ23 (w : Wd) (i : Nat) : St := ⟨tm 55 [(1, .ptr 0 0), (4, .ptr 1 0), (5, .k (.int .i64 w.at_))], [.box 24 [.k (.string w.inp), .k (.int .i64 ((w.at_.toNat + i : Nat) : Int)), .k (.string w.out), .sl (w.kd.tag 42) w.kd w.rows], .box 24 [.k (.string .empty), .k (.int .i64 0), .k (.string .empty), .sl 0 .nil []]], []⟩
def fin23 (inp out : ByteArray) (i j : Int) (kd : SK) (rows : List (List AV)) : Option Res :=
  bif decide (0 ≤ i) && decide (i ≤ (inp.size : Int)) && (decide (0 ≤ j) && decide (j ≤ (i.toNat : Int))) then (bif decide (i < (inp.size : Int)) then lineR (inp.extract j.toNat i.toNat) true ⟨inp, IntKind.i64.wrap (i + 1), out, kd, rows⟩ else lineR (inp.extract j.toNat i.toNat) true ⟨inp, i, out, kd, rows⟩) else none
theorem round23 (inp out : ByteArray) (i j : Int) (kd : SK) (rows : List (List AV)) (hk : kd = .wide ∨ kd = .nil ∧ rows = []) (k : Nat) (R : St → Option Res) :
  roundAt sys15 23 Try.f23 0 k [1,1,1,1,0,0] [] R ⟨tm 55 [(1, .ptr 0 0), (4, .ptr 1 0), (5, .k (.int .i64 j))], [.box 24 [.k (.string inp), .k (.int .i64 i), .k (.string out), .sl (kd.tag 42) kd rows], .box 24 [.k (.string .empty), .k (.int .i64 0), .k (.string .empty), .sl 0 .nil []]], []⟩ =
  bif decide (i < (inp.size : Int)) then (bif decide (0 ≤ i) && decide (i < (inp.size : Int)) then (bif byteAt inp i != 10 then R ⟨tm 55 [(1, .ptr 0 0), (4, .ptr 1 0), (5, .k (.int .i64 j))], [.box 24 [.k (.string inp), .k (.int .i64 (IntKind.i64.wrap (i + 1))), .k (.string out), .sl (kd.tag 42) kd rows], .box 24 [.k (.string .empty), .k (.int .i64 0), .k (.string .empty), .sl 0 .nil []]], []⟩
    else fin23 inp out i j kd rows) else none) else fin23 inp out i j kd rows := by
  rcases hk with rfl | ⟨rfl, rfl⟩
  · kernel_rfl
  · kernel_rfl
theorem start23 (w : Wd) (hw : w.kd = .wide ∨ w.kd = .nil ∧ w.rows = []) (k : Nat) : ev sys15 (k + 1) 23 [w.av] [] = bif w.okB (w.kd.tag 42) then (bif chk w != 0 then lineR .empty false zeroW else bif w.at_ == (w.inp.size : Int) then lineR .empty false w else
   loopAt sys15 23 Try.f23 0 k [1,1,1,1,0,0] [] k ⟨tm 55 [(1, .ptr 0 0), (4, .ptr 1 0), (5, .k (.int .i64 w.at_))], [.box 24 [.k (.string w.inp), .k (.int .i64 w.at_), .k (.string w.out), .sl (w.kd.tag 42) w.kd w.rows], .box 24 [.k (.string .empty), .k (.int .i64 0), .k (.string .empty), .sl 0 .nil []]], []⟩) else none := by
  obtain ⟨inp, i, out, kd, rows⟩ := w
  simp only at hw
  rcases hw with rfl | ⟨rfl, rfl⟩
  · kernel_rfl
  · kernel_rfl
end Go.Proofs.Ytmcgeohnmncinaa.W
