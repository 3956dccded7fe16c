/- A part of the proofs over the laws of layer 8 (worlds): what its functions come to. No conditions. -/
import Derived.Test.YtmcgeohnmncinaaE17
set_option linter.all false
namespace Go.Proofs.Ytmcgeohnmncinaa.W
open Go.Fw
set_option maxRecDepth 100000

/-! ### Lines -/
def nl : ByteArray := ⟨#[10]⟩
def stopN : List UInt8 → Nat
  | [] => 0
  | b :: l => bif b == 10 then 0 else stopN l + 1
theorem stopN_le : ∀ l : List UInt8, stopN l ≤ l.length
  | [] => Nat.le_refl _
  | b :: l => by
    have := stopN_le l
    cases h : b == 10 <;> simp [stopN, h] <;> omega
theorem stopN_before : ∀ (l : List UInt8) (j : Nat) (hj : j < l.length), j < stopN l → (l[j] == 10) = false
  | b :: l, j, hj, h => by
    cases hb : b == 10 with
    | true => simp [stopN, hb] at h
    | false =>
      simp only [stopN, hb, cond_false] at h
      cases j with
      | zero => exact hb
      | succ j => exact stopN_before l j (by simpa using hj) (by omega)
theorem stopN_at : ∀ (l : List UInt8) (h : stopN l < l.length), (l[stopN l] == 10) = true
  | b :: l, h => by
    cases hb : b == 10 with
    | true => simpa [stopN, hb] using hb
    | false =>
      have h' : stopN l < l.length := by simpa [stopN, hb] using h
      have := stopN_at l h'
      simpa [stopN, hb] using this
theorem bytes_at (s : ByteArray) (i : Nat) (h : i < s.size) : s[i]! = s.data.toList[i]'(by simpa using h) := by
  rw [getElem!_pos s i h]; rfl
theorem firstIdx_nl (s : ByteArray) : firstIdx s 10 = bif decide (stopN s.data.toList < s.size) then (stopN s.data.toList : Int) else -1 := by
  have hl : s.data.toList.length = s.size := by simp
  unfold firstIdx
  by_cases h : stopN s.data.toList < s.size
  · have : (List.range s.size).find? (fun i => s[i]! == 10) = some (stopN s.data.toList) := by
      rw [List.find?_range_eq_some]
      refine ⟨?_, by simpa using h, fun j hj => ?_⟩
      · rw [bytes_at s _ h]
        exact stopN_at _ (by rw [hl]; exact h)
      · rw [bytes_at s j (by omega), stopN_before _ j (by rw [hl]; omega) hj]
        rfl
    rw [this]
    simp [h]
  · have : (List.range s.size).find? (fun i => s[i]! == 10) = none := by
      rw [List.find?_range_eq_none]
      intro j hj
      rw [bytes_at s j hj, stopN_before _ j (by rw [hl]; omega) (by omega)]
      rfl
    rw [this]
    simp [h]
theorem ev51 (s : ByteArray) (k : Nat) : ev sys11 (k + 3) 51 [.k (.string s), .k (.string nl)] [] = bif nl == s then some (.k (.int .i64 0), []) else some (.k (.int .i64 (firstIdx s 10)), []) := by kernel_rfl
def FN (C : ByteArray → ByteArray → Bool) (F : ByteArray → AV) : List AV → List AObj → Ab Res
  | [.k (.string a), .k (.string b)], [] => some (C a b, F a, [])
  | _, _ => none
def nlC (a b : ByteArray) : Bool := b == nl && textC a
theorem toldN {S : FSys} {f : FuncId} {F : ByteArray → AV} (hF : ∀ s, textC s = true → ∃ k, ev S k f [.k (.string s), .k (.string nl)] [] = some (F s, [])) (args : List AV) (st : List AObj) (r : Res) (h : FN nlC F args st = some (true, r)) : ∃ k, ev S k f args st = some r := by
  unfold FN at h
  split at h
  · rename_i a b
    simp only [Option.some.injEq, Prod.mk.injEq, nlC, Bool.and_eq_true, ba_beq, decide_eq_true_eq] at h
    obtain ⟨⟨rfl, h1⟩, rfl⟩ := h
    exact hF a h1
  · cases h
theorem evn51 (s : ByteArray) (_ : textC s = true) : ∃ k, ev sys11 k 51 [.k (.string s), .k (.string nl)] [] = some (.k (.int .i64 (firstIdx s 10)), []) := by
  refine ⟨0 + 3, ?_⟩
  rw [ev51]
  cases h : nl == s with
  | false => rfl
  | true =>
    rw [ba_beq, decide_eq_true_eq] at h
    subst h
    have h0 : firstIdx nl 10 = 0 := by decide +kernel
    rw [h0]; rfl
noncomputable def sys12 : FSys := sys11.tell 51 (FN nlC fun s => .k (.int .i64 (firstIdx s 10)))
def cut (s : ByteArray) : ByteArray × ByteArray × Bool :=
  bif decide (stopN s.data.toList < s.size) then (s.extract 0 (stopN s.data.toList), s.extract (stopN s.data.toList + 1) s.size, true) else (s, .empty, false)
def cutAV (s : ByteArray) : AV := .tup [.k (.string (cut s).1), .k (.string (cut s).2.1), .k (.bool (cut s).2.2)]
theorem ev43 (s : ByteArray) (k : Nat) : ev sys12 (k + 1) 43 [.k (.string s), .k (.string nl)] [] =
  bif nlC s nl then (bif decide (firstIdx s 10 ≥ 0) then (bif decide (0 ≤ firstIdx s 10) && decide (firstIdx s 10 ≤ (s.size : Int)) && true then
    (bif decide (0 ≤ IntKind.i64.wrap (firstIdx s 10 + 1)) && decide (IntKind.i64.wrap (firstIdx s 10 + 1) ≤ (s.size : Int)) then some (.tup [.k (.string (s.extract 0 (firstIdx s 10).toNat)), .k (.string (s.extract (IntKind.i64.wrap (firstIdx s 10 + 1)).toNat s.size)), .k (.bool true)], []) else none) else none)
    else some (.tup [.k (.string s), .k (.string .empty), .k (.bool false)], [])) else none := by kernel_rfl
theorem evn43 (s : ByteArray) (hs : textC s = true) : ∃ k, ev sys12 k 43 [.k (.string s), .k (.string nl)] [] = some (cutAV s, []) := by
  refine ⟨0 + 1, ?_⟩
  have hc : nlC s nl = true := by simp [nlC, hs, ba_beq]
  have hs : s.size ≤ reachBytes := of_decide_eq_true hs
  rw [ev43, hc, firstIdx_nl]
  unfold cutAV cut
  by_cases h : stopN s.data.toList < s.size
  · have hw : IntKind.i64.wrap ((stopN s.data.toList : Int) + 1) = ((stopN s.data.toList + 1 : Nat) : Int) := wrapS h hs
    have h1 : decide (((stopN s.data.toList : Nat) : Int) ≥ 0) = true := by simp
    have h2 : decide (((stopN s.data.toList : Nat) : Int) ≤ (s.size : Int)) = true := by simp; omega
    have h3 : decide (((stopN s.data.toList + 1 : Nat) : Int) ≤ (s.size : Int)) = true := by rw [decide_eq_true_eq]; omega
    have hd : decide (stopN s.data.toList < s.size) = true := by simpa using h
    rw [hd]
    simp only [cond_true]
    simp only [hw, h1, leN, h2, h3, cond_true, Bool.and_self]
    rfl
  · have hd : decide (stopN s.data.toList < s.size) = false := by simpa using h
    rw [hd]
    rfl
noncomputable def sys13 : FSys := sys12.tell 43 (FN nlC cutAV)
theorem ev33 (s : ByteArray) (k : Nat) : ev sys13 (k + 1) 33 [.k (.string s), .k (.string nl)] [] = bif nlC s nl then some (cutAV s, []) else none := by kernel_rfl
theorem evn33 (s : ByteArray) (hs : textC s = true) : ∃ k, ev sys13 k 33 [.k (.string s), .k (.string nl)] [] = some (cutAV s, []) := by
  refine ⟨0 + 1, ?_⟩
  have hc : nlC s nl = true := by simp [nlC, hs, ba_beq]
  rw [ev33, hc]; rfl
noncomputable def sys14 : FSys := sys13.tell 33 (FN nlC cutAV)

/-! ### Line -/
def zeroW : Wd := ⟨.empty, 0, .empty, .nil, []⟩
/-- the end of the line at a place -/
def endL (w : Wd) : Nat := w.at_.toNat + stopN (w.inp.data.toList.drop w.at_.toNat)
def line (w : Wd) : ByteArray × Bool × Wd :=
  bif chk w != 0 then (.empty, false, zeroW) else bif w.at_ == (w.inp.size : Int) then (.empty, false, w) else
  (w.inp.extract w.at_.toNat (endL w), true, { w with at_ := bif decide (endL w < w.inp.size) then ((endL w + 1 : Nat) : Int) else (endL w : Int) })
def lineAV (w : Wd) : AV := .tup [.k (.string (line w).1), .k (.bool (line w).2.1), (line w).2.2.av]
theorem chk_at {w : Wd} (h : (chk w != 0) = false) : 0 ≤ w.at_ ∧ w.at_ ≤ (w.inp.size : Int) := by
  unfold chk at h
  by_cases h1 : w.at_ < 0
  · simp [h1] at h
  · by_cases h2 : w.at_ > (w.inp.size : Int)
    · simp [h1, h2] at h
    · omega
def lineR (s : ByteArray) (ok : Bool) (w : Wd) : Option Res := some (.tup [.k (.string s), .k (.bool ok), w.av], [])
theorem ev13 (w : Wd) (hw : w.kd = .wide ∨ w.kd = .nil ∧ w.rows = []) (k : Nat) : ev sys14 (k + 1) 13 [w.av] [] =
  bif w.okB (w.kd.tag 42) then (bif chk w != 0 then lineR .empty false zeroW else bif w.okB (w.kd.tag 42) then (bif decide (0 ≤ w.at_) && decide (w.at_ ≤ (w.inp.size : Int)) then
    (bif w.inp.extract w.at_.toNat w.inp.size == .empty then lineR .empty false w else bif nlC (w.inp.extract w.at_.toNat w.inp.size) nl then
      (bif (cut (w.inp.extract w.at_.toNat w.inp.size)).2.2 then lineR (cut (w.inp.extract w.at_.toNat w.inp.size)).1 true { w with at_ := IntKind.i64.wrap (IntKind.i64.wrap (w.at_ + ((cut (w.inp.extract w.at_.toNat w.inp.size)).1.size : Int)) + 1) }
       else lineR (cut (w.inp.extract w.at_.toNat w.inp.size)).1 true { w with at_ := IntKind.i64.wrap (w.at_ + ((cut (w.inp.extract w.at_.toNat w.inp.size)).1.size : Int)) })
      else none) else none) else none) else none := by
  obtain ⟨inp, i, out, kd, rows⟩ := w
  simp only at hw
  rcases hw with rfl | ⟨rfl, rfl⟩
  · kernel_rfl
  · kernel_rfl
end Go.Proofs.Ytmcgeohnmncinaa.W
