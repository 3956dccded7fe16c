/- A part of the proofs over the laws of layer 8 (worlds): what its functions come to. No conditions. -/
import Derived.Test.YtmcgeohnmncinaaE23
set_option linter.all false
namespace Go.Proofs.Ytmcgeohnmncinaa.W
open Go.Fw
set_option maxRecDepth 100000
/-! ### Write -/
def wrt (w : Wd) (t : ByteArray) : Wd × Int :=
  bif chk w != 0 then (zeroW, chk w) else bif !isText t then (zeroW, 2) else bif decide (w.out.size + t.size > 1048576) then (zeroW, 6) else ({ w with out := w.out ++ t }, 0)
def wrtAV (w : Wd) (t : ByteArray) : AV := .tup [(wrt w t).1.av, .k (.int .i64 (wrt w t).2)]
def wrtR (w : Wd) (n : Int) : Option Res := some (.tup [w.av, .k (.int .i64 n)], [])
theorem ev14 (w : Wd) (hw : w.kd = .wide ∨ w.kd = .nil ∧ w.rows = []) (t : ByteArray) (k : Nat) : ev sys19 (k + 1) 14 [w.av, .k (.string t)] [] =
  bif w.okB (w.kd.tag 42) then (bif chk w != 0 then wrtR zeroW (chk w) else bif textC t then (bif !isText t then wrtR zeroW 2 else bif decide (IntKind.i64.wrap ((w.out.size : Int) + (t.size : Int)) > 1048576) then wrtR zeroW 6 else
    bif w.okB (w.kd.tag 42) then (bif Nat.ble (w.out.size + t.size) 9223372036854775807 then wrtR { w with out := w.out ++ t } 0 else none) else none) else none) else none := by
  obtain ⟨inp, i, out, kd, rows⟩ := w
  simp only at hw
  rcases hw with rfl | ⟨rfl, rfl⟩
  · kernel_rfl
  · kernel_rfl
theorem sizes {w : Wd} {t : ByteArray} (hw : w.Ok) (ht : textC t = true) : IntKind.i64.wrap ((w.out.size : Int) + (t.size : Int)) = ((w.out.size + t.size : Nat) : Int) ∧ Nat.ble (w.out.size + t.size) 9223372036854775807 = true := by
  have h1 : w.out.size ≤ reachBytes := of_decide_eq_true hw.out
  have h2 : t.size ≤ reachBytes := of_decide_eq_true ht
  unfold reachBytes at h1 h2
  refine ⟨by rw [wrap64] <;> omega, ?_⟩
  rw [Nat.ble_eq]
  omega
theorem gtC (n : Nat) : decide (((n : Nat) : Int) > 1048576) = decide (n > 1048576) := by congr 1; apply propext; omega
theorem evw14 (w : Wd) (t : ByteArray) (hw : w.Ok) (ht : textC t = true) : ∃ k, ev sys19 k 14 [w.av, .k (.string t)] [] = some (wrtAV w t, []) := by
  refine ⟨0 + 1, ?_⟩
  rw [ev14 w hw.kd, hw.okB, (sizes hw ht).1, (sizes hw ht).2, ht, gtC]
  unfold wrtAV wrt
  cases chk w != 0 <;> cases isText t <;> cases decide (w.out.size + t.size > 1048576) <;> rfl
noncomputable def sys20 : FSys := sys19.tell 14 (FWT wrtAV)
theorem ev15 (w : Wd) (hw : w.kd = .wide ∨ w.kd = .nil ∧ w.rows = []) (t : ByteArray) (k : Nat) : ev sys20 (k + 1) 15 [w.av, .k (.string t)] [] =
  bif w.okB (w.kd.tag 42) then (bif chk w != 0 then wrtR zeroW (chk w) else bif textC t then (bif !isText t then wrtR zeroW 2 else bif decide (IntKind.i64.wrap ((w.out.size : Int) + (t.size : Int)) > 1048576) then wrtR zeroW 6 else
    (bif Nat.ble (w.out.size + t.size) 9223372036854775807 then wrtR { w with out := w.out ++ t } 0 else none)) else none) else none := by
  obtain ⟨inp, i, out, kd, rows⟩ := w
  simp only at hw
  rcases hw with rfl | ⟨rfl, rfl⟩
  · kernel_rfl
  · kernel_rfl
theorem evw15 (w : Wd) (t : ByteArray) (hw : w.Ok) (ht : textC t = true) : ∃ k, ev sys20 k 15 [w.av, .k (.string t)] [] = some (wrtAV w t, []) := by
  refine ⟨0 + 1, ?_⟩
  rw [ev15 w hw.kd, hw.okB, (sizes hw ht).1, (sizes hw ht).2, ht, gtC]
  unfold wrtAV wrt
  cases chk w != 0 <;> cases isText t <;> cases decide (w.out.size + t.size > 1048576) <;> rfl
noncomputable def sys21 : FSys := sys20.tell 15 (FWT wrtAV)

/-! ### Same -/
def eqRow (r s : List AV) : Bool := nm r == nm s && (tx r == tx s && true)
def eqRows : List (List AV) → List (List AV) → Bool
  | r :: rs, s :: ss => eqRow r s && eqRows rs ss
  | _, _ => true
def eqF (a b : List (List AV)) : Bool := bif (a.length : Int) != (b.length : Int) then false else eqRows a b
def boolR (b : Bool) : Option Res := some (.k (.bool b), [])
theorem len_ne (a b : List (List AV)) : ((a.length : Int) != (b.length : Int)) = !decide (a.length = b.length) := by
  rw [Bool.eq_iff_iff]; simp; omega
def σ36 (a b : List (List AV)) (i : Nat) : St := ⟨tm 26 [(0, .sl 42 .wide a), (1, .sl 42 .wide b), (12, .k (.int .i64 (a.length : Int))), (13, .k (.int .i64 (i : Int)))], [], []⟩
theorem round36 (a b : List (List AV)) (n : Nat) (j : Int) (k : Nat) (R : St → Option Res) : roundAt sys21 36 Try.f36 0 k [1,1,0,1,0] [] R ⟨tm 26 [(0, .sl 42 .wide a), (1, .sl 42 .wide b), (12, .k (.int .i64 n)), (13, .k (.int .i64 j))], [], []⟩ =
  bif decide (j < ↑n) then (bif decide (0 ≤ j) && decide (j < ↑a.length) then (bif decide (0 ≤ j) && decide (j < ↑b.length) then (bif !eqRow (a.getD j.toNat []) (b.getD j.toNat []) then boolR false else R ⟨tm 26 [(0, .sl 42 .wide a), (1, .sl 42 .wide b), (12, .k (.int .i64 n)), (13, .k (.int .i64 (IntKind.i64.wrap (j + 1))))], [], []⟩) else none) else none) else boolR true := by kernel_rfl
theorem start36 (a b : List (List AV)) (k : Nat) : ev sys21 (k + 1) 36 [.sl 42 .wide a, .sl 42 .wide b] [] = bif (a.length : Int) != (b.length : Int) then boolR false else loopAt sys21 36 Try.f36 0 k [1,1,0,1,0] [] k (σ36 a b 0) := by kernel_rfl
theorem start36n (a : List (List AV)) (k : Nat) : ev sys21 (k + 2) 36 [.sl 0 .nil [], .sl 42 .wide a] [] = bif (0 : Int) != (a.length : Int) then boolR false else boolR true := by kernel_rfl
theorem start36m (r : List AV) (a : List (List AV)) (k : Nat) : ev sys21 (k + 2) 36 [.sl 42 .wide (r :: a), .sl 0 .nil []] [] = boolR false := by kernel_rfl
theorem start36m0 (k : Nat) : ev sys21 (k + 2) 36 [.sl 42 .wide [], .sl 0 .nil []] [] = boolR true := by kernel_rfl
theorem start36nn (k : Nat) : ev sys21 (k + 2) 36 [.sl 0 .nil [], .sl 0 .nil []] [] = boolR true := by kernel_rfl
theorem loop36 (a b : List (List AV)) (h : a.length = b.length) (hl : a.length * 32 ≤ reachBytes) (k : Nat) (hk : a.length < k) : loopAt sys21 36 Try.f36 0 k [1,1,0,1,0] [] k (σ36 a b 0) = boolR (eqRows a b) := by
  refine loop_up (σ36 a b) a.length (fun i => boolR (eqRows (a.drop i) (b.drop i))) ?_ ?_ k 0 (Nat.zero_le _) (by omega)
  · intro i hi R hR
    have hi' : i < b.length := by omega
    unfold σ36 at hR ⊢
    rw [round36, ltN hi, leN, ltN hi', rowAtL a i hi, rowAtL b i hi', wrapR hi hl, hR, List.drop_eq_getElem_cons hi, List.drop_eq_getElem_cons hi']
    simp only [eqRows]
    cases eqRow a[i] b[i] <;> rfl
  · intro R
    unfold σ36
    rw [round36, nltN, List.drop_length]
    rfl
theorem okSl_kd {u : Nat} {kd : SK} {rows : List (List AV)} (h : okSl u kd rows = true) : (u = 42 ∧ kd = .wide ∨ u = 0 ∧ kd = .nil ∧ rows = []) ∧ rows.length * 32 ≤ reachBytes := by
  simp only [okSl, Bool.and_eq_true, decide_eq_true_eq] at h
  refine ⟨?_, h.2⟩
  have h1 := h.1
  cases kd with
  | wide => exact .inl ⟨Nat.eq_of_beq_eq_true h1, rfl⟩
  | nil =>
    simp only [Bool.and_eq_true, List.isEmpty_iff] at h1
    exact .inr ⟨Nat.eq_of_beq_eq_true h1.1, rfl, h1.2⟩
  | full => cases h1
  | any => cases h1
  | anyf => cases h1
def F36 : List AV → List AObj → Ab Res
  | [.sl u kd rows, .sl u' kd' rows'], [] => some (okSl u kd rows && okSl u' kd' rows', .k (.bool (eqF rows rows')), [])
  | _, _ => none
theorem told36 (args : List AV) (st : List AObj) (r : Res) (h : F36 args st = some (true, r)) : ∃ k, ev sys21 k 36 args st = some r := by
  unfold F36 at h
  split at h
  · rename_i u kd a u' kd' b
    simp only [Option.some.injEq, Prod.mk.injEq, Bool.and_eq_true] at h
    obtain ⟨⟨h1, h2⟩, rfl⟩ := h
    obtain ⟨h1, hl⟩ := okSl_kd h1
    obtain ⟨h2, hl'⟩ := okSl_kd h2
    rcases h1 with ⟨rfl, rfl⟩ | ⟨rfl, rfl, rfl⟩ <;> rcases h2 with ⟨rfl, rfl⟩ | ⟨rfl, rfl, rfl⟩
    · refine ⟨a.length + 1 + 1, (start36 a b _).trans ?_⟩
      unfold eqF
      rw [len_ne]
      by_cases h : a.length = b.length
      · rw [loop36 a b h hl _ (by omega)]
        have : decide (a.length = b.length) = true := by simpa using h
        rw [this]; rfl
      · have : decide (a.length = b.length) = false := by simpa using h
        rw [this]; rfl
    · cases a with
      | nil => exact ⟨0 + 2, start36m0 0⟩
      | cons r a => exact ⟨0 + 2, start36m r a 0⟩
    · refine ⟨0 + 2, (start36n b 0).trans ?_⟩
      unfold eqF eqRows
      show _ = boolR _
      have : ((([] : List (List AV)).length : Int) != (b.length : Int)) = ((0 : Int) != (b.length : Int)) := rfl
      rw [this]
      cases (0 : Int) != (b.length : Int) <;> rfl
    · exact ⟨0 + 2, start36nn 0⟩
  · cases h
noncomputable def sys22 : FSys := sys21.tell 36 F36
def same (v w : Wd) : Bool := bif v.inp == w.inp then bif v.at_ == w.at_ then bif v.out == w.out then eqF v.rows w.rows else false else false else false
theorem ev18 (v w : Wd) (k : Nat) : ev sys22 (k + 1) 18 [v.av, w.av] [] = bif v.inp == w.inp then (bif v.at_ == w.at_ then (bif v.out == w.out then (bif okSl (v.kd.tag 42) v.kd v.rows && okSl (w.kd.tag 42) w.kd w.rows then boolR (eqF v.rows w.rows) else none) else boolR false) else boolR false) else boolR false := by kernel_rfl
theorem evw18 (v w : Wd) (hv : v.Ok) (hw : w.Ok) : ∃ k, ev sys22 k 18 [v.av, w.av] [] = some (.k (.bool (same v w)), []) := by
  refine ⟨0 + 1, ?_⟩
  rw [ev18, hv.okSl, hw.okSl]
  unfold same
  cases v.inp == w.inp <;> cases v.at_ == w.at_ <;> cases v.out == w.out <;> rfl
noncomputable def sys23 : FSys := sys22.tell 18 (FWW fun v w => .k (.bool (same v w)))
end Go.Proofs.Ytmcgeohnmncinaa.W
