/- A part of the proofs over the laws of layer 8 (worlds): what its functions come to. No conditions. -/
import Derived.Test.YtmcgeohnmncinaaG2
import Derived.Test.YtmcgeohnmncinaaRows
set_option linter.all false
namespace Go.Proofs.Ytmcgeohnmncinaa.W
open Go.Fw
set_option maxRecDepth 100000
/-! ### Write -/
def wrt (w : Wd) (t : ByteArray) : Wd × Int :=
  bif chk w != 0 then (zeroW, chk w) else bif !isText t then (zeroW, 2) else bif decide (w.out.size + t.size > 1048576) then (zeroW, 6) else ({ w with out := w.out ++ t }, 0)
def wrtAV (w : Wd) (t : ByteArray) : AV := .tup [(wrt w t).1.av, .k (.int .i64 (wrt w t).2)]
def wrtR (w : Wd) (n : Int) : Option Res := some (.tup [w.av, .k (.int .i64 n)], [])
theorem ev14 (w : Wd) (hw : w.kd = .wide ∨ w.kd = .nil ∧ w.rows = []) (t : ByteArray) (k : Nat) : ev sys19 (k + 1) 14 [w.av, .k (.string t)] [] =
  bif w.okB (w.kd.tag 42) then (bif chk w != 0 then wrtR zeroW (chk w) else bif textC t then (bif !isText t then wrtR zeroW 2 else bif decide (IntKind.i64.wrap ((w.out.size : Int) + (t.size : Int)) > 1048576) then wrtR zeroW 6 else
    bif w.okB (w.kd.tag 42) then (bif Nat.ble (w.out.size + t.size) 9223372036854775807 then wrtR { w with out := w.out ++ t } 0 else none) else none) else none) else none := by
  obtain ⟨inp, i, out, kd, rows⟩ := w
  simp only at hw
  rcases hw with rfl | ⟨rfl, rfl⟩
  · kernel_rfl
  · kernel_rfl
theorem sizes {w : Wd} {t : ByteArray} (hw : w.Ok) (ht : textC t = true) : IntKind.i64.wrap ((w.out.size : Int) + (t.size : Int)) = ((w.out.size + t.size : Nat) : Int) ∧ Nat.ble (w.out.size + t.size) 9223372036854775807 = true := by
  have h1 : w.out.size ≤ reachBytes := of_decide_eq_true hw.out
  have h2 : t.size ≤ reachBytes := of_decide_eq_true ht
  unfold reachBytes at h1 h2
  refine ⟨by rw [wrap64] <;> omega, ?_⟩
  rw [Nat.ble_eq]
  omega
theorem gtC (n : Nat) : decide (((n : Nat) : Int) > 1048576) = decide (n > 1048576) := by congr 1; apply propext; omega
theorem evw14 (w : Wd) (t : ByteArray) (hw : w.Ok) (ht : textC t = true) : ∃ k, ev sys19 k 14 [w.av, .k (.string t)] [] = some (wrtAV w t, []) := by
  refine ⟨0 + 1, ?_⟩
  rw [ev14 w hw.kd, hw.okB, (sizes hw ht).1, (sizes hw ht).2, ht, gtC]
  unfold wrtAV wrt
  cases chk w != 0 <;> cases isText t <;> cases decide (w.out.size + t.size > 1048576) <;> rfl
noncomputable def sys20 : FSys := sys19.tell 14 (FWT wrtAV)
theorem ev15 (w : Wd) (hw : w.kd = .wide ∨ w.kd = .nil ∧ w.rows = []) (t : ByteArray) (k : Nat) : ev sys20 (k + 1) 15 [w.av, .k (.string t)] [] =
  bif w.okB (w.kd.tag 42) then (bif chk w != 0 then wrtR zeroW (chk w) else bif textC t then (bif !isText t then wrtR zeroW 2 else bif decide (IntKind.i64.wrap ((w.out.size : Int) + (t.size : Int)) > 1048576) then wrtR zeroW 6 else
    (bif Nat.ble (w.out.size + t.size) 9223372036854775807 then wrtR { w with out := w.out ++ t } 0 else none)) else none) else none := by
  obtain ⟨inp, i, out, kd, rows⟩ := w
  simp only at hw
  rcases hw with rfl | ⟨rfl, rfl⟩
  · kernel_rfl
  · kernel_rfl
theorem evw15 (w : Wd) (t : ByteArray) (hw : w.Ok) (ht : textC t = true) : ∃ k, ev sys20 k 15 [w.av, .k (.string t)] [] = some (wrtAV w t, []) := by
  refine ⟨0 + 1, ?_⟩
  rw [ev15 w hw.kd, hw.okB, (sizes hw ht).1, (sizes hw ht).2, ht, gtC]
  unfold wrtAV wrt
  cases chk w != 0 <;> cases isText t <;> cases decide (w.out.size + t.size > 1048576) <;> rfl
noncomputable def sys21 : FSys := sys20.tell 15 (FWT wrtAV)

/-! ### Same -/
def eqRow (r s : List AV) : Bool := nm r == nm s && (tx r == tx s && true)
def eqRows : List (List AV) → List (List AV) → Bool
  | r :: rs, s :: ss => eqRow r s && eqRows rs ss
  | _, _ => true
def eqF (a b : List (List AV)) : Bool := bif (a.length : Int) != (b.length : Int) then false else eqRows a b
def boolR (b : Bool) : Option Res := some (.k (.bool b), [])
theorem len_ne (a b : List (List AV)) : ((a.length : Int) != (b.length : Int)) = !decide (a.length = b.length) := by
  rw [Bool.eq_iff_iff]; simp; omega
def σ36 (a b : List (List AV)) (i : Nat) : St := ⟨tm 26 [(0, .sl 42 .wide a), (1, .sl 42 .wide b), (12, .k (.int .i64 (a.length : Int))), (13, .k (.int .i64 (i : Int)))], [], []⟩
theorem round36 (a b : List (List AV)) (n : Nat) (j : Int) (k : Nat) (R : St → Option Res) : roundAt sys21 36 Try.f36 0 k [1,1,0,1,0] [] R ⟨tm 26 [(0, .sl 42 .wide a), (1, .sl 42 .wide b), (12, .k (.int .i64 n)), (13, .k (.int .i64 j))], [], []⟩ =
  bif decide (j < ↑n) then (bif decide (0 ≤ j) && decide (j < ↑a.length) then (bif decide (0 ≤ j) && decide (j < ↑b.length) then (bif !eqRow (a.getD j.toNat []) (b.getD j.toNat []) then boolR false else R ⟨tm 26 [(0, .sl 42 .wide a), (1, .sl 42 .wide b), (12, .k (.int .i64 n)), (13, .k (.int .i64 (IntKind.i64.wrap (j + 1))))], [], []⟩) else none) else none) else boolR true := by kernel_rfl
theorem start36 (a b : List (List AV)) (k : Nat) : ev sys21 (k + 1) 36 [.sl 42 .wide a, .sl 42 .wide b] [] = bif (a.length : Int) != (b.length : Int) then boolR false else loopAt sys21 36 Try.f36 0 k [1,1,0,1,0] [] k (σ36 a b 0) := by kernel_rfl
theorem start36n (a : List (List AV)) (k : Nat) : ev sys21 (k + 2) 36 [.sl 0 .nil [], .sl 42 .wide a] [] = bif (0 : Int) != (a.length : Int) then boolR false else boolR true := by kernel_rfl
theorem start36m (r : List AV) (a : List (List AV)) (k : Nat) : ev sys21 (k + 2) 36 [.sl 42 .wide (r :: a), .sl 0 .nil []] [] = boolR false := by kernel_rfl
theorem start36m0 (k : Nat) : ev sys21 (k + 2) 36 [.sl 42 .wide [], .sl 0 .nil []] [] = boolR true := by kernel_rfl
theorem start36nn (k : Nat) : ev sys21 (k + 2) 36 [.sl 0 .nil [], .sl 0 .nil []] [] = boolR true := by kernel_rfl
theorem loop36 (a b : List (List AV)) (h : a.length = b.length) (hl : a.length * 32 ≤ reachBytes) (k : Nat) (hk : a.length < k) : loopAt sys21 36 Try.f36 0 k [1,1,0,1,0] [] k (σ36 a b 0) = boolR (eqRows a b) := by
  refine loop_up (σ36 a b) a.length (fun i => boolR (eqRows (a.drop i) (b.drop i))) ?_ ?_ k 0 (Nat.zero_le _) (by omega)
  · intro i hi R hR
    have hi' : i < b.length := by omega
    unfold σ36 at hR ⊢
    rw [round36, ltN hi, leN, ltN hi', rowAtL a i hi, rowAtL b i hi', wrapR hi hl, hR, List.drop_eq_getElem_cons hi, List.drop_eq_getElem_cons hi']
    simp only [eqRows]
    cases eqRow a[i] b[i] <;> rfl
  · intro R
    unfold σ36
    rw [round36, nltN, List.drop_length]
    rfl
theorem okSl_kd {u : Nat} {kd : SK} {rows : List (List AV)} (h : okSl u kd rows = true) : (u = 42 ∧ kd = .wide ∨ u = 0 ∧ kd = .nil ∧ rows = []) ∧ rows.length * 32 ≤ reachBytes := by
  simp only [okSl, Bool.and_eq_true, decide_eq_true_eq] at h
  refine ⟨?_, h.2⟩
  have h1 := h.1
  cases kd with
  | wide => exact .inl ⟨Nat.eq_of_beq_eq_true h1, rfl⟩
  | nil =>
    simp only [Bool.and_eq_true, List.isEmpty_iff] at h1
    exact .inr ⟨Nat.eq_of_beq_eq_true h1.1, rfl, h1.2⟩
  | full => cases h1
  | any => cases h1
  | anyf => cases h1
  | fresh => cases h1
def F36 : List AV → List AObj → Ab Res
  | [.sl u kd rows, .sl u' kd' rows'], [] => some (okSl u kd rows && okSl u' kd' rows', .k (.bool (eqF rows rows')), [])
  | _, _ => none
theorem told36 (args : List AV) (st : List AObj) (r : Res) (h : F36 args st = some (true, r)) : ∃ k, ev sys21 k 36 args st = some r := by
  unfold F36 at h
  split at h
  · rename_i u kd a u' kd' b
    simp only [Option.some.injEq, Prod.mk.injEq, Bool.and_eq_true] at h
    obtain ⟨⟨h1, h2⟩, rfl⟩ := h
    obtain ⟨h1, hl⟩ := okSl_kd h1
    obtain ⟨h2, hl'⟩ := okSl_kd h2
    rcases h1 with ⟨rfl, rfl⟩ | ⟨rfl, rfl, rfl⟩ <;> rcases h2 with ⟨rfl, rfl⟩ | ⟨rfl, rfl, rfl⟩
    · refine ⟨a.length + 1 + 1, (start36 a b _).trans ?_⟩
      unfold eqF
      rw [len_ne]
      by_cases h : a.length = b.length
      · rw [loop36 a b h hl _ (by omega)]
        have : decide (a.length = b.length) = true := by simpa using h
        rw [this]; rfl
      · have : decide (a.length = b.length) = false := by simpa using h
        rw [this]; rfl
    · cases a with
      | nil => exact ⟨0 + 2, start36m0 0⟩
      | cons r a => exact ⟨0 + 2, start36m r a 0⟩
    · refine ⟨0 + 2, (start36n b 0).trans ?_⟩
      unfold eqF eqRows
      show _ = boolR _
      have : ((([] : List (List AV)).length : Int) != (b.length : Int)) = ((0 : Int) != (b.length : Int)) := rfl
      rw [this]
      cases (0 : Int) != (b.length : Int) <;> rfl
    · exact ⟨0 + 2, start36nn 0⟩
  · cases h
noncomputable def sys22 : FSys := sys21.tell 36 F36
def same (v w : Wd) : Bool := bif v.inp == w.inp then bif v.at_ == w.at_ then bif v.out == w.out then eqF v.rows w.rows else false else false else false
theorem ev18 (v w : Wd) (k : Nat) : ev sys22 (k + 1) 18 [v.av, w.av] [] = bif v.inp == w.inp then (bif v.at_ == w.at_ then (bif v.out == w.out then (bif okSl (v.kd.tag 42) v.kd v.rows && okSl (w.kd.tag 42) w.kd w.rows then boolR (eqF v.rows w.rows) else none) else boolR false) else boolR false) else boolR false := by kernel_rfl
theorem evw18 (v w : Wd) (hv : v.Ok) (hw : w.Ok) : ∃ k, ev sys22 k 18 [v.av, w.av] [] = some (.k (.bool (same v w)), []) := by
  refine ⟨0 + 1, ?_⟩
  rw [ev18, hv.okSl, hw.okSl]
  unfold same
  cases v.inp == w.inp <;> cases v.at_ == w.at_ <;> cases v.out == w.out <;> rfl
noncomputable def sys23 : FSys := sys22.tell 18 (FWW fun v w => .k (.bool (same v w)))
end Go.Proofs.Ytmcgeohnmncinaa.W
namespace Go.Proofs.Ytmcgeohnmncinaa.W
open Go.Fw
set_option maxRecDepth 100000
/-! ### Same of the reference -/
def boxW (w : Wd) : AObj := .box 24 [.k (.string w.inp), .k (.int .i64 w.at_), .k (.string w.out), .sl (w.kd.tag 42) w.kd w.rows]
def σ16 (v w : Wd) (i : Nat) : St := ⟨tm 52 [(2, .ptr 0 0), (3, .ptr 1 0), (5, .k (.int .i64 (i : Int)))], [boxW v, boxW w], []⟩
theorem round16 (a p b q : ByteArray) (i i' : Int) (r s : List (List AV)) (j : Int) (k : Nat) (R : St → Option Res) : roundAt sys23 16 Try.f16 0 k [1,1,0,1,0] [] R ⟨tm 52 [(2, .ptr 0 0), (3, .ptr 1 0), (5, .k (.int .i64 j))], [boxW ⟨a, i, p, .wide, r⟩, boxW ⟨b, i', q, .wide, s⟩], []⟩ =
  bif decide (j < ↑r.length) then (bif decide (0 ≤ j) && decide (j < ↑r.length) then (bif decide (0 ≤ j) && decide (j < ↑s.length) then (bif !eqRow (r.getD j.toNat []) (s.getD j.toNat []) then boolR false else R ⟨tm 52 [(2, .ptr 0 0), (3, .ptr 1 0), (5, .k (.int .i64 (IntKind.i64.wrap (j + 1))))], [boxW ⟨a, i, p, .wide, r⟩, boxW ⟨b, i', q, .wide, s⟩], []⟩) else none) else none) else boolR true := by kernel_rfl
def head16 (v w : Wd) (X : Option Res) : Option Res :=
  bif !(v.inp == w.inp) then boolR false else bif v.at_ != w.at_ then boolR false else bif !(v.out == w.out) then boolR false else bif (v.rows.length : Int) != (w.rows.length : Int) then boolR false else X
theorem start16 (a p b q : ByteArray) (i i' : Int) (r s : List (List AV)) (k : Nat) : ev sys23 (k + 1) 16 [Wd.av ⟨a, i, p, .wide, r⟩, Wd.av ⟨b, i', q, .wide, s⟩] [] = head16 ⟨a, i, p, .wide, r⟩ ⟨b, i', q, .wide, s⟩ (loopAt sys23 16 Try.f16 0 k [1,1,0,1,0] [] k (σ16 ⟨a, i, p, .wide, r⟩ ⟨b, i', q, .wide, s⟩ 0)) := by kernel_rfl
theorem start16n (a p b q : ByteArray) (i i' : Int) (s : List (List AV)) (k : Nat) : ev sys23 (k + 2) 16 [Wd.av ⟨a, i, p, .nil, []⟩, Wd.av ⟨b, i', q, .wide, s⟩] [] = head16 ⟨a, i, p, .nil, []⟩ ⟨b, i', q, .wide, s⟩ (boolR true) := by kernel_rfl
theorem start16m (a p b q : ByteArray) (i i' : Int) (x : List AV) (r : List (List AV)) (k : Nat) : ev sys23 (k + 2) 16 [Wd.av ⟨a, i, p, .wide, x :: r⟩, Wd.av ⟨b, i', q, .nil, []⟩] [] = head16 ⟨a, i, p, .wide, x :: r⟩ ⟨b, i', q, .nil, []⟩ (boolR true) := by kernel_rfl
theorem start16m0 (a p b q : ByteArray) (i i' : Int) (k : Nat) : ev sys23 (k + 2) 16 [Wd.av ⟨a, i, p, .wide, []⟩, Wd.av ⟨b, i', q, .nil, []⟩] [] = head16 ⟨a, i, p, .wide, []⟩ ⟨b, i', q, .nil, []⟩ (boolR true) := by kernel_rfl
theorem start16nn (a p b q : ByteArray) (i i' : Int) (k : Nat) : ev sys23 (k + 2) 16 [Wd.av ⟨a, i, p, .nil, []⟩, Wd.av ⟨b, i', q, .nil, []⟩] [] = head16 ⟨a, i, p, .nil, []⟩ ⟨b, i', q, .nil, []⟩ (boolR true) := by kernel_rfl
theorem loop16 (a p b q : ByteArray) (i0 i' : Int) (r s : List (List AV)) (h : r.length = s.length) (hl : r.length * 32 ≤ reachBytes) (k : Nat) (hk : r.length < k) : loopAt sys23 16 Try.f16 0 k [1,1,0,1,0] [] k (σ16 ⟨a, i0, p, .wide, r⟩ ⟨b, i', q, .wide, s⟩ 0) = boolR (eqRows r s) := by
  refine loop_up (σ16 ⟨a, i0, p, .wide, r⟩ ⟨b, i', q, .wide, s⟩) r.length (fun i => boolR (eqRows (r.drop i) (s.drop i))) ?_ ?_ k 0 (Nat.zero_le _) (by omega)
  · intro i hi R hR
    have hi' : i < s.length := by omega
    unfold σ16 at hR ⊢
    rw [round16, ltN hi, leN, ltN hi', rowAtL r i hi, rowAtL s i hi', wrapR hi hl, hR, List.drop_eq_getElem_cons hi, List.drop_eq_getElem_cons hi']
    simp only [eqRows]
    cases eqRow r[i] s[i] <;> rfl
  · intro R
    unfold σ16
    rw [round16, nltN, List.drop_length]
    rfl
theorem head16_same (v w : Wd) (X : Option Res) (hX : v.rows.length = w.rows.length → X = boolR (eqRows v.rows w.rows)) : head16 v w X = boolR (same v w) := by
  unfold head16 same eqF
  rw [len_ne, show (v.at_ != w.at_) = !(v.at_ == w.at_) from rfl]
  cases v.inp == w.inp <;> cases v.at_ == w.at_ <;> cases v.out == w.out <;> first | rfl | skip
  by_cases h : v.rows.length = w.rows.length
  · have hd : decide (v.rows.length = w.rows.length) = true := by simpa using h
    rw [hd, hX h]; rfl
  · have hd : decide (v.rows.length = w.rows.length) = false := by simpa using h
    rw [hd]; rfl
theorem evw16 (v w : Wd) (hv : v.Ok) (hw : w.Ok) : ∃ k, ev sys23 k 16 [v.av, w.av] [] = some (.k (.bool (same v w)), []) := by
  obtain ⟨a, i, p, kd, r⟩ := v
  obtain ⟨b, i', q, kd', s⟩ := w
  have hl := hv.len
  simp only at hl
  rcases hv.kd with h1 | ⟨h1, h2⟩ <;> rcases hw.kd with h3 | ⟨h3, h4⟩ <;> simp only at h1 h3 <;> subst h1 <;> subst h3
  · exact ⟨r.length + 1 + 1, (start16 a p b q i i' r s _).trans (head16_same _ _ _ fun h => loop16 a p b q i i' r s h hl _ (by omega))⟩
  · simp only at h4
    subst h4
    cases r with
    | nil => exact ⟨0 + 2, (start16m0 a p b q i i' 0).trans (head16_same _ _ _ fun _ => rfl)⟩
    | cons x r => exact ⟨0 + 2, (start16m a p b q i i' x r 0).trans (head16_same _ _ _ fun h => by cases h)⟩
  · simp only at h2
    subst h2
    exact ⟨0 + 2, (start16n a p b q i i' s 0).trans (head16_same _ _ _ fun _ => rfl)⟩
  · simp only at h2 h4
    subst h2; subst h4
    exact ⟨0 + 2, (start16nn a p b q i i' 0).trans (head16_same _ _ _ fun _ => rfl)⟩
noncomputable def sys24 : FSys := sys23.tell 16 (FWW fun v w => .k (.bool (same v w)))

/-! ### large -/
def acc (n : Int) (rows : List (List AV)) : Nat → Int
  | 0 => n
  | i + 1 => IntKind.i64.wrap (acc n rows i + IntKind.i64.wrap (((nm (rows.getD i [])).size : Int) + ((tx (rows.getD i [])).size : Int)))
def first (w : Wd) : Int := IntKind.i64.wrap (IntKind.i64.wrap ((w.inp.size : Int) + (w.out.size : Int)) + (w.rows.length : Int))
def large (w : Wd) : Bool := decide (acc (first w) w.rows (min w.rows.length 100) > 4194304) || decide ((w.rows.length : Int) > 100)
def σ10 (w : Wd) (i : Nat) : St := ⟨tm 52 [(1, .ptr 0 0), (3, .k (.int .i64 (acc (first w) w.rows i))), (4, .k (.int .i64 (i : Int)))], [boxW w], []⟩
def fin10 (n : Int) (rows : List (List AV)) : Option Res := bif decide (n > 4194304) then boolR true else boolR (decide ((rows.length : Int) > 100))
theorem round10 (a p : ByteArray) (i : Int) (r : List (List AV)) (n j : Int) (k : Nat) (R : St → Option Res) : roundAt sys24 10 Try.f10 0 k [1,1,0,1,0] [] R ⟨tm 52 [(1, .ptr 0 0), (3, .k (.int .i64 n)), (4, .k (.int .i64 j))], [boxW ⟨a, i, p, .wide, r⟩], []⟩ =
  bif decide (j < ↑r.length) then (bif decide (j < 100) then (bif decide (0 ≤ j) && decide (j < ↑r.length) then (bif decide (0 ≤ j) && decide (j < ↑r.length) then R ⟨tm 52 [(1, .ptr 0 0), (3, .k (.int .i64 (IntKind.i64.wrap (n + IntKind.i64.wrap (((nm (r.getD j.toNat [])).size : Int) + ((tx (r.getD j.toNat [])).size : Int)))))), (4, .k (.int .i64 (IntKind.i64.wrap (j + 1))))], [boxW ⟨a, i, p, .wide, r⟩], []⟩ else none) else none) else fin10 n r) else fin10 n r := by kernel_rfl
theorem start10 (a p : ByteArray) (i : Int) (r : List (List AV)) (k : Nat) : ev sys24 (k + 1) 10 [Wd.av ⟨a, i, p, .wide, r⟩] [] = loopAt sys24 10 Try.f10 0 k [1,1,0,1,0] [] k (σ10 ⟨a, i, p, .wide, r⟩ 0) := by kernel_rfl
theorem start10n (a p : ByteArray) (i : Int) (k : Nat) : ev sys24 (k + 2) 10 [Wd.av ⟨a, i, p, .nil, []⟩] [] = fin10 (first ⟨a, i, p, .nil, []⟩) [] := by kernel_rfl
theorem fin10_large (w : Wd) : fin10 (acc (first w) w.rows (min w.rows.length 100)) w.rows = boolR (large w) := by
  unfold fin10 large
  cases decide (acc (first w) w.rows (min w.rows.length 100) > 4194304) <;> rfl
theorem loop10 (a p : ByteArray) (i0 : Int) (r : List (List AV)) (hl : r.length * 32 ≤ reachBytes) (k : Nat) (hk : r.length < k) : loopAt sys24 10 Try.f10 0 k [1,1,0,1,0] [] k (σ10 ⟨a, i0, p, .wide, r⟩ 0) = fin10 (acc (first ⟨a, i0, p, .wide, r⟩) r (min r.length 100)) r := by
  refine loop_up (σ10 ⟨a, i0, p, .wide, r⟩) (min r.length 100) (fun _ => fin10 (acc (first ⟨a, i0, p, .wide, r⟩) r (min r.length 100)) r) ?_ ?_ k 0 (Nat.zero_le _) (by omega)
  · intro i hi R hR
    have hi1 : i < r.length := by omega
    have hi2 : decide ((i : Int) < 100) = true := by rw [decide_eq_true_eq]; omega
    unfold σ10 at hR ⊢
    simp only [acc] at hR
    rw [round10, ltN hi1, leN, hi2, wrapR hi1 hl, Int.toNat_natCast, hR]
    rfl
  · intro R
    unfold σ10
    rw [round10]
    by_cases h : r.length ≤ 100
    · have hm : min r.length 100 = r.length := by omega
      have hd : decide (((min r.length 100 : Nat) : Int) < (r.length : Int)) = false := by rw [decide_eq_false_iff_not]; omega
      rw [hd]; rfl
    · have hd : decide (((min r.length 100 : Nat) : Int) < 100) = false := by rw [decide_eq_false_iff_not]; omega
      rw [hd]
      simp only [cond_false]
      cases decide (((min r.length 100 : Nat) : Int) < (r.length : Int)) <;> rfl
theorem evw10 (w : Wd) (hw : w.Ok) : ∃ k, ev sys24 k 10 [w.av] [] = some (.k (.bool (large w)), []) := by
  have hf := fin10_large w
  obtain ⟨a, i, p, kd, r⟩ := w
  have hl := hw.len
  simp only at hl
  rcases hw.kd with h1 | ⟨h1, h2⟩
  · simp only at h1
    subst h1
    exact ⟨r.length + 1 + 1, (start10 a p i r _).trans ((loop10 a p i r hl _ (by omega)).trans hf)⟩
  · simp only at h1 h2
    subst h1; subst h2
    exact ⟨0 + 2, (start10n a p i 0).trans hf⟩
noncomputable def sys25 : FSys := sys24.tell 10 (FW fun w => .k (.bool (large w)))

/-! ### copied of the laws; awake -/
def copied (w : Wd) : Wd := { w with kd := .wide }
theorem ev19w (a p : ByteArray) (i : Int) (r : List (List AV)) (k : Nat) : ev sys25 (k + 1) 19 [Wd.av ⟨a, i, p, .wide, r⟩] [] = bif ((0 + r.length) * 32).ble (2 ^ 47) then some (Wd.av ⟨a, i, p, .wide, r⟩, []) else none := by kernel_rfl
theorem ev19n (a p : ByteArray) (i : Int) (k : Nat) : ev sys25 (k + 1) 19 [Wd.av ⟨a, i, p, .nil, []⟩] [] = some (Wd.av ⟨a, i, p, .wide, []⟩, []) := by kernel_rfl
theorem evw19 (w : Wd) (hw : w.Ok) : ∃ k, ev sys25 k 19 [w.av] [] = some ((copied w).av, []) := by
  obtain ⟨a, i, p, kd, r⟩ := w
  have hl := hw.len
  simp only at hl
  refine ⟨0 + 1, ?_⟩
  rcases hw.kd with h1 | ⟨h1, h2⟩
  · simp only at h1
    subst h1
    have : ((0 + r.length) * 32).ble (2 ^ 47) = true := by rw [Nat.ble_eq, Nat.zero_add]; unfold reachBytes at hl; omega
    rw [ev19w, this]; rfl
  · simp only at h1 h2
    subst h1; subst h2
    rw [ev19n]; rfl
noncomputable def sys26 : FSys := sys25.tell 19 (FW fun w => (copied w).av)
def F12 : List AV → List AObj → Ab Res
  | [], [] => some (true, .k (.bool true), [])
  | _, _ => none
theorem ev12 : ev sys26 (0 + 1) 12 [] [] = boolR true := by kernel_rfl
theorem told12 (args : List AV) (st : List AObj) (r : Res) (h : F12 args st = some (true, r)) : ∃ k, ev sys26 k 12 args st = some r := by
  unfold F12 at h
  split at h
  · cases h; exact ⟨_, ev12⟩
  · cases h
noncomputable def sys27 : FSys := sys26.tell 12 F12
end Go.Proofs.Ytmcgeohnmncinaa.W
namespace Go.Proofs.Ytmcgeohnmncinaa.W
open Go.Fw
set_option maxRecDepth 100000
theorem zeroW_ok : zeroW.Ok := ⟨.inr ⟨rfl, rfl⟩, Nat.zero_le _, rfl, rfl, fun r h => by cases h⟩
theorem eqRow_self (r : List AV) : eqRow r r = true := by
  unfold eqRow
  rw [ba_beq, ba_beq]; simp
theorem eqRows_self : ∀ r : List (List AV), eqRows r r = true
  | [] => rfl
  | r :: rs => by rw [eqRows, eqRow_self, eqRows_self rs]; rfl
theorem eqF_self (r : List (List AV)) : eqF r r = true := by
  unfold eqF
  rw [len_ne, eqRows_self]; simp
theorem same_self (w : Wd) : same w w = true := by
  unfold same
  rw [ba_beq, ba_beq, eqF_self]; simp
theorem same_copied (w : Wd) : same w (copied w) = true := same_self w

/-! ### WorldsWrites -/
theorem wrt_ok {w : Wd} {t : ByteArray} (hw : w.Ok) : (wrt w t).1.Ok := by
  unfold wrt
  cases chk w != 0 with
  | true => exact zeroW_ok
  | false => cases isText t with
    | false => exact zeroW_ok
    | true =>
      by_cases h : w.out.size + t.size > 1048576
      · have : decide (w.out.size + t.size > 1048576) = true := by simpa using h
        rw [this]; exact zeroW_ok
      · have : decide (w.out.size + t.size > 1048576) = false := by simpa using h
        rw [this]
        refine ⟨hw.kd, hw.len, hw.inp, ?_, hw.rows⟩
        simp only [cond_false, textC, decide_eq_true_eq, ByteArray.size_append, Bool.not_true]
        unfold reachBytes; omega
theorem law4 (w : Wd) (t : ByteArray) (k : Nat) : ev sys27 (k + 1) 4 [w.av, .k (.string t)] [] =
  bif w.okB (w.kd.tag 42) then (bif large w then boolR true else bif decide ((t.size : Int) > 2097152) then boolR true else bif w.okB (w.kd.tag 42) && textC t then (bif w.okB (w.kd.tag 42) && textC t then
    (bif (wrt w t).2 == (wrt w t).2 then (bif (wrt w t).1.okB ((wrt w t).1.kd.tag 42) && (wrt w t).1.okB ((wrt w t).1.kd.tag 42) then (bif same (wrt w t).1 (wrt w t).1 then boolR true else boolR false) else none) else boolR false) else none) else none) else none := by kernel_rfl
theorem law4_true (w : Wd) (t : ByteArray) (hw : w.Ok) (ht : textC t = true) : ev sys27 (0 + 1) 4 [w.av, .k (.string t)] [] = boolR true := by
  rw [law4, hw.okB, ht, (wrt_ok hw).okB, same_self]
  simp only [cond_true, Bool.and_self, beq_self_eq_true]
  cases large w <;> cases decide ((t.size : Int) > 2097152) <;> rfl

/-! ### WorldsCheck -/
theorem copied_ok {w : Wd} (hw : w.Ok) : (copied w).Ok := ⟨.inl rfl, hw.len, hw.inp, hw.out, hw.rows⟩
theorem law5 (v w : Wd) (k : Nat) : ev sys27 (k + 1) 5 [v.av, w.av] [] =
  bif v.okB (v.kd.tag 42) then (bif large v then boolR true else bif w.okB (w.kd.tag 42) then (bif large w then boolR true else bif v.okB (v.kd.tag 42) then (bif v.okB (v.kd.tag 42) then (bif chk v == chk v then
   (bif v.okB (v.kd.tag 42) && w.okB (w.kd.tag 42) then (bif v.okB (v.kd.tag 42) && w.okB (w.kd.tag 42) then (bif same v w == same v w then (bif v.okB (v.kd.tag 42) then (bif v.okB (v.kd.tag 42) && (copied v).okB 42 then (bif same v (copied v) then boolR true else boolR false) else none) else none) else boolR false) else none) else none) else boolR false) else none) else none) else none) else none := by kernel_rfl
theorem law5_true (v w : Wd) (hv : v.Ok) (hw : w.Ok) : ev sys27 (0 + 1) 5 [v.av, w.av] [] = boolR true := by
  have hc : (copied v).okB 42 = true := (copied_ok hv).okB
  rw [law5, hv.okB, hw.okB, hc, same_copied]
  simp only [cond_true, Bool.and_self, beq_self_eq_true]
  cases large v <;> cases large w <;> rfl

/-! ### WorldsReads -/
theorem chr_ok {w : Wd} (hw : w.Ok) : (chr w).2.2.Ok := by
  unfold chr
  cases chk w != 0 with
  | true => exact zeroW_ok
  | false => cases w.at_ == (w.inp.size : Int) with
    | true => exact hw
    | false => exact ⟨hw.kd, hw.len, hw.inp, hw.out, hw.rows⟩
theorem line_ok {w : Wd} (hw : w.Ok) : (line w).2.2.Ok := by
  unfold line
  cases chk w != 0 with
  | true => exact zeroW_ok
  | false => cases w.at_ == (w.inp.size : Int) with
    | true => exact hw
    | false => exact ⟨hw.kd, hw.len, hw.inp, hw.out, hw.rows⟩
theorem peek_chr (w : Wd) : peek w = ((chr w).1, (chr w).2.1) := by
  unfold peek chr
  cases chk w != 0 <;> cases w.at_ == (w.inp.size : Int) <;> rfl
theorem law6 (w : Wd) (k : Nat) : ev sys27 (k + 1) 6 [w.av] [] =
  bif w.okB (w.kd.tag 42) then (bif large w then boolR true else bif w.okB (w.kd.tag 42) then (bif w.okB (w.kd.tag 42) then (bif w.okB (w.kd.tag 42) then (bif w.okB (w.kd.tag 42) then (bif w.okB (w.kd.tag 42) then
    (bif (chr w).1 == (chr w).1 then (bif (chr w).2.1 == (chr w).2.1 then (bif (chr w).2.2.okB ((chr w).2.2.kd.tag 42) && (chr w).2.2.okB ((chr w).2.2.kd.tag 42) then (bif same (chr w).2.2 (chr w).2.2 then
     (bif (peek w).1 == (chr w).1 then (bif (peek w).2 == (chr w).2.1 then (bif (line w).1 == (line w).1 then (bif (line w).2.1 == (line w).2.1 then
      (bif (line w).2.2.okB ((line w).2.2.kd.tag 42) && (line w).2.2.okB ((line w).2.2.kd.tag 42) then (bif same (line w).2.2 (line w).2.2 then boolR true else boolR false) else none) else boolR false) else boolR false) else boolR false) else boolR false) else boolR false) else none) else boolR false) else boolR false) else none) else none) else none) else none) else none) else none := by kernel_rfl
theorem law6_true (w : Wd) (hw : w.Ok) : ev sys27 (0 + 1) 6 [w.av] [] = boolR true := by
  rw [law6, hw.okB, (chr_ok hw).okB, (line_ok hw).okB, same_self, same_self, peek_chr, ba_beq]
  simp only [cond_true, Bool.and_self, beq_self_eq_true, decide_true]
  cases large w <;> rfl
end Go.Proofs.Ytmcgeohnmncinaa.W
namespace Go.Proofs.Ytmcgeohnmncinaa.W
open Go.Fw
set_option maxRecDepth 100000
def st3 (w : Wd) (s t : ByteArray) (j : Int) : St := ⟨tm 91 [(1, .ptr 0 0), (3, .k (.string s)), (4, .k (.string t)), (5, .k (.int .i64 j))], [boxW w], []⟩
def end3 (w : Wd) (s t : ByteArray) : Option Res := bif t == s then (bif w.at_ == (w.inp.size : Int) then boolR true else boolR false) else boolR false
def fitsMax (a b : ByteArray) : Bool := Nat.ble (a.size + b.size) 9223372036854775807
def tail3 (w x : Wd) (l s t : ByteArray) (j : Int) (R : St → Option Res) : Option Res :=
  bif decide (x.at_ ≤ w.at_) then boolR false else bif IntKind.i64.wrap (x.at_ - w.at_) != (l.size : Int) then boolR false else
  bif x.okB (x.kd.tag 42) then (bif chk x != 0 then boolR false else bif fitsMax t l then R (st3 x s (t ++ l) (IntKind.i64.wrap (j + 1))) else none) else none
theorem round3 (w : Wd) (s t : ByteArray) (j : Int) (k : Nat) (R : St → Option Res) : roundAt sys27 3 Try.f3 0 k [1,1,1,0,1,0] [] R ⟨tm 91 [(1, .ptr 0 0), (3, .k (.string s)), (4, .k (.string t)), (5, .k (.int .i64 j))], [.box 24 [.k (.string w.inp), .k (.int .i64 w.at_), .k (.string w.out), .sl (w.kd.tag 42) w.kd w.rows]], []⟩ =
  bif decide (j ≤ (w.inp.size : Int)) then (bif w.okB (w.kd.tag 42) then (bif !(line w).2.1 then end3 w s t else
    bif decide (IntKind.i64.wrap ((line w).2.2.at_ - w.at_) > ((line w).1.size : Int)) then (bif fitsMax (line w).1 nl then tail3 w (line w).2.2 ((line w).1 ++ nl) s t j R else none) else tail3 w (line w).2.2 (line w).1 s t j R) else none) else end3 w s t := by kernel_rfl
theorem start3 (w : Wd) (k : Nat) : ev sys27 (k + 1) 3 [w.av] [] =
  bif w.okB (w.kd.tag 42) then (bif large w then boolR true else bif decide ((w.inp.size : Int) > 4000) then boolR true else bif w.okB (w.kd.tag 42) then (bif chk w != 0 then boolR true else
   bif decide (0 ≤ w.at_) && decide (w.at_ ≤ (w.inp.size : Int)) then loopAt sys27 3 Try.f3 0 k [1,1,1,0,1,0] [] k (st3 w (w.inp.extract w.at_.toNat w.inp.size) .empty 0) else none) else none) else none := by kernel_rfl

theorem ext_list {s t : ByteArray} (h : s.data.toList = t.data.toList) : s = t := ByteArray.ext (Array.toList_inj.1 h)
theorem extract_list (s : ByteArray) (a b : Nat) : (s.extract a b).data.toList = (s.data.toList.drop a).take (b - a) := by
  rw [ByteArray.data_extract, Array.toList_extract, List.extract_eq_take_drop]
theorem append_list (s t : ByteArray) : (s ++ t).data.toList = s.data.toList ++ t.data.toList := by
  rw [ByteArray.data_append, Array.toList_append]
theorem extract_app (s : ByteArray) {a b c : Nat} (h1 : a ≤ b) (h2 : b ≤ c) : s.extract a b ++ s.extract b c = s.extract a c := by
  apply ext_list
  rw [append_list, extract_list, extract_list, extract_list]
  have e : c - a = (b - a) + (c - b) := by omega
  rw [e, List.take_add, List.drop_drop]
  congr 3
  omega
theorem extract_one (s : ByteArray) (e : Nat) (h : e < s.data.toList.length) (hb : s.data.toList[e] = 10) : s.extract e (e + 1) = nl := by
  apply ext_list
  rw [extract_list, List.drop_eq_getElem_cons h, hb]
  have : e + 1 - e = 1 := by omega
  rw [this]
  rfl
def wa (w : Wd) (a : Nat) : Wd := { w with at_ := (a : Int) }
theorem wa_ok {w : Wd} (hw : w.Ok) (a : Nat) : (wa w a).Ok := ⟨hw.kd, hw.len, hw.inp, hw.out, hw.rows⟩
theorem chk_wa {w : Wd} (h0 : 0 ≤ w.at_) (h1 : w.at_ ≤ (w.inp.size : Int)) {a : Nat} (ha : a ≤ w.inp.size) : chk (wa w a) = chk w := by
  unfold chk wa
  have e1 : decide (w.at_ < 0) = false := by rw [decide_eq_false_iff_not]; omega
  have e2 : decide (w.at_ > (w.inp.size : Int)) = false := by rw [decide_eq_false_iff_not]; omega
  have e3 : decide ((a : Int) < 0) = false := by rw [decide_eq_false_iff_not]; omega
  have e4 : decide ((a : Int) > (w.inp.size : Int)) = false := by rw [decide_eq_false_iff_not]; omega
  simp only [e1, e2, e3, e4]
def end1 (w : Wd) (a : Nat) : Nat := endL (wa w a)
def next (w : Wd) (a : Nat) : Nat := bif decide (end1 w a < w.inp.size) then end1 w a + 1 else end1 w a
theorem end1_ge (w : Wd) (a : Nat) : a ≤ end1 w a := by
  have : end1 w a = a + stopN (w.inp.data.toList.drop a) := rfl
  omega
theorem end1_le (w : Wd) {a : Nat} (h : a ≤ w.inp.size) : end1 w a ≤ w.inp.size := endL_le (wa w a) (by show (a : Int) ≤ (w.inp.size : Int); omega)
theorem line_wa {w : Wd} {a : Nat} (hc : (chk (wa w a) != 0) = false) (ha : a < w.inp.size) : line (wa w a) = (w.inp.extract a (end1 w a), true, wa w (next w a)) := by
  unfold line
  rw [hc]
  have hz : ((wa w a).at_ == ((wa w a).inp.size : Int)) = false := by
    rw [beq_eq_false_iff_ne]
    show (a : Int) ≠ (w.inp.size : Int)
    omega
  rw [hz]
  have h1 : (wa w a).at_.toNat = a := rfl
  rw [h1]
  have key : (bif decide (end1 w a < w.inp.size) then ((end1 w a + 1 : Nat) : Int) else (end1 w a : Int)) = (next w a : Int) := by
    unfold next
    cases decide (end1 w a < w.inp.size) <;> rfl
  show (w.inp.extract a (end1 w a), true, ({ wa w a with at_ := bif decide (end1 w a < w.inp.size) then ((end1 w a + 1 : Nat) : Int) else (end1 w a : Int) } : Wd)) = _
  rw [key]
  rfl
theorem line_end {w : Wd} (hc : (chk (wa w w.inp.size) != 0) = false) : (line (wa w w.inp.size)).2.1 = false := by
  unfold line
  rw [hc]
  have hz : ((wa w w.inp.size).at_ == ((wa w w.inp.size).inp.size : Int)) = true := by
    rw [beq_iff_eq]; rfl
  rw [hz]
  rfl
theorem round3' (w : Wd) (s t : ByteArray) (j : Int) (k : Nat) (R : St → Option Res) : roundAt sys27 3 Try.f3 0 k [1,1,1,0,1,0] [] R (st3 w s t j) =
  bif decide (j ≤ (w.inp.size : Int)) then (bif w.okB (w.kd.tag 42) then (bif !(line w).2.1 then end3 w s t else
    bif decide (IntKind.i64.wrap ((line w).2.2.at_ - w.at_) > ((line w).1.size : Int)) then (bif fitsMax (line w).1 nl then tail3 w (line w).2.2 ((line w).1 ++ nl) s t j R else none) else tail3 w (line w).2.2 (line w).1 s t j R) else none) else end3 w s t := round3 w s t j k R
theorem fits_small {a b : ByteArray} (h : a.size + b.size ≤ 9000) : fitsMax a b = true := by
  unfold fitsMax
  rw [Nat.ble_eq]; omega
theorem tail3_eq {w : Wd} (hw : w.Ok) {a b : Nat} (hab : a < b) (hb : b ≤ 4000) (hc : (chk (wa w b) != 0) = false) (l s t : ByteArray) (hl : l.size = b - a) (ht : t.size ≤ 4000) {j : Nat} (hj : j ≤ 4000) (R : St → Option Res) :
    tail3 (wa w a) (wa w b) l s t (j : Int) R = R (st3 (wa w b) s (t ++ l) ((j + 1 : Nat) : Int)) := by
  unfold tail3
  have h1 : decide ((wa w b).at_ ≤ (wa w a).at_) = false := by rw [decide_eq_false_iff_not]; show ¬ ((b : Int) ≤ (a : Int)); omega
  have h2 : (IntKind.i64.wrap ((wa w b).at_ - (wa w a).at_) != (l.size : Int)) = false := by
    have : (wa w b).at_ - (wa w a).at_ = ((b - a : Nat) : Int) := by show (b : Int) - (a : Int) = _; omega
    rw [this, hl, wrap64 (by omega) (by omega)]
    simp
  have h3 : IntKind.i64.wrap ((j : Int) + 1) = ((j + 1 : Nat) : Int) := by rw [wrap64] <;> omega
  rw [h1, h2, (wa_ok hw b).okB, hc, fits_small (by omega), h3]
  rfl
theorem size_extract (s : ByteArray) {a b : Nat} (h : b ≤ s.size) : (s.extract a b).size = b - a := by
  rw [ByteArray.size_extract]; omega
theorem loop3 (w : Wd) (hw : w.Ok) (hs : w.inp.size ≤ 4000) (h0 : 0 ≤ w.at_) (h1 : w.at_ ≤ (w.inp.size : Int)) (hc : (chk w != 0) = false) (k : Nat) :
    ∀ (n a j : Nat), w.at_.toNat + j ≤ a → a ≤ w.inp.size → w.inp.size - a < n →
      loopAt sys27 3 Try.f3 0 k [1,1,1,0,1,0] [] n (st3 (wa w a) (w.inp.extract w.at_.toNat w.inp.size) (w.inp.extract w.at_.toNat a) (j : Int)) = boolR true
  | 0, a, j, _, _, h => by omega
  | n + 1, a, j, ha0, ha, h => by
    have hl : w.inp.data.toList.length = w.inp.size := by simp
    have hca : ∀ b, b ≤ w.inp.size → (chk (wa w b) != 0) = false := fun b hb => by rw [chk_wa h0 h1 hb, hc]
    have hj : decide ((j : Int) ≤ ((wa w a).inp.size : Int)) = true := by rw [decide_eq_true_eq]; show (j : Int) ≤ (w.inp.size : Int); omega
    refine (loopAt_succ _ _ _ _ _ _ _ _ _).trans ((round3' _ _ _ _ _ _).trans ?_)
    rw [hj, (wa_ok hw a).okB]
    rcases Nat.lt_or_eq_of_le ha with hlt | rfl
    · rw [line_wa (hca a ha) hlt]
      have hge := end1_ge w a
      have hle := end1_le w ha
      by_cases he : end1 w a < w.inp.size
      · have hd : decide (end1 w a < w.inp.size) = true := by simpa using he
        have hn : next w a = end1 w a + 1 := by unfold next; rw [hd]; rfl
        have hgt : decide (IntKind.i64.wrap ((wa w (next w a)).at_ - (wa w a).at_) > ((w.inp.extract a (end1 w a)).size : Int)) = true := by
          rw [hn]
          have : (wa w (end1 w a + 1)).at_ - (wa w a).at_ = ((end1 w a + 1 - a : Nat) : Int) := by show ((end1 w a + 1 : Nat) : Int) - (a : Int) = _; omega
          rw [this, wrap64 (by omega) (by omega), size_extract _ hle, decide_eq_true_eq]; omega
        have hb : w.inp.data.toList[end1 w a]'(by omega) = 10 := by
          have hs' : stopN (w.inp.data.toList.drop a) < (w.inp.data.toList.drop a).length := by
            rw [List.length_drop]
            have : end1 w a = a + stopN (w.inp.data.toList.drop a) := rfl
            omega
          have := stopN_at _ hs'
          rw [List.getElem_drop] at this
          exact eq_of_beq this
        have hx : w.inp.extract a (end1 w a) ++ nl = w.inp.extract a (end1 w a + 1) := by
          rw [← extract_one w.inp (end1 w a) (by omega) hb, extract_app _ hge (by omega)]
        have hnl : nl.size = 1 := rfl
        have ih := loop3 w hw hs h0 h1 hc k n (end1 w a + 1) (j + 1) (by omega) (by omega) (by omega)
        show (bif decide (IntKind.i64.wrap ((wa w (next w a)).at_ - (wa w a).at_) > ((w.inp.extract a (end1 w a)).size : Int)) then (bif fitsMax (w.inp.extract a (end1 w a)) nl then tail3 (wa w a) (wa w (next w a)) (w.inp.extract a (end1 w a) ++ nl) _ _ _ _ else none) else _) = _
        rw [hgt, fits_small (by rw [size_extract _ hle, hnl]; omega), hx, hn]
        refine Eq.trans (tail3_eq hw (by omega) (by omega) (hca _ (by omega)) _ _ _ (size_extract _ (by omega)) (by rw [size_extract _ ha]; omega) (by omega) _) ?_
        rw [extract_app _ (by omega) (by omega)]
        exact ih
      · have hd : decide (end1 w a < w.inp.size) = false := by simpa using he
        have hn : next w a = end1 w a := by unfold next; rw [hd]; rfl
        have hgt : decide (IntKind.i64.wrap ((wa w (next w a)).at_ - (wa w a).at_) > ((w.inp.extract a (end1 w a)).size : Int)) = false := by
          rw [hn]
          have : (wa w (end1 w a)).at_ - (wa w a).at_ = ((end1 w a - a : Nat) : Int) := by show ((end1 w a : Nat) : Int) - (a : Int) = _; omega
          rw [this, wrap64 (by omega) (by omega), size_extract _ hle, decide_eq_false_iff_not]; omega
        have ih := loop3 w hw hs h0 h1 hc k n (end1 w a) (j + 1) (by omega) (by omega) (by omega)
        show (bif decide (IntKind.i64.wrap ((wa w (next w a)).at_ - (wa w a).at_) > ((w.inp.extract a (end1 w a)).size : Int)) then _ else tail3 (wa w a) (wa w (next w a)) (w.inp.extract a (end1 w a)) _ _ _ _) = _
        rw [hgt, hn]
        refine Eq.trans (tail3_eq hw (by omega) (by omega) (hca _ (by omega)) _ _ _ (size_extract _ (by omega)) (by rw [size_extract _ ha]; omega) (by omega) _) ?_
        rw [extract_app _ (by omega) (by omega)]
        exact ih
    · have hle := line_end (hca _ (Nat.le_refl _))
      rw [hle]
      show end3 _ _ _ = _
      unfold end3
      rw [ba_beq]
      have hz : ((wa w w.inp.size).at_ == ((wa w w.inp.size).inp.size : Int)) = true := by
        rw [beq_iff_eq]; rfl
      rw [hz]
      simp
theorem pick3 (w : Wd) (hw : w.Ok) (L : Option Res) (hL : w.inp.size ≤ 4000 → (chk w != 0) = false → L = boolR true) :
    (bif w.okB (w.kd.tag 42) then (bif large w then boolR true else bif decide ((w.inp.size : Int) > 4000) then boolR true else bif w.okB (w.kd.tag 42) then (bif chk w != 0 then boolR true else
   bif decide (0 ≤ w.at_) && decide (w.at_ ≤ (w.inp.size : Int)) then L else none) else none) else none) = boolR true := by
  rw [hw.okB]
  cases large w with
  | true => rfl
  | false => cases hd : decide ((w.inp.size : Int) > 4000) with
    | true => rfl
    | false => cases hc : chk w != 0 with
      | true => rfl
      | false =>
        obtain ⟨h0, h1⟩ := chk_at hc
        have hs : w.inp.size ≤ 4000 := by rw [decide_eq_false_iff_not] at hd; omega
        have hr : (decide (0 ≤ w.at_) && decide (w.at_ ≤ (w.inp.size : Int))) = true := by simp [h0, h1]
        rw [hr, hL hs hc]
        rfl
theorem law3_true (w : Wd) (hw : w.Ok) : ∃ k, ev sys27 k 3 [w.av] [] = boolR true := by
  refine ⟨w.inp.size + 1 + 1, (start3 w _).trans (pick3 w hw _ fun hs hc => ?_)⟩
  obtain ⟨h0, h1⟩ := chk_at hc
  have hl := loop3 w hw hs h0 h1 hc (w.inp.size + 1) (w.inp.size + 1) w.at_.toNat 0 (by omega) (by omega) (by omega)
  have e1 : wa w w.at_.toNat = w := by
    unfold wa
    have : ((w.at_.toNat : Nat) : Int) = w.at_ := by omega
    rw [this]
  have e2 : w.inp.extract w.at_.toNat w.at_.toNat = .empty := by
    apply ext_list
    rw [extract_list, Nat.sub_self]
    rfl
  rw [e1, e2] at hl
  exact hl
end Go.Proofs.Ytmcgeohnmncinaa.W
namespace Go.Proofs.Ytmcgeohnmncinaa.W
open Go.Fw
set_option maxRecDepth 100000
theorem tabOk : TabOk Try.prog tab := tab_ok (by kernel_rfl)
theorem bodyOk : fns.all (bodyB Try.prog ann) = true := by kernel_rfl
theorem prim_ok (f : FuncId) (args : List AV) (st : List AObj) (r : AV) (st' : List AObj) (h : sys.prim f args st = some (some (true, r, st'))) :
    CF Try.prog sys.T f args st (sys.ann f).mvs r st' ∧ (sys.ann f).res.ok r = true ∧ OS.okL (sys.ann f).objs st' = true ∧ st.length ≤ st'.length := by
  change prim f args st = _ at h
  unfold prim at h
  cases hf : Nat.beq f 62 with
  | false => rw [hf] at h; cases h
  | true =>
    obtain rfl := Nat.eq_of_beq_eq_true hf
    simp only [cond_true, Nat.beq_refl] at h
    split at h
    · rename_i s c
      split at h
      · cases h
        exact ⟨CF_indexByte (fn := Try.f62) Try.func62 (by kernel_rfl) (by kernel_rfl) (by kernel_rfl) (by kernel_rfl) s c [] _, by kernel_rfl, by kernel_rfl, Nat.le_refl _⟩
      · cases h
    · cases h
theorem sysOk : SysOk Try.prog sys where
  mixed := by kernel_rfl
  tab := tabOk
  body := fun f fn h => body_ok bodyOk f fn h
  prim := prim_ok
theorem sysOk27 : SysOk Try.prog sys27 :=
  (((((((((((((((((((((((((((sysOk.tell 30 F30 told30).tell 50 F50 told50).tell 61 F61 told61).tell 49 F49 told49).tell 41 F41 told41).tell 34 _ (told1 ev34)).tell 35 _ (told1 ev35)).tell 31 F31 told31).tell 11 _ (toldW ev11)).tell 17 _ (toldW ev17)).tell 42 F42 told42).tell 32 _ (toldW ev32)).tell 51 _ (toldN evn51)).tell 43 _ (toldN evn43)).tell 33 _ (toldN evn33)).tell 13 _ (toldW evw13)).tell 23 _ (toldW evw23)).tell 22 _ (toldW evw22)).tell 20 _ (toldW evw20)).tell 21 _ (toldW evw21)).tell 14 _ (toldWT evw14)).tell 15 _ (toldWT evw15)).tell 36 F36 told36).tell 18 _ (toldWW evw18)).tell 16 _ (toldWW evw16)).tell 10 _ (toldW evw10)).tell 19 _ (toldW evw19)).tell 12 F12 told12

theorem own : ownKnob Try.prog.godebug = none := by kernel_rfl
theorem laidOut : laidOutB Try.prog = true := by kernel_rfl
theorem plain : plainT tab [24, 9, 3, 22, 42] = true := by kernel_rfl

/-! ### What is read of the arguments -/
theorem cts24 : cts tab 24 = [.str, .int .i64, .str, .sl 42] := by kernel_rfl
theorem cts42 : cts tab 42 = [.str, .str] := by kernel_rfl
theorem cts9 : cts tab 9 = [.str] := by kernel_rfl
theorem bytes42 : bytesT tab 42 = 32 := by kernel_rfl
theorem str_cell {av : AV} (h : CT.ok .str av = true) : ∃ s, av = .k (.string s) := by
  unfold CT.ok at h
  split at h <;> first | (cases h; done) | (rename_i e1 e2; cases e1; done) | skip
  all_goals first | exact ⟨_, rfl⟩ | (rename_i e1; cases e1)
theorem fine_str {s : ByteArray} (h : Fine tab (.k (.string s))) : textC s = true := by
  cases h with
  | str _ h => exact decide_eq_true h

theorem int_cell {k : IntKind} {av : AV} (h : CT.ok (.int k) av = true) : ∃ n, av = .k (.int k n) := by
  cases av with
  | k v =>
    cases v with
    | int j n =>
      have : j = k := of_decide_eq_true h
      subst this
      exact ⟨n, rfl⟩
    | _ => cases h
  | _ => cases h
theorem row_two {c d : CT} {row : List AV} (h : rowOk [c, d] row = true) : ∃ a b, row = [a, b] ∧ c.ok a = true ∧ d.ok b = true := by
  match row, h with
  | [a, b], h =>
    simp only [rowOk, Bool.and_eq_true] at h
    exact ⟨a, b, rfl, h.1, h.2.1⟩
  | [], h => cases h
  | [_], h => simp [rowOk] at h
  | _ :: _ :: _ :: _, h => simp [rowOk] at h
theorem sl_cell {av : AV} (h : CT.ok (.sl 42) av = true) (hf : Fine tab av) : ∃ kd rows, av = .sl (kd.tag 42) kd rows ∧ (kd = SK.wide ∨ kd = SK.nil ∧ rows = []) ∧ rows.length * 32 ≤ reachBytes ∧ ∀ r ∈ rows, rowFits r = true := by
  cases hf with
  | sl t rows h1 h2 h3 h4 =>
    obtain rfl : t = 42 := Nat.eq_of_beq_eq_true h
    refine ⟨.wide, rows, rfl, .inl rfl, by rw [bytes42] at h1; exact h1, fun r hr => ?_⟩
    have h5 := h3 r hr
    rw [cts42] at h5
    obtain ⟨a, b, rfl, ha, hb⟩ := row_two h5
    obtain ⟨s, rfl⟩ := str_cell ha
    obtain ⟨t, rfl⟩ := str_cell hb
    have e1 := fine_str (h4 _ hr (.k (.string s)) (by simp))
    have e2 := fine_str (h4 _ hr (.k (.string t)) (by simp))
    show (textC s && textC t) = true
    rw [e1, e2]; rfl
  | nil => exact ⟨.nil, [], rfl, .inr ⟨rfl, rfl⟩, Nat.zero_le _, fun r hr => by cases hr⟩
  | int => cases h
  | bool => cases h
  | str => cases h
theorem row_four {a b c d : CT} {row : List AV} (h : rowOk [a, b, c, d] row = true) : ∃ w x y z, row = [w, x, y, z] ∧ a.ok w = true ∧ b.ok x = true ∧ c.ok y = true ∧ d.ok z = true := by
  match row, h with
  | [w, x, y, z], h =>
    simp only [rowOk, Bool.and_eq_true] at h
    exact ⟨w, x, y, z, rfl, h.1, h.2.1, h.2.2.1, h.2.2.2.1⟩
  | [], h => cases h
  | [_], h => simp [rowOk] at h
  | [_, _], h => simp [rowOk] at h
  | [_, _, _], h => simp [rowOk] at h
  | _ :: _ :: _ :: _ :: _ :: _, h => simp [rowOk] at h
theorem agg24 : ∃ ti, tab 24 = some ti ∧ ti.isAgg = true := ⟨_, rfl, by kernel_rfl⟩
theorem agg9 : ∃ ti, tab 9 = some ti ∧ ti.isAgg = false := ⟨_, rfl, by kernel_rfl⟩
theorem arg24 {av : AV} (h : ArgOf tab 24 av) : ∃ w : Wd, av = w.av ∧ w.Ok := by
  obtain ⟨ti, h1, h2⟩ := agg24
  unfold ArgOf at h
  rw [h1] at h
  simp only [h2] at h
  obtain ⟨avs, rfl, hr, hf⟩ := h
  rw [cts24] at hr
  obtain ⟨a, b, c, d, rfl, ha, hb, hc, hd⟩ := row_four hr
  obtain ⟨s, rfl⟩ := str_cell ha
  obtain ⟨n, rfl⟩ := int_cell hb
  obtain ⟨t, rfl⟩ := str_cell hc
  obtain ⟨kd, rows, rfl, hk, hl, hfit⟩ := sl_cell hd (hf _ (by simp))
  exact ⟨⟨s, n, t, kd, rows⟩, rfl, hk, hl, fine_str (hf _ (by simp)), fine_str (hf (.k (.string t)) (by simp)), hfit⟩
theorem arg9 {av : AV} (h : ArgOf tab 9 av) : ∃ s : ByteArray, av = .k (.string s) ∧ textC s = true := by
  obtain ⟨ti, h1, h2⟩ := agg9
  unfold ArgOf at h
  rw [h1] at h
  simp only [h2] at h
  obtain ⟨hr, hf⟩ := h
  rw [cts9] at hr
  simp only [rowOk, Bool.and_eq_true] at hr
  obtain ⟨s, rfl⟩ := str_cell hr.1
  exact ⟨s, rfl, fine_str hf⟩
theorem args_one {t : Nat} {avs : List AV} (h : Args tab [t] avs) : ∃ a, avs = [a] ∧ ArgOf tab t a := by
  match avs, h with
  | [a], h => exact ⟨a, rfl, h.1⟩
theorem args_two {t u : Nat} {avs : List AV} (h : Args tab [t, u] avs) : ∃ a b, avs = [a, b] ∧ ArgOf tab t a ∧ ArgOf tab u b := by
  match avs, h with
  | [a, b], h => exact ⟨a, b, rfl, h.1, h.2.1⟩
theorem pure3 (avs : List AV) (h : Args tab [24] avs) : ∃ k, ev sys27 k 3 avs [] = some (.k (.bool true), []) := by
  obtain ⟨a, rfl, ha⟩ := args_one h
  obtain ⟨w, rfl, hw⟩ := arg24 ha
  exact law3_true w hw
theorem pure4 (avs : List AV) (h : Args tab [24, 9] avs) : ∃ k, ev sys27 k 4 avs [] = some (.k (.bool true), []) := by
  obtain ⟨a, b, rfl, ha, hb⟩ := args_two h
  obtain ⟨w, rfl, hw⟩ := arg24 ha
  obtain ⟨s, rfl, hs⟩ := arg9 hb
  exact ⟨_, law4_true w s hw hs⟩
theorem pure5 (avs : List AV) (h : Args tab [24, 24] avs) : ∃ k, ev sys27 k 5 avs [] = some (.k (.bool true), []) := by
  obtain ⟨a, b, rfl, ha, hb⟩ := args_two h
  obtain ⟨v, rfl, hv⟩ := arg24 ha
  obtain ⟨w, rfl, hw⟩ := arg24 hb
  exact ⟨_, law5_true v w hv hw⟩
theorem pure6 (avs : List AV) (h : Args tab [24] avs) : ∃ k, ev sys27 k 6 avs [] = some (.k (.bool true), []) := by
  obtain ⟨a, rfl, ha⟩ := args_one h
  obtain ⟨w, rfl, hw⟩ := arg24 ha
  exact ⟨_, law6_true w hw⟩
def wz : Value := .agg #[.string ByteArray.empty, .int .i64 0, .string ByteArray.empty, .slice none 0 0]
end Go.Proofs.Ytmcgeohnmncinaa.W
