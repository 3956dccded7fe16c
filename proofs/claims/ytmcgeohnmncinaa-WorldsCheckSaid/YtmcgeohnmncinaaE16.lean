/- A part of the proofs over the laws of layer 8 (worlds): what its functions come to. No conditions. -/
import Derived.Test.YtmcgeohnmncinaaE14
set_option linter.all false
namespace Go.Proofs.Ytmcgeohnmncinaa.W
open Go.Fw
set_option maxRecDepth 100000
/-! ### Same of the reference -/
def boxW (w : Wd) : AObj := .box 24 [.k (.string w.inp), .k (.int .i64 w.at_), .k (.string w.out), .sl (w.kd.tag 42) w.kd w.rows]
def σ16 (v w : Wd) (i : Nat) : St := ⟨tm 52 [(2, .ptr 0 0), (3, .ptr 1 0), (5, .k (.int .i64 (i : Int)))], [boxW v, boxW w], []⟩
theorem round16 (a p b q : ByteArray) (i i' : Int) (r s : List (List AV)) (j : Int) (k : Nat) (R : St → Option Res) : roundAt sys23 16 Try.f16 0 k [1,1,0,1,0] [] R ⟨tm 52 [(2, .ptr 0 0), (3, .ptr 1 0), (5, .k (.int .i64 j))], [boxW ⟨a, i, p, .wide, r⟩, boxW ⟨b, i', q, .wide, s⟩], []⟩ =
  bif decide (j < ↑r.length) then (bif decide (0 ≤ j) && decide (j < ↑r.length) then (bif decide (0 ≤ j) && decide (j < ↑s.length) then (bif !eqRow (r.getD j.toNat []) (s.getD j.toNat []) then boolR false else R ⟨tm 52 [(2, .ptr 0 0), (3, .ptr 1 0), (5, .k (.int .i64 (IntKind.i64.wrap (j + 1))))], [boxW ⟨a, i, p, .wide, r⟩, boxW ⟨b, i', q, .wide, s⟩], []⟩) else none) else none) else boolR true := by kernel_rfl
def head16 (v w : Wd) (X : Option Res) : Option Res :=
  bif !(v.inp == w.inp) then boolR false else bif v.at_ != w.at_ then boolR false else bif !(v.out == w.out) then boolR false else bif (v.rows.length : Int) != (w.rows.length : Int) then boolR false else X
theorem start16 (a p b q : ByteArray) (i i' : Int) (r s : List (List AV)) (k : Nat) : ev sys23 (k + 1) 16 [Wd.av ⟨a, i, p, .wide, r⟩, Wd.av ⟨b, i', q, .wide, s⟩] [] = head16 ⟨a, i, p, .wide, r⟩ ⟨b, i', q, .wide, s⟩ (loopAt sys23 16 Try.f16 0 k [1,1,0,1,0] [] k (σ16 ⟨a, i, p, .wide, r⟩ ⟨b, i', q, .wide, s⟩ 0)) := by kernel_rfl
theorem start16n (a p b q : ByteArray) (i i' : Int) (s : List (List AV)) (k : Nat) : ev sys23 (k + 2) 16 [Wd.av ⟨a, i, p, .nil, []⟩, Wd.av ⟨b, i', q, .wide, s⟩] [] = head16 ⟨a, i, p, .nil, []⟩ ⟨b, i', q, .wide, s⟩ (boolR true) := by kernel_rfl
theorem start16m (a p b q : ByteArray) (i i' : Int) (x : List AV) (r : List (List AV)) (k : Nat) : ev sys23 (k + 2) 16 [Wd.av ⟨a, i, p, .wide, x :: r⟩, Wd.av ⟨b, i', q, .nil, []⟩] [] = head16 ⟨a, i, p, .wide, x :: r⟩ ⟨b, i', q, .nil, []⟩ (boolR true) := by kernel_rfl
theorem start16m0 (a p b q : ByteArray) (i i' : Int) (k : Nat) : ev sys23 (k + 2) 16 [Wd.av ⟨a, i, p, .wide, []⟩, Wd.av ⟨b, i', q, .nil, []⟩] [] = head16 ⟨a, i, p, .wide, []⟩ ⟨b, i', q, .nil, []⟩ (boolR true) := by kernel_rfl
theorem start16nn (a p b q : ByteArray) (i i' : Int) (k : Nat) : ev sys23 (k + 2) 16 [Wd.av ⟨a, i, p, .nil, []⟩, Wd.av ⟨b, i', q, .nil, []⟩] [] = head16 ⟨a, i, p, .nil, []⟩ ⟨b, i', q, .nil, []⟩ (boolR true) := by kernel_rfl
theorem loop16 (a p b q : ByteArray) (i0 i' : Int) (r s : List (List AV)) (h : r.length = s.length) (hl : r.length * 32 ≤ reachBytes) (k : Nat) (hk : r.length < k) : loopAt sys23 16 Try.f16 0 k [1,1,0,1,0] [] k (σ16 ⟨a, i0, p, .wide, r⟩ ⟨b, i', q, .wide, s⟩ 0) = boolR (eqRows r s) := by
  refine loop_up (σ16 ⟨a, i0, p, .wide, r⟩ ⟨b, i', q, .wide, s⟩) r.length (fun i => boolR (eqRows (r.drop i) (s.drop i))) ?_ ?_ k 0 (Nat.zero_le _) (by omega)
  · intro i hi R hR
    have hi' : i < s.length := by omega
    unfold σ16 at hR ⊢
    rw [round16, ltN hi, leN, ltN hi', rowAtL r i hi, rowAtL s i hi', wrapR hi hl, hR, List.drop_eq_getElem_cons hi, List.drop_eq_getElem_cons hi']
    simp only [eqRows]
    cases eqRow r[i] s[i] <;> rfl
  · intro R
    unfold σ16
    rw [round16, nltN, List.drop_length]
    rfl
theorem head16_same (v w : Wd) (X : Option Res) (hX : v.rows.length = w.rows.length → X = boolR (eqRows v.rows w.rows)) : head16 v w X = boolR (same v w) := by
  unfold head16 same eqF
  rw [len_ne, show (v.at_ != w.at_) = !(v.at_ == w.at_) from rfl]
  cases v.inp == w.inp <;> cases v.at_ == w.at_ <;> cases v.out == w.out <;> first | rfl | skip
  by_cases h : v.rows.length = w.rows.length
  · have hd : decide (v.rows.length = w.rows.length) = true := by simpa using h
    rw [hd, hX h]; rfl
  · have hd : decide (v.rows.length = w.rows.length) = false := by simpa using h
    rw [hd]; rfl
theorem evw16 (v w : Wd) (hv : v.Ok) (hw : w.Ok) : ∃ k, ev sys23 k 16 [v.av, w.av] [] = some (.k (.bool (same v w)), []) := by
  obtain ⟨a, i, p, kd, r⟩ := v
  obtain ⟨b, i', q, kd', s⟩ := w
  have hl := hv.len
  simp only at hl
  rcases hv.kd with h1 | ⟨h1, h2⟩ <;> rcases hw.kd with h3 | ⟨h3, h4⟩ <;> simp only at h1 h3 <;> subst h1 <;> subst h3
  · exact ⟨r.length + 1 + 1, (start16 a p b q i i' r s _).trans (head16_same _ _ _ fun h => loop16 a p b q i i' r s h hl _ (by omega))⟩
  · simp only at h4
    subst h4
    cases r with
    | nil => exact ⟨0 + 2, (start16m0 a p b q i i' 0).trans (head16_same _ _ _ fun _ => rfl)⟩
    | cons x r => exact ⟨0 + 2, (start16m a p b q i i' x r 0).trans (head16_same _ _ _ fun h => by cases h)⟩
  · simp only at h2
    subst h2
    exact ⟨0 + 2, (start16n a p b q i i' s 0).trans (head16_same _ _ _ fun _ => rfl)⟩
  · simp only at h2 h4
    subst h2; subst h4
    exact ⟨0 + 2, (start16nn a p b q i i' 0).trans (head16_same _ _ _ fun _ => rfl)⟩
noncomputable def sys24 : FSys := sys23.tell 16 (FWW fun v w => .k (.bool (same v w)))

/-! ### large -/
def acc (n : Int) (rows : List (List AV)) : Nat → Int
  | 0 => n
  | i + 1 => IntKind.i64.wrap (acc n rows i + IntKind.i64.wrap (((nm (rows.getD i [])).size : Int) + ((tx (rows.getD i [])).size : Int)))
def first (w : Wd) : Int := IntKind.i64.wrap (IntKind.i64.wrap ((w.inp.size : Int) + (w.out.size : Int)) + (w.rows.length : Int))
def large (w : Wd) : Bool := decide (acc (first w) w.rows (min w.rows.length 100) > 4194304) || decide ((w.rows.length : Int) > 100)
def σ10 (w : Wd) (i : Nat) : St := ⟨tm 52 [(1, .ptr 0 0), (3, .k (.int .i64 (acc (first w) w.rows i))), (4, .k (.int .i64 (i : Int)))], [boxW w], []⟩
def fin10 (n : Int) (rows : List (List AV)) : Option Res := bif decide (n > 4194304) then boolR true else boolR (decide ((rows.length : Int) > 100))
theorem round10 (a p : ByteArray) (i : Int) (r : List (List AV)) (n j : Int) (k : Nat) (R : St → Option Res) : roundAt sys24 10 Try.f10 0 k [1,1,0,1,0] [] R ⟨tm 52 [(1, .ptr 0 0), (3, .k (.int .i64 n)), (4, .k (.int .i64 j))], [boxW ⟨a, i, p, .wide, r⟩], []⟩ =
  bif decide (j < ↑r.length) then (bif decide (j < 100) then (bif decide (0 ≤ j) && decide (j < ↑r.length) then (bif decide (0 ≤ j) && decide (j < ↑r.length) then R ⟨tm 52 [(1, .ptr 0 0), (3, .k (.int .i64 (IntKind.i64.wrap (n + IntKind.i64.wrap (((nm (r.getD j.toNat [])).size : Int) + ((tx (r.getD j.toNat [])).size : Int)))))), (4, .k (.int .i64 (IntKind.i64.wrap (j + 1))))], [boxW ⟨a, i, p, .wide, r⟩], []⟩ else none) else none) else fin10 n r) else fin10 n r := by kernel_rfl
theorem start10 (a p : ByteArray) (i : Int) (r : List (List AV)) (k : Nat) : ev sys24 (k + 1) 10 [Wd.av ⟨a, i, p, .wide, r⟩] [] = loopAt sys24 10 Try.f10 0 k [1,1,0,1,0] [] k (σ10 ⟨a, i, p, .wide, r⟩ 0) := by kernel_rfl
theorem start10n (a p : ByteArray) (i : Int) (k : Nat) : ev sys24 (k + 2) 10 [Wd.av ⟨a, i, p, .nil, []⟩] [] = fin10 (first ⟨a, i, p, .nil, []⟩) [] := by kernel_rfl
theorem fin10_large (w : Wd) : fin10 (acc (first w) w.rows (min w.rows.length 100)) w.rows = boolR (large w) := by
  unfold fin10 large
  cases decide (acc (first w) w.rows (min w.rows.length 100) > 4194304) <;> rfl
theorem loop10 (a p : ByteArray) (i0 : Int) (r : List (List AV)) (hl : r.length * 32 ≤ reachBytes) (k : Nat) (hk : r.length < k) : loopAt sys24 10 Try.f10 0 k [1,1,0,1,0] [] k (σ10 ⟨a, i0, p, .wide, r⟩ 0) = fin10 (acc (first ⟨a, i0, p, .wide, r⟩) r (min r.length 100)) r := by
  refine loop_up (σ10 ⟨a, i0, p, .wide, r⟩) (min r.length 100) (fun _ => fin10 (acc (first ⟨a, i0, p, .wide, r⟩) r (min r.length 100)) r) ?_ ?_ k 0 (Nat.zero_le _) (by omega)
  · intro i hi R hR
    have hi1 : i < r.length := by omega
    have hi2 : decide ((i : Int) < 100) = true := by rw [decide_eq_true_eq]; omega
    unfold σ10 at hR ⊢
    simp only [acc] at hR
    rw [round10, ltN hi1, leN, hi2, wrapR hi1 hl, Int.toNat_natCast, hR]
    rfl
  · intro R
    unfold σ10
    rw [round10]
    by_cases h : r.length ≤ 100
    · have hm : min r.length 100 = r.length := by omega
      have hd : decide (((min r.length 100 : Nat) : Int) < (r.length : Int)) = false := by rw [decide_eq_false_iff_not]; omega
      rw [hd]; rfl
    · have hd : decide (((min r.length 100 : Nat) : Int) < 100) = false := by rw [decide_eq_false_iff_not]; omega
      rw [hd]
      simp only [cond_false]
      cases decide (((min r.length 100 : Nat) : Int) < (r.length : Int)) <;> rfl
theorem evw10 (w : Wd) (hw : w.Ok) : ∃ k, ev sys24 k 10 [w.av] [] = some (.k (.bool (large w)), []) := by
  have hf := fin10_large w
  obtain ⟨a, i, p, kd, r⟩ := w
  have hl := hw.len
  simp only at hl
  rcases hw.kd with h1 | ⟨h1, h2⟩
  · simp only at h1
    subst h1
    exact ⟨r.length + 1 + 1, (start10 a p i r _).trans ((loop10 a p i r hl _ (by omega)).trans hf)⟩
  · simp only at h1 h2
    subst h1; subst h2
    exact ⟨0 + 2, (start10n a p i 0).trans hf⟩
noncomputable def sys25 : FSys := sys24.tell 10 (FW fun w => .k (.bool (large w)))

/-! ### copied of the laws; awake -/
def copied (w : Wd) : Wd := { w with kd := .wide }
theorem ev19w (a p : ByteArray) (i : Int) (r : List (List AV)) (k : Nat) : ev sys25 (k + 1) 19 [Wd.av ⟨a, i, p, .wide, r⟩] [] = bif ((0 + r.length) * 32).ble (2 ^ 47) then some (Wd.av ⟨a, i, p, .wide, r⟩, []) else none := by kernel_rfl
theorem ev19n (a p : ByteArray) (i : Int) (k : Nat) : ev sys25 (k + 1) 19 [Wd.av ⟨a, i, p, .nil, []⟩] [] = some (Wd.av ⟨a, i, p, .wide, []⟩, []) := by kernel_rfl
theorem evw19 (w : Wd) (hw : w.Ok) : ∃ k, ev sys25 k 19 [w.av] [] = some ((copied w).av, []) := by
  obtain ⟨a, i, p, kd, r⟩ := w
  have hl := hw.len
  simp only at hl
  refine ⟨0 + 1, ?_⟩
  rcases hw.kd with h1 | ⟨h1, h2⟩
  · simp only at h1
    subst h1
    have : ((0 + r.length) * 32).ble (2 ^ 47) = true := by rw [Nat.ble_eq, Nat.zero_add]; unfold reachBytes at hl; omega
    rw [ev19w, this]; rfl
  · simp only at h1 h2
    subst h1; subst h2
    rw [ev19n]; rfl
noncomputable def sys26 : FSys := sys25.tell 19 (FW fun w => (copied w).av)
def F12 : List AV → List AObj → Ab Res
  | [], [] => some (true, .k (.bool true), [])
  | _, _ => none
theorem ev12 : ev sys26 (0 + 1) 12 [] [] = boolR true := by kernel_rfl
theorem told12 (args : List AV) (st : List AObj) (r : Res) (h : F12 args st = some (true, r)) : ∃ k, ev sys26 k 12 args st = some r := by
  unfold F12 at h
  split at h
  · cases h; exact ⟨_, ev12⟩
  · cases h
noncomputable def sys27 : FSys := sys26.tell 12 F12
end Go.Proofs.Ytmcgeohnmncinaa.W
