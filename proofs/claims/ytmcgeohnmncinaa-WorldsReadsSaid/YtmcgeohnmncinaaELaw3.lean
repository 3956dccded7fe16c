/- A part of the proofs over the laws of layer 8 (worlds): what its functions come to. No conditions. -/
import Derived.Test.YtmcgeohnmncinaaELaw
set_option linter.all false
namespace Go.Proofs.Ytmcgeohnmncinaa.W
open Go.Fw
set_option maxRecDepth 100000
def st3 (w : Wd) (s t : ByteArray) (j : Int) : St := ⟨tm 91 [(1, .ptr 0 0), (3, .k (.string s)), (4, .k (.string t)), (5, .k (.int .i64 j))], [boxW w], []⟩
def end3 (w : Wd) (s t : ByteArray) : Option Res := bif t == s then (bif w.at_ == (w.inp.size : Int) then boolR true else boolR false) else boolR false
def fitsMax (a b : ByteArray) : Bool := Nat.ble (a.size + b.size) 9223372036854775807
def tail3 (w x : Wd) (l s t : ByteArray) (j : Int) (R : St → Option Res) : Option Res :=
  bif decide (x.at_ ≤ w.at_) then boolR false else bif IntKind.i64.wrap (x.at_ - w.at_) != (l.size : Int) then boolR false else
  bif x.okB (x.kd.tag 42) then (bif chk x != 0 then boolR false else bif fitsMax t l then R (st3 x s (t ++ l) (IntKind.i64.wrap (j + 1))) else none) else none
theorem round3 (w : Wd) (s t : ByteArray) (j : Int) (k : Nat) (R : St → Option Res) : roundAt sys27 3 Try.f3 0 k [1,1,1,0,1,0] [] R ⟨tm 91 [(1, .ptr 0 0), (3, .k (.string s)), (4, .k (.string t)), (5, .k (.int .i64 j))], [.box 24 [.k (.string w.inp), .k (.int .i64 w.at_), .k (.string w.out), .sl (w.kd.tag 42) w.kd w.rows]], []⟩ =
  bif decide (j ≤ (w.inp.size : Int)) then (bif w.okB (w.kd.tag 42) then (bif !(line w).2.1 then end3 w s t else
    bif decide (IntKind.i64.wrap ((line w).2.2.at_ - w.at_) > ((line w).1.size : Int)) then (bif fitsMax (line w).1 nl then tail3 w (line w).2.2 ((line w).1 ++ nl) s t j R else none) else tail3 w (line w).2.2 (line w).1 s t j R) else none) else end3 w s t := by kernel_rfl
theorem start3 (w : Wd) (k : Nat) : ev sys27 (k + 1) 3 [w.av] [] =
  bif w.okB (w.kd.tag 42) then (bif large w then boolR true else bif decide ((w.inp.size : Int) > 4000) then boolR true else bif w.okB (w.kd.tag 42) then (bif chk w != 0 then boolR true else
   bif decide (0 ≤ w.at_) && decide (w.at_ ≤ (w.inp.size : Int)) then loopAt sys27 3 Try.f3 0 k [1,1,1,0,1,0] [] k (st3 w (w.inp.extract w.at_.toNat w.inp.size) .empty 0) else none) else none) else none := by kernel_rfl

theorem ext_list {s t : ByteArray} (h : s.data.toList = t.data.toList) : s = t := ByteArray.ext (Array.toList_inj.1 h)
theorem extract_list (s : ByteArray) (a b : Nat) : (s.extract a b).data.toList = (s.data.toList.drop a).take (b - a) := by
  rw [ByteArray.data_extract, Array.toList_extract, List.extract_eq_take_drop]
theorem append_list (s t : ByteArray) : (s ++ t).data.toList = s.data.toList ++ t.data.toList := by
  rw [ByteArray.data_append, Array.toList_append]
theorem extract_app (s : ByteArray) {a b c : Nat} (h1 : a ≤ b) (h2 : b ≤ c) : s.extract a b ++ s.extract b c = s.extract a c := by
  apply ext_list
  rw [append_list, extract_list, extract_list, extract_list]
  have e : c - a = (b - a) + (c - b) := by omega
  rw [e, List.take_add, List.drop_drop]
  congr 3
  omega
theorem extract_one (s : ByteArray) (e : Nat) (h : e < s.data.toList.length) (hb : s.data.toList[e] = 10) : s.extract e (e + 1) = nl := by
  apply ext_list
  rw [extract_list, List.drop_eq_getElem_cons h, hb]
  have : e + 1 - e = 1 := by omega
  rw [this]
  rfl
def wa (w : Wd) (a : Nat) : Wd := { w with at_ := (a : Int) }
theorem wa_ok {w : Wd} (hw : w.Ok) (a : Nat) : (wa w a).Ok := ⟨hw.kd, hw.len, hw.inp, hw.out, hw.rows⟩
theorem chk_wa {w : Wd} (h0 : 0 ≤ w.at_) (h1 : w.at_ ≤ (w.inp.size : Int)) {a : Nat} (ha : a ≤ w.inp.size) : chk (wa w a) = chk w := by
  unfold chk wa
  have e1 : decide (w.at_ < 0) = false := by rw [decide_eq_false_iff_not]; omega
  have e2 : decide (w.at_ > (w.inp.size : Int)) = false := by rw [decide_eq_false_iff_not]; omega
  have e3 : decide ((a : Int) < 0) = false := by rw [decide_eq_false_iff_not]; omega
  have e4 : decide ((a : Int) > (w.inp.size : Int)) = false := by rw [decide_eq_false_iff_not]; omega
  simp only [e1, e2, e3, e4]
def end1 (w : Wd) (a : Nat) : Nat := endL (wa w a)
def next (w : Wd) (a : Nat) : Nat := bif decide (end1 w a < w.inp.size) then end1 w a + 1 else end1 w a
theorem end1_ge (w : Wd) (a : Nat) : a ≤ end1 w a := by
  have : end1 w a = a + stopN (w.inp.data.toList.drop a) := rfl
  omega
theorem end1_le (w : Wd) {a : Nat} (h : a ≤ w.inp.size) : end1 w a ≤ w.inp.size := endL_le (wa w a) (by show (a : Int) ≤ (w.inp.size : Int); omega)
theorem line_wa {w : Wd} {a : Nat} (hc : (chk (wa w a) != 0) = false) (ha : a < w.inp.size) : line (wa w a) = (w.inp.extract a (end1 w a), true, wa w (next w a)) := by
  unfold line
  rw [hc]
  have hz : ((wa w a).at_ == ((wa w a).inp.size : Int)) = false := by
    rw [beq_eq_false_iff_ne]
    show (a : Int) ≠ (w.inp.size : Int)
    omega
  rw [hz]
  have h1 : (wa w a).at_.toNat = a := rfl
  rw [h1]
  have key : (bif decide (end1 w a < w.inp.size) then ((end1 w a + 1 : Nat) : Int) else (end1 w a : Int)) = (next w a : Int) := by
    unfold next
    cases decide (end1 w a < w.inp.size) <;> rfl
  show (w.inp.extract a (end1 w a), true, ({ wa w a with at_ := bif decide (end1 w a < w.inp.size) then ((end1 w a + 1 : Nat) : Int) else (end1 w a : Int) } : Wd)) = _
  rw [key]
  rfl
theorem line_end {w : Wd} (hc : (chk (wa w w.inp.size) != 0) = false) : (line (wa w w.inp.size)).2.1 = false := by
  unfold line
  rw [hc]
  have hz : ((wa w w.inp.size).at_ == ((wa w w.inp.size).inp.size : Int)) = true := by
    rw [beq_iff_eq]; rfl
  rw [hz]
  rfl
theorem round3' (w : Wd) (s t : ByteArray) (j : Int) (k : Nat) (R : St → Option Res) : roundAt sys27 3 Try.f3 0 k [1,1,1,0,1,0] [] R (st3 w s t j) =
  bif decide (j ≤ (w.inp.size : Int)) then (bif w.okB (w.kd.tag 42) then (bif !(line w).2.1 then end3 w s t else
    bif decide (IntKind.i64.wrap ((line w).2.2.at_ - w.at_) > ((line w).1.size : Int)) then (bif fitsMax (line w).1 nl then tail3 w (line w).2.2 ((line w).1 ++ nl) s t j R else none) else tail3 w (line w).2.2 (line w).1 s t j R) else none) else end3 w s t := round3 w s t j k R
theorem fits_small {a b : ByteArray} (h : a.size + b.size ≤ 9000) : fitsMax a b = true := by
  unfold fitsMax
  rw [Nat.ble_eq]; omega
theorem tail3_eq {w : Wd} (hw : w.Ok) {a b : Nat} (hab : a < b) (hb : b ≤ 4000) (hc : (chk (wa w b) != 0) = false) (l s t : ByteArray) (hl : l.size = b - a) (ht : t.size ≤ 4000) {j : Nat} (hj : j ≤ 4000) (R : St → Option Res) :
    tail3 (wa w a) (wa w b) l s t (j : Int) R = R (st3 (wa w b) s (t ++ l) ((j + 1 : Nat) : Int)) := by
  unfold tail3
  have h1 : decide ((wa w b).at_ ≤ (wa w a).at_) = false := by rw [decide_eq_false_iff_not]; show ¬ ((b : Int) ≤ (a : Int)); omega
  have h2 : (IntKind.i64.wrap ((wa w b).at_ - (wa w a).at_) != (l.size : Int)) = false := by
    have : (wa w b).at_ - (wa w a).at_ = ((b - a : Nat) : Int) := by show (b : Int) - (a : Int) = _; omega
    rw [this, hl, wrap64 (by omega) (by omega)]
    simp
  have h3 : IntKind.i64.wrap ((j : Int) + 1) = ((j + 1 : Nat) : Int) := by rw [wrap64] <;> omega
  rw [h1, h2, (wa_ok hw b).okB, hc, fits_small (by omega), h3]
  rfl
theorem size_extract (s : ByteArray) {a b : Nat} (h : b ≤ s.size) : (s.extract a b).size = b - a := by
  rw [ByteArray.size_extract]; omega
theorem loop3 (w : Wd) (hw : w.Ok) (hs : w.inp.size ≤ 4000) (h0 : 0 ≤ w.at_) (h1 : w.at_ ≤ (w.inp.size : Int)) (hc : (chk w != 0) = false) (k : Nat) :
    ∀ (n a j : Nat), w.at_.toNat + j ≤ a → a ≤ w.inp.size → w.inp.size - a < n →
      loopAt sys27 3 Try.f3 0 k [1,1,1,0,1,0] [] n (st3 (wa w a) (w.inp.extract w.at_.toNat w.inp.size) (w.inp.extract w.at_.toNat a) (j : Int)) = boolR true
  | 0, a, j, _, _, h => by omega
  | n + 1, a, j, ha0, ha, h => by
    have hl : w.inp.data.toList.length = w.inp.size := by simp
    have hca : ∀ b, b ≤ w.inp.size → (chk (wa w b) != 0) = false := fun b hb => by rw [chk_wa h0 h1 hb, hc]
    have hj : decide ((j : Int) ≤ ((wa w a).inp.size : Int)) = true := by rw [decide_eq_true_eq]; show (j : Int) ≤ (w.inp.size : Int); omega
    refine (loopAt_succ _ _ _ _ _ _ _ _ _).trans ((round3' _ _ _ _ _ _).trans ?_)
    rw [hj, (wa_ok hw a).okB]
    rcases Nat.lt_or_eq_of_le ha with hlt | rfl
    · rw [line_wa (hca a ha) hlt]
      have hge := end1_ge w a
      have hle := end1_le w ha
      by_cases he : end1 w a < w.inp.size
      · have hd : decide (end1 w a < w.inp.size) = true := by simpa using he
        have hn : next w a = end1 w a + 1 := by unfold next; rw [hd]; rfl
        have hgt : decide (IntKind.i64.wrap ((wa w (next w a)).at_ - (wa w a).at_) > ((w.inp.extract a (end1 w a)).size : Int)) = true := by
          rw [hn]
          have : (wa w (end1 w a + 1)).at_ - (wa w a).at_ = ((end1 w a + 1 - a : Nat) : Int) := by show ((end1 w a + 1 : Nat) : Int) - (a : Int) = _; omega
          rw [this, wrap64 (by omega) (by omega), size_extract _ hle, decide_eq_true_eq]; omega
        have hb : w.inp.data.toList[end1 w a]'(by omega) = 10 := by
          have hs' : stopN (w.inp.data.toList.drop a) < (w.inp.data.toList.drop a).length := by
            rw [List.length_drop]
            have : end1 w a = a + stopN (w.inp.data.toList.drop a) := rfl
            omega
          have := stopN_at _ hs'
          rw [List.getElem_drop] at this
          exact eq_of_beq this
        have hx : w.inp.extract a (end1 w a) ++ nl = w.inp.extract a (end1 w a + 1) := by
          rw [← extract_one w.inp (end1 w a) (by omega) hb, extract_app _ hge (by omega)]
        have hnl : nl.size = 1 := rfl
        have ih := loop3 w hw hs h0 h1 hc k n (end1 w a + 1) (j + 1) (by omega) (by omega) (by omega)
        show (bif decide (IntKind.i64.wrap ((wa w (next w a)).at_ - (wa w a).at_) > ((w.inp.extract a (end1 w a)).size : Int)) then (bif fitsMax (w.inp.extract a (end1 w a)) nl then tail3 (wa w a) (wa w (next w a)) (w.inp.extract a (end1 w a) ++ nl) _ _ _ _ else none) else _) = _
        rw [hgt, fits_small (by rw [size_extract _ hle, hnl]; omega), hx, hn]
        refine Eq.trans (tail3_eq hw (by omega) (by omega) (hca _ (by omega)) _ _ _ (size_extract _ (by omega)) (by rw [size_extract _ ha]; omega) (by omega) _) ?_
        rw [extract_app _ (by omega) (by omega)]
        exact ih
      · have hd : decide (end1 w a < w.inp.size) = false := by simpa using he
        have hn : next w a = end1 w a := by unfold next; rw [hd]; rfl
        have hgt : decide (IntKind.i64.wrap ((wa w (next w a)).at_ - (wa w a).at_) > ((w.inp.extract a (end1 w a)).size : Int)) = false := by
          rw [hn]
          have : (wa w (end1 w a)).at_ - (wa w a).at_ = ((end1 w a - a : Nat) : Int) := by show ((end1 w a : Nat) : Int) - (a : Int) = _; omega
          rw [this, wrap64 (by omega) (by omega), size_extract _ hle, decide_eq_false_iff_not]; omega
        have ih := loop3 w hw hs h0 h1 hc k n (end1 w a) (j + 1) (by omega) (by omega) (by omega)
        show (bif decide (IntKind.i64.wrap ((wa w (next w a)).at_ - (wa w a).at_) > ((w.inp.extract a (end1 w a)).size : Int)) then _ else tail3 (wa w a) (wa w (next w a)) (w.inp.extract a (end1 w a)) _ _ _ _) = _
        rw [hgt, hn]
        refine Eq.trans (tail3_eq hw (by omega) (by omega) (hca _ (by omega)) _ _ _ (size_extract _ (by omega)) (by rw [size_extract _ ha]; omega) (by omega) _) ?_
        rw [extract_app _ (by omega) (by omega)]
        exact ih
    · have hle := line_end (hca _ (Nat.le_refl _))
      rw [hle]
      show end3 _ _ _ = _
      unfold end3
      rw [ba_beq]
      have hz : ((wa w w.inp.size).at_ == ((wa w w.inp.size).inp.size : Int)) = true := by
        rw [beq_iff_eq]; rfl
      rw [hz]
      simp
theorem pick3 (w : Wd) (hw : w.Ok) (L : Option Res) (hL : w.inp.size ≤ 4000 → (chk w != 0) = false → L = boolR true) :
    (bif w.okB (w.kd.tag 42) then (bif large w then boolR true else bif decide ((w.inp.size : Int) > 4000) then boolR true else bif w.okB (w.kd.tag 42) then (bif chk w != 0 then boolR true else
   bif decide (0 ≤ w.at_) && decide (w.at_ ≤ (w.inp.size : Int)) then L else none) else none) else none) = boolR true := by
  rw [hw.okB]
  cases large w with
  | true => rfl
  | false => cases hd : decide ((w.inp.size : Int) > 4000) with
    | true => rfl
    | false => cases hc : chk w != 0 with
      | true => rfl
      | false =>
        obtain ⟨h0, h1⟩ := chk_at hc
        have hs : w.inp.size ≤ 4000 := by rw [decide_eq_false_iff_not] at hd; omega
        have hr : (decide (0 ≤ w.at_) && decide (w.at_ ≤ (w.inp.size : Int))) = true := by simp [h0, h1]
        rw [hr, hL hs hc]
        rfl
theorem law3_true (w : Wd) (hw : w.Ok) : ∃ k, ev sys27 k 3 [w.av] [] = boolR true := by
  refine ⟨w.inp.size + 1 + 1, (start3 w _).trans (pick3 w hw _ fun hs hc => ?_)⟩
  obtain ⟨h0, h1⟩ := chk_at hc
  have hl := loop3 w hw hs h0 h1 hc (w.inp.size + 1) (w.inp.size + 1) w.at_.toNat 0 (by omega) (by omega) (by omega)
  have e1 : wa w w.at_.toNat = w := by
    unfold wa
    have : ((w.at_.toNat : Nat) : Int) = w.at_ := by omega
    rw [this]
  have e2 : w.inp.extract w.at_.toNat w.at_.toNat = .empty := by
    apply ext_list
    rw [extract_list, Nat.sub_self]
    rfl
  rw [e1, e2] at hl
  exact hl
end Go.Proofs.Ytmcgeohnmncinaa.W
