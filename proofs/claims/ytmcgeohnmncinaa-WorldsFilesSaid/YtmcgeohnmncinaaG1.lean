/- A part of the proofs over the laws of layer 8 (worlds): what its functions come to. No conditions. -/
import Derived.Test.YtmcgeohnmncinaaS
import Derived.Test.YtmcgeohnmncinaaFwZe
import Derived.KernelRfl
import Derived.Laws.RangeAny
set_option linter.all false
namespace Go.Proofs.Ytmcgeohnmncinaa.W
open Go.Fw
set_option maxRecDepth 100000
theorem round30 (s : ByteArray) (k n : Nat) (i : Int) (R : St → Option Res) : roundAt sys 30 Try.f30 0 k [1,0,1,0] [] R ⟨tm 27 [(6, .sl 5 .wide (bytesRows s)), (7, .k (.int .i64 n)), (8, .k (.int .i64 i))], [], []⟩ =
  bif decide (i < ↑n) then (bif decide (0 ≤ i) && decide (i < ↑(bytesRows s).length) then (bif (((bytesRows s).getD i.toNat []).getD 0 AV.undef).toI != 9 then (bif (((bytesRows s).getD i.toNat []).getD 0 AV.undef).toI != 10 then (bif decide ((((bytesRows s).getD i.toNat []).getD 0 AV.undef).toI < 32) then (some ((.k (.bool (false)), []))) else (bif decide ((((bytesRows s).getD i.toNat []).getD 0 AV.undef).toI > 126) then (some ((.k (.bool (false)), []))) else (R (⟨tm 27 [(6, .sl (5) (.wide) (bytesRows s)), (7, .k (.int (IntKind.i64) (↑n))), (8, .k (.int (IntKind.i64) (IntKind.i64.wrap (i + 1))))], [], []⟩)))) else (R (⟨tm 27 [(6, .sl (5) (.wide) (bytesRows s)), (7, .k (.int (IntKind.i64) (↑n))), (8, .k (.int (IntKind.i64) (IntKind.i64.wrap (i + 1))))], [], []⟩))) else (R (⟨tm 27 [(6, .sl (5) (.wide) (bytesRows s)), (7, .k (.int (IntKind.i64) (↑n))), (8, .k (.int (IntKind.i64) (IntKind.i64.wrap (i + 1))))], [], []⟩))) else (none)) else (some ((.k (.bool (true)), []))) := by kernel_rfl
theorem start30 (s : ByteArray) (k : Nat) : ev sys (k + 1) 30 [.k (.string s)] [] = loopAt sys 30 Try.f30 0 k [1,0,1,0] [] k ⟨tm 27 [(6, .sl 5 .wide (bytesRows s)), (7, .k (.int .i64 ((bytesRows s).length : Nat))), (8, .k (.int .i64 0))], [], []⟩ := by kernel_rfl

def okByte (b : UInt8) : Bool := decide (b.toNat = 9) || (decide (b.toNat = 10) || (decide (32 ≤ b.toNat) && decide (b.toNat ≤ 126)))
def isText (s : ByteArray) : Bool := s.data.toList.all okByte
def σ30 (s : ByteArray) (i : Nat) : St := ⟨tm 27 [(6, .sl 5 .wide (bytesRows s)), (7, .k (.int .i64 ((bytesRows s).length : Nat))), (8, .k (.int .i64 (i : Int)))], [], []⟩
theorem ev30 (s : ByteArray) (hs : s.size ≤ reachBytes) (k : Nat) (hk : s.size < k) : ev sys (k + 1) 30 [.k (.string s)] [] = some (.k (.bool (isText s)), []) := by
  have hl : s.data.toList.length = s.size := by simp
  have hr : (s.size : Int) ≤ 140737488351232 := by have := hs; unfold reachBytes at this; omega
  rw [start30]
  have := loop_up (S := sys) (f := 30) (fn := Try.f30) (m := 0) (k := k) (p := [1,0,1,0]) (ms := []) (σ30 s) s.data.toList.length (fun i => some (.k (.bool ((s.data.toList.drop i).all okByte)), []))
    (fun i hi R hR => by
      unfold σ30
      rw [round30, bytesRows_length, Int.toNat_natCast, bytesRows_at s i hi, toI_k]
      have hw : IntKind.i64.wrap ((i : Int) + 1) = ((i + 1 : Nat) : Int) := by rw [wrap64] <;> omega
      rw [hw]
      have h1 : decide ((i : Int) < (s.data.toList.length : Nat)) = true := by simpa using hi
      have h2 : decide (0 ≤ (i : Int)) = true := by simp
      rw [h1, h2]
      unfold σ30 at hR
      rw [bytesRows_length] at hR
      rw [hR, List.drop_eq_getElem_cons hi, List.all_cons]
      simp only [cond_true, Bool.and_self]
      generalize s.data.toList[i] = b
      have c1 : ((b.toNat : Int) != 9) = !decide (b.toNat = 9) := by rw [Bool.eq_iff_iff]; simp; omega
      have c2 : ((b.toNat : Int) != 10) = !decide (b.toNat = 10) := by rw [Bool.eq_iff_iff]; simp; omega
      have c3 : decide ((b.toNat : Int) < 32) = !decide (32 ≤ b.toNat) := by rw [Bool.eq_iff_iff]; simp; omega
      have c4 : decide ((b.toNat : Int) > 126) = !decide (b.toNat ≤ 126) := by rw [Bool.eq_iff_iff]; simp; omega
      rw [c1, c2, c3, c4]
      unfold okByte
      cases decide (b.toNat = 9) <;> cases decide (b.toNat = 10) <;> cases decide (32 ≤ b.toNat) <;> cases decide (b.toNat ≤ 126) <;> rfl)
    (fun R => by
      unfold σ30
      rw [round30, bytesRows_length, List.drop_length]
      simp)
    k 0 (Nat.zero_le _) (by omega)
  simpa [σ30, isText] using this
def F30 : List AV → List AObj → Ab Res
  | [.k (.string s)], [] => some (decide (s.size ≤ reachBytes), .k (.bool (isText s)), [])
  | _, _ => none
theorem told30 (args : List AV) (st : List AObj) (r : Res) (h : F30 args st = some (true, r)) : ∃ k, ev sys k 30 args st = some r := by
  unfold F30 at h
  split at h
  · rename_i s
    simp only [Option.some.injEq, Prod.mk.injEq, decide_eq_true_eq] at h
    obtain ⟨hs, rfl⟩ := h
    exact ⟨s.size + 1 + 1, ev30 s hs (s.size + 1) (by omega)⟩
  · cases h
noncomputable def sys0 : FSys := sys.tell 30 F30
end Go.Proofs.Ytmcgeohnmncinaa.W
namespace Go.Proofs.Ytmcgeohnmncinaa.W
open Go.Fw
set_option maxRecDepth 100000
def F50 : List AV → List AObj → Ab Res
  | [.k (.int .i32 c)], [] => some (true, .k (.bool (decide (c < 33) || decide (c > 126))), [])
  | _, _ => none
theorem ev50 (c : Int) (k : Nat) : ev sys0 (k + 1) 50 [.k (.int .i32 c)] [] = bif decide (c < 33) then some (.k (.bool true), []) else some (.k (.bool (decide (c > 126))), []) := by kernel_rfl
theorem told50 (args : List AV) (st : List AObj) (r : Res) (h : F50 args st = some (true, r)) : ∃ k, ev sys0 k 50 args st = some r := by
  unfold F50 at h
  split at h
  · rename_i c
    cases h
    refine ⟨1, ?_⟩
    rw [ev50]
    cases decide (c < 33) <;> rfl
  · cases h
noncomputable def sys1 : FSys := sys0.tell 50 F50

def σ61 (s : ByteArray) (i : Nat) : St := ⟨tm 21 [(1, .fn (.func 50) [] []), (2, .k (.bool true)), (10, .ptr 0 0)], [.iter s i], []⟩
theorem round61 (s : ByteArray) (k pos : Nat) (R : St → Option Res) : roundAt sys1 61 Try.f61 0 (k+1) [1,0,1,0] [] R (σ61 s pos) =
  bif decide (pos < s.size) then (bif (decide (((Utf8.decode s pos).1 : Int) < 33) || decide (((Utf8.decode s pos).1 : Int) > 126)) == true then some (.k (.int .i64 (pos : Int)), []) else R (σ61 s (pos + (Utf8.decode s pos).2))) else some (.k (.int .i64 (-1)), []) := by kernel_rfl
theorem start61 (s : ByteArray) (k : Nat) : ev sys1 (k + 2) 61 [.k (.string s), .fn (.func 50) [] [], .k (.bool true)] [] = loopAt sys1 61 Try.f61 0 (k + 1) [1,0,1,0] [] (k + 1) (σ61 s 0) := by kernel_rfl
def okName (b : UInt8) : Bool := decide (33 ≤ b.toNat) && decide (b.toNat ≤ 126)
def firstBad : List UInt8 → Nat → Int
  | [], _ => -1
  | b :: l, i => bif okName b then firstBad l (i + 1) else i
theorem ev61 (s : ByteArray) (k : Nat) (hk : s.size < k + 1) : ev sys1 (k + 2) 61 [.k (.string s), .fn (.func 50) [] [], .k (.bool true)] [] = some (.k (.int .i64 (firstBad s.data.toList 0)), []) := by
  have hl : s.data.toList.length = s.size := by simp
  rw [start61]
  exact loop_up (S := sys1) (f := 61) (fn := Try.f61) (m := 0) (k := k + 1) (p := [1,0,1,0]) (ms := []) (σ61 s) s.data.toList.length (fun i => some (.k (.int .i64 (firstBad (s.data.toList.drop i) i)), []))
    (fun i hi R hR => by
      have hi' : i < s.size := hl ▸ hi
      rw [round61, List.drop_eq_getElem_cons hi]
      have h1 : decide (i < s.size) = true := by simpa using hi'
      have hb : s.data.toList[i] = s[i] := rfl
      rw [h1, hb]
      simp only [cond_true, firstBad]
      by_cases ha : (s[i]).toNat < 128
      · rw [decode_ascii s i hi' ha, hR]
        generalize s[i] = b
        have c1 : decide (((b.toNat : Nat) : Int) < 33) = !decide (33 ≤ b.toNat) := by rw [Bool.eq_iff_iff]; simp; omega
        have c2 : decide (((b.toNat : Nat) : Int) > 126) = !decide (b.toNat ≤ 126) := by rw [Bool.eq_iff_iff]; simp; omega
        simp only
        rw [c1, c2]
        unfold okName
        cases decide (33 ≤ b.toNat) <;> cases decide (b.toNat ≤ 126) <;> rfl
      · have h2 := (decode_high s i hi' (by omega)).1
        have h3 : decide (((Utf8.decode s i).1 : Int) > 126) = true := by simp; omega
        have h4 : okName s[i] = false := by unfold okName; simp; omega
        rw [h3, h4]
        simp)
    (fun R => by
      rw [round61, hl, List.drop_of_length_le (by omega)]
      simp [firstBad])
    (k + 1) 0 (Nat.zero_le _) (by omega)
end Go.Proofs.Ytmcgeohnmncinaa.W
namespace Go.Proofs.Ytmcgeohnmncinaa.W
open Go.Fw
set_option maxRecDepth 100000
def F61 : List AV → List AObj → Ab Res
  | [.k (.string s), .fn (.func 50) [] [], .k (.bool true)], [] => some (true, .k (.int .i64 (firstBad s.data.toList 0)), [])
  | _, _ => none
theorem told61 (args : List AV) (st : List AObj) (r : Res) (h : F61 args st = some (true, r)) : ∃ k, ev sys1 k 61 args st = some r := by
  unfold F61 at h
  split at h
  · rename_i s
    cases h
    exact ⟨s.size + 2, ev61 s s.size (by omega)⟩
  · cases h
noncomputable def sys2 : FSys := sys1.tell 61 F61
theorem firstBad_neg : ∀ (l : List UInt8) (i : Nat), decide (firstBad l i ≥ 0) = !l.all okName
  | [], i => by simp [firstBad]
  | b :: l, i => by
    simp only [firstBad, List.all_cons]
    by_cases hb : okName b = true
    · have := firstBad_neg l (i + 1)
      simp_all
    · simp [hb]
theorem ev49 (s : ByteArray) (k : Nat) : ev sys2 (k + 3) 49 [.k (.string s), .fn (.func 50) [] []] [] = some (.k (.bool (decide (firstBad s.data.toList 0 ≥ 0))), []) := by kernel_rfl
def F49 : List AV → List AObj → Ab Res
  | [.k (.string s), .fn (.func 50) [] []], [] => some (true, .k (.bool (!s.data.toList.all okName)), [])
  | _, _ => none
theorem told49 (args : List AV) (st : List AObj) (r : Res) (h : F49 args st = some (true, r)) : ∃ k, ev sys2 k 49 args st = some r := by
  unfold F49 at h
  split at h
  · rename_i s
    cases h
    exact ⟨0 + 3, by rw [ev49, firstBad_neg]⟩
  · cases h
noncomputable def sys3 : FSys := sys2.tell 49 F49
def isName (s : ByteArray) : Bool := !(s == ByteArray.empty) && (decide (s.size ≤ 40) && s.data.toList.all okName)
theorem ev41 (s : ByteArray) (k : Nat) : ev sys3 (k + 2) 41 [.k (.string s)] [] = bif s == ByteArray.empty then some (.k (.bool false), []) else (bif decide ((s.size : Int) > 40) then some (.k (.bool false), []) else some (.k (.bool (!!s.data.toList.all okName)), [])) := by kernel_rfl
def F41 : List AV → List AObj → Ab Res
  | [.k (.string s)], [] => some (true, .k (.bool (isName s)), [])
  | _, _ => none
theorem told41 (args : List AV) (st : List AObj) (r : Res) (h : F41 args st = some (true, r)) : ∃ k, ev sys3 k 41 args st = some r := by
  unfold F41 at h
  split at h
  · rename_i s
    cases h
    refine ⟨0 + 2, ?_⟩
    rw [ev41]
    have c1 : decide ((s.size : Int) > 40) = !decide (s.size ≤ 40) := by rw [Bool.eq_iff_iff]; simp; omega
    rw [c1]
    unfold isName
    cases s == ByteArray.empty <;> cases decide (s.size ≤ 40) <;> cases s.data.toList.all okName <;> rfl
  · cases h
noncomputable def sys4 : FSys := sys3.tell 41 F41
end Go.Proofs.Ytmcgeohnmncinaa.W
namespace Go.Proofs.Ytmcgeohnmncinaa.W
open Go.Fw
set_option maxRecDepth 100000
theorem byteAt_nat (s : ByteArray) (i : Nat) (h : i < s.data.toList.length) : byteAt s (i : Int) = ((s.data.toList[i]).toNat : Int) := by
  simp only [byteAt, Int.toNat_natCast, List.getD_eq_getElem?_getD, List.getElem?_eq_getElem h, Option.getD_some]
theorem wrapS {i : Nat} {n : Nat} (hi : i < n) (hn : n ≤ reachBytes) : IntKind.i64.wrap ((i : Int) + 1) = ((i + 1 : Nat) : Int) := by
  unfold reachBytes at hn
  rw [wrap64] <;> omega
theorem leN (i : Nat) : decide (0 ≤ (i : Int)) = true := by simp
theorem ltN {i n : Nat} (h : i < n) : decide ((i : Int) < (n : Int)) = true := by simpa using h
theorem nltN (n : Nat) : decide ((n : Int) < (n : Int)) = false := by simp
section
variable {S : FSys} {f : FuncId} {fn : Func}
/-- told functions by the shape of what they take -/
def F1 (C : ByteArray → Bool) (F : ByteArray → AV) : List AV → List AObj → Ab Res
  | [.k (.string s)], [] => some (C s, F s, [])
  | _, _ => none
theorem told1 {C : ByteArray → Bool} {F : ByteArray → AV} (hF : ∀ s, C s = true → ∃ k, ev S k f [.k (.string s)] [] = some (F s, [])) (args : List AV) (st : List AObj) (r : Res) (h : F1 C F args st = some (true, r)) : ∃ k, ev S k f args st = some r := by
  unfold F1 at h
  split at h
  · rename_i s
    simp only [Option.some.injEq, Prod.mk.injEq] at h
    obtain ⟨h1, rfl⟩ := h
    exact hF s h1
  · cases h
end
def textC (s : ByteArray) : Bool := decide (s.size ≤ reachBytes)

/-! ### The reference's text and name -/
def σ34 (s : ByteArray) (i : Nat) : St := ⟨tm 28 [(0, .k (.string s)), (3, .k (.int .i64 (i : Int)))], [], []⟩
theorem round34 (s : ByteArray) (k : Nat) (i : Int) (R : St → Option Res) : roundAt sys4 34 Try.f34 0 k [1,0,1,0] [] R ⟨tm 28 [(0, .k (.string s)), (3, .k (.int .i64 i))], [], []⟩ =
  bif decide (i < ↑s.size) then (bif decide (0 ≤ i) && decide (i < ↑s.size) then (bif byteAt s i != 9 then (bif byteAt s i != 10 then (bif decide (byteAt s i < 32) then (some ((.k (.bool (false)), []))) else (bif decide (byteAt s i > 126) then (some ((.k (.bool (false)), []))) else (R (⟨tm 28 [(0, .k (.string (s))), (3, .k (.int (IntKind.i64) (IntKind.i64.wrap (i + 1))))], [], []⟩)))) else (R (⟨tm 28 [(0, .k (.string (s))), (3, .k (.int (IntKind.i64) (IntKind.i64.wrap (i + 1))))], [], []⟩))) else (R (⟨tm 28 [(0, .k (.string (s))), (3, .k (.int (IntKind.i64) (IntKind.i64.wrap (i + 1))))], [], []⟩))) else (none)) else (some ((.k (.bool (true)), []))) := by kernel_rfl
theorem start34 (s : ByteArray) (k : Nat) : ev sys4 (k + 1) 34 [.k (.string s)] [] = loopAt sys4 34 Try.f34 0 k [1,0,1,0] [] k (σ34 s 0) := by kernel_rfl
theorem ev34 (s : ByteArray) (hs : textC s = true) : ∃ k, ev sys4 k 34 [.k (.string s)] [] = some (.k (.bool (isText s)), []) := by
  have hs : s.size ≤ reachBytes := of_decide_eq_true hs
  have hl : s.data.toList.length = s.size := by simp
  refine ⟨s.size + 1 + 1, ?_⟩
  rw [start34]
  have := loop_up (S := sys4) (f := 34) (fn := Try.f34) (m := 0) (k := s.size + 1) (p := [1,0,1,0]) (ms := []) (σ34 s) s.data.toList.length (fun i => some (.k (.bool ((s.data.toList.drop i).all okByte)), []))
    (fun i hi R hR => by
      unfold σ34
      rw [round34, byteAt_nat s i hi, wrapS (hl ▸ hi) hs, leN, ltN (hl ▸ hi)]
      unfold σ34 at hR
      rw [hR, List.drop_eq_getElem_cons hi, List.all_cons]
      simp only [cond_true, Bool.and_self]
      generalize s.data.toList[i] = b
      have c1 : ((b.toNat : Int) != 9) = !decide (b.toNat = 9) := by rw [Bool.eq_iff_iff]; simp; omega
      have c2 : ((b.toNat : Int) != 10) = !decide (b.toNat = 10) := by rw [Bool.eq_iff_iff]; simp; omega
      have c3 : decide ((b.toNat : Int) < 32) = !decide (32 ≤ b.toNat) := by rw [Bool.eq_iff_iff]; simp; omega
      have c4 : decide ((b.toNat : Int) > 126) = !decide (b.toNat ≤ 126) := by rw [Bool.eq_iff_iff]; simp; omega
      rw [c1, c2, c3, c4]
      unfold okByte
      cases decide (b.toNat = 9) <;> cases decide (b.toNat = 10) <;> cases decide (32 ≤ b.toNat) <;> cases decide (b.toNat ≤ 126) <;> rfl)
    (fun R => by
      unfold σ34
      rw [round34, hl, nltN, List.drop_of_length_le (by rw [hl]; exact Nat.le_refl _)]
      rfl)
    (s.size + 1) 0 (Nat.zero_le _) (by omega)
  simpa [isText] using this
noncomputable def sys5 : FSys := sys4.tell 34 (F1 textC fun s => .k (.bool (isText s)))

def σ35 (s : ByteArray) (i : Nat) : St := ⟨tm 28 [(0, .k (.string s)), (3, .k (.int .i64 (i : Int)))], [], []⟩
theorem round35 (s : ByteArray) (k : Nat) (i : Int) (R : St → Option Res) : roundAt sys5 35 Try.f35 0 k [1,0,1,0] [] R ⟨tm 28 [(0, .k (.string s)), (3, .k (.int .i64 i))], [], []⟩ =
  bif decide (i < ↑s.size) then (bif decide (0 ≤ i) && decide (i < ↑s.size) then (bif decide (byteAt s i < 33) then (some ((.k (.bool (false)), []))) else (bif decide (0 ≤ i) && decide (i < ↑s.size) then (bif decide (byteAt s i > 126) then (some ((.k (.bool (false)), []))) else (R (⟨tm 28 [(0, .k (.string (s))), (3, .k (.int (IntKind.i64) (IntKind.i64.wrap (i + 1))))], [], []⟩))) else (none))) else (none)) else (bif decide ((s.size : Int) ≥ 1) then (some ((.k (.bool (decide ((s.size : Int) ≤ 40))), []))) else (some ((.k (.bool (false)), [])))) := by kernel_rfl
theorem start35 (s : ByteArray) (k : Nat) : ev sys5 (k + 1) 35 [.k (.string s)] [] = loopAt sys5 35 Try.f35 0 k [1,0,1,0] [] k (σ35 s 0) := by kernel_rfl
theorem ba_beq (a b : ByteArray) : (a == b) = decide (a = b) := by
  obtain ⟨a⟩ := a
  obtain ⟨b⟩ := b
  have h : ((⟨a⟩ : ByteArray) == ⟨b⟩) = (a == b) := rfl
  rw [h, Bool.eq_iff_iff, beq_iff_eq]
  simp
theorem empty_size (s : ByteArray) : (s == ByteArray.empty) = decide (s.size = 0) := by
  rw [ba_beq]
  congr 1
  exact propext ⟨fun h => by rw [h]; rfl, fun h => ByteArray.ext (Array.eq_empty_of_size_eq_zero h)⟩
theorem ev35 (s : ByteArray) (hs : textC s = true) : ∃ k, ev sys5 k 35 [.k (.string s)] [] = some (.k (.bool (isName s)), []) := by
  have hs : s.size ≤ reachBytes := of_decide_eq_true hs
  have hl : s.data.toList.length = s.size := by simp
  refine ⟨s.size + 1 + 1, ?_⟩
  rw [start35]
  have := loop_up (S := sys5) (f := 35) (fn := Try.f35) (m := 0) (k := s.size + 1) (p := [1,0,1,0]) (ms := []) (σ35 s) s.data.toList.length (fun i => some (.k (.bool (!(s == ByteArray.empty) && (decide (s.size ≤ 40) && (s.data.toList.drop i).all okName))), []))
    (fun i hi R hR => by
      unfold σ35
      rw [round35, byteAt_nat s i hi, wrapS (hl ▸ hi) hs, leN, ltN (hl ▸ hi)]
      unfold σ35 at hR
      rw [hR, List.drop_eq_getElem_cons hi, List.all_cons]
      simp only [cond_true, Bool.and_self]
      generalize s.data.toList[i] = b
      have c3 : decide ((b.toNat : Int) < 33) = !decide (33 ≤ b.toNat) := by rw [Bool.eq_iff_iff]; simp; omega
      have c4 : decide ((b.toNat : Int) > 126) = !decide (b.toNat ≤ 126) := by rw [Bool.eq_iff_iff]; simp; omega
      rw [c3, c4]
      unfold okName
      cases decide (33 ≤ b.toNat) <;> cases decide (b.toNat ≤ 126) <;> simp)
    (fun R => by
      unfold σ35
      rw [round35, hl, nltN]
      have c1 : decide ((s.size : Int) ≥ 1) = !(s == ByteArray.empty) := by rw [empty_size, Bool.eq_iff_iff]; simp only [decide_eq_true_eq, Bool.not_eq_true', decide_eq_false_iff_not]; omega
      have c2 : decide ((s.size : Int) ≤ 40) = decide (s.size ≤ 40) := by rw [Bool.eq_iff_iff]; simp; omega
      rw [c1, c2]
      rw [List.drop_of_length_le (by rw [hl]; exact Nat.le_refl _)]
      cases (s == ByteArray.empty) <;> simp)
    (s.size + 1) 0 (Nat.zero_le _) (by omega)
  simpa [isName] using this
noncomputable def sys6 : FSys := sys5.tell 35 (F1 textC fun s => .k (.bool (isName s)))

/-! ### One file -/
def fileE (n b t : ByteArray) (first : Bool) : Int :=
  bif !isName n then 10 else bif !first && (Op.bytesLess n.toList b.toList || n == b) then 13 else bif !isText t then 2 else bif decide ((t.size : Int) > 65536) then 6 else 0
def F31 : List AV → List AObj → Ab Res
  | [.agg [.k (.string n), .k (.string t)], .k (.string b), .k (.bool first)], [] => some (textC t, .k (.int .i64 (fileE n b t first)), [])
  | _, _ => none
theorem ev31 (s t b : ByteArray) (c : Bool) (k : Nat) : ev sys6 (k + 1) 31 [.agg [.k (.string s), .k (.string t)], .k (.string b), .k (.bool c)] [] =
  bif !isName s then (some ((.k (.int (IntKind.i64) (10)), []))) else (bif !c then (bif Op.bytesLess s.toList b.toList || s == b then (some ((.k (.int (IntKind.i64) (13)), []))) else (bif textC t then (bif !isText t then (some ((.k (.int (IntKind.i64) (2)), []))) else (bif decide ((t.size : Int) > 65536) then (some ((.k (.int (IntKind.i64) (6)), []))) else (some ((.k (.int (IntKind.i64) (0)), []))))) else (none))) else (bif textC t then (bif !isText t then (some ((.k (.int (IntKind.i64) (2)), []))) else (bif decide ((t.size : Int) > 65536) then (some ((.k (.int (IntKind.i64) (6)), []))) else (some ((.k (.int (IntKind.i64) (0)), []))))) else (none))) := by kernel_rfl
theorem told31 (args : List AV) (st : List AObj) (r : Res) (h : F31 args st = some (true, r)) : ∃ k, ev sys6 k 31 args st = some r := by
  unfold F31 at h
  split at h
  · rename_i n t b first
    simp only [Option.some.injEq, Prod.mk.injEq] at h
    obtain ⟨h1, rfl⟩ := h
    refine ⟨0 + 1, ?_⟩
    rw [ev31, h1]
    unfold fileE
    cases isName n <;> cases first <;> cases (Op.bytesLess n.toList b.toList || n == b) <;> cases isText t <;> cases decide ((t.size : Int) > 65536) <;> rfl
  · cases h
noncomputable def sys7 : FSys := sys6.tell 31 F31
end Go.Proofs.Ytmcgeohnmncinaa.W
namespace Go.Proofs.Ytmcgeohnmncinaa.W
open Go.Fw
set_option maxRecDepth 100000
structure Wd where
  inp : ByteArray
  at_ : Int
  out : ByteArray
  kd : SK
  rows : List (List AV)
def Wd.av (w : Wd) : AV := .agg [.k (.string w.inp), .k (.int .i64 w.at_), .k (.string w.out), .sl (w.kd.tag 42) w.kd w.rows]
def okSl (u : Nat) (kd : SK) (rows : List (List AV)) : Bool :=
  (match kd with | .wide => Nat.beq u 42 | .nil => Nat.beq u 0 && rows.isEmpty | _ => false) && decide (rows.length * 32 ≤ reachBytes)
def nm (r : List AV) : ByteArray := (r.getD 0 .undef).toS
def tx (r : List AV) : ByteArray := (r.getD 1 .undef).toS
def rowFits (r : List AV) : Bool := textC (nm r) && textC (tx r)
def Wd.okB (w : Wd) (u : Nat) : Bool := okSl u w.kd w.rows && (textC w.inp && (textC w.out && w.rows.all rowFits))
/-- a world that the programs may be given -/
structure Wd.Ok (w : Wd) : Prop where
  kd : (w.kd = .wide) ∨ (w.kd = .nil ∧ w.rows = [])
  len : w.rows.length * 32 ≤ reachBytes
  inp : textC w.inp = true
  out : textC w.out = true
  rows : ∀ r ∈ w.rows, rowFits r = true
theorem Wd.Ok.of {w : Wd} {u : Nat} (h : w.okB u = true) : w.Ok ∧ u = w.kd.tag 42 := by
  obtain ⟨i, a, o, kd, rows⟩ := w
  simp only [Wd.okB, okSl, Bool.and_eq_true, decide_eq_true_eq, List.all_eq_true] at h
  obtain ⟨⟨h1, h2⟩, h3, h4, h5⟩ := h
  cases kd with
  | wide => exact ⟨⟨.inl rfl, h2, h3, h4, h5⟩, Nat.eq_of_beq_eq_true h1⟩
  | nil =>
    simp only [Bool.and_eq_true, List.isEmpty_iff] at h1
    exact ⟨⟨.inr ⟨rfl, h1.2⟩, h2, h3, h4, h5⟩, Nat.eq_of_beq_eq_true h1.1⟩
  | full => cases h1
  | any => cases h1
  | anyf => cases h1
  | fresh => cases h1
theorem Wd.Ok.okB {w : Wd} (h : w.Ok) : w.okB (w.kd.tag 42) = true := by
  obtain ⟨i, a, o, kd, rows⟩ := w
  obtain ⟨h1, h2, h3, h4, h5⟩ := h
  simp only [Wd.okB, okSl, Bool.and_eq_true, decide_eq_true_eq, List.all_eq_true]
  refine ⟨⟨?_, h2⟩, h3, h4, h5⟩
  rcases h1 with h1 | ⟨h1, h6⟩
  · simp only at h1; subst h1; rfl
  · simp only at h1 h6; subst h1; subst h6; rfl
theorem Wd.Ok.okSl {w : Wd} (h : w.Ok) : okSl (w.kd.tag 42) w.kd w.rows = true := by
  have := h.okB
  simp only [Wd.okB, Bool.and_eq_true] at this
  exact this.1
def FW (F : Wd → AV) : List AV → List AObj → Ab Res
  | [.agg [.k (.string a), .k (.int .i64 i), .k (.string o), .sl u kd rows]], [] => some (Wd.okB ⟨a, i, o, kd, rows⟩ u, F ⟨a, i, o, kd, rows⟩, [])
  | _, _ => none
def FWT (F : Wd → ByteArray → AV) : List AV → List AObj → Ab Res
  | [.agg [.k (.string a), .k (.int .i64 i), .k (.string o), .sl u kd rows], .k (.string t)], [] => some (Wd.okB ⟨a, i, o, kd, rows⟩ u && textC t, F ⟨a, i, o, kd, rows⟩ t, [])
  | _, _ => none
def FWW (F : Wd → Wd → AV) : List AV → List AObj → Ab Res
  | [.agg [.k (.string a), .k (.int .i64 i), .k (.string o), .sl u kd rows], .agg [.k (.string a'), .k (.int .i64 i'), .k (.string o'), .sl u' kd' rows']], [] => some (Wd.okB ⟨a, i, o, kd, rows⟩ u && Wd.okB ⟨a', i', o', kd', rows'⟩ u', F ⟨a, i, o, kd, rows⟩ ⟨a', i', o', kd', rows'⟩, [])
  | _, _ => none
section
variable {S : FSys} {f : FuncId} {args : List AV} {st : List AObj} {r : Res}
theorem toldW {F : Wd → AV} (hF : ∀ w : Wd, w.Ok → ∃ k, ev S k f [w.av] [] = some (F w, [])) (args : List AV) (st : List AObj) (r : Res) (h : FW F args st = some (true, r)) : ∃ k, ev S k f args st = some r := by
  unfold FW at h
  split at h
  · rename_i a i o u kd rows
    simp only [Option.some.injEq, Prod.mk.injEq] at h
    obtain ⟨h1, rfl⟩ := h
    obtain ⟨h2, rfl⟩ := Wd.Ok.of h1
    exact hF _ h2
  · cases h
theorem toldWT {F : Wd → ByteArray → AV} (hF : ∀ (w : Wd) (t : ByteArray), w.Ok → textC t = true → ∃ k, ev S k f [w.av, .k (.string t)] [] = some (F w t, [])) (args : List AV) (st : List AObj) (r : Res) (h : FWT F args st = some (true, r)) : ∃ k, ev S k f args st = some r := by
  unfold FWT at h
  split at h
  · rename_i a i o u kd rows t
    simp only [Option.some.injEq, Prod.mk.injEq, Bool.and_eq_true] at h
    obtain ⟨⟨h1, ht⟩, rfl⟩ := h
    obtain ⟨h2, rfl⟩ := Wd.Ok.of h1
    exact hF _ t h2 ht
  · cases h
theorem toldWW {F : Wd → Wd → AV} (hF : ∀ v w : Wd, v.Ok → w.Ok → ∃ k, ev S k f [v.av, w.av] [] = some (F v w, [])) (args : List AV) (st : List AObj) (r : Res) (h : FWW F args st = some (true, r)) : ∃ k, ev S k f args st = some r := by
  unfold FWW at h
  split at h
  · rename_i a i o u kd rows a' i' o' u' kd' rows'
    simp only [Option.some.injEq, Prod.mk.injEq, Bool.and_eq_true] at h
    obtain ⟨⟨h1, h1'⟩, rfl⟩ := h
    obtain ⟨h2, rfl⟩ := Wd.Ok.of h1
    obtain ⟨h2', rfl⟩ := Wd.Ok.of h1'
    exact hF _ _ h2 h2'
  · cases h
end

/-! ### Check, of the program and of the reference -/
def filesE : List (List AV) → ByteArray → Bool → Int
  | [], _, _ => 0
  | r :: rs, b, first => bif fileE (nm r) b (tx r) first != 0 then fileE (nm r) b (tx r) first else filesE rs (nm r) false
def chk (w : Wd) : Int :=
  bif decide (w.at_ < 0) then 5 else bif decide (w.at_ > (w.inp.size : Int)) then 5 else bif !isText w.inp then 2 else bif !isText w.out then 2 else
  bif decide ((w.inp.size : Int) > 1048576) then 6 else bif decide ((w.out.size : Int) > 1048576) then 6 else bif decide ((w.rows.length : Int) > 64) then 6 else filesE w.rows .empty true
def before (rows : List (List AV)) : Nat → ByteArray
  | 0 => .empty
  | i + 1 => nm (rows.getD i [])
theorem rowAtL (rows : List (List AV)) (i : Nat) (h : i < rows.length) : rows.getD (i : Int).toNat [] = rows[i] := by
  rw [Int.toNat_natCast, List.getD_eq_getElem?_getD, List.getElem?_eq_getElem h]; rfl
theorem rowAtN (rows : List (List AV)) (i : Nat) (h : i < rows.length) : rows.getD i [] = rows[i] := by
  rw [List.getD_eq_getElem?_getD, List.getElem?_eq_getElem h]; rfl

def σ11 (rows : List (List AV)) (i : Nat) : St := ⟨tm 66 [(3, .k (.string (before rows i))), (48, .sl 42 .wide rows), (49, .k (.int .i64 (rows.length : Int))), (50, .k (.int .i64 (i : Int)))], [], []⟩
theorem round11 (b : ByteArray) (rows : List (List AV)) (n k : Nat) (j : Int) (R : St → Option Res) : roundAt sys7 11 Try.f11 0 k [1,1,1,0,1,0] [] R ⟨tm 66 [(3, .k (.string b)), (48, .sl 42 .wide rows), (49, .k (.int .i64 n)), (50, .k (.int .i64 j))], [], []⟩ =
  bif decide (j < ↑n) then (bif decide (0 ≤ j) && decide (j < ↑rows.length) then (bif textC (tx (rows.getD j.toNat [])) then (bif fileE (nm (rows.getD j.toNat [])) b (tx (rows.getD j.toNat [])) (j == 0) !=   0 then (some ((.k (.int (IntKind.i64) (fileE (nm (rows.getD j.toNat [])) b (tx (rows.getD j.toNat [])) (j == 0))), []))) else (R ⟨tm 66 [(3, .k (.string (nm (rows.getD j.toNat [])))), (48, .sl 42 .wide rows), (49, .k (.int .i64 n)), (50, .k (.int .i64 (IntKind.i64.wrap (j + 1))))], [], []⟩)) else (none)) else (none)) else (some ((.k (.int (IntKind.i64) (0)), []))) := by kernel_rfl

def errA (n : Int) : Option Res := some (.k (.int .i64 n), [])
theorem start11w (inp out : ByteArray) (i : Int) (rows : List (List AV)) (k : Nat) : ev sys7 (k + 1) 11 [Wd.av ⟨inp, i, out, .wide, rows⟩] [] =
  bif decide (i < 0) then errA 5 else bif decide (i > (inp.size : Int)) then errA 5 else bif textC inp then (bif !isText inp then errA 2 else bif textC out then (bif !isText out then errA 2 else
  bif decide ((inp.size : Int) > 1048576) then errA 6 else bif decide ((out.size : Int) > 1048576) then errA 6 else bif decide ((rows.length : Int) > 64) then errA 6 else loopAt sys7 11 Try.f11 0 k [1,1,1,0,1,0] [] k (σ11 rows 0)) else none) else none := by kernel_rfl
theorem start11n (inp out : ByteArray) (i : Int) (k : Nat) : ev sys7 (k + 2) 11 [Wd.av ⟨inp, i, out, .nil, []⟩] [] =
  bif decide (i < 0) then errA 5 else bif decide (i > (inp.size : Int)) then errA 5 else bif textC inp then (bif !isText inp then errA 2 else bif textC out then (bif !isText out then errA 2 else
  bif decide ((inp.size : Int) > 1048576) then errA 6 else bif decide ((out.size : Int) > 1048576) then errA 6 else errA 0) else none) else none := by kernel_rfl
theorem wrapR {i : Nat} {rows : List (List AV)} (hi : i < rows.length) (hn : rows.length * 32 ≤ reachBytes) : IntKind.i64.wrap ((i : Int) + 1) = ((i + 1 : Nat) : Int) := wrapS hi (by omega)
theorem loop11 (rows : List (List AV)) (hl : rows.length * 32 ≤ reachBytes) (hr : ∀ r ∈ rows, rowFits r = true) (k : Nat) (hk : rows.length < k) : loopAt sys7 11 Try.f11 0 k [1,1,1,0,1,0] [] k (σ11 rows 0) = errA (filesE rows .empty true) :=
  loop_up (S := sys7) (f := 11) (fn := Try.f11) (m := 0) (k := k) (p := [1,1,1,0,1,0]) (ms := []) (σ11 rows) rows.length (fun i => errA (filesE (rows.drop i) (before rows i) (decide (i = 0))))
    (fun i hi R hR => by
      unfold σ11
      have hf := hr rows[i] (List.getElem_mem hi)
      simp only [rowFits, Bool.and_eq_true] at hf
      have h0 : ((i : Int) == 0) = decide (i = 0) := by rw [Bool.eq_iff_iff]; simp
      rw [round11, ltN hi, leN, rowAtL rows i hi, wrapR hi hl, hf.2, h0]
      have hR' : R ⟨tm 66 [(3, .k (.string (nm rows[i]))), (48, .sl 42 .wide rows), (49, .k (.int .i64 (rows.length : Int))), (50, .k (.int .i64 ((i + 1 : Nat) : Int)))], [], []⟩ = errA (filesE (rows.drop (i + 1)) (nm rows[i]) false) := by
        have := hR
        unfold σ11 at this
        simp only [before, rowAtN rows i hi] at this
        exact this
      rw [hR', List.drop_eq_getElem_cons hi]
      simp only [cond_true, Bool.and_self, filesE]
      cases fileE (nm rows[i]) (before rows i) (tx rows[i]) (decide (i = 0)) != 0 <;> rfl)
    (fun R => by
      unfold σ11
      rw [round11, nltN, List.drop_length]
      rfl)
    k 0 (Nat.zero_le _) (by omega)
theorem ev11 (w : Wd) (hw : w.Ok) : ∃ k, ev sys7 k 11 [w.av] [] = errA (chk w) := by
  obtain ⟨inp, i, out, kd, rows⟩ := w
  obtain ⟨h1, h2, h3, h4, h5⟩ := hw
  simp only at h1 h2 h3 h4 h5
  rcases h1 with rfl | ⟨rfl, rfl⟩
  · refine ⟨rows.length + 1 + 1, ?_⟩
    rw [start11w, loop11 rows h2 h5 _ (by omega), h3, h4]
    simp only [chk]
    cases decide (i < 0) <;> cases decide (i > (inp.size : Int)) <;> cases isText inp <;> cases isText out <;> cases decide ((inp.size : Int) > 1048576) <;> cases decide ((out.size : Int) > 1048576) <;> cases decide ((rows.length : Int) > 64) <;> rfl
  · refine ⟨0 + 2, ?_⟩
    rw [start11n, h3, h4]
    simp only [chk, filesE]
    cases decide (i < 0) <;> cases decide (i > (inp.size : Int)) <;> cases isText inp <;> cases isText out <;> cases decide ((inp.size : Int) > 1048576) <;> cases decide ((out.size : Int) > 1048576) <;> rfl
noncomputable def sys8 : FSys := sys7.tell 11 (FW fun w => .k (.int .i64 (chk w)))

/-! the reference -/
def σ17 (inp out : ByteArray) (a : Int) (rows : List (List AV)) (i : Nat) : St := ⟨tm 87 [(1, .ptr 0 0), (3, .k (.int .i64 (i : Int)))], [.box 24 [.k (.string inp), .k (.int .i64 a), .k (.string out), .sl 42 .wide rows]], []⟩
def tail17 (t : ByteArray) (X : Option Res) : Option Res := bif textC t then (bif !isText t then errA 2 else bif decide ((t.size : Int) > 65536) then errA 6 else X) else none
theorem round17 (inp out : ByteArray) (a : Int) (rows : List (List AV)) (k : Nat) (j : Int) (R : St → Option Res) : roundAt sys8 17 Try.f17 0 k [1,1,0,1,0] [] R ⟨tm 87 [(1, .ptr 0 0), (3, .k (.int .i64 j))], [.box 24 [.k (.string inp), .k (.int .i64 a), .k (.string out), .sl 42 .wide rows]], []⟩ =
  bif decide (j < ↑rows.length) then (bif decide (0 ≤ j) && decide (j < ↑rows.length) then (bif textC (nm (rows.getD j.toNat [])) then (bif !isName (nm (rows.getD j.toNat [])) then errA 10 else
 (bif decide (j > 0) then (bif decide (0 ≤ IntKind.i64.wrap (j - 1)) && decide (IntKind.i64.wrap (j - 1) < ↑rows.length) then (bif !Op.bytesLess (nm (rows.getD (IntKind.i64.wrap (j - 1)).toNat [])).toList (nm (rows.getD j.toNat [])).toList then errA 13 else
   tail17 (tx (rows.getD j.toNat [])) (R ⟨tm 87 [(1, .ptr 0 0), (3, .k (.int .i64 (IntKind.i64.wrap (j + 1))))], [.box 24 [.k (.string inp), .k (.int .i64 a), .k (.string out), .sl 42 .wide rows]], []⟩)) else none)
 else tail17 (tx (rows.getD j.toNat [])) (R ⟨tm 87 [(1, .ptr 0 0), (3, .k (.int .i64 (IntKind.i64.wrap (j + 1))))], [.box 24 [.k (.string inp), .k (.int .i64 a), .k (.string out), .sl 42 .wide rows]], []⟩))) else none) else none) else errA 0 := by kernel_rfl
theorem start17w (inp out : ByteArray) (i : Int) (rows : List (List AV)) (k : Nat) : ev sys8 (k + 1) 17 [Wd.av ⟨inp, i, out, .wide, rows⟩] [] =
  bif decide (i < 0) then errA 5 else bif decide (i > (inp.size : Int)) then errA 5 else bif textC inp then (bif !isText inp then errA 2 else bif textC out then (bif !isText out then errA 2 else
  bif decide ((inp.size : Int) > 1048576) then errA 6 else bif decide ((out.size : Int) > 1048576) then errA 6 else bif decide ((rows.length : Int) > 64) then errA 6 else loopAt sys8 17 Try.f17 0 k [1,1,0,1,0] [] k (σ17 inp out i rows 0)) else none) else none := by kernel_rfl
theorem start17n (inp out : ByteArray) (i : Int) (k : Nat) : ev sys8 (k + 2) 17 [Wd.av ⟨inp, i, out, .nil, []⟩] [] =
  bif decide (i < 0) then errA 5 else bif decide (i > (inp.size : Int)) then errA 5 else bif textC inp then (bif !isText inp then errA 2 else bif textC out then (bif !isText out then errA 2 else
  bif decide ((inp.size : Int) > 1048576) then errA 6 else bif decide ((out.size : Int) > 1048576) then errA 6 else errA 0) else none) else none := by kernel_rfl
end Go.Proofs.Ytmcgeohnmncinaa.W
