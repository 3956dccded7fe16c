/- A part of the proofs over the laws of layer 8 (worlds): what its functions come to. No conditions. -/
import Derived.Test.YtmcgeohnmncinaaE41
set_option linter.all false
namespace Go.Proofs.Ytmcgeohnmncinaa.W
open Go.Fw
set_option maxRecDepth 100000
theorem byteAt_nat (s : ByteArray) (i : Nat) (h : i < s.data.toList.length) : byteAt s (i : Int) = ((s.data.toList[i]).toNat : Int) := by
  simp only [byteAt, Int.toNat_natCast, List.getD_eq_getElem?_getD, List.getElem?_eq_getElem h, Option.getD_some]
theorem wrapS {i : Nat} {n : Nat} (hi : i < n) (hn : n ≤ reachBytes) : IntKind.i64.wrap ((i : Int) + 1) = ((i + 1 : Nat) : Int) := by
  unfold reachBytes at hn
  rw [wrap64] <;> omega
theorem leN (i : Nat) : decide (0 ≤ (i : Int)) = true := by simp
theorem ltN {i n : Nat} (h : i < n) : decide ((i : Int) < (n : Int)) = true := by simpa using h
theorem nltN (n : Nat) : decide ((n : Int) < (n : Int)) = false := by simp
section
variable {S : FSys} {f : FuncId} {fn : Func}
/-- told functions by the shape of what they take -/
def F1 (C : ByteArray → Bool) (F : ByteArray → AV) : List AV → List AObj → Ab Res
  | [.k (.string s)], [] => some (C s, F s, [])
  | _, _ => none
theorem told1 {C : ByteArray → Bool} {F : ByteArray → AV} (hF : ∀ s, C s = true → ∃ k, ev S k f [.k (.string s)] [] = some (F s, [])) (args : List AV) (st : List AObj) (r : Res) (h : F1 C F args st = some (true, r)) : ∃ k, ev S k f args st = some r := by
  unfold F1 at h
  split at h
  · rename_i s
    simp only [Option.some.injEq, Prod.mk.injEq] at h
    obtain ⟨h1, rfl⟩ := h
    exact hF s h1
  · cases h
end
def textC (s : ByteArray) : Bool := decide (s.size ≤ reachBytes)

/-! ### The reference's text and name -/
def σ34 (s : ByteArray) (i : Nat) : St := ⟨tm 28 [(0, .k (.string s)), (3, .k (.int .i64 (i : Int)))], [], []⟩
theorem round34 (s : ByteArray) (k : Nat) (i : Int) (R : St → Option Res) : roundAt sys4 34 Try.f34 0 k [1,0,1,0] [] R ⟨tm 28 [(0, .k (.string s)), (3, .k (.int .i64 i))], [], []⟩ =
  bif decide (i < ↑s.size) then (bif decide (0 ≤ i) && decide (i < ↑s.size) then (bif byteAt s i != 9 then (bif byteAt s i != 10 then (bif decide (byteAt s i < 32) then (some ((.k (.bool (false)), []))) else (bif decide (byteAt s i > 126) then (some ((.k (.bool (false)), []))) else (R (⟨tm 28 [(0, .k (.string (s))), (3, .k (.int (IntKind.i64) (IntKind.i64.wrap (i + 1))))], [], []⟩)))) else (R (⟨tm 28 [(0, .k (.string (s))), (3, .k (.int (IntKind.i64) (IntKind.i64.wrap (i + 1))))], [], []⟩))) else (R (⟨tm 28 [(0, .k (.string (s))), (3, .k (.int (IntKind.i64) (IntKind.i64.wrap (i + 1))))], [], []⟩))) else (none)) else (some ((.k (.bool (true)), []))) := by kernel_rfl
theorem start34 (s : ByteArray) (k : Nat) : ev sys4 (k + 1) 34 [.k (.string s)] [] = loopAt sys4 34 Try.f34 0 k [1,0,1,0] [] k (σ34 s 0) := by kernel_rfl
theorem ev34 (s : ByteArray) (hs : textC s = true) : ∃ k, ev sys4 k 34 [.k (.string s)] [] = some (.k (.bool (isText s)), []) := by
  have hs : s.size ≤ reachBytes := of_decide_eq_true hs
  have hl : s.data.toList.length = s.size := by simp
  refine ⟨s.size + 1 + 1, ?_⟩
  rw [start34]
  have := loop_up (S := sys4) (f := 34) (fn := Try.f34) (m := 0) (k := s.size + 1) (p := [1,0,1,0]) (ms := []) (σ34 s) s.data.toList.length (fun i => some (.k (.bool ((s.data.toList.drop i).all okByte)), []))
    (fun i hi R hR => by
      unfold σ34
      rw [round34, byteAt_nat s i hi, wrapS (hl ▸ hi) hs, leN, ltN (hl ▸ hi)]
      unfold σ34 at hR
      rw [hR, List.drop_eq_getElem_cons hi, List.all_cons]
      simp only [cond_true, Bool.and_self]
      generalize s.data.toList[i] = b
      have c1 : ((b.toNat : Int) != 9) = !decide (b.toNat = 9) := by rw [Bool.eq_iff_iff]; simp; omega
      have c2 : ((b.toNat : Int) != 10) = !decide (b.toNat = 10) := by rw [Bool.eq_iff_iff]; simp; omega
      have c3 : decide ((b.toNat : Int) < 32) = !decide (32 ≤ b.toNat) := by rw [Bool.eq_iff_iff]; simp; omega
      have c4 : decide ((b.toNat : Int) > 126) = !decide (b.toNat ≤ 126) := by rw [Bool.eq_iff_iff]; simp; omega
      rw [c1, c2, c3, c4]
      unfold okByte
      cases decide (b.toNat = 9) <;> cases decide (b.toNat = 10) <;> cases decide (32 ≤ b.toNat) <;> cases decide (b.toNat ≤ 126) <;> rfl)
    (fun R => by
      unfold σ34
      rw [round34, hl, nltN, List.drop_of_length_le (by rw [hl]; exact Nat.le_refl _)]
      rfl)
    (s.size + 1) 0 (Nat.zero_le _) (by omega)
  simpa [isText] using this
noncomputable def sys5 : FSys := sys4.tell 34 (F1 textC fun s => .k (.bool (isText s)))

def σ35 (s : ByteArray) (i : Nat) : St := ⟨tm 28 [(0, .k (.string s)), (3, .k (.int .i64 (i : Int)))], [], []⟩
theorem round35 (s : ByteArray) (k : Nat) (i : Int) (R : St → Option Res) : roundAt sys5 35 Try.f35 0 k [1,0,1,0] [] R ⟨tm 28 [(0, .k (.string s)), (3, .k (.int .i64 i))], [], []⟩ =
  bif decide (i < ↑s.size) then (bif decide (0 ≤ i) && decide (i < ↑s.size) then (bif decide (byteAt s i < 33) then (some ((.k (.bool (false)), []))) else (bif decide (0 ≤ i) && decide (i < ↑s.size) then (bif decide (byteAt s i > 126) then (some ((.k (.bool (false)), []))) else (R (⟨tm 28 [(0, .k (.string (s))), (3, .k (.int (IntKind.i64) (IntKind.i64.wrap (i + 1))))], [], []⟩))) else (none))) else (none)) else (bif decide ((s.size : Int) ≥ 1) then (some ((.k (.bool (decide ((s.size : Int) ≤ 40))), []))) else (some ((.k (.bool (false)), [])))) := by kernel_rfl
theorem start35 (s : ByteArray) (k : Nat) : ev sys5 (k + 1) 35 [.k (.string s)] [] = loopAt sys5 35 Try.f35 0 k [1,0,1,0] [] k (σ35 s 0) := by kernel_rfl
theorem ba_beq (a b : ByteArray) : (a == b) = decide (a = b) := by
  obtain ⟨a⟩ := a
  obtain ⟨b⟩ := b
  have h : ((⟨a⟩ : ByteArray) == ⟨b⟩) = (a == b) := rfl
  rw [h, Bool.eq_iff_iff, beq_iff_eq]
  simp
theorem empty_size (s : ByteArray) : (s == ByteArray.empty) = decide (s.size = 0) := by
  rw [ba_beq]
  congr 1
  exact propext ⟨fun h => by rw [h]; rfl, fun h => ByteArray.ext (Array.eq_empty_of_size_eq_zero h)⟩
theorem ev35 (s : ByteArray) (hs : textC s = true) : ∃ k, ev sys5 k 35 [.k (.string s)] [] = some (.k (.bool (isName s)), []) := by
  have hs : s.size ≤ reachBytes := of_decide_eq_true hs
  have hl : s.data.toList.length = s.size := by simp
  refine ⟨s.size + 1 + 1, ?_⟩
  rw [start35]
  have := loop_up (S := sys5) (f := 35) (fn := Try.f35) (m := 0) (k := s.size + 1) (p := [1,0,1,0]) (ms := []) (σ35 s) s.data.toList.length (fun i => some (.k (.bool (!(s == ByteArray.empty) && (decide (s.size ≤ 40) && (s.data.toList.drop i).all okName))), []))
    (fun i hi R hR => by
      unfold σ35
      rw [round35, byteAt_nat s i hi, wrapS (hl ▸ hi) hs, leN, ltN (hl ▸ hi)]
      unfold σ35 at hR
      rw [hR, List.drop_eq_getElem_cons hi, List.all_cons]
      simp only [cond_true, Bool.and_self]
      generalize s.data.toList[i] = b
      have c3 : decide ((b.toNat : Int) < 33) = !decide (33 ≤ b.toNat) := by rw [Bool.eq_iff_iff]; simp; omega
      have c4 : decide ((b.toNat : Int) > 126) = !decide (b.toNat ≤ 126) := by rw [Bool.eq_iff_iff]; simp; omega
      rw [c3, c4]
      unfold okName
      cases decide (33 ≤ b.toNat) <;> cases decide (b.toNat ≤ 126) <;> simp)
    (fun R => by
      unfold σ35
      rw [round35, hl, nltN]
      have c1 : decide ((s.size : Int) ≥ 1) = !(s == ByteArray.empty) := by rw [empty_size, Bool.eq_iff_iff]; simp only [decide_eq_true_eq, Bool.not_eq_true', decide_eq_false_iff_not]; omega
      have c2 : decide ((s.size : Int) ≤ 40) = decide (s.size ≤ 40) := by rw [Bool.eq_iff_iff]; simp; omega
      rw [c1, c2]
      rw [List.drop_of_length_le (by rw [hl]; exact Nat.le_refl _)]
      cases (s == ByteArray.empty) <;> simp)
    (s.size + 1) 0 (Nat.zero_le _) (by omega)
  simpa [isName] using this
noncomputable def sys6 : FSys := sys5.tell 35 (F1 textC fun s => .k (.bool (isName s)))

/-! ### One file -/
def fileE (n b t : ByteArray) (first : Bool) : Int :=
  bif !isName n then 10 else bif !first && (Op.bytesLess n.toList b.toList || n == b) then 13 else bif !isText t then 2 else bif decide ((t.size : Int) > 65536) then 6 else 0
def F31 : List AV → List AObj → Ab Res
  | [.agg [.k (.string n), .k (.string t)], .k (.string b), .k (.bool first)], [] => some (textC t, .k (.int .i64 (fileE n b t first)), [])
  | _, _ => none
theorem ev31 (s t b : ByteArray) (c : Bool) (k : Nat) : ev sys6 (k + 1) 31 [.agg [.k (.string s), .k (.string t)], .k (.string b), .k (.bool c)] [] =
  bif !isName s then (some ((.k (.int (IntKind.i64) (10)), []))) else (bif !c then (bif Op.bytesLess s.toList b.toList || s == b then (some ((.k (.int (IntKind.i64) (13)), []))) else (bif textC t then (bif !isText t then (some ((.k (.int (IntKind.i64) (2)), []))) else (bif decide ((t.size : Int) > 65536) then (some ((.k (.int (IntKind.i64) (6)), []))) else (some ((.k (.int (IntKind.i64) (0)), []))))) else (none))) else (bif textC t then (bif !isText t then (some ((.k (.int (IntKind.i64) (2)), []))) else (bif decide ((t.size : Int) > 65536) then (some ((.k (.int (IntKind.i64) (6)), []))) else (some ((.k (.int (IntKind.i64) (0)), []))))) else (none))) := by kernel_rfl
theorem told31 (args : List AV) (st : List AObj) (r : Res) (h : F31 args st = some (true, r)) : ∃ k, ev sys6 k 31 args st = some r := by
  unfold F31 at h
  split at h
  · rename_i n t b first
    simp only [Option.some.injEq, Prod.mk.injEq] at h
    obtain ⟨h1, rfl⟩ := h
    refine ⟨0 + 1, ?_⟩
    rw [ev31, h1]
    unfold fileE
    cases isName n <;> cases first <;> cases (Op.bytesLess n.toList b.toList || n == b) <;> cases isText t <;> cases decide ((t.size : Int) > 65536) <;> rfl
  · cases h
noncomputable def sys7 : FSys := sys6.tell 31 F31
end Go.Proofs.Ytmcgeohnmncinaa.W
