/- A part of the proofs over the laws of layer 8 (worlds): what its functions come to. No conditions. -/
import Derived.Test.YtmcgeohnmncinaaS
import Derived.Test.YtmcgeohnmncinaaFwZe
import Derived.KernelRfl
set_option linter.all false
namespace Go.Proofs.Ytmcgeohnmncinaa.W
open Go.Fw
set_option maxRecDepth 100000
theorem round30 (s : ByteArray) (k n : Nat) (i : Int) (R : St → Option Res) : roundAt sys 30 Try.f30 0 k [1,0,1,0] [] R ⟨tm 27 [(6, .sl 5 .wide (bytesRows s)), (7, .k (.int .i64 n)), (8, .k (.int .i64 i))], [], []⟩ =
  bif decide (i < ↑n) then (bif decide (0 ≤ i) && decide (i < ↑(bytesRows s).length) then (bif (((bytesRows s).getD i.toNat []).getD 0 AV.undef).toI != 9 then (bif (((bytesRows s).getD i.toNat []).getD 0 AV.undef).toI != 10 then (bif decide ((((bytesRows s).getD i.toNat []).getD 0 AV.undef).toI < 32) then (some ((.k (.bool (false)), []))) else (bif decide ((((bytesRows s).getD i.toNat []).getD 0 AV.undef).toI > 126) then (some ((.k (.bool (false)), []))) else (R (⟨tm 27 [(6, .sl (5) (.wide) (bytesRows s)), (7, .k (.int (IntKind.i64) (↑n))), (8, .k (.int (IntKind.i64) (IntKind.i64.wrap (i + 1))))], [], []⟩)))) else (R (⟨tm 27 [(6, .sl (5) (.wide) (bytesRows s)), (7, .k (.int (IntKind.i64) (↑n))), (8, .k (.int (IntKind.i64) (IntKind.i64.wrap (i + 1))))], [], []⟩))) else (R (⟨tm 27 [(6, .sl (5) (.wide) (bytesRows s)), (7, .k (.int (IntKind.i64) (↑n))), (8, .k (.int (IntKind.i64) (IntKind.i64.wrap (i + 1))))], [], []⟩))) else (none)) else (some ((.k (.bool (true)), []))) := by kernel_rfl
theorem start30 (s : ByteArray) (k : Nat) : ev sys (k + 1) 30 [.k (.string s)] [] = loopAt sys 30 Try.f30 0 k [1,0,1,0] [] k ⟨tm 27 [(6, .sl 5 .wide (bytesRows s)), (7, .k (.int .i64 ((bytesRows s).length : Nat))), (8, .k (.int .i64 0))], [], []⟩ := by kernel_rfl

def okByte (b : UInt8) : Bool := decide (b.toNat = 9) || (decide (b.toNat = 10) || (decide (32 ≤ b.toNat) && decide (b.toNat ≤ 126)))
def isText (s : ByteArray) : Bool := s.data.toList.all okByte
def σ30 (s : ByteArray) (i : Nat) : St := ⟨tm 27 [(6, .sl 5 .wide (bytesRows s)), (7, .k (.int .i64 ((bytesRows s).length : Nat))), (8, .k (.int .i64 (i : Int)))], [], []⟩
theorem ev30 (s : ByteArray) (hs : s.size ≤ reachBytes) (k : Nat) (hk : s.size < k) : ev sys (k + 1) 30 [.k (.string s)] [] = some (.k (.bool (isText s)), []) := by
  have hl : s.data.toList.length = s.size := by simp
  have hr : (s.size : Int) ≤ 140737488351232 := by have := hs; unfold reachBytes at this; omega
  rw [start30]
  have := loop_up (S := sys) (f := 30) (fn := Try.f30) (m := 0) (k := k) (p := [1,0,1,0]) (ms := []) (σ30 s) s.data.toList.length (fun i => some (.k (.bool ((s.data.toList.drop i).all okByte)), []))
    (fun i hi R hR => by
      unfold σ30
      rw [round30, bytesRows_length, Int.toNat_natCast, bytesRows_at s i hi, toI_k]
      have hw : IntKind.i64.wrap ((i : Int) + 1) = ((i + 1 : Nat) : Int) := by rw [wrap64] <;> omega
      rw [hw]
      have h1 : decide ((i : Int) < (s.data.toList.length : Nat)) = true := by simpa using hi
      have h2 : decide (0 ≤ (i : Int)) = true := by simp
      rw [h1, h2]
      unfold σ30 at hR
      rw [bytesRows_length] at hR
      rw [hR, List.drop_eq_getElem_cons hi, List.all_cons]
      simp only [cond_true, Bool.and_self]
      generalize s.data.toList[i] = b
      have c1 : ((b.toNat : Int) != 9) = !decide (b.toNat = 9) := by rw [Bool.eq_iff_iff]; simp; omega
      have c2 : ((b.toNat : Int) != 10) = !decide (b.toNat = 10) := by rw [Bool.eq_iff_iff]; simp; omega
      have c3 : decide ((b.toNat : Int) < 32) = !decide (32 ≤ b.toNat) := by rw [Bool.eq_iff_iff]; simp; omega
      have c4 : decide ((b.toNat : Int) > 126) = !decide (b.toNat ≤ 126) := by rw [Bool.eq_iff_iff]; simp; omega
      rw [c1, c2, c3, c4]
      unfold okByte
      cases decide (b.toNat = 9) <;> cases decide (b.toNat = 10) <;> cases decide (32 ≤ b.toNat) <;> cases decide (b.toNat ≤ 126) <;> rfl)
    (fun R => by
      unfold σ30
      rw [round30, bytesRows_length, List.drop_length]
      simp)
    k 0 (Nat.zero_le _) (by omega)
  simpa [σ30, isText] using this
def F30 : List AV → List AObj → Ab Res
  | [.k (.string s)], [] => some (decide (s.size ≤ reachBytes), .k (.bool (isText s)), [])
  | _, _ => none
theorem told30 (args : List AV) (st : List AObj) (r : Res) (h : F30 args st = some (true, r)) : ∃ k, ev sys k 30 args st = some r := by
  unfold F30 at h
  split at h
  · rename_i s
    simp only [Option.some.injEq, Prod.mk.injEq, decide_eq_true_eq] at h
    obtain ⟨hs, rfl⟩ := h
    exact ⟨s.size + 1 + 1, ev30 s hs (s.size + 1) (by omega)⟩
  · cases h
noncomputable def sys0 : FSys := sys.tell 30 F30
end Go.Proofs.Ytmcgeohnmncinaa.W
