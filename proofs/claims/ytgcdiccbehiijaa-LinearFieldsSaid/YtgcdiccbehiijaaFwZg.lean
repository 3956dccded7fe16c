/- The framework, part Zg: answers at given arguments, told one by one. -/
import Derived.Test.YtgcdiccbehiijaaFwZf
set_option linter.all false
set_option linter.unusedSimpArgs false
set_option linter.unusedVariables false
namespace Go.Fw

def valSame : Value → Value → Bool
  | .bool a, .bool b => a == b
  | .int j a, .int k b => decide (j = k) && decide (a = b)
  | .string a, .string b => decide (a.data.toList = b.data.toList)
  | .nilFunc, .nilFunc => true
  | .nilIface, .nilIface => true
  | .pointer none, .pointer none => true
  | .map none, .map none => true
  | .tuple ⟨[]⟩, .tuple ⟨[]⟩ => true
  | _, _ => false
theorem valSame_eq {a b : Value} (h : valSame a b = true) : a = b := by
  unfold valSame at h
  split at h <;> simp_all
  exact ByteArray.ext h

mutual
def AV.same : AV → AV → Bool
  | .undef, .undef => true
  | .k v, .k w => valSame v w
  | .sl t kd r, .sl u ke s => Nat.beq t u && (decide (kd = ke) && AV.sameR r s)
  | .sr i, .sr j => Nat.beq i j
  | .ss i a b, .ss j c d => Nat.beq i j && (Nat.beq a c && Nat.beq b d)
  | .ptr i a, .ptr j b => Nat.beq i j && Nat.beq a b
  | .ap i a b, .ap j c d => Nat.beq i j && (Nat.beq a c && Nat.beq b d)
  | .ep t r o, .ep u s p => Nat.beq t u && (AV.sameL r s && Nat.beq o p)
  | .agg a, .agg b => AV.sameL a b
  | .tup a, .tup b => AV.sameL a b
  | .fn (.func f) a b, .fn (.func g) c d => Nat.beq f g && (AV.sameL a c && AV.sameL b d)
  | .iface t v, .iface u w => Nat.beq t u && AV.same v w
  | _, _ => false
def AV.sameL : List AV → List AV → Bool
  | [], [] => true
  | a :: l, b :: m => AV.same a b && AV.sameL l m
  | _, _ => false
def AV.sameR : List (List AV) → List (List AV) → Bool
  | [], [] => true
  | a :: l, b :: m => AV.sameL a b && AV.sameR l m
  | _, _ => false
end
mutual
theorem AV.same_eq : ∀ (a b : AV), AV.same a b = true → a = b
  | .undef, b, h => by cases b <;> simp [AV.same] at h <;> rfl
  | .k v, b, h => by
    cases b <;> simp [AV.same] at h
    rw [valSame_eq h]
  | .sl t kd r, b, h => by
    cases b <;> simp [AV.same] at h
    rw [h.1, h.2.1, AV.sameR_eq _ _ h.2.2]
  | .sr i, b, h => by
    cases b <;> simp [AV.same] at h
    rw [h]
  | .ss i x y, b, h => by
    cases b <;> simp [AV.same] at h
    rw [h.1, h.2.1, h.2.2]
  | .ptr i x, b, h => by
    cases b <;> simp [AV.same] at h
    rw [h.1, h.2]
  | .ap i x y, b, h => by
    cases b <;> simp [AV.same] at h
    rw [h.1, h.2.1, h.2.2]
  | .ep t r o, b, h => by
    cases b <;> simp [AV.same] at h
    rw [h.1, AV.sameL_eq _ _ h.2.1, h.2.2]
  | .agg a, b, h => by
    cases b <;> simp [AV.same] at h
    rw [AV.sameL_eq _ _ h]
  | .tup a, b, h => by
    cases b <;> simp [AV.same] at h
    rw [AV.sameL_eq _ _ h]
  | .fn f x y, b, h => by
    cases b with
    | fn g c d =>
      cases f <;> cases g <;> simp [AV.same] at h
      rw [h.1, AV.sameL_eq _ _ h.2.1, AV.sameL_eq _ _ h.2.2]
    | _ => cases f <;> simp [AV.same] at h
  | .iface t v, b, h => by
    cases b <;> simp [AV.same] at h
    rw [h.1, AV.same_eq _ _ h.2]
theorem AV.sameL_eq : ∀ (a b : List AV), AV.sameL a b = true → a = b
  | [], b, h => by cases b <;> simp [AV.sameL] at h <;> rfl
  | x :: l, b, h => by
    cases b <;> simp [AV.sameL] at h
    rw [AV.same_eq _ _ h.1, AV.sameL_eq _ _ h.2]
theorem AV.sameR_eq : ∀ (a b : List (List AV)), AV.sameR a b = true → a = b
  | [], b, h => by cases b <;> simp [AV.sameR] at h <;> rfl
  | x :: l, b, h => by
    cases b <;> simp [AV.sameR] at h
    rw [AV.sameL_eq _ _ h.1, AV.sameR_eq _ _ h.2]
end

def AObj.same : AObj → AObj → Bool
  | .box t cs, .box u ds => Nat.beq t u && AV.sameL cs ds
  | .arr t kd r, .arr u ke s => Nat.beq t u && (decide (kd = ke) && AV.sameR r s)
  | .arx t r, .arx u s => Nat.beq t u && AV.sameR r s
  | .dead, .dead => true
  | _, _ => false
def AObj.sameL : List AObj → List AObj → Bool
  | [], [] => true
  | a :: l, b :: m => AObj.same a b && AObj.sameL l m
  | _, _ => false
theorem AObj.same_eq {a b : AObj} (h : AObj.same a b = true) : a = b := by
  cases a <;> cases b <;> simp only [AObj.same] at h <;> first | cases h | skip
  · simp only [Bool.and_eq_true] at h
    rw [Nat.eq_of_beq_eq_true h.1, AV.sameL_eq _ _ h.2]
  · simp only [Bool.and_eq_true, decide_eq_true_eq] at h
    rw [Nat.eq_of_beq_eq_true h.1, h.2.1, AV.sameR_eq _ _ h.2.2]
  · simp only [Bool.and_eq_true] at h
    rw [Nat.eq_of_beq_eq_true h.1, AV.sameR_eq _ _ h.2]
  · rfl
theorem AObj.sameL_eq : ∀ {a b : List AObj}, AObj.sameL a b = true → a = b
  | [], b, h => by cases b <;> simp_all [AObj.sameL]
  | x :: l, b, h => by
    cases b <;> simp only [AObj.sameL] at h <;> first | cases h | skip
    simp only [Bool.and_eq_true] at h
    rw [AObj.same_eq h.1, AObj.sameL_eq h.2]

/-- an answer at given arguments -/
def memoF (A : List AV) (S : List AObj) (R : Res) : List AV → List AObj → Ab Res := fun a s => bif AV.sameL a A && AObj.sameL s S then some (true, R) else none
theorem told_memo {S : FSys} {g : FuncId} {k : Nat} {A : List AV} {O : List AObj} {R : Res} (h : ev S k g A O = some R) (args : List AV) (st : List AObj) (r : Res) (hF : memoF A O R args st = some (true, r)) : ∃ k, ev S k g args st = some r := by
  unfold memoF at hF
  cases hs : AV.sameL args A && AObj.sameL st O with
  | false => rw [hs] at hF; cases hF
  | true =>
    rw [hs] at hF
    cases hF
    rw [Bool.and_eq_true] at hs
    rw [AV.sameL_eq _ _ hs.1, AObj.sameL_eq hs.2]
    exact ⟨k, h⟩
end Go.Fw
