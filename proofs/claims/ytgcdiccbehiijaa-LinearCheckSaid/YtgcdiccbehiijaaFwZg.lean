/- The framework, part Zg: answers at given arguments, told one by one. -/
import Derived.Test.YtgcdiccbehiijaaFwZb
set_option linter.all false
set_option linter.unusedSimpArgs false
set_option linter.unusedVariables false
namespace Go.Fw
noncomputable section
def valSame : Value → Value → Bool
  | .bool a, .bool b => a == b
  | .int j a, .int k b => decide (j = k) && decide (a = b)
  | .string a, .string b => decide (a.data.toList = b.data.toList)
  | .nilFunc, .nilFunc => true
  | .nilIface, .nilIface => true
  | .pointer none, .pointer none => true
  | .map none, .map none => true
  | .tuple ⟨[]⟩, .tuple ⟨[]⟩ => true
  | _, _ => false
theorem valSame_eq {a b : Value} (h : valSame a b = true) : a = b := by
  unfold valSame at h
  split at h <;> simp_all
  exact ByteArray.ext h
mutual
def AV.same : AV → AV → Bool
  | .undef, .undef => true
  | .k v, .k w => valSame v w
  | .sl t kd r, .sl u ke s => Nat.beq t u && (decide (kd = ke) && AV.sameR r s)
  | .sr i, .sr j => Nat.beq i j
  | .ss i a b, .ss j c d => Nat.beq i j && (Nat.beq a c && Nat.beq b d)
  | .ptr i a, .ptr j b => Nat.beq i j && Nat.beq a b
  | .ap i a b, .ap j c d => Nat.beq i j && (Nat.beq a c && Nat.beq b d)
  | .ep t r o, .ep u s p => Nat.beq t u && (AV.sameL r s && Nat.beq o p)
  | .agg a, .agg b => AV.sameL a b
  | .tup a, .tup b => AV.sameL a b
  | .fn (.func f) a b, .fn (.func g) c d => Nat.beq f g && (AV.sameL a c && AV.sameL b d)
  | .iface t v, .iface u w => Nat.beq t u && AV.same v w
  | _, _ => false
def AV.sameL : List AV → List AV → Bool
  | [], [] => true
  | a :: l, b :: m => AV.same a b && AV.sameL l m
  | _, _ => false
def AV.sameR : List (List AV) → List (List AV) → Bool
  | [], [] => true
  | a :: l, b :: m => AV.sameL a b && AV.sameR l m
  | _, _ => false
end
mutual
theorem AV.same_eq : ∀ (a b : AV), AV.same a b = true → a = b
  | .undef, b, h => by cases b <;> simp [AV.same] at h <;> rfl
  | .k v, b, h => by
    cases b <;> simp [AV.same] at h
    rw [valSame_eq h]
  | .sl t kd r, b, h => by
    cases b <;> simp [AV.same] at h
    rw [h.1, h.2.1, AV.sameR_eq _ _ h.2.2]
  | .sr i, b, h => by
    cases b <;> simp [AV.same] at h
    rw [h]
  | .ss i x y, b, h => by
    cases b <;> simp [AV.same] at h
    rw [h.1, h.2.1, h.2.2]
  | .ptr i x, b, h => by
    cases b <;> simp [AV.same] at h
    rw [h.1, h.2]
  | .ap i x y, b, h => by
    cases b <;> simp [AV.same] at h
    rw [h.1, h.2.1, h.2.2]
  | .ep t r o, b, h => by
    cases b <;> simp [AV.same] at h
    rw [h.1, AV.sameL_eq _ _ h.2.1, h.2.2]
  | .agg a, b, h => by
    cases b <;> simp [AV.same] at h
    rw [AV.sameL_eq _ _ h]
  | .tup a, b, h => by
    cases b <;> simp [AV.same] at h
    rw [AV.sameL_eq _ _ h]
  | .fn f x y, b, h => by
    cases b with
    | fn g c d =>
      cases f <;> cases g <;> simp [AV.same] at h
      rw [h.1, AV.sameL_eq _ _ h.2.1, AV.sameL_eq _ _ h.2.2]
    | _ => cases f <;> simp [AV.same] at h
  | .iface t v, b, h => by
    cases b <;> simp [AV.same] at h
    rw [h.1, AV.same_eq _ _ h.2]
theorem AV.sameL_eq : ∀ (a b : List AV), AV.sameL a b = true → a = b
  | [], b, h => by cases b <;> simp [AV.sameL] at h <;> rfl
  | x :: l, b, h => by
    cases b <;> simp [AV.sameL] at h
    rw [AV.same_eq _ _ h.1, AV.sameL_eq _ _ h.2]
theorem AV.sameR_eq : ∀ (a b : List (List AV)), AV.sameR a b = true → a = b
  | [], b, h => by cases b <;> simp [AV.sameR] at h <;> rfl
  | x :: l, b, h => by
    cases b <;> simp [AV.sameR] at h
    rw [AV.sameL_eq _ _ h.1, AV.sameR_eq _ _ h.2]
end
def AObj.same : AObj → AObj → Bool
  | .box t cs, .box u ds => Nat.beq t u && AV.sameL cs ds
  | .arr t kd r, .arr u ke s => Nat.beq t u && (decide (kd = ke) && AV.sameR r s)
  | .arx t r, .arx u s => Nat.beq t u && AV.sameR r s
  | .dead, .dead => true
  | _, _ => false
def AObj.sameL : List AObj → List AObj → Bool
  | [], [] => true
  | a :: l, b :: m => AObj.same a b && AObj.sameL l m
  | _, _ => false
theorem AObj.same_eq {a b : AObj} (h : AObj.same a b = true) : a = b := by
  cases a <;> cases b <;> simp only [AObj.same] at h <;> first | cases h | skip
  · simp only [Bool.and_eq_true] at h
    rw [Nat.eq_of_beq_eq_true h.1, AV.sameL_eq _ _ h.2]
  · simp only [Bool.and_eq_true, decide_eq_true_eq] at h
    rw [Nat.eq_of_beq_eq_true h.1, h.2.1, AV.sameR_eq _ _ h.2.2]
  · simp only [Bool.and_eq_true] at h
    rw [Nat.eq_of_beq_eq_true h.1, AV.sameR_eq _ _ h.2]
  · rfl
theorem AObj.sameL_eq : ∀ {a b : List AObj}, AObj.sameL a b = true → a = b
  | [], b, h => by cases b <;> simp_all [AObj.sameL]
  | x :: l, b, h => by
    cases b <;> simp only [AObj.sameL] at h <;> first | cases h | skip
    simp only [Bool.and_eq_true] at h
    rw [AObj.same_eq h.1, AObj.sameL_eq h.2]
def memoF (A : List AV) (S : List AObj) (R : Res) : List AV → List AObj → Ab Res := fun a s => bif AV.sameL a A && AObj.sameL s S then some (true, R) else none
theorem told_memo {S : FSys} {g : FuncId} {k : Nat} {A : List AV} {O : List AObj} {R : Res} (h : ev S k g A O = some R) (args : List AV) (st : List AObj) (r : Res) (hF : memoF A O R args st = some (true, r)) : ∃ k, ev S k g args st = some r := by
  unfold memoF at hF
  cases hs : AV.sameL args A && AObj.sameL st O with
  | false => rw [hs] at hF; cases hF
  | true =>
    rw [hs] at hF
    cases hF
    rw [Bool.and_eq_true] at hs
    rw [AV.sameL_eq _ _ hs.1, AObj.sameL_eq hs.2]
    exact ⟨k, h⟩
end
end Go.Fw
set_option linter.unusedSimpArgs false
set_option linter.unusedVariables false
namespace Go.Fw
noncomputable section
section
variable {P : Program}
theorem SysOk.tellFrom {S S' : FSys} (hS' : SysOk P S') (hS : SysOk P S) (hT : S'.T = S.T) (ha : S'.ann = S.ann) (g : FuncId) (F : List AV → List AObj → Ab Res)
    (h : ∀ args st r, F args st = some (true, r) → ∃ k, ev S k g args st = some r) : SysOk P (S'.tell g F) :=
  hS'.tellCF g F fun args st r st' hF => by
    obtain ⟨k, hk⟩ := h args st _ hF
    rw [hT, ha]
    exact ev_ok hS k g args st r st' hk
theorem VRs.one {T : Tab} {E : Env} {Z : Nat → Prop} {w : World} {x : AV} {v : Value} (h : VR T E Z w x v) : VRs T E Z w [x] [v] :=
  ⟨rfl, fun j av u hj hu => by cases j <;> simp at hj hu; subst hj; subst hu; exact h⟩
end
end
end Go.Fw
set_option linter.unusedSimpArgs false
set_option linter.unusedVariables false
namespace Go.Fw
noncomputable section
open Go.ChangeShapes Go.RowKit
section
variable {P : Program}
end
end
end Go.Fw
set_option linter.unusedSimpArgs false
set_option linter.unusedVariables false
namespace Go.Fw
noncomputable section
theorem SysOk.tellMore {P : Program} {S S' : FSys} (hS' : SysOk P S') {g : FuncId} {F : List AV → List AObj → Ab Res} (hg : SysOk P (S.tell g F)) (hT : S'.T = S.T) (ha : S'.ann = S.ann) : SysOk P (S'.tell g F) :=
  hS'.tellCF g F fun args st r st' hF => by
    have := hg.prim g args st r st' (by simp [FSys.tell, hF])
    rw [hT, ha]
    exact this
section
variable {P : Program} {T : Tab}
theorem SR.pend0 {E : Env} {Z : Nat → Prop} {w : World} {st : List AObj} {p p' : Code} {fn : FuncId} {tm : List AV} {ps : List Nat} {a b : Code} (h : SR T E Z w (.loop false p fn tm ps a b :: st)) :
    SR T E Z w (.loop false p' fn tm ps a b :: st) ∧ ∀ B, Owned E (.loop false p' fn tm ps a b :: st) B → Owned E (.loop false p fn tm ps a b :: st) B := by
  have hst : (AObj.loop false p fn tm ps a b :: st)[0]? = some (.loop false p fn tm ps a b) := rfl
  have hor := h.obj 0 _ hst
  have hor' : OR T E Z w 0 (.loop false p' fn tm ps a b) := by
    cases hor with
    | loop _ _ _ _ _ _ _ l D fn' vs h1 hb hr => exact .loop false p' fn tm ps a b l D fn' vs h1 hb hr
  exact h.update (w' := w) (id := 0) (o' := .loop false p' fn tm ps a b) (by simp) (fun _ _ _ _ => rfl) (fun _ _ _ => rfl) (Nat.le_refl _) hor' (fun B hB => (owns_some hst).2 hB)
theorem CF.pend {f : FuncId} {args : List AV} {st : List AObj} {mvs : List Nat} {r : AV} {st' : List AObj} {p : Code} (p' : Code) {fn : FuncId} {tm : List AV} {ps : List Nat} {a b : Code}
    (h : CF P T f args st mvs r (.loop false p fn tm ps a b :: st')) : CF P T f args st mvs r (.loop false p' fn tm ps a b :: st') := fun E Z w vals hs hv => by
  have key : ∀ v w', Post T E Z w st mvs r (.loop false p fn tm ps a b :: st') v w' → Post T E Z w st mvs r (.loop false p' fn tm ps a b :: st') v w' := fun v w' ⟨E', Z', h1, h2, h3, h4, h5⟩ => by
    obtain ⟨k1, k2⟩ := h1.pend0 (p' := p')
    exact ⟨E', Z', k1, h2, h3.trans ⟨rfl, rfl, rfl, Nat.le_refl _, fun _ _ _ => rfl, fun _ hz => hz, fun _ hz => .inl hz, fun b hb => .inl (k2 b hb)⟩, h4, h5⟩
  rcases h E Z w vals hs hv with ⟨h1, h2⟩ | ⟨v, w', h1, h2⟩ | ⟨row, as, h1, h2⟩
  · exact .inl ⟨h1, h2.mono fun e w' ⟨v, he, hp⟩ => ⟨v, he, key v w' hp⟩⟩
  · exact .inr (.inl ⟨v, w', h1, key v w' h2⟩)
  · exact .inr (.inr ⟨row, as, h1, h2.mono fun v w' hp => key v w' hp⟩)
end
end
end Go.Fw
