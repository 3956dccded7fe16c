/- A part of the proofs over these laws: what its functions come to. No conditions. -/
import Derived.Test.YtgcdiccbehiijaaS
import Derived.Test.YtgcdiccbehiijaaFwZb
import Derived.Laws.Externs
import Derived.Lib.Mul64
set_option linter.all false
namespace Go.Proofs.Ytgcdiccbehiijaa.W
open Go.Fw
set_option maxRecDepth 100000
def u64 (n : Int) : AV := .k (.int .u64 n)
def i64 (n : Int) : AV := .k (.int .i64 n)
def FAdd : List AV → List AObj → Ab Res
  | [.k (.int .u64 x), .k (.int .u64 y), .k (.int .u64 c)], [] =>
    some (decide (0 ≤ x) && (decide (0 ≤ y) && (decide (0 ≤ c) && decide (c ≤ 1))), .tup [u64 ((x + y + c) % 18446744073709551616), u64 ((x + y + c) / 18446744073709551616)], [])
  | _, _ => none
def FSub : List AV → List AObj → Ab Res
  | [.k (.int .u64 x), .k (.int .u64 y), .k (.int .u64 c)], [] =>
    some (decide (0 ≤ x) && (decide (0 ≤ y) && (decide (y < 18446744073709551616) && (decide (0 ≤ c) && decide (c ≤ 1)))), .tup [u64 ((x + 18446744073709551616 - y - c) % 18446744073709551616), u64 (bif decide (x < y + c) then 1 else 0)], [])
  | _, _ => none
noncomputable def sysA : FSys := (sys.tell 76 FAdd).tell 78 FSub
theorem VRs_three {T : Tab} {E : Env} {Z : Nat → Prop} {w : World} {a b c : AV} {vals : List Value} (h : VRs T E Z w [a, b, c] vals) : ∃ x y z, vals = [x, y, z] ∧ VR T E Z w a x ∧ VR T E Z w b y ∧ VR T E Z w c z := by
  obtain ⟨hl, hr⟩ := h
  match vals, hl with
  | [x, y, z], _ => exact ⟨x, y, z, rfl, hr 0 _ _ rfl rfl, hr 1 _ _ rfl rfl, hr 2 _ _ rfl rfl⟩
def sub64Entry : Array Value → Sem Value := fun args => do
  let (x, y, b) ← Extern.MathBitsCarry.three "Sub64" args
  pure (Extern.MathBitsCarry.pair ((x + Extern.MathBitsCarry.m64 - y - b) % Extern.MathBitsCarry.m64) (if x < y + b then 1 else 0))
theorem run_sub64 {P : Program} (x y c : Int) (hx : 0 ≤ x) (hy : 0 ≤ y) (hy' : y < 18446744073709551616) (hc0 : 0 ≤ c) (hc : c ≤ 1) (w : World) :
    (sub64Entry #[.int .u64 x, .int .u64 y, .int .u64 c]).run P w =
      .ok (.tuple #[.int .u64 ((x + 18446744073709551616 - y - c) % 18446744073709551616), .int .u64 (bif decide (x < y + c) then 1 else 0)]) w := by
  have key : ∀ k : Nat, k ≤ 1 → (sub64Entry #[.int .u64 x, .int .u64 y, .int .u64 (k : Int)]).run P w =
      .ok (Extern.MathBitsCarry.pair ((x.toNat + Extern.MathBitsCarry.m64 - y.toNat - k) % Extern.MathBitsCarry.m64) (if x.toNat < y.toNat + k then 1 else 0)) w := by
    intro k hk
    have : k = 0 ∨ k = 1 := by omega
    rcases this with rfl | rfl <;> rfl
  obtain ⟨k, rfl⟩ := Int.eq_ofNat_of_zero_le hc0
  rw [key k (by omega)]
  obtain ⟨X, rfl⟩ := Int.eq_ofNat_of_zero_le hx
  obtain ⟨Y, rfl⟩ := Int.eq_ofNat_of_zero_le hy
  have hd : decide ((X : Int) < (Y : Int) + (k : Int)) = decide (X < Y + k) := by
    rw [Bool.eq_iff_iff]; simp; omega
  simp only [Extern.MathBitsCarry.pair, Extern.MathBitsCarry.m64, Int.toNat_natCast, hd]
  by_cases h : X < Y + k
  · simp only [h, if_true, decide_true, cond_true]
    congr 4 <;> simp <;> omega
  · simp only [h, if_false, decide_false, cond_false]
    congr 4 <;> simp <;> omega
theorem tabOk : TabOk Try.prog tab := tab_ok (by kernel_rfl)
theorem VR_u64 {T : Tab} {E : Env} {Z : Nat → Prop} {w : World} {x : Int} {v : Value} (h : VR T E Z w (.k (.int .u64 x)) v) : v = .int .u64 x := by
  cases h with
  | k _ _ => rfl
theorem cf76 (x y c : Int) (hx : 0 ≤ x) (hy : 0 ≤ y) (hc0 : 0 ≤ c) (hc : c ≤ 1) : CF Try.prog tab 76 [u64 x, u64 y, u64 c] [] [] (.tup [u64 ((x + y + c) % 18446744073709551616), u64 ((x + y + c) / 18446744073709551616)]) [] :=
  CF_externS (fn := Try.f76) (e := add64Entry) Try.func76 (by kernel_rfl) (by kernel_rfl) (by kernel_rfl) (by kernel_rfl) fun E Z w vals hs hv => by
    obtain ⟨a, b, d, rfl, h1, h2, h3⟩ := VRs_three hv
    obtain rfl := VR_u64 h1
    obtain rfl := VR_u64 h2
    obtain rfl := VR_u64 h3
    refine ⟨_, run_add64 x y c hx hy hc0 hc w, .tup _ [_, _] rfl fun j av v hj hv => ?_⟩
    match j, hj, hv with
    | 0, hj, hv => cases hj; cases hv; exact .k _ rfl
    | 1, hj, hv => cases hj; cases hv; exact .k _ rfl
theorem cf78 (x y c : Int) (hx : 0 ≤ x) (hy : 0 ≤ y) (hy' : y < 18446744073709551616) (hc0 : 0 ≤ c) (hc : c ≤ 1) : CF Try.prog tab 78 [u64 x, u64 y, u64 c] [] [] (.tup [u64 ((x + 18446744073709551616 - y - c) % 18446744073709551616), u64 (bif decide (x < y + c) then 1 else 0)]) [] :=
  CF_externS (fn := Try.f78) (e := sub64Entry) Try.func78 (by kernel_rfl) (by kernel_rfl) (by kernel_rfl) (by kernel_rfl) fun E Z w vals hs hv => by
    obtain ⟨a, b, d, rfl, h1, h2, h3⟩ := VRs_three hv
    obtain rfl := VR_u64 h1
    obtain rfl := VR_u64 h2
    obtain rfl := VR_u64 h3
    refine ⟨_, run_sub64 x y c hx hy hy' hc0 hc w, .tup _ [_, _] rfl fun j av v hj hv => ?_⟩
    match j, hj, hv with
    | 0, hj, hv => cases hj; cases hv; exact .k _ rfl
    | 1, hj, hv => cases hj; cases hv; exact .k _ rfl
end Go.Proofs.Ytgcdiccbehiijaa.W
namespace Go.Proofs.Ytgcdiccbehiijaa.W
open Go.Fw
set_option maxRecDepth 100000
theorem wrapU (n : Int) : IntKind.u64.wrap n = n % 18446744073709551616 := by simp [IntKind.wrap, IntKind.bits, IntKind.signed]
theorem wrapUn (n : Nat) : IntKind.u64.wrap (n : Int) = ((n % 18446744073709551616 : Nat) : Int) := by rw [wrapU]; omega
theorem wrapUl {n : Nat} (h : n < 18446744073709551616) : IntKind.u64.wrap (n : Int) = (n : Int) := by rw [wrapUn, Nat.mod_eq_of_lt h]
theorem wrapI {n : Int} (h1 : -9223372036854775808 ≤ n) (h2 : n < 9223372036854775808) : IntKind.i64.wrap n = n := by
  simp only [IntKind.wrap, IntKind.bits, IntKind.signed]
  simp
  omega
def isU (x : Int) : Bool := decide (0 ≤ x) && decide (x < 18446744073709551616)
theorem isU_nat {x : Int} (h : isU x = true) : ∃ n : Nat, x = (n : Int) ∧ n < 18446744073709551616 := by
  simp only [isU, Bool.and_eq_true, decide_eq_true_eq] at h
  exact ⟨x.toNat, by omega, by omega⟩
theorem isU_of {n : Nat} (h : n < 18446744073709551616) : isU (n : Int) = true := by
  simp only [isU, Bool.and_eq_true, decide_eq_true_eq]; omega
def isI (x : Int) : Bool := decide (-9223372036854775808 ≤ x) && decide (x < 9223372036854775808)
theorem loopAt_succ' (S : FSys) (f : FuncId) (fn : Func) (m k : Nat) (p ms : List Nat) (n : Nat) (σ : St) : loopAt S f fn m k p ms (n + 1) σ = roundAt S f fn m k p ms (fun σ => loopAt S f fn m k p ms n σ) σ := loopAt_succ _ _ _ _ _ _ _ _ _
def σ51 (x y : Int) : St := ⟨tm 12 [(0, u64 x), (1, u64 y)], [], []⟩
theorem round51 (x y : Int) (k : Nat) (R : St → Option Res) : roundAt sysA 51 Try.f51 0 k [1,0,0] [] R (σ51 x y) = bif y != 0 then (bif !decide (y = 0) then R (σ51 y (x.tmod y)) else none) else some (u64 x, []) := by kernel_rfl
theorem start51 (x y : Int) (k : Nat) : ev sysA (k + 1) 51 [u64 x, u64 y] [] = loopAt sysA 51 Try.f51 0 k [1,0,0] [] k (σ51 x y) := by kernel_rfl
theorem loop51 (k : Nat) : ∀ (n m j : Nat), n < j → loopAt sysA 51 Try.f51 0 k [1,0,0] [] j (σ51 (m : Int) (n : Int)) = some (u64 (Nat.gcd m n : Nat), []) := by
  intro n
  induction n using Nat.strongRecOn with
  | _ n ih =>
    intro m j hj
    obtain ⟨j, rfl⟩ : ∃ i, j = i + 1 := ⟨j - 1, by omega⟩
    refine (loopAt_succ' _ _ _ _ _ _ _ _ _).trans ((round51 _ _ k _).trans ?_)
    rcases Nat.eq_zero_or_pos n with h | h
    · subst h
      rw [Nat.gcd_zero_right]; rfl
    · have h1 : ((n : Int) != 0) = true := by simp; omega
      have h2 : (!decide ((n : Int) = 0)) = true := by simp; omega
      have h3 : (m : Int).tmod (n : Int) = ((m % n : Nat) : Int) := by rw [Int.tmod_eq_emod_of_nonneg (by omega)]; rfl
      have hlt := Nat.mod_lt m h
      rw [h1, h2, h3]
      refine (ih (m % n) hlt n j (by omega)).trans ?_
      rw [Nat.gcd_comm m n, Nat.gcd_rec n m, Nat.gcd_comm]
def gcdI (x y : Int) : Int := match x with
  | .ofNat a => (Nat.gcd a y.toNat : Nat)
  | .negSucc _ => 0
theorem gcdI_nat (m n : Nat) : gcdI (m : Int) (n : Int) = ((Nat.gcd m n : Nat) : Int) := rfl
def absI (x : Int) : Int := bif decide (x < 0) then -x else x
theorem absI_eq (x : Int) : absI x = ((x.natAbs : Nat) : Int) := by
  unfold absI
  by_cases h : x < 0
  · rw [decide_eq_true h]; simp only [cond_true]; omega
  · rw [decide_eq_false h]; simp only [cond_false]; omega
def FGcd : List AV → List AObj → Ab Res
  | [.k (.int .u64 x), .k (.int .u64 y)], [] => some (isU x && isU y, u64 (gcdI x y), [])
  | _, _ => none
theorem told51 (args : List AV) (st : List AObj) (r : Res) (h : FGcd args st = some (true, r)) : ∃ k, ev sysA k 51 args st = some r := by
  unfold FGcd at h
  split at h
  · rename_i x y
    simp only [Option.some.injEq, Prod.mk.injEq, Bool.and_eq_true] at h
    obtain ⟨⟨h1, h2⟩, rfl⟩ := h
    obtain ⟨m, rfl, _⟩ := isU_nat h1
    obtain ⟨n, rfl, _⟩ := isU_nat h2
    exact ⟨n + 1 + 1, (start51 _ _ _).trans ((loop51 _ n m (n + 1) (by omega)).trans rfl)⟩
  · cases h
noncomputable def sysB1 : FSys := sysA.tell 51 FGcd
theorem ev57 (x : Int) (k : Nat) : ev sysB1 (k + 1) 57 [i64 x] [] = bif decide (x < 0) then some (u64 (IntKind.u64.wrap (IntKind.i64.wrap (0 - x))), []) else some (u64 (IntKind.u64.wrap x), []) := by kernel_rfl
theorem ev58 (x : Int) (k : Nat) : ev sysB1 (k + 1) 58 [i64 x] [] = bif decide (x < 0) then some (u64 (IntKind.u64.wrap (0 - IntKind.u64.wrap x)), []) else some (u64 (IntKind.u64.wrap x), []) := by kernel_rfl
def FAbs : List AV → List AObj → Ab Res
  | [.k (.int .i64 x)], [] => some (isI x, u64 (absI x), [])
  | _, _ => none
theorem told57 (args : List AV) (st : List AObj) (r : Res) (h : FAbs args st = some (true, r)) : ∃ k, ev sysB1 k 57 args st = some r := by
  unfold FAbs at h
  split at h
  · rename_i x
    simp only [Option.some.injEq, Prod.mk.injEq, isI, Bool.and_eq_true, decide_eq_true_eq] at h
    obtain ⟨⟨h1, h2⟩, rfl⟩ := h
    refine ⟨0 + 1, (ev57 x 0).trans ?_⟩
    rw [absI_eq]
    by_cases hx : x < 0
    · rw [decide_eq_true hx, wrapU]
      have : IntKind.i64.wrap (0 - x) % 18446744073709551616 = ((x.natAbs : Nat) : Int) := by
        by_cases hm : x = -9223372036854775808
        · subst hm; rfl
        · rw [wrapI] <;> omega
      rw [this]; rfl
    · rw [decide_eq_false hx, wrapU x]
      have : x % 18446744073709551616 = ((x.natAbs : Nat) : Int) := by omega
      rw [this]; rfl
  · cases h
theorem told58 (args : List AV) (st : List AObj) (r : Res) (h : FAbs args st = some (true, r)) : ∃ k, ev sysB1 k 58 args st = some r := by
  unfold FAbs at h
  split at h
  · rename_i x
    simp only [Option.some.injEq, Prod.mk.injEq, isI, Bool.and_eq_true, decide_eq_true_eq] at h
    obtain ⟨⟨h1, h2⟩, rfl⟩ := h
    refine ⟨0 + 1, (ev58 x 0).trans ?_⟩
    rw [absI_eq]
    by_cases hx : x < 0
    · rw [decide_eq_true hx, wrapU, wrapU]
      have : (0 - x % 18446744073709551616) % 18446744073709551616 = ((x.natAbs : Nat) : Int) := by omega
      rw [this]; rfl
    · rw [decide_eq_false hx, wrapU x]
      have : x % 18446744073709551616 = ((x.natAbs : Nat) : Int) := by omega
      rw [this]; rfl
  · cases h
noncomputable def sysB2 : FSys := (sysB1.tell 57 FAbs).tell 58 FAbs
def wU (x : Int) : Int := IntKind.u64.wrap x
def a32 (x : Int) : Int := wU ↑(BitVec.ofInt IntKind.u64.bits x &&& BitVec.ofInt IntKind.u64.bits 4294967295).toNat
def s32 (x : Int) : Int := x.fdiv (2 ^ min (Int.toNat 32) IntKind.u64.bits)
def mulT (x y : Int) : Int := wU (wU (s32 x * a32 y) + s32 (wU (a32 x * a32 y)))
def mulV (x y : Int) : Int := wU (a32 (mulT x y) + wU (a32 x * s32 y))
def mulH (x y : Int) : Int := wU (wU (wU (s32 x * s32 y) + s32 (mulT x y)) + s32 (mulV x y))
theorem ev55 (x y : Int) (k : Nat) : ev sysB2 (k + 1) 55 [u64 x, u64 y] [] = some (.tup [u64 (mulH x y), u64 (wU (x * y))], []) := by kernel_rfl
theorem a32_nat (n : Nat) : a32 (n : Int) = ((n % 4294967296 : Nat) : Int) := by
  unfold a32 wU
  have e1 : (BitVec.ofInt IntKind.u64.bits (n : Int) &&& BitVec.ofInt IntKind.u64.bits 4294967295).toNat = n % 4294967296 := by
    rw [BitVec.toNat_and]
    have h1 : (BitVec.ofInt IntKind.u64.bits (n : Int)).toNat = n % 18446744073709551616 := by
      simp only [IntKind.bits, BitVec.toNat_ofInt]; omega
    have h2 : (BitVec.ofInt IntKind.u64.bits 4294967295).toNat = 2 ^ 32 - 1 := by decide
    rw [h1, h2, Nat.and_two_pow_sub_one_eq_mod]
    omega
  rw [e1]
  exact wrapUl (by omega)
theorem s32_nat (n : Nat) : s32 (n : Int) = ((n / 4294967296 : Nat) : Int) := by
  unfold s32
  have e : ((2 : Int) ^ min (Int.toNat 32) IntKind.u64.bits) = 4294967296 := by decide
  rw [e, Int.fdiv_eq_ediv_of_nonneg _ (by omega)]; rfl
theorem mulH_nat (x y : Nat) (hx : x < 18446744073709551616) (hy : y < 18446744073709551616) : mulH (x : Int) (y : Int) = ((x * y / 18446744073709551616 : Nat) : Int) := by
  obtain ⟨h1, h2, h3, h4⟩ := Lib.mul64_hi x y hx hy
  have hb := Lib.half_mul_le (a := x / 4294967296) (b := y / 4294967296) (by omega) (by omega)
  have hc := Lib.half_mul_le (a := x / 4294967296) (b := y % 4294967296) (by omega) (by omega)
  have hd := Lib.half_mul_le (a := x % 4294967296) (b := y / 4294967296) (by omega) (by omega)
  have cm : ∀ a b : Nat, (a : Int) * (b : Int) = ((a * b : Nat) : Int) := fun a b => (Int.natCast_mul a b).symm
  have ca : ∀ a b : Nat, (a : Int) + (b : Int) = ((a + b : Nat) : Int) := fun a b => (Int.natCast_add a b).symm
  have hT : mulT (x : Int) (y : Int) = (((x / 4294967296) * (y % 4294967296) + (x % 4294967296) * (y % 4294967296) / 4294967296 : Nat) : Int) := by
    unfold mulT wU
    rw [s32_nat, a32_nat, a32_nat, cm, cm, wrapUl (by omega), wrapUl h1, s32_nat, ca, wrapUl h2]
  have hV : mulV (x : Int) (y : Int) = (((((x / 4294967296) * (y % 4294967296) + (x % 4294967296) * (y % 4294967296) / 4294967296) % 4294967296 + (x % 4294967296) * (y / 4294967296)) : Nat) : Int) := by
    unfold mulV wU
    rw [hT, a32_nat, a32_nat, s32_nat, cm, wrapUl (by omega), ca, wrapUl h3]
  have hxy : x * y / 18446744073709551616 < 18446744073709551616 := by
    rw [Nat.div_lt_iff_lt_mul (by omega)]
    exact Nat.mul_lt_mul'' hx hy
  unfold mulH
  rw [hT, hV]
  unfold wU
  rw [s32_nat, s32_nat, s32_nat, s32_nat, cm, wrapUl (by omega), ca, wrapUl (by omega), ca, wrapUl (by omega), h4]
def FMul : List AV → List AObj → Ab Res
  | [.k (.int .u64 x), .k (.int .u64 y)], [] => some (isU x && isU y, .tup [u64 (x * y / 18446744073709551616), u64 (x * y % 18446744073709551616)], [])
  | _, _ => none
theorem told55 (args : List AV) (st : List AObj) (r : Res) (h : FMul args st = some (true, r)) : ∃ k, ev sysB2 k 55 args st = some r := by
  unfold FMul at h
  split at h
  · rename_i x y
    simp only [Option.some.injEq, Prod.mk.injEq, Bool.and_eq_true] at h
    obtain ⟨⟨h1, h2⟩, rfl⟩ := h
    obtain ⟨m, rfl, hm⟩ := isU_nat h1
    obtain ⟨n, rfl, hn⟩ := isU_nat h2
    refine ⟨0 + 1, (ev55 _ _ 0).trans ?_⟩
    rw [mulH_nat m n hm hn]
    unfold wU
    rw [wrapU]
    have e : ((m * n / 18446744073709551616 : Nat) : Int) = (m : Int) * (n : Int) / 18446744073709551616 := by
      rw [← Int.natCast_mul]; rfl
    rw [e]
  · cases h
noncomputable def sysB3 : FSys := sysB2.tell 55 FMul
end Go.Proofs.Ytgcdiccbehiijaa.W
namespace Go.Proofs.Ytgcdiccbehiijaa.W
open Go.Fw
set_option maxRecDepth 100000
def len8 : ByteArray := ⟨#[0, 1, 2, 2, 3, 3, 3, 3, 4, 4, 4, 4, 4, 4, 4, 4, 5, 5, 5, 5, 5, 5, 5, 5, 5, 5, 5, 5, 5, 5, 5, 5, 6, 6, 6, 6, 6, 6, 6, 6, 6, 6, 6, 6, 6, 6, 6, 6, 6, 6, 6, 6, 6, 6, 6, 6, 6, 6, 6, 6, 6, 6, 6, 6, 7, 7, 7, 7, 7, 7, 7, 7, 7, 7, 7, 7, 7, 7, 7, 7, 7, 7, 7, 7, 7, 7, 7, 7, 7, 7, 7, 7, 7, 7, 7, 7, 7, 7, 7, 7, 7, 7, 7, 7, 7, 7, 7, 7, 7, 7, 7, 7, 7, 7, 7, 7, 7, 7, 7, 7, 7, 7, 7, 7, 7, 7, 7, 7, 8, 8, 8, 8, 8, 8, 8, 8, 8, 8, 8, 8, 8, 8, 8, 8, 8, 8, 8, 8, 8, 8, 8, 8, 8, 8, 8, 8, 8, 8, 8, 8, 8, 8, 8, 8, 8, 8, 8, 8, 8, 8, 8, 8, 8, 8, 8, 8, 8, 8, 8, 8, 8, 8, 8, 8, 8, 8, 8, 8, 8, 8, 8, 8, 8, 8, 8, 8, 8, 8, 8, 8, 8, 8, 8, 8, 8, 8, 8, 8, 8, 8, 8, 8, 8, 8, 8, 8, 8, 8, 8, 8, 8, 8, 8, 8, 8, 8, 8, 8, 8, 8, 8, 8, 8, 8, 8, 8, 8, 8, 8, 8, 8, 8, 8, 8, 8, 8, 8, 8, 8, 8, 8, 8, 8, 8, 8, 8]⟩
def fin92 (n x : Int) : Option Res := bif decide (0 ≤ IntKind.u8.wrap x) && decide (IntKind.u8.wrap x < (len8.size : Int)) then some (i64 (IntKind.i64.wrap (n + IntKind.i64.wrap (byteAt len8 (IntKind.u8.wrap x)))), []) else none
def st92c (n x : Int) : Option Res := bif decide (x ≥ 256) then fin92 (IntKind.i64.wrap (n + 8)) (x.fdiv (2 ^ min (Int.toNat 8) IntKind.u64.bits)) else fin92 n x
def st92b (n x : Int) : Option Res := bif decide (x ≥ 65536) then st92c (IntKind.i64.wrap (n + 16)) (x.fdiv (2 ^ min (Int.toNat 16) IntKind.u64.bits)) else st92c n x
theorem ev92 (x : Int) (k : Nat) : ev sysB3 (k + 1) 92 [u64 x] [] = bif decide (x ≥ 4294967296) then st92b 32 (s32 x) else st92b 0 x := by kernel_rfl
def bitlen (n : Nat) : Nat := if n = 0 then 0 else n.log2 + 1
theorem len8_ok : ∀ n : Fin 256, byteAt len8 ((n.val : Nat) : Int) = (bitlen n.val : Int) := by decide +kernel
theorem bitlen_div (n k : Nat) (h : 2 ^ k ≤ n) : bitlen n = k + bitlen (n / 2 ^ k) := by
  have hp : 0 < 2 ^ k := Nat.two_pow_pos k
  have hn : n ≠ 0 := by omega
  have hd : n / 2 ^ k ≠ 0 := by
    have := Nat.div_pos h hp
    omega
  unfold bitlen
  rw [if_neg hn, if_neg hd]
  have h1 : k + (n / 2 ^ k).log2 ≤ n.log2 := by
    rw [Nat.le_log2 hn, Nat.pow_add]
    have := (Nat.le_log2 hd).1 (Nat.le_refl _)
    calc 2 ^ k * 2 ^ (n / 2 ^ k).log2 ≤ 2 ^ k * (n / 2 ^ k) := Nat.mul_le_mul_left _ this
      _ ≤ n := Nat.mul_div_le _ _
  have h2 : n.log2 < k + (n / 2 ^ k).log2 + 1 := by
    rw [Nat.log2_lt hn, Nat.add_assoc, Nat.pow_add]
    have := (Nat.log2_lt hd).1 (Nat.lt_succ_self _)
    exact (Nat.div_lt_iff_lt_mul hp).1 (by simpa [Nat.mul_comm] using this) |> fun h => by rwa [Nat.mul_comm] at h
  omega
theorem wrapI8 {n : Nat} (h : n < 256) : IntKind.u8.wrap (n : Int) = (n : Int) := by
  simp only [IntKind.wrap, IntKind.bits, IntKind.signed]
  simp
  omega
theorem bitlen_le {n k : Nat} (h : n < 2 ^ k) : bitlen n ≤ k := by
  unfold bitlen
  split
  · omega
  · rename_i h0
    exact (Nat.log2_lt h0).2 h
theorem fin92_ok (m n : Nat) (hn : n < 256) (hm : m ≤ 100) : fin92 (m : Int) (n : Int) = some (i64 ((m + bitlen n : Nat) : Int), []) := by
  have hb : bitlen n ≤ 8 := bitlen_le (by simpa using hn)
  have h1 := len8_ok ⟨n, hn⟩
  simp only at h1
  have h2 : decide ((n : Int) < (len8.size : Int)) = true := by
    have : len8.size = 256 := by decide +kernel
    rw [this, decide_eq_true_eq]; omega
  have h3 : decide (0 ≤ (n : Int)) = true := by simp
  have h4 : IntKind.i64.wrap ((bitlen n : Nat) : Int) = (bitlen n : Nat) := by rw [wrapI] <;> omega
  have h5 : IntKind.i64.wrap ((m : Int) + (bitlen n : Nat)) = ((m + bitlen n : Nat) : Int) := by rw [wrapI] <;> omega
  unfold fin92
  rw [wrapI8 hn, h2, h3, h1, h4, h5]
  rfl
theorem fdivP (n k : Nat) (hk : k ≤ 64) : (n : Int).fdiv (2 ^ min (Int.toNat (k : Int)) IntKind.u64.bits) = ((n / 2 ^ k : Nat) : Int) := by
  have e : min (Int.toNat (k : Int)) IntKind.u64.bits = k := by simp only [IntKind.bits, Int.toNat_natCast]; omega
  rw [e, Int.fdiv_eq_ediv_of_nonneg _ (by exact Int.le_of_lt (Int.pow_pos (by omega)))]
  have e2 : ((2 : Int) ^ k) = ((2 ^ k : Nat) : Int) := by simp
  rw [e2]
  rfl
theorem st92c_ok (m n : Nat) (hn : n < 65536) (hm : m ≤ 92) : st92c (m : Int) (n : Int) = some (i64 ((m + bitlen n : Nat) : Int), []) := by
  unfold st92c
  have hw : IntKind.i64.wrap ((m : Int) + 8) = ((m + 8 : Nat) : Int) := by rw [wrapI] <;> omega
  have hf := fdivP n 8 (by omega)
  by_cases h : n < 256
  · have : decide ((n : Int) ≥ 256) = false := by rw [decide_eq_false_iff_not]; omega
    rw [this]
    exact fin92_ok m n h (by omega)
  · have : decide ((n : Int) ≥ 256) = true := by rw [decide_eq_true_eq]; omega
    rw [this, hw]
    have h2 := fin92_ok (m + 8) (n / 2 ^ 8) (by omega) (by omega)
    have h3 := bitlen_div n 8 (by omega)
    rw [h3]
    exact (congrArg (fin92 _) hf).trans (h2.trans (by rw [Nat.add_assoc]))
theorem st92b_ok (m n : Nat) (hn : n < 4294967296) (hm : m ≤ 76) : st92b (m : Int) (n : Int) = some (i64 ((m + bitlen n : Nat) : Int), []) := by
  unfold st92b
  have hw : IntKind.i64.wrap ((m : Int) + 16) = ((m + 16 : Nat) : Int) := by rw [wrapI] <;> omega
  have hf := fdivP n 16 (by omega)
  by_cases h : n < 65536
  · have : decide ((n : Int) ≥ 65536) = false := by rw [decide_eq_false_iff_not]; omega
    rw [this]
    exact st92c_ok m n h (by omega)
  · have : decide ((n : Int) ≥ 65536) = true := by rw [decide_eq_true_eq]; omega
    rw [this, hw]
    have h2 := st92c_ok (m + 16) (n / 2 ^ 16) (by omega) (by omega)
    have h3 := bitlen_div n 16 (by omega)
    rw [h3]
    exact (congrArg (st92c _) hf).trans (h2.trans (by rw [Nat.add_assoc]))
theorem len64 (n : Nat) (hn : n < 18446744073709551616) (k : Nat) : ev sysB3 (k + 1) 92 [u64 (n : Int)] [] = some (i64 ((bitlen n : Nat) : Int), []) := by
  rw [ev92]
  by_cases h : n < 4294967296
  · have : decide ((n : Int) ≥ 4294967296) = false := by rw [decide_eq_false_iff_not]; omega
    rw [this]
    have := st92b_ok 0 n h (by omega)
    rw [Nat.zero_add] at this
    exact this
  · have : decide ((n : Int) ≥ 4294967296) = true := by rw [decide_eq_true_eq]; omega
    rw [this, s32_nat]
    have h2 := st92b_ok 32 (n / 4294967296) (by omega) (by omega)
    have h3 := bitlen_div n 32 (by omega)
    rw [h3]
    exact h2
def FLen : List AV → List AObj → Ab Res
  | [.k (.int .u64 x)], [] => some (isU x, i64 (bitlen x.toNat : Nat), [])
  | _, _ => none
theorem told92 (args : List AV) (st : List AObj) (r : Res) (h : FLen args st = some (true, r)) : ∃ k, ev sysB3 k 92 args st = some r := by
  unfold FLen at h
  split at h
  · rename_i x
    simp only [Option.some.injEq, Prod.mk.injEq] at h
    obtain ⟨h1, rfl⟩ := h
    obtain ⟨n, rfl, hn⟩ := isU_nat h1
    exact ⟨0 + 1, by rw [Int.toNat_natCast]; exact len64 n hn 0⟩
  · cases h
noncomputable def sysB4 : FSys := sysB3.tell 92 FLen
theorem ev89 (x : Int) (k : Nat) : ev sysB4 (k + 2) 89 [u64 x] [] = bif isU x then some (i64 (IntKind.i64.wrap (64 - (bitlen x.toNat : Nat))), []) else none := by kernel_rfl
def FLz : List AV → List AObj → Ab Res
  | [.k (.int .u64 x)], [] => some (isU x, i64 (64 - (bitlen x.toNat : Nat)), [])
  | _, _ => none
theorem told89 (args : List AV) (st : List AObj) (r : Res) (h : FLz args st = some (true, r)) : ∃ k, ev sysB4 k 89 args st = some r := by
  unfold FLz at h
  split at h
  · rename_i x
    simp only [Option.some.injEq, Prod.mk.injEq] at h
    obtain ⟨h1, rfl⟩ := h
    refine ⟨0 + 2, (ev89 x 0).trans ?_⟩
    obtain ⟨n, rfl, hn⟩ := isU_nat h1
    rw [h1, Int.toNat_natCast]
    have := bitlen_le (n := n) (k := 64) (by simpa using hn)
    rw [wrapI (by omega) (by omega)]
    rfl
  · cases h
noncomputable def sysB5 : FSys := sysB4.tell 89 FLz
end Go.Proofs.Ytgcdiccbehiijaa.W
namespace Go.Proofs.Ytgcdiccbehiijaa.W
open Go.Fw
set_option maxRecDepth 100000
def σA (y s v1 v0 u n1 n0 q r : Int) : St := ⟨tm 135 [(2, u64 y), (8, u64 s), (9, u64 v1), (10, u64 v0), (11, u64 u), (13, u64 n1), (14, u64 n0), (15, u64 q), (16, u64 r)], [], []⟩
def σB (y s v1 v0 n0 q r u q0 : Int) : St := ⟨tm 135 [(2, u64 y), (8, u64 s), (9, u64 v1), (10, u64 v0), (14, u64 n0), (15, u64 q), (16, u64 r), (17, u64 u), (18, u64 q0)], [], []⟩
def pA : List Nat := [1,1,1,1,1,1,1,1,1,1,1,1,1,1,0,0]
def pB : List Nat := [1,1,1,1,1,1,1,1,1,1,1,1,1,1,1,1,1,1,0,0]
def exB (y s n0 q u q0 : Int) : Option Res := bif decide (0 ≤ s) then some (.tup [u64 (wU (wU (q * 4294967296) + q0)), u64 ((wU (wU (wU (u * 4294967296) + n0) - wU (q0 * y))).fdiv (2 ^ min s.toNat IntKind.u64.bits))], []) else none
def boB (y s v1 v0 n0 q u q0 r : Int) (R : St → Option Res) : Option Res := bif decide (wU (r + v1) ≥ 4294967296) then exB y s n0 q u (wU (q0 - 1)) else R (σB y s v1 v0 n0 q (wU (r + v1)) u (wU (q0 - 1)))
theorem roundB (y s v1 v0 n0 q r u q0 : Int) (k : Nat) (R : St → Option Res) : roundAt sysB5 79 Try.f79 0 k pB [] R (σB y s v1 v0 n0 q r u q0) =
  bif decide (q0 ≥ 4294967296) then boB y s v1 v0 n0 q u q0 r R else bif decide (wU (q0 * v0) > wU (wU (4294967296 * r) + n0)) then boB y s v1 v0 n0 q u q0 r R else exB y s n0 q u q0 := by kernel_rfl
def un21 (y u n1 q : Int) : Int := wU (wU (wU (u * 4294967296) + n1) - wU (q * y))
noncomputable def exA (y s v1 v0 u n1 n0 q : Int) (k : Nat) : Option Res := bif !decide (v1 = 0) then
  loopAt sysB5 79 Try.f79 0 k pB [] k (σB y s v1 v0 n0 q (wU (un21 y u n1 q - wU (wU ((un21 y u n1 q).tdiv v1) * v1))) (un21 y u n1 q) (wU ((un21 y u n1 q).tdiv v1))) else none
noncomputable def boA (y s v1 v0 u n1 n0 q r : Int) (k : Nat) (R : St → Option Res) : Option Res := bif decide (wU (r + v1) ≥ 4294967296) then exA y s v1 v0 u n1 n0 (wU (q - 1)) k else R (σA y s v1 v0 u n1 n0 (wU (q - 1)) (wU (r + v1)))
theorem roundA (y s v1 v0 u n1 n0 q r : Int) (k : Nat) (R : St → Option Res) : roundAt sysB5 79 Try.f79 0 k pA [] R (σA y s v1 v0 u n1 n0 q r) =
  bif decide (q ≥ 4294967296) then boA y s v1 v0 u n1 n0 q r k R else bif decide (wU (q * v0) > wU (wU (4294967296 * r) + n1)) then boA y s v1 v0 u n1 n0 q r k R else exA y s v1 v0 u n1 n0 q k := by kernel_rfl
def shlU (x s : Int) : Int := wU (x * 2 ^ min s.toNat IntKind.u64.bits)
def shrU (x s : Int) : Int := x.fdiv (2 ^ min s.toNat IntKind.u64.bits)
def orU (x y : Int) : Int := wU ↑(BitVec.ofInt IntKind.u64.bits x ||| BitVec.ofInt IntKind.u64.bits y).toNat
noncomputable def in79 (y s u n10 : Int) (k : Nat) : Option Res :=
  bif !decide (s32 y = 0) then loopAt sysB5 79 Try.f79 0 k pA [] k (σA y s (s32 y) (a32 y) u (s32 n10) (a32 n10) (wU (u.tdiv (s32 y))) (wU (u - wU (wU (u.tdiv (s32 y)) * s32 y)))) else none
noncomputable def nx79 (hi lo y s : Int) (k : Nat) : Option Res :=
  bif decide (0 ≤ s) then (bif decide (0 ≤ s) then (bif decide (0 ≤ wU (64 - s)) then (bif decide (0 ≤ s) then
    in79 (shlU y s) s (orU (shlU hi s) (shrU lo (wU (64 - s)))) (shlU lo s) k else none) else none) else none) else none
theorem start79 (hi lo y : Int) (k : Nat) : ev sysB5 (k + 1) 79 [u64 hi, u64 lo, u64 y] [] =
  bif y == 0 then none else bif decide (y ≤ hi) then none else bif hi == 0 then (bif !decide (y = 0) then (bif !decide (y = 0) then some (.tup [u64 (wU (lo.tdiv y)), u64 (lo.tmod y)], []) else none) else none) else
  bif isU y then nx79 hi lo y (wU (64 - (bitlen y.toNat : Nat))) k else none := by kernel_rfl
end Go.Proofs.Ytgcdiccbehiijaa.W
namespace Go.Proofs.Ytgcdiccbehiijaa.W
open Go.Fw
set_option maxRecDepth 100000
theorem dg_lt {v1 v0 u n1 q r : Nat} (hq : q * v1 + r = u) (h : 4294967296 * r + n1 < q * v0) : (u * 4294967296 + n1) / (v1 * 4294967296 + v0) < q := by
  rcases Nat.eq_zero_or_pos (v1 * 4294967296 + v0) with h0 | h0
  · have : v0 = 0 := by omega
    subst this; omega
  · rw [Nat.div_lt_iff_lt_mul h0, Nat.mul_add, ← Nat.mul_assoc]
    generalize q * v1 = P at *
    generalize q * v0 = V at *
    omega
theorem dg_le {v1 v0 u n1 q r : Nat} (h0 : 0 < v1) (hq : q * v1 + r = u) (h : q * v0 ≤ 4294967296 * r + n1) : q ≤ (u * 4294967296 + n1) / (v1 * 4294967296 + v0) := by
  rw [Nat.le_div_iff_mul_le (by omega), Nat.mul_add, ← Nat.mul_assoc]
  generalize q * v1 = P at *
  generalize q * v0 = V at *
  omega
theorem dg_lt32 {v1 v0 u n1 : Nat} (hu : u < v1 * 4294967296 + v0) (hn : n1 < 4294967296) : (u * 4294967296 + n1) / (v1 * 4294967296 + v0) < 4294967296 := by
  rw [Nat.div_lt_iff_lt_mul (by omega)]
  omega
theorem wUl {n : Nat} (h : n < 18446744073709551616) : wU (n : Int) = (n : Int) := wrapUl h
theorem cm (a b : Nat) : (a : Int) * (b : Int) = ((a * b : Nat) : Int) := (Int.natCast_mul a b).symm
theorem ca (a b : Nat) : (a : Int) + (b : Int) = ((a + b : Nat) : Int) := (Int.natCast_add a b).symm
theorem cs {a b : Nat} (h : b ≤ a) : (a : Int) - (b : Int) = ((a - b : Nat) : Int) := (Int.natCast_sub h).symm
theorem cmK (b : Nat) : (4294967296 : Int) * (b : Int) = ((4294967296 * b : Nat) : Int) := by omega
theorem geK (n : Nat) : decide ((n : Int) ≥ 4294967296) = decide (n ≥ 4294967296) := by rw [Bool.eq_iff_iff]; simp; omega
theorem gtN (a b : Nat) : decide ((a : Int) > (b : Int)) = decide (a > b) := by rw [Bool.eq_iff_iff]; simp
theorem small_mul {a b : Nat} (ha : a < 4294967296) (hb : b < 4294967296) : a * b ≤ 18446744065119617025 := Nat.mul_le_mul (by omega : a ≤ 4294967295) (by omega : b ≤ 4294967295)
section
variable (y s v1 v0 : Nat) (hv1 : 2147483648 ≤ v1) (hv1' : v1 < 4294967296) (hv0 : v0 < 4294967296)
theorem dg_out {u n1 q r : Nat} (h1 : (q + 1) * v1 + r = u) (hq : q ≤ 4294967296) (hr : 4294967296 ≤ r + v1) (hv : v0 < 4294967296) (hp : 0 < v1) : q ≤ (u * 4294967296 + n1) / (v1 * 4294967296 + v0) := by
  refine dg_le hp (q := q) (r := r + v1) ?_ ?_
  · rw [Nat.succ_mul] at h1; omega
  · have : q * v0 ≤ 4294967296 * 4294967295 := Nat.mul_le_mul hq (by omega)
    omega
theorem loopA (u n1 n0 : Nat) (hu : u < v1 * 4294967296 + v0) (hn1 : n1 < 4294967296) (hv1 : 2147483648 ≤ v1) (hv1' : v1 < 4294967296) (hv0 : v0 < 4294967296) (k : Nat) : ∀ (n q r : Nat), q * v1 + r = u → r < 4294967296 → (u * 4294967296 + n1) / (v1 * 4294967296 + v0) ≤ q → q ≤ 4294967297 → q < n →
    loopAt sysB5 79 Try.f79 0 k pA [] n (σA y s v1 v0 u n1 n0 q r) = exA y s v1 v0 u n1 n0 (((u * 4294967296 + n1) / (v1 * 4294967296 + v0) : Nat) : Int) k
  | 0, q, r, _, _, _, _, h => by omega
  | n + 1, q, r, h1, h2, h3, h4, h5 => by
    refine (loopAt_succ' _ _ _ _ _ _ _ _ _).trans ((roundA _ _ _ _ _ _ _ _ _ k _).trans ?_)
    have hQ := dg_lt32 (n1 := n1) hu hn1
    have body : (u * 4294967296 + n1) / (v1 * 4294967296 + v0) < q → boA y s v1 v0 u n1 n0 q r k (fun σ => loopAt sysB5 79 Try.f79 0 k pA [] n σ) = exA y s v1 v0 u n1 n0 (((u * 4294967296 + n1) / (v1 * 4294967296 + v0) : Nat) : Int) k := fun hlt => by
      obtain ⟨p, rfl⟩ : ∃ p, q = p + 1 := ⟨q - 1, by have := Nat.lt_of_le_of_lt (Nat.zero_le _) hlt; omega⟩
      have e1 : wU (((p + 1 : Nat) : Int) - 1) = (p : Int) := by
        have : ((p + 1 : Nat) : Int) - 1 = (p : Int) := by omega
        rw [this, wUl (by omega)]
      have e2 : wU ((r : Int) + (v1 : Int)) = ((r + v1 : Nat) : Int) := by rw [ca, wUl (by omega)]
      unfold boA
      rw [e1, e2, geK]
      by_cases hr : r + v1 ≥ 4294967296
      · rw [decide_eq_true hr]
        have hle := dg_out v1 v0 (n1 := n1) h1 (by omega) hr hv0 (by omega)
        have : p = (u * 4294967296 + n1) / (v1 * 4294967296 + v0) := by omega
        rw [← this]; rfl
      · rw [decide_eq_false hr]
        exact loopA u n1 n0 hu hn1 hv1 hv1' hv0 k n p (r + v1) (by rw [Nat.succ_mul] at h1; omega) (by omega) (by omega) (by omega) (by omega)
    rw [geK]
    by_cases hq : q ≥ 4294967296
    · rw [decide_eq_true hq]
      exact body (by omega)
    · rw [decide_eq_false hq]
      have hm := small_mul (a := q) (b := v0) (by omega) hv0
      have e3 : wU ((q : Int) * (v0 : Int)) = ((q * v0 : Nat) : Int) := by rw [cm, wUl (by omega)]
      have e4 : wU (wU (4294967296 * (r : Int)) + (n1 : Int)) = ((4294967296 * r + n1 : Nat) : Int) := by rw [cmK, wUl (by omega), ca, wUl (by omega)]
      rw [e3, e4, gtN]
      by_cases hg : q * v0 > 4294967296 * r + n1
      · rw [decide_eq_true hg]
        exact body (dg_lt h1 hg)
      · rw [decide_eq_false hg]
        have hle := dg_le (v0 := v0) (n1 := n1) (by omega) h1 (Nat.le_of_not_lt hg)
        have : q = (u * 4294967296 + n1) / (v1 * 4294967296 + v0) := by omega
        rw [← this]; rfl
theorem loopB (u n0 q1 : Nat) (hu : u < v1 * 4294967296 + v0) (hn0 : n0 < 4294967296) (hv1 : 2147483648 ≤ v1) (hv1' : v1 < 4294967296) (hv0 : v0 < 4294967296) (k : Nat) : ∀ (n q r : Nat), q * v1 + r = u → r < 4294967296 → (u * 4294967296 + n0) / (v1 * 4294967296 + v0) ≤ q → q ≤ 4294967297 → q < n →
    loopAt sysB5 79 Try.f79 0 k pB [] n (σB y s v1 v0 n0 q1 r u q) = exB y s n0 q1 u (((u * 4294967296 + n0) / (v1 * 4294967296 + v0) : Nat) : Int)
  | 0, q, r, _, _, _, _, h => by omega
  | n + 1, q, r, h1, h2, h3, h4, h5 => by
    refine (loopAt_succ' _ _ _ _ _ _ _ _ _).trans ((roundB _ _ _ _ _ _ _ _ _ k _).trans ?_)
    have hQ := dg_lt32 (n1 := n0) hu hn0
    have body : (u * 4294967296 + n0) / (v1 * 4294967296 + v0) < q → boB y s v1 v0 n0 q1 u q r (fun σ => loopAt sysB5 79 Try.f79 0 k pB [] n σ) = exB y s n0 q1 u (((u * 4294967296 + n0) / (v1 * 4294967296 + v0) : Nat) : Int) := fun hlt => by
      obtain ⟨p, rfl⟩ : ∃ p, q = p + 1 := ⟨q - 1, by have := Nat.lt_of_le_of_lt (Nat.zero_le _) hlt; omega⟩
      have e1 : wU (((p + 1 : Nat) : Int) - 1) = (p : Int) := by
        have : ((p + 1 : Nat) : Int) - 1 = (p : Int) := by omega
        rw [this, wUl (by omega)]
      have e2 : wU ((r : Int) + (v1 : Int)) = ((r + v1 : Nat) : Int) := by rw [ca, wUl (by omega)]
      unfold boB
      rw [e1, e2, geK]
      by_cases hr : r + v1 ≥ 4294967296
      · rw [decide_eq_true hr]
        have hle := dg_out v1 v0 (n1 := n0) h1 (by omega) hr hv0 (by omega)
        have : p = (u * 4294967296 + n0) / (v1 * 4294967296 + v0) := by omega
        rw [← this]; rfl
      · rw [decide_eq_false hr]
        exact loopB u n0 q1 hu hn0 hv1 hv1' hv0 k n p (r + v1) (by rw [Nat.succ_mul] at h1; omega) (by omega) (by omega) (by omega) (by omega)
    rw [geK]
    by_cases hq : q ≥ 4294967296
    · rw [decide_eq_true hq]
      exact body (by omega)
    · rw [decide_eq_false hq]
      have hm := small_mul (a := q) (b := v0) (by omega) hv0
      have e3 : wU ((q : Int) * (v0 : Int)) = ((q * v0 : Nat) : Int) := by rw [cm, wUl (by omega)]
      have e4 : wU (wU (4294967296 * (r : Int)) + (n0 : Int)) = ((4294967296 * r + n0 : Nat) : Int) := by rw [cmK, wUl (by omega), ca, wUl (by omega)]
      rw [e3, e4, gtN]
      by_cases hg : q * v0 > 4294967296 * r + n0
      · rw [decide_eq_true hg]
        exact body (dg_lt h1 hg)
      · rw [decide_eq_false hg]
        have hle := dg_le (v0 := v0) (n1 := n0) (by omega) h1 (Nat.le_of_not_lt hg)
        have : q = (u * 4294967296 + n0) / (v1 * 4294967296 + v0) := by omega
        rw [← this]; rfl
end
theorem guess {v1 v0 u n1 : Nat} (hv1 : 2147483648 ≤ v1) (hv0 : v0 < 4294967296) (hu : u < v1 * 4294967296 + v0) : u / v1 ≤ 4294967297 ∧ (u * 4294967296 + n1) / (v1 * 4294967296 + v0) ≤ u / v1 + 0 ∨ n1 ≥ 4294967296 := by
  rcases Nat.lt_or_ge n1 4294967296 with hn | hn
  · left
    constructor
    · rw [Nat.div_le_iff_le_mul_add_pred (by omega)]
      omega
    · rw [Nat.add_zero, Nat.le_div_iff_mul_le (by omega)]
      have h1 := Nat.div_mul_le_self (u * 4294967296 + n1) (v1 * 4294967296 + v0)
      generalize (u * 4294967296 + n1) / (v1 * 4294967296 + v0) = Q at *
      rw [Nat.mul_add, ← Nat.mul_assoc] at h1
      generalize Q * v1 = P at *
      generalize Q * v0 = V at *
      omega
  · exact .inr hn
end Go.Proofs.Ytgcdiccbehiijaa.W
namespace Go.Proofs.Ytgcdiccbehiijaa.W
open Go.Fw
set_option maxRecDepth 100000
theorem norm_y {y : Nat} (h0 : 0 < y) (h : y < 18446744073709551616) : bitlen y ≤ 64 ∧ 1 ≤ bitlen y ∧ 9223372036854775808 ≤ y * 2 ^ (64 - bitlen y) ∧ y * 2 ^ (64 - bitlen y) < 18446744073709551616 := by
  have hb : bitlen y ≤ 64 := bitlen_le (by simpa using h)
  have hn : y ≠ 0 := by omega
  have e : bitlen y = y.log2 + 1 := by unfold bitlen; rw [if_neg hn]
  have h1 := (Nat.le_log2 hn).1 (Nat.le_refl _)
  have h2 := (Nat.log2_lt hn).1 (Nat.lt_succ_self _)
  refine ⟨hb, by omega, ?_, ?_⟩
  · have : 2 ^ 63 = 2 ^ y.log2 * 2 ^ (64 - bitlen y) := by rw [← Nat.pow_add]; congr 1; omega
    have h3 := Nat.mul_le_mul_right (2 ^ (64 - bitlen y)) h1
    rw [← this] at h3
    exact h3
  · have : 2 ^ 64 = 2 ^ (y.log2 + 1) * 2 ^ (64 - bitlen y) := by rw [← Nat.pow_add]; congr 1; omega
    have h3 := Nat.mul_lt_mul_of_pos_right h2 (Nat.two_pow_pos (64 - bitlen y))
    have h4 : 2 ^ (y.log2 + 1) * 2 ^ (64 - bitlen y) = 18446744073709551616 := by rw [← this]
    exact Nat.lt_of_lt_of_eq h3 h4
theorem powS (s : Nat) (h : s ≤ 64) : (2 : Int) ^ min (Int.toNat (s : Int)) IntKind.u64.bits = ((2 ^ s : Nat) : Int) := by
  have e : min (Int.toNat (s : Int)) IntKind.u64.bits = s := by simp only [IntKind.bits, Int.toNat_natCast]; omega
  rw [e]; simp
theorem shlN (x s : Nat) (h : s ≤ 64) : shlU (x : Int) (s : Int) = ((x * 2 ^ s % 18446744073709551616 : Nat) : Int) := by
  unfold shlU wU
  rw [powS s h, cm, wrapUn]
theorem shrN (x s : Nat) (h : s ≤ 64) : shrU (x : Int) (s : Int) = ((x / 2 ^ s : Nat) : Int) := by
  unfold shrU
  rw [powS s h, Int.fdiv_eq_ediv_of_nonneg _ (Int.natCast_nonneg _)]; rfl
theorem orN (a b s : Nat) (hb : b < 2 ^ s) (h : a * 2 ^ s + b < 18446744073709551616) : orU ((a * 2 ^ s : Nat) : Int) (b : Int) = ((a * 2 ^ s + b : Nat) : Int) := by
  unfold orU
  have e : (BitVec.ofInt IntKind.u64.bits ((a * 2 ^ s : Nat) : Int) ||| BitVec.ofInt IntKind.u64.bits (b : Int)).toNat = a * 2 ^ s + b := by
    rw [BitVec.toNat_or]
    have h1 : (BitVec.ofInt IntKind.u64.bits ((a * 2 ^ s : Nat) : Int)).toNat = a * 2 ^ s := by
      simp only [IntKind.bits, BitVec.toNat_ofInt]; omega
    have h2 : (BitVec.ofInt IntKind.u64.bits (b : Int)).toNat = b := by
      simp only [IntKind.bits, BitVec.toNat_ofInt]; omega
    rw [h1, h2, Nat.mul_comm, ← Nat.two_pow_add_eq_or_of_lt hb]
  rw [e]
  exact wUl h
theorem subM {U n1 Q Y R : Nat} (hR : R < 18446744073709551616) (he : Q * Y + R = U * 4294967296 + n1) : wU (wU (wU ((U : Int) * 4294967296) + (n1 : Int)) - wU ((Q : Int) * (Y : Int))) = (R : Int) := by
  unfold wU
  rw [cm, wrapU, wrapU, wrapU, wrapU]
  generalize Q * Y = P at *
  omega
theorem loopA' (y s v1 v0 u n1 n0 Q : Nat) (hQ : (u * 4294967296 + n1) / (v1 * 4294967296 + v0) = Q) (hu : u < v1 * 4294967296 + v0) (hn1 : n1 < 4294967296) (hv1 : 2147483648 ≤ v1) (hv1' : v1 < 4294967296) (hv0 : v0 < 4294967296) (k n q r : Nat) (h1 : q * v1 + r = u) (h2 : r < 4294967296) (h3 : Q ≤ q) (h4 : q ≤ 4294967297) (h5 : q < n) :
    loopAt sysB5 79 Try.f79 0 k pA [] n (σA y s v1 v0 u n1 n0 q r) = exA y s v1 v0 u n1 n0 (Q : Int) k := by
  subst hQ
  exact loopA y s v1 v0 u n1 n0 hu hn1 hv1 hv1' hv0 k n q r h1 h2 h3 h4 h5
theorem loopB' (y s v1 v0 u n0 q1 Q : Nat) (hQ : (u * 4294967296 + n0) / (v1 * 4294967296 + v0) = Q) (hu : u < v1 * 4294967296 + v0) (hn0 : n0 < 4294967296) (hv1 : 2147483648 ≤ v1) (hv1' : v1 < 4294967296) (hv0 : v0 < 4294967296) (k n q r : Nat) (h1 : q * v1 + r = u) (h2 : r < 4294967296) (h3 : Q ≤ q) (h4 : q ≤ 4294967297) (h5 : q < n) :
    loopAt sysB5 79 Try.f79 0 k pB [] n (σB y s v1 v0 n0 q1 r u q) = exB y s n0 q1 u (Q : Int) := by
  subst hQ
  exact loopB y s v1 v0 u n0 q1 hu hn0 hv1 hv1' hv0 k n q r h1 h2 h3 h4 h5
theorem in79_eq (Y s U L : Nat) (hY : 9223372036854775808 ≤ Y) (hY' : Y < 18446744073709551616) (hU : U < Y) (hL : L < 18446744073709551616) (hs : s ≤ 64) (k : Nat) (hk : 4294967300 ≤ k) :
    ∃ Q R : Nat, Q * Y + R = U * 18446744073709551616 + L ∧ R < Y ∧ Q < 18446744073709551616 ∧ in79 (Y : Int) (s : Int) (U : Int) (L : Int) k = some (.tup [u64 (Q : Int), u64 ((R / 2 ^ s : Nat) : Int)], []) := by
  have ev1 : s32 (Y : Int) = ((Y / 4294967296 : Nat) : Int) := s32_nat Y
  have ev0 : a32 (Y : Int) = ((Y % 4294967296 : Nat) : Int) := a32_nat Y
  have en1 : s32 (L : Int) = ((L / 4294967296 : Nat) : Int) := s32_nat L
  have en0 : a32 (L : Int) = ((L % 4294967296 : Nat) : Int) := a32_nat L
  generalize hv1 : Y / 4294967296 = v1 at *
  generalize hv0 : Y % 4294967296 = v0 at *
  generalize hn1 : L / 4294967296 = n1 at *
  generalize hn0 : L % 4294967296 = n0 at *
  have eY : Y = v1 * 4294967296 + v0 := by omega
  have eL : L = n1 * 4294967296 + n0 := by omega
  have b1 : 2147483648 ≤ v1 := by omega
  have b2 : v1 < 4294967296 := by omega
  have b3 : v0 < 4294967296 := by omega
  have b4 : n1 < 4294967296 := by omega
  have b5 : n0 < 4294967296 := by omega
  have hnz : (!decide ((v1 : Int) = 0)) = true := by simp; omega
  have first : ∀ u n : Nat, u < Y → n < 4294967296 → ∃ Q R g r : Nat, (u * 4294967296 + n) / (v1 * 4294967296 + v0) = Q ∧ Q * Y + R = u * 4294967296 + n ∧ R < Y ∧ Q < 4294967296 ∧ wU ((u : Int).tdiv (v1 : Int)) = (g : Int) ∧
      wU ((u : Int) - wU ((g : Int) * (v1 : Int))) = (r : Int) ∧ g * v1 + r = u ∧ r < 4294967296 ∧ Q ≤ g ∧ g ≤ 4294967297 := fun u n hu hn => by
    have g := guess (n1 := n) b1 b3 (by omega : u < v1 * 4294967296 + v0)
    rw [Nat.add_zero] at g
    have g := g.resolve_right (by omega)
    have hm := Nat.mod_lt u (by omega : 0 < v1)
    have hdm : (u / v1) * v1 + u % v1 = u := Nat.div_add_mod' u v1
    have hR := Nat.div_add_mod' (u * 4294967296 + n) Y
    refine ⟨_, (u * 4294967296 + n) % Y, u / v1, u % v1, rfl, ?_, Nat.mod_lt _ (by omega), dg_lt32 (by omega) hn, ?_, ?_, hdm, by omega, g.2, g.1⟩
    · rw [← eY]; exact hR
    · have : (u : Int).tdiv (v1 : Int) = ((u / v1 : Nat) : Int) := by rw [Int.tdiv_eq_ediv_of_nonneg (by omega)]; rfl
      rw [this, wUl (by omega)]
    · rw [cm, wUl (by omega), cs (by omega), wUl (by omega)]
      congr 1; omega
  obtain ⟨Q1, U2, ga, ra, hQ1d, hR1, hR1', hQ1, f1, f2, f3, f4, f5, f6⟩ := first U n1 hU b4
  obtain ⟨Q0, R, gb, rb, hQ0d, hR0, hR0', hQ0, g1, g2, g3, g4, g5, g6⟩ := first U2 n0 hR1' b5
  have hLA := loopA' Y s v1 v0 U n1 n0 Q1 hQ1d (by omega) b4 b1 b2 b3 k k ga ra f3 f4 f5 f6 (by omega)
  have hLB := loopB' Y s v1 v0 U2 n0 Q1 Q0 hQ0d (by omega) b5 b1 b2 b3 k k gb rb g3 g4 g5 g6 (by omega)
  refine ⟨Q1 * 4294967296 + Q0, R, ?_, hR0', by omega, ?_⟩
  · rw [Nat.add_mul, Nat.mul_right_comm]
    generalize Q1 * Y = A at *
    generalize Q0 * Y = B at *
    omega
  · unfold in79
    rw [ev1, ev0, en1, en0, hnz, f1, f2]
    refine hLA.trans ?_
    unfold exA
    have hu2 : un21 (Y : Int) (U : Int) (n1 : Int) (Q1 : Int) = (U2 : Int) := subM (by omega) hR1
    rw [hnz, hu2, g1, g2]
    refine hLB.trans ?_
    unfold exB
    have hr : wU (wU (wU ((U2 : Int) * 4294967296) + (n0 : Int)) - wU ((Q0 : Int) * (Y : Int))) = (R : Int) := subM (by omega) hR0
    have hq : wU (wU ((Q1 : Int) * 4294967296) + (Q0 : Int)) = ((Q1 * 4294967296 + Q0 : Nat) : Int) := by
      have : (Q1 : Int) * 4294967296 = ((Q1 * 4294967296 : Nat) : Int) := by omega
      rw [this, wUl (by omega), ca, wUl (by omega)]
    have h0 : decide (0 ≤ (s : Int)) = true := by simp
    rw [hr, hq, h0]
    have hsh := shrN R s hs
    unfold shrU at hsh
    rw [hsh]; rfl
theorem div79 (hi lo y : Nat) (hlo : lo < 18446744073709551616) (hy : y < 18446744073709551616) (hh : hi < y) (k : Nat) (hk : 4294967300 ≤ k) :
    ev sysB5 (k + 1) 79 [u64 (hi : Int), u64 (lo : Int), u64 (y : Int)] [] = some (.tup [u64 (((hi * 18446744073709551616 + lo) / y : Nat) : Int), u64 (((hi * 18446744073709551616 + lo) % y : Nat) : Int)], []) := by
  refine (start79 _ _ _ k).trans ?_
  have c1 : ((y : Int) == 0) = false := by rw [beq_eq_false_iff_ne]; omega
  have c2 : decide ((y : Int) ≤ (hi : Int)) = false := by rw [decide_eq_false_iff_not]; omega
  rw [c1, c2]
  rcases Nat.eq_zero_or_pos hi with h0 | h0
  · subst h0
    have c3 : (!decide ((y : Int) = 0)) = true := by simp; omega
    have c4 : (((0 : Nat) : Int) == 0) = true := rfl
    have e1 : (lo : Int).tdiv (y : Int) = ((lo / y : Nat) : Int) := by rw [Int.tdiv_eq_ediv_of_nonneg (by omega)]; rfl
    have e2 : (lo : Int).tmod (y : Int) = ((lo % y : Nat) : Int) := by rw [Int.tmod_eq_emod_of_nonneg (by omega)]; rfl
    have hd := Nat.div_le_self lo y
    rw [c3, c4, e1, e2, wUl (by omega), Nat.zero_mul, Nat.zero_add]
    rfl
  · have c3 : ((hi : Int) == 0) = false := by rw [beq_eq_false_iff_ne]; omega
    obtain ⟨n1, n2, n3, n4⟩ := norm_y (by omega : 0 < y) hy
    rw [c3, isU_of hy, Int.toNat_natCast]
    generalize hs : 64 - bitlen y = s at *
    have es : wU (64 - ((bitlen y : Nat) : Int)) = (s : Int) := by
      have : (64 : Int) - ((bitlen y : Nat) : Int) = (s : Int) := by omega
      rw [this, wUl (by omega)]
    have es' : wU (64 - (s : Int)) = ((64 - s : Nat) : Int) := by
      have : (64 : Int) - (s : Int) = ((64 - s : Nat) : Int) := by omega
      rw [this, wUl (by omega)]
    have hs64 : s ≤ 64 := by omega
    have hP : 2 ^ 64 = 2 ^ (64 - s) * 2 ^ s := by rw [← Nat.pow_add]; congr 1; omega
    have hP' : 2 ^ (64 - s) * 2 ^ s = 18446744073709551616 := by rw [← hP]
    have hlt : lo / 2 ^ (64 - s) < 2 ^ s := Nat.div_lt_of_lt_mul (by rw [hP']; exact hlo)
    have hhi : hi * 2 ^ s + lo / 2 ^ (64 - s) < y * 2 ^ s := by
      have := Nat.mul_le_mul_right (2 ^ s) hh
      rw [Nat.succ_mul] at this
      omega
    have hA : hi * 2 ^ s < 18446744073709551616 := Nat.lt_of_le_of_lt (Nat.le_add_right _ _) (Nat.lt_trans hhi n4)
    have eY : shlU (y : Int) (s : Int) = ((y * 2 ^ s : Nat) : Int) := by rw [shlN y s hs64, Nat.mod_eq_of_lt n4]
    have eH : shlU (hi : Int) (s : Int) = ((hi * 2 ^ s : Nat) : Int) := by rw [shlN hi s hs64, Nat.mod_eq_of_lt hA]
    have eL := shlN lo s hs64
    have eR := shrN lo (64 - s) (by omega)
    have eO := orN hi (lo / 2 ^ (64 - s)) s hlt (Nat.lt_trans hhi n4)
    have hL := Nat.mod_lt (lo * 2 ^ s) (by omega : 0 < 18446744073709551616)
    have hdm := Nat.div_add_mod' (lo * 2 ^ s) 18446744073709551616
    have hdd : lo * 2 ^ s / 18446744073709551616 = lo / 2 ^ (64 - s) := by
      rw [← hP', Nat.mul_div_mul_right _ _ (Nat.two_pow_pos s)]
    rw [hdd] at hdm
    obtain ⟨Q, R, q1, q2, q3, q4⟩ := in79_eq (y * 2 ^ s) s (hi * 2 ^ s + lo / 2 ^ (64 - s)) (lo * 2 ^ s % 18446744073709551616) n3 n4 hhi hL hs64 k hk
    rw [es]
    unfold nx79
    have h0' : decide (0 ≤ (s : Int)) = true := by simp
    have h0'' : decide (0 ≤ ((64 - s : Nat) : Int)) = true := by simp
    rw [es', h0', h0'', eY, eH, eL, eR, eO, q4]
    have key : Q * (y * 2 ^ s) + R = (hi * 18446744073709551616 + lo) * 2 ^ s := by
      rw [q1, Nat.add_mul, Nat.add_mul, Nat.mul_right_comm hi]
      generalize hi * 2 ^ s = A at *
      generalize lo / 2 ^ (64 - s) = B at *
      generalize lo * 2 ^ s = D at *
      omega
    have hp := Nat.two_pow_pos s
    have hQ : (hi * 18446744073709551616 + lo) / y = Q := by
      have : (hi * 18446744073709551616 + lo) * 2 ^ s / (y * 2 ^ s) = Q := by
        rw [← key, Nat.mul_comm Q, Nat.mul_add_div (by omega), Nat.div_eq_of_lt q2, Nat.add_zero]
      rwa [Nat.mul_div_mul_right _ _ hp] at this
    have hR : (hi * 18446744073709551616 + lo) % y = R / 2 ^ s := by
      have : (hi * 18446744073709551616 + lo) * 2 ^ s % (y * 2 ^ s) = R := by
        rw [← key, Nat.mul_comm Q, Nat.mul_add_mod, Nat.mod_eq_of_lt q2]
      rw [Nat.mul_mod_mul_right] at this
      rw [← this, Nat.mul_div_cancel _ hp]
    rw [hQ, hR]
    rfl
def FDiv64 : List AV → List AObj → Ab Res
  | [.k (.int .u64 h), .k (.int .u64 l), .k (.int .u64 y)], [] => some (isU h && (isU l && (isU y && decide (h < y))), .tup [u64 ((h * 18446744073709551616 + l) / y), u64 ((h * 18446744073709551616 + l) % y)], [])
  | _, _ => none
theorem told79 (args : List AV) (st : List AObj) (r : Res) (h : FDiv64 args st = some (true, r)) : ∃ k, ev sysB5 k 79 args st = some r := by
  unfold FDiv64 at h
  split at h
  · rename_i hi lo y
    simp only [Option.some.injEq, Prod.mk.injEq, Bool.and_eq_true, decide_eq_true_eq] at h
    obtain ⟨⟨h1, h2, h3, h4⟩, rfl⟩ := h
    obtain ⟨a, rfl, _⟩ := isU_nat h1
    obtain ⟨b, rfl, hb⟩ := isU_nat h2
    obtain ⟨c, rfl, hc⟩ := isU_nat h3
    refine ⟨4294967300 + 1, (div79 a b c hb hc (by omega) _ (Nat.le_refl _)).trans ?_⟩
    have e1 : (((a * 18446744073709551616 + b) / c : Nat) : Int) = ((a : Int) * 18446744073709551616 + (b : Int)) / (c : Int) := by rw [Int.natCast_ediv]; rfl
    have e2 : (((a * 18446744073709551616 + b) % c : Nat) : Int) = ((a : Int) * 18446744073709551616 + (b : Int)) % (c : Int) := by rw [Int.natCast_emod]; rfl
    rw [e1, e2]
  · cases h
noncomputable def sysB6 : FSys := sysB5.tell 79 FDiv64
end Go.Proofs.Ytgcdiccbehiijaa.W
