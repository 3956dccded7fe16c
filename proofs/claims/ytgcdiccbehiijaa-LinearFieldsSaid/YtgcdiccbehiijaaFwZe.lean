/- The framework, part Ze: small laws for plain proofs. -/
import Derived.Test.YtgcdiccbehiijaaFwZd
set_option linter.all false
set_option linter.unusedSimpArgs false
set_option linter.unusedVariables false
namespace Go.Fw

theorem wrap64 {n : Int} (h1 : -9223372036854775808 ≤ n) (h2 : n ≤ 9223372036854775807) : IntKind.i64.wrap n = n := by
  simp only [IntKind.wrap, IntKind.signed, IntKind.bits]
  simp
  omega

theorem bytesRows_at (s : ByteArray) (i : Nat) (h : i < s.data.toList.length) : ((bytesRows s).getD i []).getD 0 .undef = .k (.int .u8 ((s.data.toList[i]).toNat : Int)) := by
  simp only [bytesRows, List.getD_eq_getElem?_getD, List.getElem?_map, List.getElem?_eq_getElem h]
  rfl

theorem toI_k (k : IntKind) (n : Int) : AV.toI (.k (.int k n)) = n := rfl
theorem toB_k (b : Bool) : AV.toB (.k (.bool b)) = b := rfl
theorem toS_k (s : ByteArray) : AV.toS (.k (.string s)) = s := rfl

theorem bytesRows_length (s : ByteArray) : (bytesRows s).length = s.data.toList.length := by simp [bytesRows]

/-- a loop over the places of a list -/
theorem loop_up {S : FSys} {f : FuncId} {fn : Func} {m k : Nat} {p ms : List Nat} (σ : Nat → St) (len : Nat) (F : Nat → Option Res)
    (hstep : ∀ i, i < len → ∀ R : St → Option Res, R (σ (i + 1)) = F (i + 1) → roundAt S f fn m k p ms R (σ i) = F i)
    (hend : ∀ R : St → Option Res, roundAt S f fn m k p ms R (σ len) = F len) : ∀ (n i : Nat), i ≤ len → len - i < n → loopAt S f fn m k p ms n (σ i) = F i
  | 0, i, _, h => by omega
  | n + 1, i, hi, h => by
    rw [loopAt_succ]
    rcases Nat.lt_or_eq_of_le hi with h1 | h1
    · exact hstep i h1 _ (loop_up σ len F hstep hend n (i + 1) h1 (by omega))
    · subst h1; exact hend _

end Go.Fw
