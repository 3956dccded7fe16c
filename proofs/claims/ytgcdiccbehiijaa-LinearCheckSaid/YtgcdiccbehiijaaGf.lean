/- A part of the proofs over these laws: what its functions come to. No conditions. -/
import Derived.Test.YtgcdiccbehiijaaGe
import Derived.Test.YtgcdiccbehiijaaGa
set_option linter.all false
namespace Go.Proofs.Ytgcdiccbehiijaa.W.U
open Go.Fw
set_option maxRecDepth 100000
theorem t10 (args : List AV) (st : List AObj) (r : Res) (h : F10 args st = some (true, r)) : ∃ k, ev mm5 k 10 args st = some r := by
  unfold F10 at h
  split at h
  · cases h; exact ⟨_, mm_ev⟩
  · cases h
theorem N7Ok : SysOk Try.prog N7 := SysOk.tellMore (N6Ok sysC3Ok) (mm5Ok.tell 10 _ t10) rfl rfl
def tys8 : List Nat := [25, 28, 22, 23, 44, 42, 4, 2]
theorem plain8 : plainT tab tys8 = true := by kernel_rfl
theorem c42 : cts tab 42 = [.int .i64, .int .i64] := by kernel_rfl
theorem c44 : cts tab 44 = [.sl 42, .int .i64, .int .i64, .bool] := by kernel_rfl
theorem c25 : cts tab 25 = [.sl 4, .sl 44] := by kernel_rfl
theorem c28 : cts tab 28 = [.sl 42] := by kernel_rfl
theorem row_cons {c : CT} {cs : List CT} {row : List AV} (h : rowOk (c :: cs) row = true) : ∃ a row', row = a :: row' ∧ c.ok a = true ∧ rowOk cs row' = true := by
  match row, h with
  | a :: row', h =>
    simp only [rowOk, Bool.and_eq_true] at h
    exact ⟨a, row', rfl, h.1, h.2⟩
  | [], h => cases h
theorem row_nil {row : List AV} (h : rowOk [] row = true) : row = [] := by
  match row, h with
  | [], _ => rfl
  | _ :: _, h => cases h
theorem row42 {r : List AV} (h : rowOk (cts tab 42) r = true) (hf : ∀ v ∈ r, Fine tab v) : okP (ratO r) = true := by
  rw [c42] at h
  obtain ⟨a, b, rfl, ha, hb⟩ := row_two h
  obtain ⟨n, rfl, hn⟩ := int_cell ha (hf _ (by simp))
  obtain ⟨d, rfl, hd⟩ := int_cell hb (hf _ (by simp))
  show (isI n && isI d) = true
  rw [hn, hd]; rfl
theorem sl_cell {t : Nat} {av : AV} (h : CT.ok (.sl t) av = true) (hf : Fine tab av) : ∃ rows, av = .sl t .any rows ∧ (∀ row ∈ rows, rowOk (cts tab t) row = true) ∧ ∀ row ∈ rows, ∀ v ∈ row, Fine tab v := by
  cases hf with
  | sl u rows h1 h2 h3 h4 =>
    simp only [CT.ok, Bool.and_eq_true] at h
    have : u = t := by
      have := h
      simp_all
    subst this
    exact ⟨rows, rfl, h3, h4⟩
  | _ => cases h
theorem rats_ok {rows : List (List AV)} (h3 : ∀ row ∈ rows, rowOk (cts tab 42) row = true) (h4 : ∀ row ∈ rows, ∀ v ∈ row, Fine tab v) : (rtsO rows).all okP = true := by
  rw [List.all_eq_true]
  intro p hp
  unfold rtsO at hp
  obtain ⟨r, hr, rfl⟩ := List.mem_map.1 hp
  exact row42 (h3 r hr) (h4 r hr)
theorem arg28 {av : AV} (h : ArgOf tab 28 av) : ∃ X, av = sl42 X ∧ (X.length ≤ 80 → okL X = true) := by
  have ht : ∃ ti, tab 28 = some ti ∧ ti.isAgg = false := ⟨_, rfl, by kernel_rfl⟩
  obtain ⟨ti, h1, h2⟩ := ht
  unfold ArgOf at h
  rw [h1] at h
  simp only [h2] at h
  obtain ⟨hr, hf⟩ := h
  rw [c28] at hr
  obtain ⟨a, _, e, ha, hn⟩ := row_cons hr
  cases e
  obtain ⟨rows, rfl, h3, h4⟩ := sl_cell ha hf
  refine ⟨rows, rfl, fun hl => ?_⟩
  unfold okL
  rw [rats_ok h3 h4, Nat.ble_eq_true_of_le (by omega)]; rfl
theorem row44 {r : List AV} (h : rowOk (cts tab 44) r = true) (hf : ∀ v ∈ r, Fine tab v) : okRow (rowO r) = true := by
  rw [c44] at h
  obtain ⟨v1, _, rfl, a1, h⟩ := row_cons h
  obtain ⟨v2, _, rfl, a2, h⟩ := row_cons h
  obtain ⟨v3, _, rfl, a3, h⟩ := row_cons h
  obtain ⟨v4, _, rfl, a4, h⟩ := row_cons h
  have := row_nil h
  subst this
  obtain ⟨C, rfl, h3, h4⟩ := sl_cell a1 (hf _ (by simp))
  obtain ⟨n, rfl, hn⟩ := int_cell a2 (hf _ (by simp))
  obtain ⟨d, rfl, hd⟩ := int_cell a3 (hf _ (by simp))
  show ((isI n && isI d) && (rtsO C).all okP) = true
  rw [hn, hd, rats_ok h3 h4]; rfl
theorem arg25 {av : AV} (h : ArgOf tab 25 av) : ∃ F Rw, av = sys2 F Rw ∧ (Rw.map rowO).all okRow = true := by
  have ht : ∃ ti, tab 25 = some ti ∧ ti.isAgg = true := ⟨_, rfl, by kernel_rfl⟩
  obtain ⟨ti, h1, h2⟩ := ht
  unfold ArgOf at h
  rw [h1] at h
  simp only [h2] at h
  obtain ⟨avs, rfl, hr, hf⟩ := h
  rw [c25] at hr
  obtain ⟨v1, _, rfl, a1, hr⟩ := row_cons hr
  obtain ⟨v2, _, rfl, a2, hr⟩ := row_cons hr
  have := row_nil hr
  subst this
  obtain ⟨F, rfl, -, -⟩ := sl_cell a1 (hf _ (by simp))
  obtain ⟨Rw, rfl, h3, h4⟩ := sl_cell a2 (hf _ (by simp))
  refine ⟨F, Rw, rfl, ?_⟩
  rw [List.all_eq_true]
  intro p hp
  obtain ⟨r, hr, rfl⟩ := List.mem_map.1 hp
  exact row44 (h3 r hr) (h4 r hr)
def wS : Value := .agg #[Value.slice none 0 0, Value.slice none 0 0]
def wL : Value := Value.slice none 0 0
end Go.Proofs.Ytgcdiccbehiijaa.W.U
