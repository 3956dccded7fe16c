/- A part of the proofs over the laws of layer 8 (worlds): what its functions come to. No conditions. -/
import Derived.Test.YtmcgeohnmncinaaE11
set_option linter.all false
namespace Go.Proofs.Ytmcgeohnmncinaa.W
open Go.Fw
set_option maxRecDepth 100000
theorem bytesLess_total : ∀ x y : List UInt8, (!Op.bytesLess x y) = (Op.bytesLess y x || decide (y = x))
  | [], [] => by simp [Op.bytesLess]
  | _ :: _, [] => by simp [Op.bytesLess]
  | [], _ :: _ => by simp [Op.bytesLess]
  | a :: x, b :: y => by
    have ih := bytesLess_total x y
    simp only [Op.bytesLess]
    by_cases h : a = b
    · subst h
      simp only [beq_self_eq_true, Bool.true_and, List.cons.injEq, true_and]
      have : decide (a < a) = false := by simp
      rw [this]
      simpa using ih
    · have h1 : (a == b) = false := by simpa using h
      have h2 : (b == a) = false := by simpa using fun e : b = a => h e.symm
      rw [h1, h2]
      have h3 : decide (b :: y = a :: x) = false := by simpa using fun e : b = a => absurd e.symm h
      rw [h3]
      have h4 : decide (b < a) = !decide (a < b) := by
        rw [Bool.eq_iff_iff]
        simp only [Bool.not_eq_true', decide_eq_true_eq, decide_eq_false_iff_not, UInt8.lt_iff_toNat_lt]
        have : a.toNat ≠ b.toNat := fun e => h (UInt8.toNat_inj.1 e)
        omega
      rw [h4]
      simp
theorem nameOrder (p n : ByteArray) : (!Op.bytesLess p.toList n.toList) = (Op.bytesLess n.toList p.toList || n == p) := by
  rw [bytesLess_total, ba_beq]
  congr 2
  rw [ByteArray.toList_eq, ByteArray.toList_eq]
  exact propext ⟨fun h => ByteArray.ext (Array.toList_inj.1 h), fun h => by rw [h]⟩
theorem loop17 (inp out : ByteArray) (a : Int) (rows : List (List AV)) (hl : rows.length * 32 ≤ reachBytes) (hr : ∀ r ∈ rows, rowFits r = true) (k : Nat) (hk : rows.length < k) : loopAt sys8 17 Try.f17 0 k [1,1,0,1,0] [] k (σ17 inp out a rows 0) = errA (filesE rows .empty true) :=
  loop_up (S := sys8) (f := 17) (fn := Try.f17) (m := 0) (k := k) (p := [1,1,0,1,0]) (ms := []) (σ17 inp out a rows) rows.length (fun i => errA (filesE (rows.drop i) (before rows i) (decide (i = 0))))
    (fun i hi R hR => by
      unfold σ17
      have hf := hr rows[i] (List.getElem_mem hi)
      simp only [rowFits, Bool.and_eq_true] at hf
      have hR' : R ⟨tm 87 [(1, .ptr 0 0), (3, .k (.int .i64 ((i + 1 : Nat) : Int)))], [.box 24 [.k (.string inp), .k (.int .i64 a), .k (.string out), .sl 42 .wide rows]], []⟩ = errA (filesE (rows.drop (i + 1)) (nm rows[i]) false) := by
        have := hR
        unfold σ17 at this
        simp only [before, rowAtN rows i hi] at this
        exact this
      rw [round17, ltN hi, leN, rowAtL rows i hi, wrapR hi hl, hf.1, hR', List.drop_eq_getElem_cons hi]
      simp only [cond_true, Bool.and_self, filesE]
      have ht : ∀ X, tail17 (tx rows[i]) X = bif !isText (tx rows[i]) then errA 2 else bif decide (((tx rows[i]).size : Int) > 65536) then errA 6 else X := fun X => by
        unfold tail17
        rw [hf.2]; rfl
      cases i with
      | zero =>
        have h0 : decide (((0 : Nat) : Int) > 0) = false := by simp
        rw [h0, ht]
        unfold fileE
        cases isName (nm rows[0]) <;> cases isText (tx rows[0]) <;> cases decide (((tx rows[0]).size : Int) > 65536) <;> rfl
      | succ i =>
        have h0 : decide (((i + 1 : Nat) : Int) > 0) = true := by rw [decide_eq_true_eq]; omega
        have hw : IntKind.i64.wrap (((i + 1 : Nat) : Int) - 1) = (i : Int) := by unfold reachBytes at hl; rw [wrap64] <;> omega
        have hi' : i < rows.length := by omega
        rw [h0, hw, leN, ltN hi', rowAtL rows i hi', nameOrder, ht]
        simp only [before, rowAtN rows i hi', cond_true, Bool.and_self]
        have h1 : decide (i + 1 = 0) = false := by simp
        rw [h1]
        unfold fileE
        cases isName (nm rows[i + 1]) <;> cases (Op.bytesLess (nm rows[i + 1]).toList (nm rows[i]).toList || nm rows[i + 1] == nm rows[i]) <;> cases isText (tx rows[i + 1]) <;> cases decide (((tx rows[i + 1]).size : Int) > 65536) <;> rfl)
    (fun R => by
      unfold σ17
      rw [round17, nltN, List.drop_length]
      rfl)
    k 0 (Nat.zero_le _) (by omega)
theorem ev17 (w : Wd) (hw : w.Ok) : ∃ k, ev sys8 k 17 [w.av] [] = errA (chk w) := by
  obtain ⟨inp, i, out, kd, rows⟩ := w
  obtain ⟨h1, h2, h3, h4, h5⟩ := hw
  simp only at h1 h2 h3 h4 h5
  rcases h1 with rfl | ⟨rfl, rfl⟩
  · refine ⟨rows.length + 1 + 1, ?_⟩
    rw [start17w, loop17 inp out i rows h2 h5 _ (by omega), h3, h4]
    simp only [chk]
    cases decide (i < 0) <;> cases decide (i > (inp.size : Int)) <;> cases isText inp <;> cases isText out <;> cases decide ((inp.size : Int) > 1048576) <;> cases decide ((out.size : Int) > 1048576) <;> cases decide ((rows.length : Int) > 64) <;> rfl
  · refine ⟨0 + 2, ?_⟩
    rw [start17n, h3, h4]
    simp only [chk, filesE]
    cases decide (i < 0) <;> cases decide (i > (inp.size : Int)) <;> cases isText inp <;> cases isText out <;> cases decide ((inp.size : Int) > 1048576) <;> cases decide ((out.size : Int) > 1048576) <;> rfl
noncomputable def sys9 : FSys := sys8.tell 17 (FW fun w => .k (.int .i64 (chk w)))

/-! ### Clone, copied -/
def F42 : List AV → List AObj → Ab Res
  | [.sl u kd rows], [] => some (okSl u kd rows, .sl (kd.tag 42) kd rows, [])
  | _, _ => none
theorem ev42n (k : Nat) : ev sys9 (k + 1) 42 [.sl 0 .nil []] [] = some (.sl 0 .nil [], []) := by kernel_rfl
theorem ev42w (rows : List (List AV)) (k : Nat) : ev sys9 (k + 1) 42 [.sl 42 .wide rows] [] = bif ((0 + rows.length) * 32).ble (2 ^ 47) then some (.sl 42 .wide rows, []) else none := by kernel_rfl
theorem told42 (args : List AV) (st : List AObj) (r : Res) (h : F42 args st = some (true, r)) : ∃ k, ev sys9 k 42 args st = some r := by
  unfold F42 at h
  split at h
  · rename_i u kd rows
    simp only [Option.some.injEq, Prod.mk.injEq, okSl, Bool.and_eq_true, decide_eq_true_eq] at h
    obtain ⟨⟨h1, h2⟩, rfl⟩ := h
    refine ⟨0 + 1, ?_⟩
    cases kd with
    | wide =>
      obtain rfl := Nat.eq_of_beq_eq_true h1
      rw [ev42w]
      have : ((0 + rows.length) * 32).ble (2 ^ 47) = true := by rw [Nat.ble_eq, Nat.zero_add]; unfold reachBytes at h2; omega
      rw [this]; rfl
    | nil =>
      simp only [Bool.and_eq_true, List.isEmpty_iff] at h1
      obtain ⟨h1, rfl⟩ := h1
      obtain rfl := Nat.eq_of_beq_eq_true h1
      rw [ev42n]; rfl
    | full => cases h1
    | any => cases h1
    | anyf => cases h1
  · cases h
noncomputable def sys10 : FSys := sys9.tell 42 F42
theorem ev32w (inp out : ByteArray) (i : Int) (rows : List (List AV)) (k : Nat) : ev sys10 (k + 1) 32 [Wd.av ⟨inp, i, out, .wide, rows⟩] [] = bif okSl 42 .wide rows then some (Wd.av ⟨inp, i, out, .wide, rows⟩, []) else none := by kernel_rfl
theorem ev32n (inp out : ByteArray) (i : Int) (k : Nat) : ev sys10 (k + 1) 32 [Wd.av ⟨inp, i, out, .nil, []⟩] [] = bif okSl 0 .nil [] then some (Wd.av ⟨inp, i, out, .nil, []⟩, []) else none := by kernel_rfl
theorem ev32 (w : Wd) (hw : w.Ok) : ∃ k, ev sys10 k 32 [w.av] [] = some (w.av, []) := by
  have ho := hw.okSl
  obtain ⟨inp, i, out, kd, rows⟩ := w
  refine ⟨0 + 1, ?_⟩
  rcases hw.kd with h | ⟨h, h'⟩
  · simp only at h; subst h
    rw [ev32w, show okSl 42 .wide rows = true from ho]; rfl
  · simp only at h h'; subst h; subst h'
    rw [ev32n, show okSl 0 .nil [] = true from ho]; rfl
noncomputable def sys11 : FSys := sys10.tell 32 (FW Wd.av)
end Go.Proofs.Ytmcgeohnmncinaa.W
