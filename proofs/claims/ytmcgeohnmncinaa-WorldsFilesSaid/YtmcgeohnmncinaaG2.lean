/- A part of the proofs over the laws of layer 8 (worlds): what its functions come to. No conditions. -/
import Derived.Test.YtmcgeohnmncinaaG1
set_option linter.all false
namespace Go.Proofs.Ytmcgeohnmncinaa.W
open Go.Fw
set_option maxRecDepth 100000
theorem bytesLess_total : ∀ x y : List UInt8, (!Op.bytesLess x y) = (Op.bytesLess y x || decide (y = x))
  | [], [] => by simp [Op.bytesLess]
  | _ :: _, [] => by simp [Op.bytesLess]
  | [], _ :: _ => by simp [Op.bytesLess]
  | a :: x, b :: y => by
    have ih := bytesLess_total x y
    simp only [Op.bytesLess]
    by_cases h : a = b
    · subst h
      simp only [beq_self_eq_true, Bool.true_and, List.cons.injEq, true_and]
      have : decide (a < a) = false := by simp
      rw [this]
      simpa using ih
    · have h1 : (a == b) = false := by simpa using h
      have h2 : (b == a) = false := by simpa using fun e : b = a => h e.symm
      rw [h1, h2]
      have h3 : decide (b :: y = a :: x) = false := by simpa using fun e : b = a => absurd e.symm h
      rw [h3]
      have h4 : decide (b < a) = !decide (a < b) := by
        rw [Bool.eq_iff_iff]
        simp only [Bool.not_eq_true', decide_eq_true_eq, decide_eq_false_iff_not, UInt8.lt_iff_toNat_lt]
        have : a.toNat ≠ b.toNat := fun e => h (UInt8.toNat_inj.1 e)
        omega
      rw [h4]
      simp
theorem nameOrder (p n : ByteArray) : (!Op.bytesLess p.toList n.toList) = (Op.bytesLess n.toList p.toList || n == p) := by
  rw [bytesLess_total, ba_beq]
  congr 2
  rw [ByteArray.toList_eq, ByteArray.toList_eq]
  exact propext ⟨fun h => ByteArray.ext (Array.toList_inj.1 h), fun h => by rw [h]⟩
theorem loop17 (inp out : ByteArray) (a : Int) (rows : List (List AV)) (hl : rows.length * 32 ≤ reachBytes) (hr : ∀ r ∈ rows, rowFits r = true) (k : Nat) (hk : rows.length < k) : loopAt sys8 17 Try.f17 0 k [1,1,0,1,0] [] k (σ17 inp out a rows 0) = errA (filesE rows .empty true) :=
  loop_up (S := sys8) (f := 17) (fn := Try.f17) (m := 0) (k := k) (p := [1,1,0,1,0]) (ms := []) (σ17 inp out a rows) rows.length (fun i => errA (filesE (rows.drop i) (before rows i) (decide (i = 0))))
    (fun i hi R hR => by
      unfold σ17
      have hf := hr rows[i] (List.getElem_mem hi)
      simp only [rowFits, Bool.and_eq_true] at hf
      have hR' : R ⟨tm 87 [(1, .ptr 0 0), (3, .k (.int .i64 ((i + 1 : Nat) : Int)))], [.box 24 [.k (.string inp), .k (.int .i64 a), .k (.string out), .sl 42 .wide rows]], []⟩ = errA (filesE (rows.drop (i + 1)) (nm rows[i]) false) := by
        have := hR
        unfold σ17 at this
        simp only [before, rowAtN rows i hi] at this
        exact this
      rw [round17, ltN hi, leN, rowAtL rows i hi, wrapR hi hl, hf.1, hR', List.drop_eq_getElem_cons hi]
      simp only [cond_true, Bool.and_self, filesE]
      have ht : ∀ X, tail17 (tx rows[i]) X = bif !isText (tx rows[i]) then errA 2 else bif decide (((tx rows[i]).size : Int) > 65536) then errA 6 else X := fun X => by
        unfold tail17
        rw [hf.2]; rfl
      cases i with
      | zero =>
        have h0 : decide (((0 : Nat) : Int) > 0) = false := by simp
        rw [h0, ht]
        unfold fileE
        cases isName (nm rows[0]) <;> cases isText (tx rows[0]) <;> cases decide (((tx rows[0]).size : Int) > 65536) <;> rfl
      | succ i =>
        have h0 : decide (((i + 1 : Nat) : Int) > 0) = true := by rw [decide_eq_true_eq]; omega
        have hw : IntKind.i64.wrap (((i + 1 : Nat) : Int) - 1) = (i : Int) := by unfold reachBytes at hl; rw [wrap64] <;> omega
        have hi' : i < rows.length := by omega
        rw [h0, hw, leN, ltN hi', rowAtL rows i hi', nameOrder, ht]
        simp only [before, rowAtN rows i hi', cond_true, Bool.and_self]
        have h1 : decide (i + 1 = 0) = false := by simp
        rw [h1]
        unfold fileE
        cases isName (nm rows[i + 1]) <;> cases (Op.bytesLess (nm rows[i + 1]).toList (nm rows[i]).toList || nm rows[i + 1] == nm rows[i]) <;> cases isText (tx rows[i + 1]) <;> cases decide (((tx rows[i + 1]).size : Int) > 65536) <;> rfl)
    (fun R => by
      unfold σ17
      rw [round17, nltN, List.drop_length]
      rfl)
    k 0 (Nat.zero_le _) (by omega)
theorem ev17 (w : Wd) (hw : w.Ok) : ∃ k, ev sys8 k 17 [w.av] [] = errA (chk w) := by
  obtain ⟨inp, i, out, kd, rows⟩ := w
  obtain ⟨h1, h2, h3, h4, h5⟩ := hw
  simp only at h1 h2 h3 h4 h5
  rcases h1 with rfl | ⟨rfl, rfl⟩
  · refine ⟨rows.length + 1 + 1, ?_⟩
    rw [start17w, loop17 inp out i rows h2 h5 _ (by omega), h3, h4]
    simp only [chk]
    cases decide (i < 0) <;> cases decide (i > (inp.size : Int)) <;> cases isText inp <;> cases isText out <;> cases decide ((inp.size : Int) > 1048576) <;> cases decide ((out.size : Int) > 1048576) <;> cases decide ((rows.length : Int) > 64) <;> rfl
  · refine ⟨0 + 2, ?_⟩
    rw [start17n, h3, h4]
    simp only [chk, filesE]
    cases decide (i < 0) <;> cases decide (i > (inp.size : Int)) <;> cases isText inp <;> cases isText out <;> cases decide ((inp.size : Int) > 1048576) <;> cases decide ((out.size : Int) > 1048576) <;> rfl
noncomputable def sys9 : FSys := sys8.tell 17 (FW fun w => .k (.int .i64 (chk w)))

/-! ### Clone, copied -/
def F42 : List AV → List AObj → Ab Res
  | [.sl u kd rows], [] => some (okSl u kd rows, .sl (kd.tag 42) kd rows, [])
  | _, _ => none
theorem ev42n (k : Nat) : ev sys9 (k + 1) 42 [.sl 0 .nil []] [] = some (.sl 0 .nil [], []) := by kernel_rfl
theorem ev42w (rows : List (List AV)) (k : Nat) : ev sys9 (k + 1) 42 [.sl 42 .wide rows] [] = bif ((0 + rows.length) * 32).ble (2 ^ 47) then some (.sl 42 .wide rows, []) else none := by kernel_rfl
theorem told42 (args : List AV) (st : List AObj) (r : Res) (h : F42 args st = some (true, r)) : ∃ k, ev sys9 k 42 args st = some r := by
  unfold F42 at h
  split at h
  · rename_i u kd rows
    simp only [Option.some.injEq, Prod.mk.injEq, okSl, Bool.and_eq_true, decide_eq_true_eq] at h
    obtain ⟨⟨h1, h2⟩, rfl⟩ := h
    refine ⟨0 + 1, ?_⟩
    cases kd with
    | wide =>
      obtain rfl := Nat.eq_of_beq_eq_true h1
      rw [ev42w]
      have : ((0 + rows.length) * 32).ble (2 ^ 47) = true := by rw [Nat.ble_eq, Nat.zero_add]; unfold reachBytes at h2; omega
      rw [this]; rfl
    | nil =>
      simp only [Bool.and_eq_true, List.isEmpty_iff] at h1
      obtain ⟨h1, rfl⟩ := h1
      obtain rfl := Nat.eq_of_beq_eq_true h1
      rw [ev42n]; rfl
    | full => cases h1
    | any => cases h1
    | anyf => cases h1
    | fresh => cases h1
  · cases h
noncomputable def sys10 : FSys := sys9.tell 42 F42
theorem ev32w (inp out : ByteArray) (i : Int) (rows : List (List AV)) (k : Nat) : ev sys10 (k + 1) 32 [Wd.av ⟨inp, i, out, .wide, rows⟩] [] = bif okSl 42 .wide rows then some (Wd.av ⟨inp, i, out, .wide, rows⟩, []) else none := by kernel_rfl
theorem ev32n (inp out : ByteArray) (i : Int) (k : Nat) : ev sys10 (k + 1) 32 [Wd.av ⟨inp, i, out, .nil, []⟩] [] = bif okSl 0 .nil [] then some (Wd.av ⟨inp, i, out, .nil, []⟩, []) else none := by kernel_rfl
theorem ev32 (w : Wd) (hw : w.Ok) : ∃ k, ev sys10 k 32 [w.av] [] = some (w.av, []) := by
  have ho := hw.okSl
  obtain ⟨inp, i, out, kd, rows⟩ := w
  refine ⟨0 + 1, ?_⟩
  rcases hw.kd with h | ⟨h, h'⟩
  · simp only at h; subst h
    rw [ev32w, show okSl 42 .wide rows = true from ho]; rfl
  · simp only at h h'; subst h; subst h'
    rw [ev32n, show okSl 0 .nil [] = true from ho]; rfl
noncomputable def sys11 : FSys := sys10.tell 32 (FW Wd.av)
end Go.Proofs.Ytmcgeohnmncinaa.W
namespace Go.Proofs.Ytmcgeohnmncinaa.W
open Go.Fw
set_option maxRecDepth 100000

/-! ### Lines -/
def nl : ByteArray := ⟨#[10]⟩
def stopN : List UInt8 → Nat
  | [] => 0
  | b :: l => bif b == 10 then 0 else stopN l + 1
theorem stopN_le : ∀ l : List UInt8, stopN l ≤ l.length
  | [] => Nat.le_refl _
  | b :: l => by
    have := stopN_le l
    cases h : b == 10 <;> simp [stopN, h] <;> omega
theorem stopN_before : ∀ (l : List UInt8) (j : Nat) (hj : j < l.length), j < stopN l → (l[j] == 10) = false
  | b :: l, j, hj, h => by
    cases hb : b == 10 with
    | true => simp [stopN, hb] at h
    | false =>
      simp only [stopN, hb, cond_false] at h
      cases j with
      | zero => exact hb
      | succ j => exact stopN_before l j (by simpa using hj) (by omega)
theorem stopN_at : ∀ (l : List UInt8) (h : stopN l < l.length), (l[stopN l] == 10) = true
  | b :: l, h => by
    cases hb : b == 10 with
    | true => simpa [stopN, hb] using hb
    | false =>
      have h' : stopN l < l.length := by simpa [stopN, hb] using h
      have := stopN_at l h'
      simpa [stopN, hb] using this
theorem bytes_at (s : ByteArray) (i : Nat) (h : i < s.size) : s[i]! = s.data.toList[i]'(by simpa using h) := by
  rw [getElem!_pos s i h]; rfl
theorem firstIdx_nl (s : ByteArray) : firstIdx s 10 = bif decide (stopN s.data.toList < s.size) then (stopN s.data.toList : Int) else -1 := by
  have hl : s.data.toList.length = s.size := by simp
  unfold firstIdx
  by_cases h : stopN s.data.toList < s.size
  · have : (List.range s.size).find? (fun i => s[i]! == 10) = some (stopN s.data.toList) := by
      rw [List.find?_range_eq_some]
      refine ⟨?_, by simpa using h, fun j hj => ?_⟩
      · rw [bytes_at s _ h]
        exact stopN_at _ (by rw [hl]; exact h)
      · rw [bytes_at s j (by omega), stopN_before _ j (by rw [hl]; omega) hj]
        rfl
    rw [this]
    simp [h]
  · have : (List.range s.size).find? (fun i => s[i]! == 10) = none := by
      rw [List.find?_range_eq_none]
      intro j hj
      rw [bytes_at s j hj, stopN_before _ j (by rw [hl]; omega) (by omega)]
      rfl
    rw [this]
    simp [h]
theorem ev51 (s : ByteArray) (k : Nat) : ev sys11 (k + 3) 51 [.k (.string s), .k (.string nl)] [] = bif nl == s then some (.k (.int .i64 0), []) else some (.k (.int .i64 (firstIdx s 10)), []) := by kernel_rfl
def FN (C : ByteArray → ByteArray → Bool) (F : ByteArray → AV) : List AV → List AObj → Ab Res
  | [.k (.string a), .k (.string b)], [] => some (C a b, F a, [])
  | _, _ => none
def nlC (a b : ByteArray) : Bool := b == nl && textC a
theorem toldN {S : FSys} {f : FuncId} {F : ByteArray → AV} (hF : ∀ s, textC s = true → ∃ k, ev S k f [.k (.string s), .k (.string nl)] [] = some (F s, [])) (args : List AV) (st : List AObj) (r : Res) (h : FN nlC F args st = some (true, r)) : ∃ k, ev S k f args st = some r := by
  unfold FN at h
  split at h
  · rename_i a b
    simp only [Option.some.injEq, Prod.mk.injEq, nlC, Bool.and_eq_true, ba_beq, decide_eq_true_eq] at h
    obtain ⟨⟨rfl, h1⟩, rfl⟩ := h
    exact hF a h1
  · cases h
theorem evn51 (s : ByteArray) (_ : textC s = true) : ∃ k, ev sys11 k 51 [.k (.string s), .k (.string nl)] [] = some (.k (.int .i64 (firstIdx s 10)), []) := by
  refine ⟨0 + 3, ?_⟩
  rw [ev51]
  cases h : nl == s with
  | false => rfl
  | true =>
    rw [ba_beq, decide_eq_true_eq] at h
    subst h
    have h0 : firstIdx nl 10 = 0 := by decide +kernel
    rw [h0]; rfl
noncomputable def sys12 : FSys := sys11.tell 51 (FN nlC fun s => .k (.int .i64 (firstIdx s 10)))
def cut (s : ByteArray) : ByteArray × ByteArray × Bool :=
  bif decide (stopN s.data.toList < s.size) then (s.extract 0 (stopN s.data.toList), s.extract (stopN s.data.toList + 1) s.size, true) else (s, .empty, false)
def cutAV (s : ByteArray) : AV := .tup [.k (.string (cut s).1), .k (.string (cut s).2.1), .k (.bool (cut s).2.2)]
theorem ev43 (s : ByteArray) (k : Nat) : ev sys12 (k + 1) 43 [.k (.string s), .k (.string nl)] [] =
  bif nlC s nl then (bif decide (firstIdx s 10 ≥ 0) then (bif decide (0 ≤ firstIdx s 10) && decide (firstIdx s 10 ≤ (s.size : Int)) && true then
    (bif decide (0 ≤ IntKind.i64.wrap (firstIdx s 10 + 1)) && decide (IntKind.i64.wrap (firstIdx s 10 + 1) ≤ (s.size : Int)) then some (.tup [.k (.string (s.extract 0 (firstIdx s 10).toNat)), .k (.string (s.extract (IntKind.i64.wrap (firstIdx s 10 + 1)).toNat s.size)), .k (.bool true)], []) else none) else none)
    else some (.tup [.k (.string s), .k (.string .empty), .k (.bool false)], [])) else none := by kernel_rfl
theorem evn43 (s : ByteArray) (hs : textC s = true) : ∃ k, ev sys12 k 43 [.k (.string s), .k (.string nl)] [] = some (cutAV s, []) := by
  refine ⟨0 + 1, ?_⟩
  have hc : nlC s nl = true := by simp [nlC, hs, ba_beq]
  have hs : s.size ≤ reachBytes := of_decide_eq_true hs
  rw [ev43, hc, firstIdx_nl]
  unfold cutAV cut
  by_cases h : stopN s.data.toList < s.size
  · have hw : IntKind.i64.wrap ((stopN s.data.toList : Int) + 1) = ((stopN s.data.toList + 1 : Nat) : Int) := wrapS h hs
    have h1 : decide (((stopN s.data.toList : Nat) : Int) ≥ 0) = true := by simp
    have h2 : decide (((stopN s.data.toList : Nat) : Int) ≤ (s.size : Int)) = true := by simp; omega
    have h3 : decide (((stopN s.data.toList + 1 : Nat) : Int) ≤ (s.size : Int)) = true := by rw [decide_eq_true_eq]; omega
    have hd : decide (stopN s.data.toList < s.size) = true := by simpa using h
    rw [hd]
    simp only [cond_true]
    simp only [hw, h1, leN, h2, h3, cond_true, Bool.and_self]
    rfl
  · have hd : decide (stopN s.data.toList < s.size) = false := by simpa using h
    rw [hd]
    rfl
noncomputable def sys13 : FSys := sys12.tell 43 (FN nlC cutAV)
theorem ev33 (s : ByteArray) (k : Nat) : ev sys13 (k + 1) 33 [.k (.string s), .k (.string nl)] [] = bif nlC s nl then some (cutAV s, []) else none := by kernel_rfl
theorem evn33 (s : ByteArray) (hs : textC s = true) : ∃ k, ev sys13 k 33 [.k (.string s), .k (.string nl)] [] = some (cutAV s, []) := by
  refine ⟨0 + 1, ?_⟩
  have hc : nlC s nl = true := by simp [nlC, hs, ba_beq]
  rw [ev33, hc]; rfl
noncomputable def sys14 : FSys := sys13.tell 33 (FN nlC cutAV)

/-! ### Line -/
def zeroW : Wd := ⟨.empty, 0, .empty, .nil, []⟩
/-- the end of the line at a place -/
def endL (w : Wd) : Nat := w.at_.toNat + stopN (w.inp.data.toList.drop w.at_.toNat)
def line (w : Wd) : ByteArray × Bool × Wd :=
  bif chk w != 0 then (.empty, false, zeroW) else bif w.at_ == (w.inp.size : Int) then (.empty, false, w) else
  (w.inp.extract w.at_.toNat (endL w), true, { w with at_ := bif decide (endL w < w.inp.size) then ((endL w + 1 : Nat) : Int) else (endL w : Int) })
def lineAV (w : Wd) : AV := .tup [.k (.string (line w).1), .k (.bool (line w).2.1), (line w).2.2.av]
theorem chk_at {w : Wd} (h : (chk w != 0) = false) : 0 ≤ w.at_ ∧ w.at_ ≤ (w.inp.size : Int) := by
  unfold chk at h
  by_cases h1 : w.at_ < 0
  · simp [h1] at h
  · by_cases h2 : w.at_ > (w.inp.size : Int)
    · simp [h1, h2] at h
    · omega
def lineR (s : ByteArray) (ok : Bool) (w : Wd) : Option Res := some (.tup [.k (.string s), .k (.bool ok), w.av], [])
theorem ev13 (w : Wd) (hw : w.kd = .wide ∨ w.kd = .nil ∧ w.rows = []) (k : Nat) : ev sys14 (k + 1) 13 [w.av] [] =
  bif w.okB (w.kd.tag 42) then (bif chk w != 0 then lineR .empty false zeroW else bif w.okB (w.kd.tag 42) then (bif decide (0 ≤ w.at_) && decide (w.at_ ≤ (w.inp.size : Int)) then
    (bif w.inp.extract w.at_.toNat w.inp.size == .empty then lineR .empty false w else bif nlC (w.inp.extract w.at_.toNat w.inp.size) nl then
      (bif (cut (w.inp.extract w.at_.toNat w.inp.size)).2.2 then lineR (cut (w.inp.extract w.at_.toNat w.inp.size)).1 true { w with at_ := IntKind.i64.wrap (IntKind.i64.wrap (w.at_ + ((cut (w.inp.extract w.at_.toNat w.inp.size)).1.size : Int)) + 1) }
       else lineR (cut (w.inp.extract w.at_.toNat w.inp.size)).1 true { w with at_ := IntKind.i64.wrap (w.at_ + ((cut (w.inp.extract w.at_.toNat w.inp.size)).1.size : Int)) })
      else none) else none) else none) else none := by
  obtain ⟨inp, i, out, kd, rows⟩ := w
  simp only at hw
  rcases hw with rfl | ⟨rfl, rfl⟩
  · kernel_rfl
  · kernel_rfl
end Go.Proofs.Ytmcgeohnmncinaa.W
namespace Go.Proofs.Ytmcgeohnmncinaa.W
open Go.Fw
set_option maxRecDepth 100000
theorem rest_list (s : ByteArray) (a : Nat) : (s.extract a s.size).data.toList = s.data.toList.drop a := by
  rw [ByteArray.data_extract, Array.toList_extract]
  have h : s.data.toList.length = s.size := by simp
  rw [List.extract_eq_take_drop, List.take_of_length_le]
  rw [List.length_drop]; omega
theorem rest_size (s : ByteArray) (a : Nat) : (s.extract a s.size).size = s.size - a := by
  rw [ByteArray.size_extract]; omega
theorem extract_extract (s : ByteArray) (a e : Nat) (h : a + e ≤ s.size) : (s.extract a s.size).extract 0 e = s.extract a (a + e) := by
  apply ByteArray.ext
  rw [ByteArray.data_extract, ByteArray.data_extract, ByteArray.data_extract, Array.extract_extract]
  congr 1
  omega
theorem endL_le (w : Wd) (h : w.at_ ≤ (w.inp.size : Int)) : endL w ≤ w.inp.size := by
  have := stopN_le (w.inp.data.toList.drop w.at_.toNat)
  have hl : w.inp.data.toList.length = w.inp.size := by simp
  rw [List.length_drop] at this
  unfold endL
  omega
theorem cut_rest (w : Wd) (h : w.at_ ≤ (w.inp.size : Int)) (h0 : 0 ≤ w.at_) : cut (w.inp.extract w.at_.toNat w.inp.size) = (w.inp.extract w.at_.toNat (endL w), (cut (w.inp.extract w.at_.toNat w.inp.size)).2.1, decide (endL w < w.inp.size)) := by
  have hle := endL_le w h
  unfold cut
  rw [rest_list, rest_size]
  have hd : decide (stopN (w.inp.data.toList.drop w.at_.toNat) < w.inp.size - w.at_.toNat) = decide (endL w < w.inp.size) := by
    unfold endL; congr 1; apply propext; omega
  rw [hd]
  by_cases hc : endL w < w.inp.size
  · have : decide (endL w < w.inp.size) = true := by simpa using hc
    rw [this]
    simp only [cond_true]
    rw [extract_extract _ _ _ hle]
    rfl
  · have : decide (endL w < w.inp.size) = false := by simpa using hc
    rw [this]
    simp only [cond_false]
    have he : endL w = w.inp.size := by omega
    rw [he]
theorem evw13 (w : Wd) (hw : w.Ok) : ∃ k, ev sys14 k 13 [w.av] [] = some (lineAV w, []) := by
  refine ⟨0 + 1, ?_⟩
  have hi : w.inp.size ≤ reachBytes := of_decide_eq_true hw.inp
  rw [ev13 w hw.kd, hw.okB]
  unfold lineAV line
  simp only [cond_true]
  cases hc : chk w != 0 with
  | true => rfl
  | false =>
    obtain ⟨h0, h1⟩ := chk_at hc
    have hd : (decide (0 ≤ w.at_) && decide (w.at_ ≤ (w.inp.size : Int))) = true := by simp [h0, h1]
    have hr : (w.inp.extract w.at_.toNat w.inp.size == .empty) = (w.at_ == (w.inp.size : Int)) := by
      rw [empty_size, rest_size, Bool.eq_iff_iff, decide_eq_true_eq, beq_iff_eq]; omega
    have hn : nlC (w.inp.extract w.at_.toNat w.inp.size) nl = true := by
      simp only [nlC, textC, ba_beq, decide_true, Bool.true_and, decide_eq_true_eq, rest_size]; omega
    rw [hd, hr, hn, cut_rest w h1 h0]
    simp only [cond_true, cond_false]
    have hle := endL_le w h1
    have hsz : (w.inp.extract w.at_.toNat (endL w)).size = endL w - w.at_.toNat := by rw [ByteArray.size_extract]; omega
    have hge : w.at_.toNat ≤ endL w := by unfold endL; omega
    unfold reachBytes at hi
    have hw1 : IntKind.i64.wrap (w.at_ + ((endL w - w.at_.toNat : Nat) : Int)) = (endL w : Int) := by rw [wrap64] <;> omega
    have hw2 : IntKind.i64.wrap ((endL w : Int) + 1) = ((endL w + 1 : Nat) : Int) := by rw [wrap64] <;> omega
    rw [hsz, hw1, hw2]
    cases w.at_ == (w.inp.size : Int) with
    | true => rfl
    | false => cases decide (endL w < w.inp.size) <;> rfl
noncomputable def sys15 : FSys := sys14.tell 13 (FW lineAV)

/-! ### Line of the reference -/
def σ23 (w : Wd) (i : Nat) : St := ⟨tm 55 [(1, .ptr 0 0), (4, .ptr 1 0), (5, .k (.int .i64 w.at_))], [.box 24 [.k (.string w.inp), .k (.int .i64 ((w.at_.toNat + i : Nat) : Int)), .k (.string w.out), .sl (w.kd.tag 42) w.kd w.rows], .box 24 [.k (.string .empty), .k (.int .i64 0), .k (.string .empty), .sl 0 .nil []]], []⟩
def fin23 (inp out : ByteArray) (i j : Int) (kd : SK) (rows : List (List AV)) : Option Res :=
  bif decide (0 ≤ i) && decide (i ≤ (inp.size : Int)) && (decide (0 ≤ j) && decide (j ≤ (i.toNat : Int))) then (bif decide (i < (inp.size : Int)) then lineR (inp.extract j.toNat i.toNat) true ⟨inp, IntKind.i64.wrap (i + 1), out, kd, rows⟩ else lineR (inp.extract j.toNat i.toNat) true ⟨inp, i, out, kd, rows⟩) else none
theorem round23 (inp out : ByteArray) (i j : Int) (kd : SK) (rows : List (List AV)) (hk : kd = .wide ∨ kd = .nil ∧ rows = []) (k : Nat) (R : St → Option Res) :
  roundAt sys15 23 Try.f23 0 k [1,1,1,1,0,0] [] R ⟨tm 55 [(1, .ptr 0 0), (4, .ptr 1 0), (5, .k (.int .i64 j))], [.box 24 [.k (.string inp), .k (.int .i64 i), .k (.string out), .sl (kd.tag 42) kd rows], .box 24 [.k (.string .empty), .k (.int .i64 0), .k (.string .empty), .sl 0 .nil []]], []⟩ =
  bif decide (i < (inp.size : Int)) then (bif decide (0 ≤ i) && decide (i < (inp.size : Int)) then (bif byteAt inp i != 10 then R ⟨tm 55 [(1, .ptr 0 0), (4, .ptr 1 0), (5, .k (.int .i64 j))], [.box 24 [.k (.string inp), .k (.int .i64 (IntKind.i64.wrap (i + 1))), .k (.string out), .sl (kd.tag 42) kd rows], .box 24 [.k (.string .empty), .k (.int .i64 0), .k (.string .empty), .sl 0 .nil []]], []⟩
    else fin23 inp out i j kd rows) else none) else fin23 inp out i j kd rows := by
  rcases hk with rfl | ⟨rfl, rfl⟩
  · kernel_rfl
  · kernel_rfl
theorem start23 (w : Wd) (hw : w.kd = .wide ∨ w.kd = .nil ∧ w.rows = []) (k : Nat) : ev sys15 (k + 1) 23 [w.av] [] = bif w.okB (w.kd.tag 42) then (bif chk w != 0 then lineR .empty false zeroW else bif w.at_ == (w.inp.size : Int) then lineR .empty false w else
   loopAt sys15 23 Try.f23 0 k [1,1,1,1,0,0] [] k ⟨tm 55 [(1, .ptr 0 0), (4, .ptr 1 0), (5, .k (.int .i64 w.at_))], [.box 24 [.k (.string w.inp), .k (.int .i64 w.at_), .k (.string w.out), .sl (w.kd.tag 42) w.kd w.rows], .box 24 [.k (.string .empty), .k (.int .i64 0), .k (.string .empty), .sl 0 .nil []]], []⟩) else none := by
  obtain ⟨inp, i, out, kd, rows⟩ := w
  simp only at hw
  rcases hw with rfl | ⟨rfl, rfl⟩
  · kernel_rfl
  · kernel_rfl
end Go.Proofs.Ytmcgeohnmncinaa.W
namespace Go.Proofs.Ytmcgeohnmncinaa.W
open Go.Fw
set_option maxRecDepth 100000
theorem fin23_eq (w : Wd) (hi : w.inp.size ≤ reachBytes) (h0 : 0 ≤ w.at_) (h1 : w.at_ ≤ (w.inp.size : Int)) :
    fin23 w.inp w.out ((endL w : Nat) : Int) w.at_ w.kd w.rows = lineR (w.inp.extract w.at_.toNat (endL w)) true { w with at_ := bif decide (endL w < w.inp.size) then ((endL w + 1 : Nat) : Int) else (endL w : Int) } := by
  have hle := endL_le w h1
  unfold fin23
  have g1 : decide (((endL w : Nat) : Int) ≤ (w.inp.size : Int)) = true := by rw [decide_eq_true_eq]; omega
  have g2 : decide (w.at_ ≤ ((endL w : Nat) : Int)) = true := by rw [decide_eq_true_eq]; unfold endL; omega
  have g3 : decide (0 ≤ w.at_) = true := by rw [decide_eq_true_eq]; exact h0
  have g4 : decide (((endL w : Nat) : Int) < (w.inp.size : Int)) = decide (endL w < w.inp.size) := by congr 1; apply propext; omega
  have hw2 : IntKind.i64.wrap ((endL w : Int) + 1) = ((endL w + 1 : Nat) : Int) := by unfold reachBytes at hi; rw [wrap64] <;> omega
  rw [Int.toNat_natCast, leN, g1, g2, g3, g4, hw2]
  cases decide (endL w < w.inp.size) <;> simp
theorem loop23 (w : Wd) (hw : w.kd = .wide ∨ w.kd = .nil ∧ w.rows = []) (hi : w.inp.size ≤ reachBytes) (h1 : w.at_ ≤ (w.inp.size : Int)) (k : Nat) (hk : stopN (w.inp.data.toList.drop w.at_.toNat) < k) :
    loopAt sys15 23 Try.f23 0 k [1,1,1,1,0,0] [] k (σ23 w 0) = fin23 w.inp w.out ((endL w : Nat) : Int) w.at_ w.kd w.rows := by
  have hl : w.inp.data.toList.length = w.inp.size := by simp
  have hle := endL_le w h1
  refine loop_up (σ23 w) (stopN (w.inp.data.toList.drop w.at_.toNat)) (fun _ => fin23 w.inp w.out ((endL w : Nat) : Int) w.at_ w.kd w.rows) ?_ ?_ k 0 (Nat.zero_le _) (by omega)
  · intro i hi' R hR
    have hlt : w.at_.toNat + i < w.inp.size := by unfold endL at hle; omega
    have hn := stopN_before (w.inp.data.toList.drop w.at_.toNat) i (by rw [List.length_drop]; omega) hi'
    unfold σ23 at hR ⊢
    rw [round23 _ _ _ _ _ _ hw, ltN hlt, leN, byteAt_nat _ _ (by omega)]
    rw [List.getElem_drop] at hn
    have hb : (((w.inp.data.toList[w.at_.toNat + i]'(by omega)).toNat : Int) != 10) = true := by
      generalize w.inp.data.toList[w.at_.toNat + i]'(by omega) = b at hn
      simp only [bne_iff_ne, ne_eq]
      intro h
      have h10 : b.toNat = (10 : UInt8).toNat := by
        have : (10 : UInt8).toNat = 10 := by decide
        omega
      rw [UInt8.toNat_inj.1 h10] at hn
      cases hn
    rw [hb, wrapS hlt hi]
    rw [← Nat.add_assoc] at hR
    simp only [cond_true, Bool.and_self]
    exact hR
  · intro R
    unfold σ23
    rw [round23 _ _ _ _ _ _ hw]
    have he : w.at_.toNat + stopN (w.inp.data.toList.drop w.at_.toNat) = endL w := by unfold endL; exact Eq.refl _
    rw [he]
    by_cases hlt : endL w < w.inp.size
    · have hs : stopN (w.inp.data.toList.drop w.at_.toNat) < (w.inp.data.toList.drop w.at_.toNat).length := by rw [List.length_drop]; unfold endL at hlt; omega
      have hn := stopN_at _ hs
      rw [List.getElem_drop] at hn
      have hb : (byteAt w.inp (endL w : Int) != 10) = false := by
        rw [byteAt_nat _ _ (by omega)]
        have h10 : w.inp.data.toList[endL w]'(by omega) = 10 := by simpa [endL] using hn
        rw [h10]
        decide
      rw [ltN hlt, leN, hb]
      simp only [cond_true, cond_false, Bool.and_self]
    · have hf : decide (((endL w : Nat) : Int) < (w.inp.size : Int)) = false := by rw [decide_eq_false_iff_not]; omega
      rw [hf]
      simp only [cond_false]
theorem pick23 (w : Wd) (hw : w.Ok) (L : Option Res) (hL : (chk w != 0) = false → (w.at_ == (w.inp.size : Int)) = false → L = lineR (w.inp.extract w.at_.toNat (endL w)) true { w with at_ := bif decide (endL w < w.inp.size) then ((endL w + 1 : Nat) : Int) else (endL w : Int) }) :
    (bif w.okB (w.kd.tag 42) then (bif chk w != 0 then lineR .empty false zeroW else bif w.at_ == (w.inp.size : Int) then lineR .empty false w else L) else none) = some (lineAV w, []) := by
  rw [hw.okB]
  unfold lineAV line
  cases hc : chk w != 0 with
  | true => rfl
  | false => cases hz : w.at_ == (w.inp.size : Int) with
    | true => rfl
    | false => rw [hL hc hz]; rfl
theorem evw23 (w : Wd) (hw : w.Ok) : ∃ k, ev sys15 k 23 [w.av] [] = some (lineAV w, []) := by
  have hi : w.inp.size ≤ reachBytes := of_decide_eq_true hw.inp
  refine ⟨stopN (w.inp.data.toList.drop w.at_.toNat) + 1 + 1, (start23 w hw.kd _).trans (pick23 w hw _ ?_)⟩
  intro hc hz
  obtain ⟨h0, h1⟩ := chk_at hc
  have e0 : ((w.at_.toNat + 0 : Nat) : Int) = w.at_ := by omega
  have hl := loop23 w hw.kd hi h1 (stopN (w.inp.data.toList.drop w.at_.toNat) + 1) (by omega)
  unfold σ23 at hl
  rw [e0] at hl
  exact hl.trans (fin23_eq w hi h0 h1)
noncomputable def sys16 : FSys := sys15.tell 23 (FW lineAV)

/-! ### Peek, Char -/
def peek (w : Wd) : Int × Bool := bif chk w != 0 then (0, false) else bif w.at_ == (w.inp.size : Int) then (0, false) else (byteAt w.inp w.at_, true)
def peekAV (w : Wd) : AV := .tup [.k (.int .i64 (peek w).1), .k (.bool (peek w).2)]
def chr (w : Wd) : Int × Bool × Wd := bif chk w != 0 then (0, false, zeroW) else bif w.at_ == (w.inp.size : Int) then (0, false, w) else (byteAt w.inp w.at_, true, { w with at_ := w.at_ + 1 })
def chrAV (w : Wd) : AV := .tup [.k (.int .i64 (chr w).1), .k (.bool (chr w).2.1), (chr w).2.2.av]
def peekR (n : Int) (b : Bool) : Option Res := some (.tup [.k (.int .i64 n), .k (.bool b)], [])
def chrR (n : Int) (b : Bool) (w : Wd) : Option Res := some (.tup [.k (.int .i64 n), .k (.bool b), w.av], [])
theorem byte_small (s : ByteArray) (n : Int) : IntKind.i64.wrap (byteAt s n) = byteAt s n := by
  have : (s.data.toList.getD n.toNat 0).toNat < 256 := UInt8.toNat_lt _
  rw [wrap64] <;> unfold byteAt <;> omega
theorem ev22 (w : Wd) (hw : w.kd = .wide ∨ w.kd = .nil ∧ w.rows = []) (k : Nat) : ev sys16 (k + 1) 22 [w.av] [] =
  bif w.okB (w.kd.tag 42) then (bif chk w != 0 then peekR 0 false else bif w.at_ == (w.inp.size : Int) then peekR 0 false else bif decide (0 ≤ w.at_) && decide (w.at_ < (w.inp.size : Int)) then peekR (IntKind.i64.wrap (byteAt w.inp w.at_)) true else none) else none := by
  obtain ⟨inp, i, out, kd, rows⟩ := w
  simp only at hw
  rcases hw with rfl | ⟨rfl, rfl⟩
  · kernel_rfl
  · kernel_rfl
theorem in_range {w : Wd} (hc : (chk w != 0) = false) (hz : (w.at_ == (w.inp.size : Int)) = false) : (decide (0 ≤ w.at_) && decide (w.at_ < (w.inp.size : Int))) = true := by
  obtain ⟨h0, h1⟩ := chk_at hc
  have hz' : w.at_ ≠ (w.inp.size : Int) := by simpa using hz
  simp only [Bool.and_eq_true, decide_eq_true_eq]; omega
theorem evw22 (w : Wd) (hw : w.Ok) : ∃ k, ev sys16 k 22 [w.av] [] = some (peekAV w, []) := by
  refine ⟨0 + 1, ?_⟩
  rw [ev22 w hw.kd, hw.okB]
  unfold peekAV peek
  cases hc : chk w != 0 with
  | true => rfl
  | false => cases hz : w.at_ == (w.inp.size : Int) with
    | true => rfl
    | false => rw [in_range hc hz, byte_small]; rfl
noncomputable def sys17 : FSys := sys16.tell 22 (FW peekAV)
theorem ev20 (w : Wd) (hw : w.kd = .wide ∨ w.kd = .nil ∧ w.rows = []) (k : Nat) : ev sys17 (k + 1) 20 [w.av] [] =
  bif w.okB (w.kd.tag 42) then (bif chk w != 0 then chrR 0 false zeroW else bif w.okB (w.kd.tag 42) then (bif w.okB (w.kd.tag 42) then (bif (peek w).2 then chrR (peek w).1 (peek w).2 { w with at_ := IntKind.i64.wrap (w.at_ + 1) } else chrR (peek w).1 (peek w).2 w) else none) else none) else none := by
  obtain ⟨inp, i, out, kd, rows⟩ := w
  simp only at hw
  rcases hw with rfl | ⟨rfl, rfl⟩
  · kernel_rfl
  · kernel_rfl
theorem at_wrap {w : Wd} (hw : w.Ok) (hc : (chk w != 0) = false) : IntKind.i64.wrap (w.at_ + 1) = w.at_ + 1 := by
  obtain ⟨h0, h1⟩ := chk_at hc
  have hi : w.inp.size ≤ reachBytes := of_decide_eq_true hw.inp
  unfold reachBytes at hi
  rw [wrap64] <;> omega
theorem evw20 (w : Wd) (hw : w.Ok) : ∃ k, ev sys17 k 20 [w.av] [] = some (chrAV w, []) := by
  refine ⟨0 + 1, ?_⟩
  rw [ev20 w hw.kd, hw.okB]
  unfold chrAV chr peek
  cases hc : chk w != 0 with
  | true => rfl
  | false => cases hz : w.at_ == (w.inp.size : Int) with
    | true => rfl
    | false => rw [at_wrap hw hc]; rfl
noncomputable def sys18 : FSys := sys17.tell 20 (FW chrAV)
theorem ev21 (w : Wd) (hw : w.kd = .wide ∨ w.kd = .nil ∧ w.rows = []) (k : Nat) : ev sys18 (k + 1) 21 [w.av] [] =
  bif w.okB (w.kd.tag 42) then (bif chk w != 0 then chrR 0 false zeroW else bif w.at_ == (w.inp.size : Int) then chrR 0 false w else bif decide (0 ≤ w.at_) && decide (w.at_ < (w.inp.size : Int)) then chrR (IntKind.i64.wrap (byteAt w.inp w.at_)) true { w with at_ := IntKind.i64.wrap (w.at_ + 1) } else none) else none := by
  obtain ⟨inp, i, out, kd, rows⟩ := w
  simp only at hw
  rcases hw with rfl | ⟨rfl, rfl⟩
  · kernel_rfl
  · kernel_rfl
theorem evw21 (w : Wd) (hw : w.Ok) : ∃ k, ev sys18 k 21 [w.av] [] = some (chrAV w, []) := by
  refine ⟨0 + 1, ?_⟩
  rw [ev21 w hw.kd, hw.okB]
  unfold chrAV chr
  cases hc : chk w != 0 with
  | true => rfl
  | false => cases hz : w.at_ == (w.inp.size : Int) with
    | true => rfl
    | false => rw [in_range hc hz, at_wrap hw hc, byte_small]; rfl
noncomputable def sys19 : FSys := sys18.tell 21 (FW chrAV)
end Go.Proofs.Ytmcgeohnmncinaa.W
