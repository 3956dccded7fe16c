/- A part of the proofs over the laws of layer 8 (worlds): what its functions come to. No conditions. -/
import Derived.Test.YtmcgeohnmncinaaE31
set_option linter.all false
namespace Go.Proofs.Ytmcgeohnmncinaa.W
open Go.Fw
set_option maxRecDepth 100000
structure Wd where
  inp : ByteArray
  at_ : Int
  out : ByteArray
  kd : SK
  rows : List (List AV)
def Wd.av (w : Wd) : AV := .agg [.k (.string w.inp), .k (.int .i64 w.at_), .k (.string w.out), .sl (w.kd.tag 42) w.kd w.rows]
def okSl (u : Nat) (kd : SK) (rows : List (List AV)) : Bool :=
  (match kd with | .wide => Nat.beq u 42 | .nil => Nat.beq u 0 && rows.isEmpty | _ => false) && decide (rows.length * 32 ≤ reachBytes)
def nm (r : List AV) : ByteArray := (r.getD 0 .undef).toS
def tx (r : List AV) : ByteArray := (r.getD 1 .undef).toS
def rowFits (r : List AV) : Bool := textC (nm r) && textC (tx r)
def Wd.okB (w : Wd) (u : Nat) : Bool := okSl u w.kd w.rows && (textC w.inp && (textC w.out && w.rows.all rowFits))
/-- a world that the programs may be given -/
structure Wd.Ok (w : Wd) : Prop where
  kd : (w.kd = .wide) ∨ (w.kd = .nil ∧ w.rows = [])
  len : w.rows.length * 32 ≤ reachBytes
  inp : textC w.inp = true
  out : textC w.out = true
  rows : ∀ r ∈ w.rows, rowFits r = true
theorem Wd.Ok.of {w : Wd} {u : Nat} (h : w.okB u = true) : w.Ok ∧ u = w.kd.tag 42 := by
  obtain ⟨i, a, o, kd, rows⟩ := w
  simp only [Wd.okB, okSl, Bool.and_eq_true, decide_eq_true_eq, List.all_eq_true] at h
  obtain ⟨⟨h1, h2⟩, h3, h4, h5⟩ := h
  cases kd with
  | wide => exact ⟨⟨.inl rfl, h2, h3, h4, h5⟩, Nat.eq_of_beq_eq_true h1⟩
  | nil =>
    simp only [Bool.and_eq_true, List.isEmpty_iff] at h1
    exact ⟨⟨.inr ⟨rfl, h1.2⟩, h2, h3, h4, h5⟩, Nat.eq_of_beq_eq_true h1.1⟩
  | full => cases h1
  | any => cases h1
  | anyf => cases h1
theorem Wd.Ok.okB {w : Wd} (h : w.Ok) : w.okB (w.kd.tag 42) = true := by
  obtain ⟨i, a, o, kd, rows⟩ := w
  obtain ⟨h1, h2, h3, h4, h5⟩ := h
  simp only [Wd.okB, okSl, Bool.and_eq_true, decide_eq_true_eq, List.all_eq_true]
  refine ⟨⟨?_, h2⟩, h3, h4, h5⟩
  rcases h1 with h1 | ⟨h1, h6⟩
  · simp only at h1; subst h1; rfl
  · simp only at h1 h6; subst h1; subst h6; rfl
theorem Wd.Ok.okSl {w : Wd} (h : w.Ok) : okSl (w.kd.tag 42) w.kd w.rows = true := by
  have := h.okB
  simp only [Wd.okB, Bool.and_eq_true] at this
  exact this.1
def FW (F : Wd → AV) : List AV → List AObj → Ab Res
  | [.agg [.k (.string a), .k (.int .i64 i), .k (.string o), .sl u kd rows]], [] => some (Wd.okB ⟨a, i, o, kd, rows⟩ u, F ⟨a, i, o, kd, rows⟩, [])
  | _, _ => none
def FWT (F : Wd → ByteArray → AV) : List AV → List AObj → Ab Res
  | [.agg [.k (.string a), .k (.int .i64 i), .k (.string o), .sl u kd rows], .k (.string t)], [] => some (Wd.okB ⟨a, i, o, kd, rows⟩ u && textC t, F ⟨a, i, o, kd, rows⟩ t, [])
  | _, _ => none
def FWW (F : Wd → Wd → AV) : List AV → List AObj → Ab Res
  | [.agg [.k (.string a), .k (.int .i64 i), .k (.string o), .sl u kd rows], .agg [.k (.string a'), .k (.int .i64 i'), .k (.string o'), .sl u' kd' rows']], [] => some (Wd.okB ⟨a, i, o, kd, rows⟩ u && Wd.okB ⟨a', i', o', kd', rows'⟩ u', F ⟨a, i, o, kd, rows⟩ ⟨a', i', o', kd', rows'⟩, [])
  | _, _ => none
section
variable {S : FSys} {f : FuncId} {args : List AV} {st : List AObj} {r : Res}
theorem toldW {F : Wd → AV} (hF : ∀ w : Wd, w.Ok → ∃ k, ev S k f [w.av] [] = some (F w, [])) (args : List AV) (st : List AObj) (r : Res) (h : FW F args st = some (true, r)) : ∃ k, ev S k f args st = some r := by
  unfold FW at h
  split at h
  · rename_i a i o u kd rows
    simp only [Option.some.injEq, Prod.mk.injEq] at h
    obtain ⟨h1, rfl⟩ := h
    obtain ⟨h2, rfl⟩ := Wd.Ok.of h1
    exact hF _ h2
  · cases h
theorem toldWT {F : Wd → ByteArray → AV} (hF : ∀ (w : Wd) (t : ByteArray), w.Ok → textC t = true → ∃ k, ev S k f [w.av, .k (.string t)] [] = some (F w t, [])) (args : List AV) (st : List AObj) (r : Res) (h : FWT F args st = some (true, r)) : ∃ k, ev S k f args st = some r := by
  unfold FWT at h
  split at h
  · rename_i a i o u kd rows t
    simp only [Option.some.injEq, Prod.mk.injEq, Bool.and_eq_true] at h
    obtain ⟨⟨h1, ht⟩, rfl⟩ := h
    obtain ⟨h2, rfl⟩ := Wd.Ok.of h1
    exact hF _ t h2 ht
  · cases h
theorem toldWW {F : Wd → Wd → AV} (hF : ∀ v w : Wd, v.Ok → w.Ok → ∃ k, ev S k f [v.av, w.av] [] = some (F v w, [])) (args : List AV) (st : List AObj) (r : Res) (h : FWW F args st = some (true, r)) : ∃ k, ev S k f args st = some r := by
  unfold FWW at h
  split at h
  · rename_i a i o u kd rows a' i' o' u' kd' rows'
    simp only [Option.some.injEq, Prod.mk.injEq, Bool.and_eq_true] at h
    obtain ⟨⟨h1, h1'⟩, rfl⟩ := h
    obtain ⟨h2, rfl⟩ := Wd.Ok.of h1
    obtain ⟨h2', rfl⟩ := Wd.Ok.of h1'
    exact hF _ _ h2 h2'
  · cases h
end

/-! ### Check, of the program and of the reference -/
def filesE : List (List AV) → ByteArray → Bool → Int
  | [], _, _ => 0
  | r :: rs, b, first => bif fileE (nm r) b (tx r) first != 0 then fileE (nm r) b (tx r) first else filesE rs (nm r) false
def chk (w : Wd) : Int :=
  bif decide (w.at_ < 0) then 5 else bif decide (w.at_ > (w.inp.size : Int)) then 5 else bif !isText w.inp then 2 else bif !isText w.out then 2 else
  bif decide ((w.inp.size : Int) > 1048576) then 6 else bif decide ((w.out.size : Int) > 1048576) then 6 else bif decide ((w.rows.length : Int) > 64) then 6 else filesE w.rows .empty true
def before (rows : List (List AV)) : Nat → ByteArray
  | 0 => .empty
  | i + 1 => nm (rows.getD i [])
theorem rowAtL (rows : List (List AV)) (i : Nat) (h : i < rows.length) : rows.getD (i : Int).toNat [] = rows[i] := by
  rw [Int.toNat_natCast, List.getD_eq_getElem?_getD, List.getElem?_eq_getElem h]; rfl
theorem rowAtN (rows : List (List AV)) (i : Nat) (h : i < rows.length) : rows.getD i [] = rows[i] := by
  rw [List.getD_eq_getElem?_getD, List.getElem?_eq_getElem h]; rfl

def σ11 (rows : List (List AV)) (i : Nat) : St := ⟨tm 66 [(3, .k (.string (before rows i))), (48, .sl 42 .wide rows), (49, .k (.int .i64 (rows.length : Int))), (50, .k (.int .i64 (i : Int)))], [], []⟩
theorem round11 (b : ByteArray) (rows : List (List AV)) (n k : Nat) (j : Int) (R : St → Option Res) : roundAt sys7 11 Try.f11 0 k [1,1,1,0,1,0] [] R ⟨tm 66 [(3, .k (.string b)), (48, .sl 42 .wide rows), (49, .k (.int .i64 n)), (50, .k (.int .i64 j))], [], []⟩ =
  bif decide (j < ↑n) then (bif decide (0 ≤ j) && decide (j < ↑rows.length) then (bif textC (tx (rows.getD j.toNat [])) then (bif fileE (nm (rows.getD j.toNat [])) b (tx (rows.getD j.toNat [])) (j == 0) !=   0 then (some ((.k (.int (IntKind.i64) (fileE (nm (rows.getD j.toNat [])) b (tx (rows.getD j.toNat [])) (j == 0))), []))) else (R ⟨tm 66 [(3, .k (.string (nm (rows.getD j.toNat [])))), (48, .sl 42 .wide rows), (49, .k (.int .i64 n)), (50, .k (.int .i64 (IntKind.i64.wrap (j + 1))))], [], []⟩)) else (none)) else (none)) else (some ((.k (.int (IntKind.i64) (0)), []))) := by kernel_rfl

def errA (n : Int) : Option Res := some (.k (.int .i64 n), [])
theorem start11w (inp out : ByteArray) (i : Int) (rows : List (List AV)) (k : Nat) : ev sys7 (k + 1) 11 [Wd.av ⟨inp, i, out, .wide, rows⟩] [] =
  bif decide (i < 0) then errA 5 else bif decide (i > (inp.size : Int)) then errA 5 else bif textC inp then (bif !isText inp then errA 2 else bif textC out then (bif !isText out then errA 2 else
  bif decide ((inp.size : Int) > 1048576) then errA 6 else bif decide ((out.size : Int) > 1048576) then errA 6 else bif decide ((rows.length : Int) > 64) then errA 6 else loopAt sys7 11 Try.f11 0 k [1,1,1,0,1,0] [] k (σ11 rows 0)) else none) else none := by kernel_rfl
theorem start11n (inp out : ByteArray) (i : Int) (k : Nat) : ev sys7 (k + 2) 11 [Wd.av ⟨inp, i, out, .nil, []⟩] [] =
  bif decide (i < 0) then errA 5 else bif decide (i > (inp.size : Int)) then errA 5 else bif textC inp then (bif !isText inp then errA 2 else bif textC out then (bif !isText out then errA 2 else
  bif decide ((inp.size : Int) > 1048576) then errA 6 else bif decide ((out.size : Int) > 1048576) then errA 6 else errA 0) else none) else none := by kernel_rfl
theorem wrapR {i : Nat} {rows : List (List AV)} (hi : i < rows.length) (hn : rows.length * 32 ≤ reachBytes) : IntKind.i64.wrap ((i : Int) + 1) = ((i + 1 : Nat) : Int) := wrapS hi (by omega)
theorem loop11 (rows : List (List AV)) (hl : rows.length * 32 ≤ reachBytes) (hr : ∀ r ∈ rows, rowFits r = true) (k : Nat) (hk : rows.length < k) : loopAt sys7 11 Try.f11 0 k [1,1,1,0,1,0] [] k (σ11 rows 0) = errA (filesE rows .empty true) :=
  loop_up (S := sys7) (f := 11) (fn := Try.f11) (m := 0) (k := k) (p := [1,1,1,0,1,0]) (ms := []) (σ11 rows) rows.length (fun i => errA (filesE (rows.drop i) (before rows i) (decide (i = 0))))
    (fun i hi R hR => by
      unfold σ11
      have hf := hr rows[i] (List.getElem_mem hi)
      simp only [rowFits, Bool.and_eq_true] at hf
      have h0 : ((i : Int) == 0) = decide (i = 0) := by rw [Bool.eq_iff_iff]; simp
      rw [round11, ltN hi, leN, rowAtL rows i hi, wrapR hi hl, hf.2, h0]
      have hR' : R ⟨tm 66 [(3, .k (.string (nm rows[i]))), (48, .sl 42 .wide rows), (49, .k (.int .i64 (rows.length : Int))), (50, .k (.int .i64 ((i + 1 : Nat) : Int)))], [], []⟩ = errA (filesE (rows.drop (i + 1)) (nm rows[i]) false) := by
        have := hR
        unfold σ11 at this
        simp only [before, rowAtN rows i hi] at this
        exact this
      rw [hR', List.drop_eq_getElem_cons hi]
      simp only [cond_true, Bool.and_self, filesE]
      cases fileE (nm rows[i]) (before rows i) (tx rows[i]) (decide (i = 0)) != 0 <;> rfl)
    (fun R => by
      unfold σ11
      rw [round11, nltN, List.drop_length]
      rfl)
    k 0 (Nat.zero_le _) (by omega)
theorem ev11 (w : Wd) (hw : w.Ok) : ∃ k, ev sys7 k 11 [w.av] [] = errA (chk w) := by
  obtain ⟨inp, i, out, kd, rows⟩ := w
  obtain ⟨h1, h2, h3, h4, h5⟩ := hw
  simp only at h1 h2 h3 h4 h5
  rcases h1 with rfl | ⟨rfl, rfl⟩
  · refine ⟨rows.length + 1 + 1, ?_⟩
    rw [start11w, loop11 rows h2 h5 _ (by omega), h3, h4]
    simp only [chk]
    cases decide (i < 0) <;> cases decide (i > (inp.size : Int)) <;> cases isText inp <;> cases isText out <;> cases decide ((inp.size : Int) > 1048576) <;> cases decide ((out.size : Int) > 1048576) <;> cases decide ((rows.length : Int) > 64) <;> rfl
  · refine ⟨0 + 2, ?_⟩
    rw [start11n, h3, h4]
    simp only [chk, filesE]
    cases decide (i < 0) <;> cases decide (i > (inp.size : Int)) <;> cases isText inp <;> cases isText out <;> cases decide ((inp.size : Int) > 1048576) <;> cases decide ((out.size : Int) > 1048576) <;> rfl
noncomputable def sys8 : FSys := sys7.tell 11 (FW fun w => .k (.int .i64 (chk w)))

/-! the reference -/
def σ17 (inp out : ByteArray) (a : Int) (rows : List (List AV)) (i : Nat) : St := ⟨tm 87 [(1, .ptr 0 0), (3, .k (.int .i64 (i : Int)))], [.box 24 [.k (.string inp), .k (.int .i64 a), .k (.string out), .sl 42 .wide rows]], []⟩
def tail17 (t : ByteArray) (X : Option Res) : Option Res := bif textC t then (bif !isText t then errA 2 else bif decide ((t.size : Int) > 65536) then errA 6 else X) else none
theorem round17 (inp out : ByteArray) (a : Int) (rows : List (List AV)) (k : Nat) (j : Int) (R : St → Option Res) : roundAt sys8 17 Try.f17 0 k [1,1,0,1,0] [] R ⟨tm 87 [(1, .ptr 0 0), (3, .k (.int .i64 j))], [.box 24 [.k (.string inp), .k (.int .i64 a), .k (.string out), .sl 42 .wide rows]], []⟩ =
  bif decide (j < ↑rows.length) then (bif decide (0 ≤ j) && decide (j < ↑rows.length) then (bif textC (nm (rows.getD j.toNat [])) then (bif !isName (nm (rows.getD j.toNat [])) then errA 10 else
 (bif decide (j > 0) then (bif decide (0 ≤ IntKind.i64.wrap (j - 1)) && decide (IntKind.i64.wrap (j - 1) < ↑rows.length) then (bif !Op.bytesLess (nm (rows.getD (IntKind.i64.wrap (j - 1)).toNat [])).toList (nm (rows.getD j.toNat [])).toList then errA 13 else
   tail17 (tx (rows.getD j.toNat [])) (R ⟨tm 87 [(1, .ptr 0 0), (3, .k (.int .i64 (IntKind.i64.wrap (j + 1))))], [.box 24 [.k (.string inp), .k (.int .i64 a), .k (.string out), .sl 42 .wide rows]], []⟩)) else none)
 else tail17 (tx (rows.getD j.toNat [])) (R ⟨tm 87 [(1, .ptr 0 0), (3, .k (.int .i64 (IntKind.i64.wrap (j + 1))))], [.box 24 [.k (.string inp), .k (.int .i64 a), .k (.string out), .sl 42 .wide rows]], []⟩))) else none) else none) else errA 0 := by kernel_rfl
theorem start17w (inp out : ByteArray) (i : Int) (rows : List (List AV)) (k : Nat) : ev sys8 (k + 1) 17 [Wd.av ⟨inp, i, out, .wide, rows⟩] [] =
  bif decide (i < 0) then errA 5 else bif decide (i > (inp.size : Int)) then errA 5 else bif textC inp then (bif !isText inp then errA 2 else bif textC out then (bif !isText out then errA 2 else
  bif decide ((inp.size : Int) > 1048576) then errA 6 else bif decide ((out.size : Int) > 1048576) then errA 6 else bif decide ((rows.length : Int) > 64) then errA 6 else loopAt sys8 17 Try.f17 0 k [1,1,0,1,0] [] k (σ17 inp out i rows 0)) else none) else none := by kernel_rfl
theorem start17n (inp out : ByteArray) (i : Int) (k : Nat) : ev sys8 (k + 2) 17 [Wd.av ⟨inp, i, out, .nil, []⟩] [] =
  bif decide (i < 0) then errA 5 else bif decide (i > (inp.size : Int)) then errA 5 else bif textC inp then (bif !isText inp then errA 2 else bif textC out then (bif !isText out then errA 2 else
  bif decide ((inp.size : Int) > 1048576) then errA 6 else bif decide ((out.size : Int) > 1048576) then errA 6 else errA 0) else none) else none := by kernel_rfl
end Go.Proofs.Ytmcgeohnmncinaa.W
