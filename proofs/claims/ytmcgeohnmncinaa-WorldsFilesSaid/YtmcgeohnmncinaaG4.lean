/- A part of the proofs over the laws of layer 8 (worlds): what its functions come to. No conditions. -/
import Derived.Test.YtmcgeohnmncinaaG3
import Derived.Test.YtmcgeohnmncinaaFwZf
set_option linter.all false
namespace Go.Proofs.Ytmcgeohnmncinaa.W
open Go.Fw
set_option maxRecDepth 100000

/-! ### Comparing strings -/
theorem bytesLess_eq : ∀ (x y : List UInt8), Op.bytesLess x y = decide (x < y)
  | [], [] => by simp [Op.bytesLess]
  | _ :: _, [] => by simp [Op.bytesLess]
  | [], _ :: _ => by simp [Op.bytesLess]
  | a :: x, b :: y => by
    rw [Op.bytesLess, bytesLess_eq x y]
    simp only [List.cons_lt_cons_iff]
    by_cases h1 : a < b <;> by_cases h2 : a = b <;> by_cases h3 : x < y <;> simp [h1, h2, h3]
theorem compareBytes_lt : ∀ (x y : List UInt8), Lib.compareBytes x y < 0 ↔ x < y
  | [], [] => by simp [Lib.compareBytes]
  | _ :: _, [] => by simp [Lib.compareBytes]
  | [], _ :: _ => by simp [Lib.compareBytes]
  | a :: x, b :: y => by
    have ih := compareBytes_lt x y
    simp only [Lib.compareBytes, List.cons_lt_cons_iff]
    by_cases h1 : a < b
    · simp [h1]
    · by_cases h2 : b < a
      · have : a ≠ b := fun e => by subst e; exact h1 h2
        simp [h1, h2, this]
      · have : a = b := by
          rw [UInt8.lt_iff_toNat_lt] at h1 h2
          exact UInt8.toNat_inj.1 (by omega)
        simp [h1, h2, this, ih]
theorem compareBytes_eq : ∀ (x y : List UInt8), Lib.compareBytes x y = 0 ↔ x = y
  | [], [] => by simp [Lib.compareBytes]
  | _ :: _, [] => by simp [Lib.compareBytes]
  | [], _ :: _ => by simp [Lib.compareBytes]
  | a :: x, b :: y => by
    have ih := compareBytes_eq x y
    simp only [Lib.compareBytes, List.cons.injEq]
    by_cases h1 : a < b
    · have : a ≠ b := fun e => by subst e; rw [UInt8.lt_iff_toNat_lt] at h1; omega
      simp [h1, this]
    · by_cases h2 : b < a
      · have : a ≠ b := fun e => by subst e; exact h1 h2
        simp [h1, h2, this]
      · have : a = b := by
          rw [UInt8.lt_iff_toNat_lt] at h1 h2
          exact UInt8.toNat_inj.1 (by omega)
        simp [this, ih]
/-- the order of names -/
def ltB (a b : ByteArray) : Prop := a.data.toList < b.data.toList
theorem cmpB_lt (a b : ByteArray) : cmpB a b < 0 ↔ ltB a b := compareBytes_lt _ _
theorem cmpB_eq (a b : ByteArray) : cmpB a b = 0 ↔ a = b := by
  unfold cmpB
  rw [compareBytes_eq]
  exact ⟨ext_list, fun h => by rw [h]⟩
theorem ltB_trans {a b c : ByteArray} (h : ltB a b) (k : ltB b c) : ltB a c := List.lt_trans h k
theorem ltB_irrefl (a : ByteArray) : ¬ ltB a a := List.lt_irrefl _
theorem less_ltB (a b : ByteArray) : (Op.bytesLess a.toList b.toList = true) ↔ ltB a b := by
  rw [bytesLess_eq, decide_eq_true_eq, ByteArray.toList_eq, ByteArray.toList_eq]; exact Iff.rfl

def F59 : List AV → List AObj → Ab Res
  | [.k (.string a), .k (.string b)], [] => some (true, .k (.int .i64 (cmpB a b)), [])
  | _, _ => none
theorem told59 (args : List AV) (st : List AObj) (r : AV) (st' : List AObj) (h : F59 args st = some (true, (r, st'))) :
    CF Try.prog sys27.T 59 args st (sys27.ann 59).mvs r st' ∧ (sys27.ann 59).res.ok r = true ∧ OS.okL (sys27.ann 59).objs st' = true ∧ st.length ≤ st'.length := by
  unfold F59 at h
  split at h
  · rename_i a b
    cases h
    exact ⟨CF_cmpstring (fn := Try.f59) Try.func59 (by kernel_rfl) (by kernel_rfl) (by kernel_rfl) (by kernel_rfl) a b [] _, by kernel_rfl, by kernel_rfl, Nat.le_refl _⟩
  · cases h
noncomputable def sys28 : FSys := sys27.tell 59 F59
theorem ev52 (a b : ByteArray) (k : Nat) : ev sys28 (k + 1) 52 [.k (.string a), .k (.string b)] [] = some (.k (.int .i64 (cmpB a b)), []) := by kernel_rfl
theorem told52 (args : List AV) (st : List AObj) (r : Res) (h : F59 args st = some (true, r)) : ∃ k, ev sys28 k 52 args st = some r := by
  unfold F59 at h
  split at h
  · cases h; exact ⟨_, ev52 _ _ 0⟩
  · cases h
noncomputable def sys29 : FSys := sys28.tell 52 F59
theorem ev46 (a b : ByteArray) (k : Nat) : ev sys29 (k + 1) 46 [.k (.string a), .k (.string b)] [] = some (.k (.int .i64 (cmpB a b)), []) := by kernel_rfl
theorem told46 (args : List AV) (st : List AObj) (r : Res) (h : F59 args st = some (true, r)) : ∃ k, ev sys29 k 46 args st = some r := by
  unfold F59 at h
  split at h
  · cases h; exact ⟨_, ev46 _ _ 0⟩
  · cases h
noncomputable def sys30 : FSys := sys29.tell 46 F59
def F45 : List AV → List AObj → Ab Res
  | [.agg [.k (.string a), .k (.string _)], .k (.string b)], [] => some (true, .k (.int .i64 (cmpB a b)), [])
  | _, _ => none
theorem ev45 (a t b : ByteArray) (k : Nat) : ev sys30 (k + 1) 45 [.agg [.k (.string a), .k (.string t)], .k (.string b)] [] = some (.k (.int .i64 (cmpB a b)), []) := by kernel_rfl
theorem told45 (args : List AV) (st : List AObj) (r : Res) (h : F45 args st = some (true, r)) : ∃ k, ev sys30 k 45 args st = some r := by
  unfold F45 at h
  split at h
  · cases h; exact ⟨_, ev45 _ _ _ 0⟩
  · cases h
noncomputable def sys31 : FSys := sys30.tell 45 F45

/-! ### Binary search -/
def okS (u : Nat) (kd : SK) (rows : List (List AV)) : Bool :=
  (match kd with | .wide => Nat.beq u 42 | .any => Nat.beq u 42 | .nil => Nat.beq u 0 && rows.isEmpty | _ => false) && decide (rows.length * 32 ≤ reachBytes)
def sortedB : List (List AV) → Bool
  | r :: s :: l => Op.bytesLess (nm r).toList (nm s).toList && sortedB (s :: l)
  | _ => true
def pos : List (List AV) → ByteArray → Nat
  | [], _ => 0
  | r :: l, s => bif decide (cmpB (nm r) s < 0) then pos l s + 1 else 0
def found (rows : List (List AV)) (s : ByteArray) : Bool := decide (pos rows s < rows.length) && cmpB (nm (rows.getD (pos rows s) [])) s == 0
theorem pos_le : ∀ (l : List (List AV)) (s : ByteArray), pos l s ≤ l.length
  | [], _ => Nat.le_refl _
  | r :: l, s => by
    have := pos_le l s
    unfold pos
    cases decide (cmpB (nm r) s < 0) <;> simp <;> omega
theorem sorted_tail {r : List AV} {l : List (List AV)} (h : sortedB (r :: l) = true) : sortedB l = true := by
  cases l with
  | nil => rfl
  | cons s l => simp only [sortedB, Bool.and_eq_true] at h; exact h.2
theorem sorted_head : ∀ {l : List (List AV)} {r : List AV}, sortedB (r :: l) = true → ∀ x ∈ l, ltB (nm r) (nm x)
  | s :: l, r, h, x, hx => by
    simp only [sortedB, Bool.and_eq_true] at h
    have h1 := (less_ltB _ _).1 h.1
    rcases List.mem_cons.1 hx with rfl | hx
    · exact h1
    · exact ltB_trans h1 (sorted_head h.2 x hx)
/-- before the place all are less, from it on none is -/
theorem pos_spec : ∀ (l : List (List AV)) (s : ByteArray), sortedB l = true → ∀ i (hi : i < l.length), cmpB (nm l[i]) s < 0 ↔ i < pos l s
  | r :: l, s, h, i, hi => by
    unfold pos
    by_cases hc : cmpB (nm r) s < 0
    · simp only [hc, decide_true, cond_true]
      cases i with
      | zero => simp [hc]
      | succ i =>
        have := pos_spec l s (sorted_tail h) i (by simpa using hi)
        simp only [List.getElem_cons_succ]
        rw [this]; omega
    · simp only [hc, decide_false, cond_false]
      cases i with
      | zero => simp [hc]
      | succ i =>
        simp only [List.getElem_cons_succ]
        refine ⟨fun hlt => absurd ?_ hc, fun h => by omega⟩
        rw [cmpB_lt] at hlt ⊢
        exact ltB_trans (sorted_head h _ (List.getElem_mem _)) hlt
def srchAV (rows : List (List AV)) (s : ByteArray) : AV := .tup [.k (.int .i64 (pos rows s : Int)), .k (.bool (found rows s))]
def mid (i j : Int) : Int := IntKind.i64.wrap ((IntKind.u64.wrap (IntKind.i64.wrap (i + j))).fdiv (2 ^ min (Int.toNat 1) IntKind.u64.bits))
def st44 (kd : SK) (rows : List (List AV)) (s : ByteArray) (i j : Int) : St := ⟨tm 49 [(0, .sl 42 kd rows), (1, .k (.string s)), (2, .fn (.func 45) [] []), (8, .k (.int .i64 (rows.length : Int))), (9, .k (.int .i64 i)), (10, .k (.int .i64 j))], [], []⟩
def end44 (rows : List (List AV)) (s : ByteArray) (i : Int) : Option Res :=
  bif decide (i < (rows.length : Int)) then (bif decide (0 ≤ i) && decide (i < (rows.length : Int)) then some (.tup [.k (.int .i64 i), .k (.bool (cmpB (nm (rows.getD i.toNat [])) s == 0))], []) else none) else some (.tup [.k (.int .i64 i), .k (.bool false)], [])
theorem round44 (kd : SK) (hk : kd = .wide ∨ kd = .any) (rows : List (List AV)) (s : ByteArray) (i j : Int) (k : Nat) (R : St → Option Res) : roundAt sys31 44 Try.f44 0 k [1,1,1,0,0] [] R (st44 kd rows s i j) =
  bif decide (i < j) then (bif decide (0 ≤ mid i j) && decide (mid i j < (rows.length : Int)) then (bif decide (cmpB (nm (rows.getD (mid i j).toNat [])) s < 0) then R (st44 kd rows s (IntKind.i64.wrap (mid i j + 1)) j) else R (st44 kd rows s i (mid i j))) else none) else end44 rows s i := by
  rcases hk with rfl | rfl
  · kernel_rfl
  · kernel_rfl
theorem start44 (kd : SK) (hk : kd = .wide ∨ kd = .any) (rows : List (List AV)) (s : ByteArray) (k : Nat) : ev sys31 (k + 1) 44 [.sl 42 kd rows, .k (.string s), .fn (.func 45) [] []] [] = loopAt sys31 44 Try.f44 0 k [1,1,1,0,0] [] k (st44 kd rows s 0 (rows.length : Int)) := by
  rcases hk with rfl | rfl
  · kernel_rfl
  · kernel_rfl
theorem start44n (s : ByteArray) (k : Nat) : ev sys31 (k + 2) 44 [.sl 0 .nil [], .k (.string s), .fn (.func 45) [] []] [] = some (.tup [.k (.int .i64 0), .k (.bool false)], []) := by kernel_rfl
theorem wrapU {n : Int} (h1 : 0 ≤ n) (h2 : n < 18446744073709551616) : IntKind.u64.wrap n = n := by
  simp only [IntKind.wrap, IntKind.signed, IntKind.bits]
  simp
  omega
theorem mid_nat (i j : Nat) (h : i + j < 9223372036854775808) : mid i j = ((i + j) / 2 : Nat) := by
  unfold mid
  have e1 : IntKind.i64.wrap ((i : Int) + (j : Int)) = ((i + j : Nat) : Int) := by rw [wrap64] <;> omega
  have e2 : (2 : Int) ^ min (Int.toNat 1) IntKind.u64.bits = ((2 : Nat) : Int) := by decide
  rw [e1, wrapU (by omega) (by omega), e2, Int.fdiv_eq_ediv_of_nonneg _ (by omega)]
  rw [wrap64] <;> omega
theorem loop44 (kd : SK) (hk : kd = .wide ∨ kd = .any) (rows : List (List AV)) (s : ByteArray) (hl : rows.length * 32 ≤ reachBytes) (hs : sortedB rows = true) (k : Nat) :
    ∀ (n i j : Nat), i ≤ pos rows s → pos rows s ≤ j → j ≤ rows.length → j - i < n → loopAt sys31 44 Try.f44 0 k [1,1,1,0,0] [] n (st44 kd rows s i j) = some (srchAV rows s, [])
  | 0, i, j, _, _, _, h => by omega
  | n + 1, i, j, h1, h2, h3, h => by
    refine (loopAt_succ _ _ _ _ _ _ _ _ _).trans ((round44 kd hk rows s i j k _).trans ?_)
    have hlen : rows.length < 4611686018427387904 := by unfold reachBytes at hl; omega
    by_cases hij : i < j
    · have hd : decide ((i : Int) < (j : Int)) = true := ltN hij
      have hm : (i + j) / 2 < rows.length := by omega
      rw [hd, mid_nat i j (by omega), leN, ltN hm, rowAtL rows _ hm]
      have hsp := pos_spec rows s hs ((i + j) / 2) hm
      by_cases hc : cmpB (nm rows[(i + j) / 2]) s < 0
      · have hw : IntKind.i64.wrap ((((i + j) / 2 : Nat) : Int) + 1) = (((i + j) / 2 + 1 : Nat) : Int) := by rw [wrap64] <;> omega
        rw [decide_eq_true hc, hw]
        exact loop44 kd hk rows s hl hs k n ((i + j) / 2 + 1) j (by have := hsp.1 hc; omega) h2 h3 (by omega)
      · rw [decide_eq_false hc]
        exact loop44 kd hk rows s hl hs k n i ((i + j) / 2) h1 (by have := fun h => hc (hsp.2 h); omega) (by omega) (by omega)
    · have hd : decide ((i : Int) < (j : Int)) = false := by rw [decide_eq_false_iff_not]; omega
      have hi : i = pos rows s := by omega
      rw [hd]
      show end44 rows s i = _
      unfold end44 srchAV found
      subst hi
      by_cases hp : pos rows s < rows.length
      · rw [ltN hp, leN, Int.toNat_natCast, decide_eq_true hp]; rfl
      · have : decide (((pos rows s : Nat) : Int) < (rows.length : Int)) = false := by rw [decide_eq_false_iff_not]; omega
        rw [this, decide_eq_false hp]; rfl
def F44 : List AV → List AObj → Ab Res
  | [.sl u kd rows, .k (.string b), .fn (.func 45) [] []], [] => some (okS u kd rows && sortedB rows, srchAV rows b, [])
  | _, _ => none
theorem okS_kd {u : Nat} {kd : SK} {rows : List (List AV)} (h : okS u kd rows = true) : (u = 42 ∧ (kd = .wide ∨ kd = .any) ∨ u = 0 ∧ kd = .nil ∧ rows = []) ∧ rows.length * 32 ≤ reachBytes := by
  simp only [okS, Bool.and_eq_true, decide_eq_true_eq] at h
  refine ⟨?_, h.2⟩
  have h1 := h.1
  cases kd with
  | wide => exact .inl ⟨Nat.eq_of_beq_eq_true h1, .inl rfl⟩
  | any => exact .inl ⟨Nat.eq_of_beq_eq_true h1, .inr rfl⟩
  | nil =>
    simp only [Bool.and_eq_true, List.isEmpty_iff] at h1
    exact .inr ⟨Nat.eq_of_beq_eq_true h1.1, rfl, h1.2⟩
  | full => cases h1
  | anyf => cases h1
  | fresh => cases h1
theorem told44 (args : List AV) (st : List AObj) (r : Res) (h : F44 args st = some (true, r)) : ∃ k, ev sys31 k 44 args st = some r := by
  unfold F44 at h
  split at h
  · rename_i u kd rows b
    simp only [Option.some.injEq, Prod.mk.injEq, Bool.and_eq_true] at h
    obtain ⟨⟨h1, h2⟩, rfl⟩ := h
    obtain ⟨h1, hl⟩ := okS_kd h1
    rcases h1 with ⟨rfl, hk⟩ | ⟨rfl, rfl, rfl⟩
    · exact ⟨rows.length + 1 + 1, (start44 kd hk rows b _).trans (loop44 kd hk rows b hl h2 _ _ 0 rows.length (Nat.zero_le _) (pos_le _ _) (Nat.le_refl _) (by omega))⟩
    · exact ⟨0 + 2, start44n b 0⟩
  · cases h
noncomputable def sys32 : FSys := sys31.tell 44 F44
end Go.Proofs.Ytmcgeohnmncinaa.W
namespace Go.Proofs.Ytmcgeohnmncinaa.W
open Go.Fw
set_option maxRecDepth 100000
/-! ### Worlds whose lists may be nil or not -/
structure Wd.OkA (w : Wd) : Prop where
  kd : (w.kd = .wide ∨ w.kd = .any) ∨ (w.kd = .nil ∧ w.rows = [])
  len : w.rows.length * 32 ≤ reachBytes
  inp : textC w.inp = true
  out : textC w.out = true
  rows : ∀ r ∈ w.rows, rowFits r = true
def Wd.okA (w : Wd) (u : Nat) : Bool := okS u w.kd w.rows && (textC w.inp && (textC w.out && w.rows.all rowFits))
theorem Wd.OkA.of {w : Wd} {u : Nat} (h : w.okA u = true) : w.OkA ∧ u = w.kd.tag 42 := by
  simp only [Wd.okA, Bool.and_eq_true, List.all_eq_true] at h
  obtain ⟨h1, h3, h4, h5⟩ := h
  obtain ⟨h1, h2⟩ := okS_kd h1
  rcases h1 with ⟨rfl, hk | hk⟩ | ⟨rfl, hk, hr⟩
  · exact ⟨⟨.inl (.inl hk), h2, h3, h4, h5⟩, by rw [hk]; rfl⟩
  · exact ⟨⟨.inl (.inr hk), h2, h3, h4, h5⟩, by rw [hk]; rfl⟩
  · exact ⟨⟨.inr ⟨hk, hr⟩, h2, h3, h4, h5⟩, by rw [hk]; rfl⟩
theorem Wd.OkA.okA {w : Wd} (h : w.OkA) : w.okA (w.kd.tag 42) = true := by
  simp only [Wd.okA, okS, Bool.and_eq_true, decide_eq_true_eq, List.all_eq_true]
  refine ⟨⟨?_, h.len⟩, h.inp, h.out, h.rows⟩
  rcases h.kd with (h1 | h1) | ⟨h1, h6⟩
  · rw [h1]; rfl
  · rw [h1]; rfl
  · rw [h1, h6]; rfl
theorem Wd.Ok.a {w : Wd} (h : w.Ok) : w.OkA := ⟨h.kd.elim (fun h => .inl (.inl h)) .inr, h.len, h.inp, h.out, h.rows⟩
theorem VR_any {T : Tab} {E : Env} {Z : Nat → Prop} {w : World} {t : Nat} {rows : List (List AV)} {v : Value} (h : VR T E Z w (.sl t .any rows) v) : VR T E Z w (.sl t .wide rows) v ∨ (rows = [] ∧ VR T E Z w (.sl 0 .nil []) v) := by
  cases h with
  | slnil _ _ hk => exact .inr ⟨rfl, .slnil 0 .nil (.inl rfl)⟩
  | sl _ _ _ A c cv hn hf hc hsp hz hok hcell hrep => exact .inl (.sl t .wide rows A c cv (by simp) (by simp) hc hsp hz hok hcell hrep)
/-- of a world whose list may be nil, what is right of one that is nil and of one that is not -/
theorem CF_any {f : FuncId} {inp out : ByteArray} {i : Int} {rows : List (List AV)} {mvs : List Nat} {r : AV} {st' : List AObj}
    (h1 : CF Try.prog tab f [Wd.av ⟨inp, i, out, .wide, rows⟩] [] mvs r st') (h2 : rows = [] → CF Try.prog tab f [Wd.av ⟨inp, i, out, .nil, []⟩] [] mvs r st') : CF Try.prog tab f [Wd.av ⟨inp, i, out, .any, rows⟩] [] mvs r st' :=
  CF_entry fun E Z w vals hs hv => by
    obtain ⟨hl, hr⟩ := hv
    match vals, hl with
    | [v], _ =>
      have hv := hr 0 _ v rfl rfl
      cases hv with
      | agg _ vs hl2 hr2 =>
        match vs, hl2 with
        | [a, b, c, d], _ =>
          have ha := hr2 0 _ a rfl rfl
          have hb := hr2 1 _ b rfl rfl
          have hc := hr2 2 _ c rfl rfl
          have hd : VR tab E Z w (.sl 42 .any rows) d := hr2 3 _ d rfl rfl
          have key : ∀ x, VR tab E Z w x d → VRs tab E Z w [.agg [.k (.string inp), .k (.int .i64 i), .k (.string out), x]] [.agg [a, b, c, d].toArray] := fun x hx =>
            ⟨rfl, fun j av v hj hv => by
              match j, hj, hv with
              | 0, hj, hv =>
                cases hj; cases hv
                refine .agg _ [a, b, c, d] rfl fun j av v hj hv => ?_
                match j, hj, hv with
                | 0, hj, hv => cases hj; cases hv; exact ha
                | 1, hj, hv => cases hj; cases hv; exact hb
                | 2, hj, hv => cases hj; cases hv; exact hc
                | 3, hj, hv => cases hj; cases hv; exact hx
                | n + 4, hj, hv => simp at hj
              | n + 1, hj, hv => simp at hj⟩
          rcases VR_any hd with hw | ⟨rfl, hn⟩
          · exact ⟨E, _, _, hs, key _ hw, fun _ => Iff.rfl, rfl, fun _ _ _ => ⟨rfl, rfl⟩, h1⟩
          · exact ⟨E, _, _, hs, key _ hn, fun _ => Iff.rfl, rfl, fun _ _ _ => ⟨rfl, rfl⟩, h2 rfl⟩
def FA (F : Wd → AV) : List AV → List AObj → Ab Res
  | [.agg [.k (.string a), .k (.int .i64 i), .k (.string o), .sl u kd rows]], [] => some (Wd.okA ⟨a, i, o, kd, rows⟩ u, F ⟨a, i, o, kd, rows⟩, [])
  | _, _ => none
def FAT (C : Wd → ByteArray → Bool) (F : Wd → ByteArray → AV) : List AV → List AObj → Ab Res
  | [.agg [.k (.string a), .k (.int .i64 i), .k (.string o), .sl u kd rows], .k (.string t)], [] => some (Wd.okA ⟨a, i, o, kd, rows⟩ u && C ⟨a, i, o, kd, rows⟩ t, F ⟨a, i, o, kd, rows⟩ t, [])
  | _, _ => none
theorem toldAT {S : FSys} {f : FuncId} {C : Wd → ByteArray → Bool} {F : Wd → ByteArray → AV} (hF : ∀ (w : Wd) (t : ByteArray), w.OkA → C w t = true → ∃ k, ev S k f [w.av, .k (.string t)] [] = some (F w t, [])) (args : List AV) (st : List AObj) (r : Res) (h : FAT C F args st = some (true, r)) : ∃ k, ev S k f args st = some r := by
  unfold FAT at h
  split at h
  · rename_i a i o u kd rows t
    simp only [Option.some.injEq, Prod.mk.injEq, Bool.and_eq_true] at h
    obtain ⟨⟨h1, ht⟩, rfl⟩ := h
    obtain ⟨h2, rfl⟩ := Wd.OkA.of h1
    exact hF _ t h2 ht
  · cases h
theorem sysOk7 : SysOk Try.prog sys7 := (((((((sysOk.tell 30 F30 told30).tell 50 F50 told50).tell 61 F61 told61).tell 49 F49 told49).tell 41 F41 told41).tell 34 _ (told1 ev34)).tell 35 _ (told1 ev35)).tell 31 F31 told31
theorem told11a (args : List AV) (st : List AObj) (r : AV) (st' : List AObj) (h : FA (fun w => .k (.int .i64 (chk w))) args st = some (true, (r, st'))) :
    CF Try.prog sys32.T 11 args st (sys32.ann 11).mvs r st' ∧ (sys32.ann 11).res.ok r = true ∧ OS.okL (sys32.ann 11).objs st' = true ∧ st.length ≤ st'.length := by
  unfold FA at h
  split at h
  · rename_i a i o u kd rows
    simp only [Option.some.injEq, Prod.mk.injEq] at h
    obtain ⟨h1, rfl, rfl⟩ := h
    obtain ⟨h2, rfl⟩ := Wd.OkA.of h1
    refine ⟨?_, by kernel_rfl, by kernel_rfl, Nat.le_refl _⟩
    have hcf : ∀ w : Wd, w.Ok → CF Try.prog tab 11 [w.av] [] [] (.k (.int .i64 (chk w))) [] := fun w hw => by
      obtain ⟨k, hk⟩ := ev11 w hw
      exact (ev_ok sysOk7 k 11 _ _ _ _ hk).1
    rcases h2.kd with (h3 | h3) | ⟨h3, h4⟩
    · simp only at h3; subst h3
      exact hcf ⟨a, i, o, .wide, rows⟩ ⟨.inl rfl, h2.len, h2.inp, h2.out, h2.rows⟩
    · simp only at h3; subst h3
      exact CF_any (hcf ⟨a, i, o, .wide, rows⟩ ⟨.inl rfl, h2.len, h2.inp, h2.out, h2.rows⟩) fun hr => by subst hr; exact hcf ⟨a, i, o, .nil, []⟩ ⟨.inr ⟨rfl, rfl⟩, h2.len, h2.inp, h2.out, h2.rows⟩
    · simp only at h3 h4; subst h3; subst h4
      exact hcf ⟨a, i, o, .nil, []⟩ ⟨.inr ⟨rfl, rfl⟩, h2.len, h2.inp, h2.out, h2.rows⟩
  · cases h
noncomputable def sys33 : FSys := sys32.tell 11 (FA fun w => .k (.int .i64 (chk w)))

/-! ### search, Read -/
theorem ev37 (w : Wd) (hw : (w.kd = .wide ∨ w.kd = .any) ∨ w.kd = .nil ∧ w.rows = []) (s : ByteArray) (k : Nat) : ev sys33 (k + 1) 37 [w.av, .k (.string s)] [] = bif okS (w.kd.tag 42) w.kd w.rows && sortedB w.rows then some (srchAV w.rows s, []) else none := by
  obtain ⟨inp, i, out, kd, rows⟩ := w
  simp only at hw
  rcases hw with (rfl | rfl) | ⟨rfl, rfl⟩
  · kernel_rfl
  · kernel_rfl
  · kernel_rfl
theorem Wd.OkA.okS {w : Wd} (h : w.OkA) : okS (w.kd.tag 42) w.kd w.rows = true := by
  have := h.okA
  simp only [Wd.okA, Bool.and_eq_true] at this
  exact this.1
theorem evw37 (w : Wd) (s : ByteArray) (hw : w.OkA) (hs : sortedB w.rows = true) : ∃ k, ev sys33 k 37 [w.av, .k (.string s)] [] = some (srchAV w.rows s, []) := by
  refine ⟨0 + 1, ?_⟩
  rw [ev37 w hw.kd, hw.okS, hs]; rfl
noncomputable def sys34 : FSys := sys33.tell 37 (FAT (fun w _ => sortedB w.rows) fun w s => srchAV w.rows s)
def read (w : Wd) (s : ByteArray) : ByteArray × Bool := bif chk w != 0 then (.empty, false) else bif found w.rows s then (tx (w.rows.getD (pos w.rows s) []), true) else (.empty, false)
def readAV (w : Wd) (s : ByteArray) : AV := .tup [.k (.string (read w s).1), .k (.bool (read w s).2)]
def readR (s : ByteArray) (b : Bool) : Option Res := some (.tup [.k (.string s), .k (.bool b)], [])
theorem ev27 (w : Wd) (hw : (w.kd = .wide ∨ w.kd = .any)) (s : ByteArray) (k : Nat) : ev sys34 (k + 1) 27 [w.av, .k (.string s)] [] =
  bif w.okA (w.kd.tag 42) then (bif chk w != 0 then readR .empty false else bif w.okA (w.kd.tag 42) && sortedB w.rows then (bif found w.rows s then (bif decide (0 ≤ (pos w.rows s : Int)) && decide ((pos w.rows s : Int) < (w.rows.length : Int)) then readR (tx (w.rows.getD (pos w.rows s : Int).toNat [])) true else none) else readR .empty false) else none) else none := by
  obtain ⟨inp, i, out, kd, rows⟩ := w
  simp only at hw
  rcases hw with rfl | rfl
  · kernel_rfl
  · kernel_rfl
theorem ev27n (inp out : ByteArray) (i : Int) (s : ByteArray) (k : Nat) : ev sys34 (k + 1) 27 [Wd.av ⟨inp, i, out, .nil, []⟩, .k (.string s)] [] =
  bif Wd.okA ⟨inp, i, out, .nil, []⟩ 0 then (bif chk ⟨inp, i, out, .nil, []⟩ != 0 then readR .empty false else bif Wd.okA ⟨inp, i, out, .nil, []⟩ 0 && sortedB [] then readR .empty false else none) else none := by kernel_rfl
/-- files in order, when nothing is wrong -/
theorem filesE_sorted : ∀ (l : List (List AV)) (b : ByteArray) (first : Bool), filesE l b first = 0 → sortedB l = true ∧ (first = false → ∀ r, l.head? = some r → ltB b (nm r))
  | [], _, _, _ => ⟨rfl, fun _ r h => by cases h⟩
  | r :: l, b, first, h => by
    unfold filesE at h
    by_cases he : fileE (nm r) b (tx r) first = 0
    · simp only [he, bne_self_eq_false, cond_false] at h
      obtain ⟨h1, h2⟩ := filesE_sorted l (nm r) false h
      have hb : first = false → ltB b (nm r) := fun hf => by
        subst hf
        unfold fileE at he
        cases hn : isName (nm r) with
        | false => rw [hn] at he; cases he
        | true =>
          rw [hn] at he
          cases ho : (Op.bytesLess (nm r).toList b.toList || nm r == b) with
          | true => rw [ho] at he; cases he
          | false =>
            rw [← nameOrder] at ho
            simp only [Bool.not_eq_false'] at ho
            exact (less_ltB _ _).1 ho
      refine ⟨?_, fun hf r' hr' => by cases hr'; exact hb hf⟩
      cases l with
      | nil => rfl
      | cons s l =>
        simp only [sortedB, Bool.and_eq_true]
        exact ⟨(less_ltB _ _).2 (h2 rfl s rfl), h1⟩
    · have : (fileE (nm r) b (tx r) first != 0) = true := by simpa using he
      rw [this] at h
      exact absurd h he
theorem chk_sorted {w : Wd} (h : (chk w != 0) = false) : sortedB w.rows = true := by
  have h : chk w = 0 := by simpa using h
  unfold chk at h
  have key : ∀ {c : Bool} {n : Int} {m : Int}, (bif c then n else m) = 0 → n ≠ 0 → m = 0 := fun {c n m} h hn => by
    cases c
    · exact h
    · exact absurd h hn
  exact (filesE_sorted _ _ _ (key (key (key (key (key (key (key h (by decide)) (by decide)) (by decide)) (by decide)) (by decide)) (by decide)) (by decide))).1
theorem found_lt {rows : List (List AV)} {s : ByteArray} (h : found rows s = true) : pos rows s < rows.length := by
  unfold found at h
  simp only [Bool.and_eq_true, decide_eq_true_eq] at h
  exact h.1
theorem evw27 (w : Wd) (s : ByteArray) (hw : w.OkA) : ∃ k, ev sys34 k 27 [w.av, .k (.string s)] [] = some (readAV w s, []) := by
  have ho := hw.okA
  refine ⟨0 + 1, ?_⟩
  rcases hw.kd with hk | ⟨h1, h2⟩
  · rw [ev27 w hk, ho]
    unfold readAV read
    cases hc : chk w != 0 with
    | true => rfl
    | false =>
      rw [chk_sorted hc]
      cases hf : found w.rows s with
      | false => rfl
      | true => rw [leN, ltN (found_lt hf)]; rfl
  · obtain ⟨inp, i, out, kd, rows⟩ := w
    simp only at h1 h2
    subst h1; subst h2
    rw [ev27n, show Wd.okA ⟨inp, i, out, .nil, []⟩ 0 = true from ho]
    unfold readAV read
    cases chk ⟨inp, i, out, .nil, []⟩ != 0 <;> rfl
noncomputable def sys35 : FSys := sys34.tell 27 (FAT (fun _ _ => true) readAV)
end Go.Proofs.Ytmcgeohnmncinaa.W
namespace Go.Proofs.Ytmcgeohnmncinaa.W
open Go.Fw
set_option maxRecDepth 100000
/-! ### A second system: functions that hand back lists of their own -/
def ann38i : FAnn := { ann38 with pre := [], post := [.part 0, .drop [0]], res := .sr 2, objs := [.dead, .arr 42 .full, .arr 42 .any], mvs := [0] }
def ann47b : FAnn := { ann47 with objs := [.arr 42 .full, .arr 42 .full] }
def ann42b : FAnn := { ann42 with pre := [], post := [], res := .sr 0, objs := [.arr 42 .fresh] }
def ann32b : FAnn := { ann32 with pre := [], post := [], res := .a [.cell .str, .cell (.int .i64), .cell .str, .sr 0], objs := [.arr 42 .fresh] }
def ann37b : FAnn := { ann37 with objs := [.arr 42 .fresh] }
def ann39b : FAnn := { ann39 with pre := [], post := [.part 0, .drop [0]], res := .sr 1, objs := [.dead, .arr 42 .any], mvs := [0] }
def ann24b : FAnn := { ann24 with pre := [] }
def ann25b : FAnn := { ann25 with pre := [] }
def fnsB : List Nat := [24, 25, 32, 38, 39, 42]
noncomputable def annB (a38 : FAnn) : FuncId → FAnn := fun f =>
  bif Nat.beq f 38 then a38 else bif Nat.beq f 47 then ann47b else bif Nat.beq f 42 then ann42b else bif Nat.beq f 32 then ann32b else bif Nat.beq f 37 then ann37b else bif Nat.beq f 39 then ann39b else bif Nat.beq f 24 then ann24b else bif Nat.beq f 25 then ann25b else ann f
noncomputable def bodyB' : FuncId → Option Func := bodyOf Try.prog fnsB
theorem bodyOkB : fnsB.all (bodyB Try.prog (annB ann38i)) = true := by kernel_rfl
noncomputable def sysI : FSys := { T := tab, body := bodyB', ann := annB ann38i, prim := fun _ _ _ => none }
theorem sysIOk : SysOk Try.prog sysI where
  mixed := by kernel_rfl
  tab := tabOk
  body := fun f fn h => body_ok bodyOkB f fn h
  prim := fun f args st r st' h => by cases h
def F47 : List AV → List AObj → Ab Res
  | [.sr 0, .ss 1 a n], [.arr 42 .full r0, .arr 42 .full r1] => some (!r0.isEmpty && (decide (0 < n) && decide (a + n ≤ r1.length)), .k (.bool false), [.arr 42 .full r0, .arr 42 .full r1])
  | _, _ => none
theorem told47 (args : List AV) (st : List AObj) (r : AV) (st' : List AObj) (h : F47 args st = some (true, (r, st'))) :
    CF Try.prog sysI.T 47 args st (sysI.ann 47).mvs r st' ∧ (sysI.ann 47).res.ok r = true ∧ OS.okL (sysI.ann 47).objs st' = true ∧ st.length ≤ st'.length := by
  unfold F47 at h
  split at h
  · rename_i a n r0 r1
    simp only [Option.some.injEq, Prod.mk.injEq, Bool.and_eq_true, Bool.not_eq_true', decide_eq_true_eq] at h
    obtain ⟨⟨h1, h2, h3⟩, rfl, rfl⟩ := h
    have hne : r0 ≠ [] := fun e => by rw [e] at h1; cases h1
    exact ⟨CF_overlaps (c0 := [.sl 42]) (b0 := 24) (tS := 22) (tR := 4) tabOk (fn := Try.f47) Try.func47 (by kernel_rfl) (by kernel_rfl) (by kernel_rfl) (by kernel_rfl) (by kernel_rfl) (by kernel_rfl) (by rw [cts42]; decide) hne h2 h3 _, by kernel_rfl, by kernel_rfl, Nat.le_refl _⟩
  · cases h
noncomputable def sysI1 : FSys := sysI.tell 47 F47
end Go.Proofs.Ytmcgeohnmncinaa.W
namespace Go.Proofs.Ytmcgeohnmncinaa.W
open Go.Fw
set_option maxRecDepth 100000
/-! ### slices.Insert of one file -/
abbrev RowL := List (List AV)
def cpY (Z : RowL) (a len : Nat) (src : RowL) : RowL := src.take ((Z.drop a).take len).length
def cpAt (Z : RowL) (a len : Nat) (src : RowL) : RowL := Z.take a ++ cpY Z a len src ++ Z.drop (a + (cpY Z a len src).length)
def cpOk (Z : RowL) (a len : Nat) (src : RowL) : Bool := Nat.ble (cpY Z a len src).length len && Nat.ble (a + (cpY Z a len src).length) Z.length
def okI (out : RowL) (v : List AV) : Option Res := some (.sr 2, [.dead, .arr 42 .full [v], .arr 42 .any out])
def one (n : Int) : Int := IntKind.i64.wrap (n + 1)
def zrow : List AV := [.k (.string .empty), .k (.string .empty)]
def inPl (R : RowL) (z : Nat) (L n i : Int) (v : List AV) : Option Res :=
  bif decide (0 ≤ one n) && decide (one n ≤ L) && true then bif decide (0 ≤ one i) && decide (one i ≤ (((one n).toNat - 0 : Nat) : Int)) then
  bif !([v] : RowL).isEmpty && (decide (0 < (one n).toNat - 0 - (one i).toNat) && decide (z + (one i).toNat + ((one n).toNat - 0 - (one i).toNat) ≤ R.length)) then
  bif decide (0 ≤ one i) && decide (one i ≤ (((one n).toNat - 0 : Nat) : Int)) then bif decide (0 ≤ i) && decide (i ≤ (((one n).toNat - 0 : Nat) : Int)) then
  bif cpOk R (z + (one i).toNat) ((one n).toNat - 0 - (one i).toNat) (List.take ((one n).toNat - 0 - i.toNat) (List.drop (z + i.toNat) R)) then
  bif decide (0 ≤ i) && decide (i ≤ (((one n).toNat - 0 : Nat) : Int)) then
  bif cpOk (cpAt R (z + (one i).toNat) ((one n).toNat - 0 - (one i).toNat) (List.take ((one n).toNat - 0 - i.toNat) (List.drop (z + i.toNat) R))) (z + i.toNat) ((one n).toNat - 0 - i.toNat) [v] then
    okI (List.take ((one n).toNat - 0) (List.drop z (cpAt (cpAt R (z + (one i).toNat) ((one n).toNat - 0 - (one i).toNat) (List.take ((one n).toNat - 0 - i.toNat) (List.drop (z + i.toNat) R))) (z + i.toNat) ((one n).toNat - 0 - i.toNat) [v]))) v
  else none else none else none else none else none else none else none else none
def cnt (n i : Int) : Int := IntKind.i64.wrap (one n - i)
def zBuf (R : RowL) (z : Nat) (n i : Int) : RowL := List.take (i.toNat - 0) (List.drop z R) ++ List.replicate (cnt n i).toNat zrow
def growI (R : RowL) (z : Nat) (Li Ls n i : Int) (src : RowL) (v : List AV) : Option Res :=
  bif decide (0 ≤ i) && decide (i ≤ Li) && true then
  bif decide (0 < cnt n i) && (Nat.ble (R.length - z + 1) (i.toNat - 0 + (cnt n i).toNat) && Nat.ble ((i.toNat - 0 + (cnt n i).toNat) * 32) (2 ^ 47)) then
  bif decide (0 ≤ i) && decide (i ≤ ((zBuf R z n i).length : Int)) then bif cpOk (zBuf R z n i) i.toNat ((zBuf R z n i).length - i.toNat) [v] then
  bif decide (0 ≤ one i) && decide (one i ≤ ((cpAt (zBuf R z n i) i.toNat ((zBuf R z n i).length - i.toNat) [v]).length : Int)) then bif decide (0 ≤ i) && decide (i ≤ Ls) then
  bif cpOk (cpAt (zBuf R z n i) i.toNat ((zBuf R z n i).length - i.toNat) [v]) (one i).toNat ((cpAt (zBuf R z n i) i.toNat ((zBuf R z n i).length - i.toNat) [v]).length - (one i).toNat) src then
    okI (cpAt (cpAt (zBuf R z n i) i.toNat ((zBuf R z n i).length - i.toNat) [v]) (one i).toNat ((cpAt (zBuf R z n i) i.toNat ((zBuf R z n i).length - i.toNat) [v]).length - (one i).toNat) src) v
  else none else none else none else none else none else none else none
theorem ev38n (rows : RowL) (v : List AV) (i : Int) (k : Nat) : ev sysI1 (k + 1) 38 [.sr 0, .k (.int .i64 i), .sr 1] [.arr 42 .full rows, .arr 42 .full [v]] =
  bif decide (0 ≤ i) && decide (i ≤ (rows.length : Int)) then (bif i == (rows.length : Int) then (bif Nat.ble ((rows.length + 1) * 32) (2 ^ 47) then okI (rows ++ [v]) v else none) else
    bif decide (one (rows.length : Int) > (rows.length : Int)) then growI rows 0 (rows.length : Int) (rows.length : Int) (rows.length : Int) i (List.take (rows.length - i.toNat) (List.drop i.toNat rows)) v
    else inPl rows 0 (rows.length : Int) (rows.length : Int) i v) else none := by kernel_rfl
theorem ev38r (R : RowL) (n : Nat) (v : List AV) (i : Int) (k : Nat) : ev sysI1 (k + 1) 38 [.ss 0 0 n, .k (.int .i64 i), .sr 1] [.arr 42 .full R, .arr 42 .full [v]] =
  bif decide (0 ≤ i) && decide (i ≤ (n : Int)) then (bif i == (n : Int) then (bif Nat.ble (0 + n + 1) R.length then okI (List.take (n + 1) (List.drop 0 (List.take (0 + n) R ++ [v] ++ List.drop (0 + n + 1) R))) v else none) else
    bif decide (one (n : Int) > ((R.length - 0 : Nat) : Int)) then growI R (0 + 0) ((R.length - 0 : Nat) : Int) (n : Int) (n : Int) i (List.take (n - i.toNat) (List.drop (0 + i.toNat) R)) v
    else inPl R (0 + 0) ((R.length - 0 : Nat) : Int) (n : Int) i v) else none := by kernel_rfl
end Go.Proofs.Ytmcgeohnmncinaa.W
namespace Go.Proofs.Ytmcgeohnmncinaa.W
open Go.Fw
set_option maxRecDepth 100000
theorem cpY_fit {Z src : RowL} {a len : Nat} (h1 : src.length ≤ len) (h2 : a + src.length ≤ Z.length) : cpY Z a len src = src := by
  unfold cpY
  rw [List.take_of_length_le]
  rw [List.length_take, List.length_drop]
  omega
theorem cpOk_fit {Z src : RowL} {a len : Nat} (h1 : src.length ≤ len) (h2 : a + src.length ≤ Z.length) : cpOk Z a len src = true := by
  unfold cpOk
  rw [cpY_fit h1 h2, Bool.and_eq_true, Nat.ble_eq, Nat.ble_eq]
  exact ⟨h1, h2⟩
theorem cpAt_fit {X Y W src : RowL} {len : Nat} (h : src.length = Y.length) (h1 : src.length ≤ len) : cpAt (X ++ Y ++ W) X.length len src = X ++ src ++ W := by
  unfold cpAt
  rw [cpY_fit h1 (by simp <;> omega), h]
  have e1 : (X ++ Y ++ W).take X.length = X := by rw [List.append_assoc]; exact List.take_left
  have e2 : (X ++ Y ++ W).drop (X.length + Y.length) = W := by rw [← List.length_append]; exact List.drop_left
  rw [e1, e2]
theorem one_nat {n : Nat} (h : n < 9223372036854775807) : one (n : Int) = ((n + 1 : Nat) : Int) := by unfold one; rw [wrap64] <;> omega
theorem growI_ins (A B : RowL) (v : List AV) (hB : 0 < B.length) (hl : ((A ++ B).length + 1) * 32 ≤ reachBytes) :
    growI (A ++ B) 0 ((A ++ B).length : Int) ((A ++ B).length : Int) ((A ++ B).length : Int) (A.length : Int) (List.take ((A ++ B).length - ((A.length : Nat) : Int).toNat) (List.drop ((A.length : Nat) : Int).toNat (A ++ B))) v = okI (A ++ [v] ++ B) v := by
  unfold reachBytes at hl
  have hn : (A ++ B).length = A.length + B.length := List.length_append
  rw [hn] at hl
  have hcnt : cnt ((A ++ B).length : Int) (A.length : Int) = ((B.length + 1 : Nat) : Int) := by
    unfold cnt
    rw [one_nat (by omega), wrap64 (by omega) (by omega)]; omega
  have hone : one (A.length : Int) = ((A.length + 1 : Nat) : Int) := one_nat (by omega)
  have hz : zBuf (A ++ B) 0 ((A ++ B).length : Int) (A.length : Int) = A ++ [zrow] ++ List.replicate B.length zrow := by
    unfold zBuf
    rw [hcnt, Int.toNat_natCast, Int.toNat_natCast, List.drop_zero, Nat.sub_zero, List.take_left, List.replicate_succ]
    simp
  have hzl : (A ++ [zrow] ++ List.replicate B.length zrow).length = A.length + (B.length + 1) := by simp <;> omega
  have hsrc : List.take ((A ++ B).length - A.length) (List.drop A.length (A ++ B)) = B := by
    rw [List.drop_left, List.take_of_length_le (by omega)]
  have hc1 : cpAt (A ++ [zrow] ++ List.replicate B.length zrow) A.length ((A ++ [zrow] ++ List.replicate B.length zrow).length - A.length) [v] = A ++ [v] ++ List.replicate B.length zrow := cpAt_fit rfl (by rw [hzl]; simp <;> omega)
  have hl1 : (A ++ [v] ++ List.replicate B.length zrow).length = A.length + (B.length + 1) := by simp <;> omega
  have hc2 : cpAt (A ++ [v] ++ List.replicate B.length zrow) (A.length + 1) ((A ++ [v] ++ List.replicate B.length zrow).length - (A.length + 1)) B = A ++ [v] ++ B := by
    have := cpAt_fit (X := A ++ [v]) (Y := List.replicate B.length zrow) (W := []) (src := B) (len := (A ++ [v] ++ List.replicate B.length zrow).length - (A.length + 1)) (by simp) (by rw [hl1]; omega)
    rw [List.append_nil, List.append_nil, List.length_append] at this
    exact this
  unfold growI
  simp only [hz, hcnt, hone, Int.toNat_natCast, hsrc, hc1, hc2]
  have k1 : decide (0 ≤ (A.length : Int)) = true := leN _
  have k2 : decide ((A.length : Int) ≤ ((A ++ B).length : Int)) = true := by rw [decide_eq_true_eq]; omega
  have k3 : decide (0 < ((B.length + 1 : Nat) : Int)) = true := by rw [decide_eq_true_eq]; omega
  have k4 : Nat.ble ((A ++ B).length - 0 + 1) (A.length - 0 + (B.length + 1)) = true := by rw [Nat.ble_eq]; omega
  have k5 : Nat.ble ((A.length - 0 + (B.length + 1)) * 32) (2 ^ 47) = true := by rw [Nat.ble_eq]; omega
  have k6 : decide ((A.length : Int) ≤ ((A ++ [zrow] ++ List.replicate B.length zrow).length : Int)) = true := by rw [decide_eq_true_eq, hzl]; omega
  have k7 : cpOk (A ++ [zrow] ++ List.replicate B.length zrow) A.length ((A ++ [zrow] ++ List.replicate B.length zrow).length - A.length) [v] = true := cpOk_fit (by rw [hzl]; simp <;> omega) (by rw [hzl]; simp <;> omega)
  have k8 : decide (0 ≤ ((A.length + 1 : Nat) : Int)) = true := leN _
  have k9 : decide (((A.length + 1 : Nat) : Int) ≤ ((A ++ [v] ++ List.replicate B.length zrow).length : Int)) = true := by rw [decide_eq_true_eq, hl1]; omega
  have k10 : cpOk (A ++ [v] ++ List.replicate B.length zrow) (A.length + 1) ((A ++ [v] ++ List.replicate B.length zrow).length - (A.length + 1)) B = true := cpOk_fit (by rw [hl1]; omega) (by rw [hl1]; omega)
  rw [k1, k2, k3, k4, k5, k6, k7, k8, k9, k10]
  rfl
theorem inPl_ins (A B D : RowL) (y v : List AV) (hB : 0 < B.length) (hl : ((A ++ B).length + 1) * 32 ≤ reachBytes) :
    inPl (A ++ B ++ (y :: D)) (0 + 0) (((A ++ B ++ (y :: D)).length - 0 : Nat) : Int) ((A ++ B).length : Int) (A.length : Int) v = okI (A ++ [v] ++ B) v := by
  unfold reachBytes at hl
  have hn : (A ++ B).length = A.length + B.length := List.length_append
  rw [hn] at hl
  obtain ⟨b, B', rfl⟩ : ∃ b B', B = b :: B' := by cases B with
    | nil => cases hB
    | cons b B' => exact ⟨b, B', rfl⟩
  have hbl : (b :: B').length = B'.length + 1 := rfl
  have hone : one (A.length : Int) = ((A.length + 1 : Nat) : Int) := one_nat (by omega)
  have hone' : one ((A ++ b :: B').length : Int) = (((A ++ b :: B').length + 1 : Nat) : Int) := one_nat (by omega)
  have hR : (A ++ b :: B' ++ y :: D).length = A.length + (B'.length + 1) + (D.length + 1) := by simp <;> omega
  -- the tail is copied one place on
  have hsrcY : cpY (A ++ b :: B' ++ y :: D) (A.length + 1) ((A ++ b :: B').length + 1 - 0 - (A.length + 1)) (List.take ((A ++ b :: B').length + 1 - 0 - A.length) (List.drop A.length (A ++ b :: B' ++ y :: D))) = b :: B' := by
    have hd : List.drop A.length (A ++ b :: B' ++ y :: D) = b :: B' ++ y :: D := by rw [List.append_assoc, List.drop_left]
    unfold cpY
    rw [hd, List.take_take, List.length_take, List.length_drop, hR]
    have e : min (min ((A ++ b :: B').length + 1 - 0 - (A.length + 1)) (A.length + (B'.length + 1) + (D.length + 1) - (A.length + 1))) ((A ++ b :: B').length + 1 - 0 - A.length) = (b :: B').length := by rw [hn, hbl]; omega
    rw [e, List.take_left]
  have hspl : A ++ b :: B' ++ y :: D = (A ++ [b]) ++ (B' ++ [y]) ++ D := by simp
  have hc1 : cpAt (A ++ b :: B' ++ y :: D) (A.length + 1) ((A ++ b :: B').length + 1 - 0 - (A.length + 1)) (List.take ((A ++ b :: B').length + 1 - 0 - A.length) (List.drop A.length (A ++ b :: B' ++ y :: D))) = A ++ [b] ++ (b :: B') ++ D := by
    unfold cpAt
    rw [hsrcY]
    have e1 : List.take (A.length + 1) (A ++ b :: B' ++ y :: D) = A ++ [b] := by rw [hspl, List.append_assoc, List.take_left' (by simp)]
    have e2 : List.drop (A.length + 1 + (b :: B').length) (A ++ b :: B' ++ y :: D) = D := by rw [hspl, List.drop_left' (by simp <;> omega)]
    rw [e1, e2]
  have hl1 : (A ++ [b] ++ (b :: B') ++ D).length = A.length + (B'.length + 1) + (D.length + 1) := by simp <;> omega
  have hc2 : cpAt (A ++ [b] ++ (b :: B') ++ D) A.length ((A ++ b :: B').length + 1 - 0 - A.length) [v] = A ++ [v] ++ (b :: B' ++ D) := by
    have := cpAt_fit (X := A) (Y := [b]) (W := b :: B' ++ D) (src := [v]) (len := (A ++ b :: B').length + 1 - 0 - A.length) rfl (by rw [hn]; simp <;> omega)
    rw [← List.append_assoc] at this
    exact this
  have hfin : List.take ((A ++ b :: B').length + 1 - 0) (List.drop 0 (A ++ [v] ++ (b :: B' ++ D))) = A ++ [v] ++ b :: B' := by
    rw [List.drop_zero, ← List.append_assoc, List.take_left' (by simp <;> omega)]
  have hz0 : (0 + 0 : Nat) = 0 := rfl
  unfold inPl
  simp only [hz0, Nat.zero_add, hone, hone', Int.toNat_natCast, hc1, hc2, hfin]
  have k1 : decide (0 ≤ (((A ++ b :: B').length + 1 : Nat) : Int)) = true := leN _
  have k2 : decide ((((A ++ b :: B').length + 1 : Nat) : Int) ≤ (((A ++ b :: B' ++ y :: D).length - 0 : Nat) : Int)) = true := by rw [decide_eq_true_eq, hR, hn]; omega
  have k3 : decide (0 ≤ ((A.length + 1 : Nat) : Int)) = true := leN _
  have k4 : decide (((A.length + 1 : Nat) : Int) ≤ (((A ++ b :: B').length + 1 - 0 : Nat) : Int)) = true := by rw [decide_eq_true_eq, hn]; omega
  have k5 : decide (0 < (A ++ b :: B').length + 1 - 0 - (A.length + 1)) = true := by rw [decide_eq_true_eq, hn]; omega
  have k6 : decide (A.length + 1 + ((A ++ b :: B').length + 1 - 0 - (A.length + 1)) ≤ (A ++ b :: B' ++ y :: D).length) = true := by rw [decide_eq_true_eq, hR, hn]; omega
  have k7 : decide (0 ≤ (A.length : Int)) = true := leN _
  have k8 : decide ((A.length : Int) ≤ (((A ++ b :: B').length + 1 - 0 : Nat) : Int)) = true := by rw [decide_eq_true_eq, hn]; omega
  have k9 : cpOk (A ++ b :: B' ++ y :: D) (A.length + 1) ((A ++ b :: B').length + 1 - 0 - (A.length + 1)) (List.take ((A ++ b :: B').length + 1 - 0 - A.length) (List.drop A.length (A ++ b :: B' ++ y :: D))) = true := by
    unfold cpOk
    rw [hsrcY, Bool.and_eq_true, Nat.ble_eq, Nat.ble_eq, hR, hn, hbl]; omega
  have k10 : cpOk (A ++ [b] ++ (b :: B') ++ D) A.length ((A ++ b :: B').length + 1 - 0 - A.length) [v] = true := cpOk_fit (by rw [hn]; simp <;> omega) (by rw [hl1]; simp <;> omega)
  rw [k1, k2, k3, k4, k5, k6, k7, k8, k9, k10]
  rfl
/-- a row put into a list -/
def ins (rows : RowL) (i : Nat) (v : List AV) : RowL := rows.take i ++ [v] ++ rows.drop i
theorem ev38n_ins (rows : RowL) (v : List AV) (i : Nat) (hi : i ≤ rows.length) (hl : (rows.length + 1) * 32 ≤ reachBytes) : ev sysI1 (0 + 1) 38 [.sr 0, .k (.int .i64 (i : Int)), .sr 1] [.arr 42 .full rows, .arr 42 .full [v]] = okI (ins rows i v) v := by
  rw [ev38n]
  have hl' := hl
  unfold reachBytes at hl'
  have k1 : decide ((i : Int) ≤ (rows.length : Int)) = true := by rw [decide_eq_true_eq]; omega
  rw [leN, k1]
  by_cases h : i = rows.length
  · subst h
    have k2 : (((rows.length : Nat) : Int) == (rows.length : Int)) = true := by simp
    have k3 : Nat.ble ((rows.length + 1) * 32) (2 ^ 47) = true := by rw [Nat.ble_eq]; omega
    rw [k2, k3]
    unfold ins
    rw [List.take_length, List.drop_length, List.append_nil]
    rfl
  · have k2 : ((i : Int) == (rows.length : Int)) = false := by rw [beq_eq_false_iff_ne]; omega
    have k3 : decide (one (rows.length : Int) > (rows.length : Int)) = true := by rw [one_nat (by omega), decide_eq_true_eq]; omega
    rw [k2, k3]
    have hAB : rows.take i ++ rows.drop i = rows := List.take_append_drop i rows
    have hA : (rows.take i).length = i := by rw [List.length_take]; omega
    have := growI_ins (rows.take i) (rows.drop i) v (by rw [List.length_drop]; omega) (by rw [hAB]; exact hl)
    rw [hAB, hA] at this
    exact this
theorem ev38r_ins (rows : RowL) (v : List AV) (i d : Nat) (hi : i ≤ rows.length) (hl : (rows.length + 1) * 32 ≤ reachBytes) :
    ev sysI1 (0 + 1) 38 [.ss 0 0 rows.length, .k (.int .i64 (i : Int)), .sr 1] [.arr 42 .full (rows ++ List.replicate (d + 1) zrow), .arr 42 .full [v]] = okI (ins rows i v) v := by
  rw [ev38r]
  have hl' := hl
  unfold reachBytes at hl'
  have k1 : decide ((i : Int) ≤ (rows.length : Int)) = true := by rw [decide_eq_true_eq]; omega
  have hRl : (rows ++ List.replicate (d + 1) zrow).length = rows.length + (d + 1) := by simp
  rw [leN, k1]
  by_cases h : i = rows.length
  · subst h
    have k2 : (((rows.length : Nat) : Int) == (rows.length : Int)) = true := by simp
    have k3 : Nat.ble (0 + rows.length + 1) (rows ++ List.replicate (d + 1) zrow).length = true := by rw [Nat.ble_eq, hRl]; omega
    rw [k2, k3]
    unfold ins
    rw [List.take_length, List.drop_length, List.append_nil, Nat.zero_add, List.take_left, List.drop_zero, List.take_left' (by simp)]
    rfl
  · have k2 : ((i : Int) == (rows.length : Int)) = false := by rw [beq_eq_false_iff_ne]; omega
    have k3 : decide (one (rows.length : Int) > (((rows ++ List.replicate (d + 1) zrow).length - 0 : Nat) : Int)) = false := by rw [one_nat (by omega), decide_eq_false_iff_not, hRl]; omega
    rw [k2, k3]
    have hAB : rows.take i ++ rows.drop i = rows := List.take_append_drop i rows
    have hA : (rows.take i).length = i := by rw [List.length_take]; omega
    have := inPl_ins (rows.take i) (rows.drop i) (List.replicate d zrow) zrow v (by rw [List.length_drop]; omega) (by rw [hAB]; exact hl)
    rw [hAB, hA, ← List.replicate_succ] at this
    exact this
end Go.Proofs.Ytmcgeohnmncinaa.W
