/- A part of the proofs over the laws of layer 8 (worlds): what its functions come to. No conditions. -/
import Derived.Test.YtmcgeohnmncinaaELaw3
import Derived.Test.YtmcgeohnmncinaaRows
set_option linter.all false
namespace Go.Proofs.Ytmcgeohnmncinaa.W
open Go.Fw
set_option maxRecDepth 100000
theorem tabOk : TabOk Try.prog tab := tab_ok (by kernel_rfl)
theorem bodyOk : fns.all (bodyB Try.prog ann) = true := by kernel_rfl
theorem prim_ok (f : FuncId) (args : List AV) (st : List AObj) (r : AV) (st' : List AObj) (h : sys.prim f args st = some (some (true, r, st'))) :
    CF Try.prog sys.T f args st (sys.ann f).mvs r st' ∧ (sys.ann f).res.ok r = true ∧ OS.okL (sys.ann f).objs st' = true ∧ st.length ≤ st'.length := by
  change prim f args st = _ at h
  unfold prim at h
  cases hf : Nat.beq f 62 with
  | false => rw [hf] at h; cases h
  | true =>
    obtain rfl := Nat.eq_of_beq_eq_true hf
    simp only [cond_true, Nat.beq_refl] at h
    split at h
    · rename_i s c
      split at h
      · cases h
        exact ⟨CF_indexByte (fn := Try.f62) Try.func62 (by kernel_rfl) (by kernel_rfl) (by kernel_rfl) (by kernel_rfl) s c [] _, by kernel_rfl, by kernel_rfl, Nat.le_refl _⟩
      · cases h
    · cases h
theorem sysOk : SysOk Try.prog sys where
  mixed := by kernel_rfl
  tab := tabOk
  body := fun f fn h => body_ok bodyOk f fn h
  prim := prim_ok
theorem sysOk27 : SysOk Try.prog sys27 :=
  (((((((((((((((((((((((((((sysOk.tell 30 F30 told30).tell 50 F50 told50).tell 61 F61 told61).tell 49 F49 told49).tell 41 F41 told41).tell 34 _ (told1 ev34)).tell 35 _ (told1 ev35)).tell 31 F31 told31).tell 11 _ (toldW ev11)).tell 17 _ (toldW ev17)).tell 42 F42 told42).tell 32 _ (toldW ev32)).tell 51 _ (toldN evn51)).tell 43 _ (toldN evn43)).tell 33 _ (toldN evn33)).tell 13 _ (toldW evw13)).tell 23 _ (toldW evw23)).tell 22 _ (toldW evw22)).tell 20 _ (toldW evw20)).tell 21 _ (toldW evw21)).tell 14 _ (toldWT evw14)).tell 15 _ (toldWT evw15)).tell 36 F36 told36).tell 18 _ (toldWW evw18)).tell 16 _ (toldWW evw16)).tell 10 _ (toldW evw10)).tell 19 _ (toldW evw19)).tell 12 F12 told12

theorem own : ownKnob Try.prog.godebug = none := by kernel_rfl
theorem laidOut : laidOutB Try.prog = true := by kernel_rfl
theorem plain : plainT tab [24, 9, 3, 22, 42] = true := by kernel_rfl

/-! ### What is read of the arguments -/
theorem cts24 : cts tab 24 = [.str, .int .i64, .str, .sl 42] := by kernel_rfl
theorem cts42 : cts tab 42 = [.str, .str] := by kernel_rfl
theorem cts9 : cts tab 9 = [.str] := by kernel_rfl
theorem bytes42 : bytesT tab 42 = 32 := by kernel_rfl
theorem str_cell {av : AV} (h : CT.ok .str av = true) : ∃ s, av = .k (.string s) := by
  unfold CT.ok at h
  split at h <;> first | (cases h; done) | (rename_i e1 e2; cases e1; done) | skip
  all_goals first | exact ⟨_, rfl⟩ | (rename_i e1; cases e1)
theorem fine_str {s : ByteArray} (h : Fine tab (.k (.string s))) : textC s = true := by
  cases h with
  | str _ h => exact decide_eq_true h

theorem int_cell {k : IntKind} {av : AV} (h : CT.ok (.int k) av = true) : ∃ n, av = .k (.int k n) := by
  cases av with
  | k v =>
    cases v with
    | int j n =>
      have : j = k := of_decide_eq_true h
      subst this
      exact ⟨n, rfl⟩
    | _ => cases h
  | _ => cases h
theorem row_two {c d : CT} {row : List AV} (h : rowOk [c, d] row = true) : ∃ a b, row = [a, b] ∧ c.ok a = true ∧ d.ok b = true := by
  match row, h with
  | [a, b], h =>
    simp only [rowOk, Bool.and_eq_true] at h
    exact ⟨a, b, rfl, h.1, h.2.1⟩
  | [], h => cases h
  | [_], h => simp [rowOk] at h
  | _ :: _ :: _ :: _, h => simp [rowOk] at h
theorem sl_cell {av : AV} (h : CT.ok (.sl 42) av = true) (hf : Fine tab av) : ∃ kd rows, av = .sl (kd.tag 42) kd rows ∧ (kd = SK.wide ∨ kd = SK.nil ∧ rows = []) ∧ rows.length * 32 ≤ reachBytes ∧ ∀ r ∈ rows, rowFits r = true := by
  cases hf with
  | sl t rows h1 h2 h3 h4 =>
    obtain rfl : t = 42 := Nat.eq_of_beq_eq_true h
    refine ⟨.wide, rows, rfl, .inl rfl, by rw [bytes42] at h1; exact h1, fun r hr => ?_⟩
    have h5 := h3 r hr
    rw [cts42] at h5
    obtain ⟨a, b, rfl, ha, hb⟩ := row_two h5
    obtain ⟨s, rfl⟩ := str_cell ha
    obtain ⟨t, rfl⟩ := str_cell hb
    have e1 := fine_str (h4 _ hr (.k (.string s)) (by simp))
    have e2 := fine_str (h4 _ hr (.k (.string t)) (by simp))
    show (textC s && textC t) = true
    rw [e1, e2]; rfl
  | nil => exact ⟨.nil, [], rfl, .inr ⟨rfl, rfl⟩, Nat.zero_le _, fun r hr => by cases hr⟩
  | int => cases h
  | bool => cases h
  | str => cases h
theorem row_four {a b c d : CT} {row : List AV} (h : rowOk [a, b, c, d] row = true) : ∃ w x y z, row = [w, x, y, z] ∧ a.ok w = true ∧ b.ok x = true ∧ c.ok y = true ∧ d.ok z = true := by
  match row, h with
  | [w, x, y, z], h =>
    simp only [rowOk, Bool.and_eq_true] at h
    exact ⟨w, x, y, z, rfl, h.1, h.2.1, h.2.2.1, h.2.2.2.1⟩
  | [], h => cases h
  | [_], h => simp [rowOk] at h
  | [_, _], h => simp [rowOk] at h
  | [_, _, _], h => simp [rowOk] at h
  | _ :: _ :: _ :: _ :: _ :: _, h => simp [rowOk] at h
theorem agg24 : ∃ ti, tab 24 = some ti ∧ ti.isAgg = true := ⟨_, rfl, by kernel_rfl⟩
theorem agg9 : ∃ ti, tab 9 = some ti ∧ ti.isAgg = false := ⟨_, rfl, by kernel_rfl⟩
theorem arg24 {av : AV} (h : ArgOf tab 24 av) : ∃ w : Wd, av = w.av ∧ w.Ok := by
  obtain ⟨ti, h1, h2⟩ := agg24
  unfold ArgOf at h
  rw [h1] at h
  simp only [h2] at h
  obtain ⟨avs, rfl, hr, hf⟩ := h
  rw [cts24] at hr
  obtain ⟨a, b, c, d, rfl, ha, hb, hc, hd⟩ := row_four hr
  obtain ⟨s, rfl⟩ := str_cell ha
  obtain ⟨n, rfl⟩ := int_cell hb
  obtain ⟨t, rfl⟩ := str_cell hc
  obtain ⟨kd, rows, rfl, hk, hl, hfit⟩ := sl_cell hd (hf _ (by simp))
  exact ⟨⟨s, n, t, kd, rows⟩, rfl, hk, hl, fine_str (hf _ (by simp)), fine_str (hf (.k (.string t)) (by simp)), hfit⟩
theorem arg9 {av : AV} (h : ArgOf tab 9 av) : ∃ s : ByteArray, av = .k (.string s) ∧ textC s = true := by
  obtain ⟨ti, h1, h2⟩ := agg9
  unfold ArgOf at h
  rw [h1] at h
  simp only [h2] at h
  obtain ⟨hr, hf⟩ := h
  rw [cts9] at hr
  simp only [rowOk, Bool.and_eq_true] at hr
  obtain ⟨s, rfl⟩ := str_cell hr.1
  exact ⟨s, rfl, fine_str hf⟩
theorem args_one {t : Nat} {avs : List AV} (h : Args tab [t] avs) : ∃ a, avs = [a] ∧ ArgOf tab t a := by
  match avs, h with
  | [a], h => exact ⟨a, rfl, h.1⟩
theorem args_two {t u : Nat} {avs : List AV} (h : Args tab [t, u] avs) : ∃ a b, avs = [a, b] ∧ ArgOf tab t a ∧ ArgOf tab u b := by
  match avs, h with
  | [a, b], h => exact ⟨a, b, rfl, h.1, h.2.1⟩
theorem pure3 (avs : List AV) (h : Args tab [24] avs) : ∃ k, ev sys27 k 3 avs [] = some (.k (.bool true), []) := by
  obtain ⟨a, rfl, ha⟩ := args_one h
  obtain ⟨w, rfl, hw⟩ := arg24 ha
  exact law3_true w hw
theorem pure4 (avs : List AV) (h : Args tab [24, 9] avs) : ∃ k, ev sys27 k 4 avs [] = some (.k (.bool true), []) := by
  obtain ⟨a, b, rfl, ha, hb⟩ := args_two h
  obtain ⟨w, rfl, hw⟩ := arg24 ha
  obtain ⟨s, rfl, hs⟩ := arg9 hb
  exact ⟨_, law4_true w s hw hs⟩
theorem pure5 (avs : List AV) (h : Args tab [24, 24] avs) : ∃ k, ev sys27 k 5 avs [] = some (.k (.bool true), []) := by
  obtain ⟨a, b, rfl, ha, hb⟩ := args_two h
  obtain ⟨v, rfl, hv⟩ := arg24 ha
  obtain ⟨w, rfl, hw⟩ := arg24 hb
  exact ⟨_, law5_true v w hv hw⟩
theorem pure6 (avs : List AV) (h : Args tab [24] avs) : ∃ k, ev sys27 k 6 avs [] = some (.k (.bool true), []) := by
  obtain ⟨a, rfl, ha⟩ := args_one h
  obtain ⟨w, rfl, hw⟩ := arg24 ha
  exact ⟨_, law6_true w hw⟩
def wz : Value := .agg #[.string ByteArray.empty, .int .i64 0, .string ByteArray.empty, .slice none 0 0]
end Go.Proofs.Ytmcgeohnmncinaa.W
