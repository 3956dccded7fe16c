/- A part of the proofs over the laws of layer 8 (worlds): what its functions come to. No conditions. -/
import Derived.Test.YtmcgeohnmncinaaG6
set_option linter.all false
namespace Go.Proofs.Ytmcgeohnmncinaa.W
open Go.Fw
set_option maxRecDepth 100000
/-! ### Same of the reference, of worlds whose lists may be nil or not -/
def NN (kd : SK) : Prop := kd = .wide ∨ kd = .any
theorem round16a (a p b q : ByteArray) (i i' : Int) (kd kd' : SK) (hk : NN kd) (hk' : NN kd') (r s : List (List AV)) (j : Int) (k : Nat) (R : St → Option Res) : roundAt sys23 16 Try.f16 0 k [1,1,0,1,0] [] R ⟨tm 52 [(2, .ptr 0 0), (3, .ptr 1 0), (5, .k (.int .i64 j))], [boxW ⟨a, i, p, kd, r⟩, boxW ⟨b, i', q, kd', s⟩], []⟩ =
  bif decide (j < ↑r.length) then (bif decide (0 ≤ j) && decide (j < ↑r.length) then (bif decide (0 ≤ j) && decide (j < ↑s.length) then (bif !eqRow (r.getD j.toNat []) (s.getD j.toNat []) then boolR false else R ⟨tm 52 [(2, .ptr 0 0), (3, .ptr 1 0), (5, .k (.int .i64 (IntKind.i64.wrap (j + 1))))], [boxW ⟨a, i, p, kd, r⟩, boxW ⟨b, i', q, kd', s⟩], []⟩) else none) else none) else boolR true := by
  rcases hk with rfl | rfl <;> rcases hk' with rfl | rfl <;> kernel_rfl
theorem start16a (a p b q : ByteArray) (i i' : Int) (kd kd' : SK) (hk : NN kd) (hk' : NN kd') (r s : List (List AV)) (k : Nat) : ev sys23 (k + 1) 16 [Wd.av ⟨a, i, p, kd, r⟩, Wd.av ⟨b, i', q, kd', s⟩] [] = head16 ⟨a, i, p, kd, r⟩ ⟨b, i', q, kd', s⟩ (loopAt sys23 16 Try.f16 0 k [1,1,0,1,0] [] k (σ16 ⟨a, i, p, kd, r⟩ ⟨b, i', q, kd', s⟩ 0)) := by
  rcases hk with rfl | rfl <;> rcases hk' with rfl | rfl <;> kernel_rfl
theorem start16an (a p b q : ByteArray) (i i' : Int) (kd : SK) (hk : NN kd) (s : List (List AV)) (k : Nat) : ev sys23 (k + 2) 16 [Wd.av ⟨a, i, p, .nil, []⟩, Wd.av ⟨b, i', q, kd, s⟩] [] = head16 ⟨a, i, p, .nil, []⟩ ⟨b, i', q, kd, s⟩ (boolR true) := by
  rcases hk with rfl | rfl <;> kernel_rfl
theorem start16am (a p b q : ByteArray) (i i' : Int) (kd : SK) (hk : NN kd) (x : List AV) (r : List (List AV)) (k : Nat) : ev sys23 (k + 2) 16 [Wd.av ⟨a, i, p, kd, x :: r⟩, Wd.av ⟨b, i', q, .nil, []⟩] [] = head16 ⟨a, i, p, kd, x :: r⟩ ⟨b, i', q, .nil, []⟩ (boolR true) := by
  rcases hk with rfl | rfl <;> kernel_rfl
theorem start16am0 (a p b q : ByteArray) (i i' : Int) (kd : SK) (hk : NN kd) (k : Nat) : ev sys23 (k + 2) 16 [Wd.av ⟨a, i, p, kd, []⟩, Wd.av ⟨b, i', q, .nil, []⟩] [] = head16 ⟨a, i, p, kd, []⟩ ⟨b, i', q, .nil, []⟩ (boolR true) := by
  rcases hk with rfl | rfl <;> kernel_rfl
theorem loop16a (a p b q : ByteArray) (i0 i' : Int) (kd kd' : SK) (hk : NN kd) (hk' : NN kd') (r s : List (List AV)) (h : r.length = s.length) (hl : r.length * 32 ≤ reachBytes) (k : Nat) (hkk : r.length < k) : loopAt sys23 16 Try.f16 0 k [1,1,0,1,0] [] k (σ16 ⟨a, i0, p, kd, r⟩ ⟨b, i', q, kd', s⟩ 0) = boolR (eqRows r s) := by
  refine loop_up (σ16 ⟨a, i0, p, kd, r⟩ ⟨b, i', q, kd', s⟩) r.length (fun i => boolR (eqRows (r.drop i) (s.drop i))) ?_ ?_ k 0 (Nat.zero_le _) (by omega)
  · intro i hi R hR
    have hi' : i < s.length := by omega
    unfold σ16 at hR ⊢
    rw [round16a _ _ _ _ _ _ _ _ hk hk', ltN hi, leN, ltN hi', rowAtL r i hi, rowAtL s i hi', wrapR hi hl, hR, List.drop_eq_getElem_cons hi, List.drop_eq_getElem_cons hi']
    simp only [eqRows]
    cases eqRow r[i] s[i] <;> rfl
  · intro R
    unfold σ16
    rw [round16a _ _ _ _ _ _ _ _ hk hk', nltN, List.drop_length]
    rfl
theorem evw16a (v w : Wd) (hv : v.OkA) (hw : w.OkA) : ∃ k, ev sys23 k 16 [v.av, w.av] [] = some (.k (.bool (same v w)), []) := by
  obtain ⟨a, i, p, kd, r⟩ := v
  obtain ⟨b, i', q, kd', s⟩ := w
  have hl := hv.len
  simp only at hl
  rcases hv.kd with h1 | ⟨h1, h2⟩ <;> rcases hw.kd with h3 | ⟨h3, h4⟩ <;> simp only at h1 h3
  · exact ⟨r.length + 1 + 1, (start16a a p b q i i' kd kd' h1 h3 r s _).trans (head16_same _ _ _ fun h => loop16a a p b q i i' kd kd' h1 h3 r s h hl _ (by omega))⟩
  · simp only at h4
    subst h3; subst h4
    cases r with
    | nil => exact ⟨0 + 2, (start16am0 a p b q i i' kd h1 0).trans (head16_same _ _ _ fun _ => rfl)⟩
    | cons x r => exact ⟨0 + 2, (start16am a p b q i i' kd h1 x r 0).trans (head16_same _ _ _ fun h => by cases h)⟩
  · simp only at h2
    subst h1; subst h2
    exact ⟨0 + 2, (start16an a p b q i i' kd' h3 s 0).trans (head16_same _ _ _ fun _ => rfl)⟩
  · simp only at h2 h4
    subst h1; subst h2; subst h3; subst h4
    exact ⟨0 + 2, (start16nn a p b q i i' 0).trans (head16_same _ _ _ fun _ => rfl)⟩
def FAA (F : Wd → Wd → AV) : List AV → List AObj → Ab Res
  | [.agg [.k (.string a), .k (.int .i64 i), .k (.string o), .sl u kd rows], .agg [.k (.string a'), .k (.int .i64 i'), .k (.string o'), .sl u' kd' rows']], [] => some (Wd.okA ⟨a, i, o, kd, rows⟩ u && Wd.okA ⟨a', i', o', kd', rows'⟩ u', F ⟨a, i, o, kd, rows⟩ ⟨a', i', o', kd', rows'⟩, [])
  | _, _ => none
theorem sysOk23 : SysOk Try.prog sys23 :=
  ((((((((((((((((((((((((sysOk.tell 30 F30 told30).tell 50 F50 told50).tell 61 F61 told61).tell 49 F49 told49).tell 41 F41 told41).tell 34 _ (told1 ev34)).tell 35 _ (told1 ev35)).tell 31 F31 told31).tell 11 _ (toldW ev11)).tell 17 _ (toldW ev17)).tell 42 F42 told42).tell 32 _ (toldW ev32)).tell 51 _ (toldN evn51)).tell 43 _ (toldN evn43)).tell 33 _ (toldN evn33)).tell 13 _ (toldW evw13)).tell 23 _ (toldW evw23)).tell 22 _ (toldW evw22)).tell 20 _ (toldW evw20)).tell 21 _ (toldW evw21)).tell 14 _ (toldWT evw14)).tell 15 _ (toldWT evw15)).tell 36 F36 told36).tell 18 _ (toldWW evw18))
theorem told16a (args : List AV) (st : List AObj) (r : AV) (st' : List AObj) (h : FAA (fun v w => .k (.bool (same v w))) args st = some (true, (r, st'))) :
    CF Try.prog sys37.T 16 args st (sys37.ann 16).mvs r st' ∧ (sys37.ann 16).res.ok r = true ∧ OS.okL (sys37.ann 16).objs st' = true ∧ st.length ≤ st'.length := by
  unfold FAA at h
  split at h
  · rename_i a i o u kd rows a' i' o' u' kd' rows'
    simp only [Option.some.injEq, Prod.mk.injEq, Bool.and_eq_true] at h
    obtain ⟨⟨h1, h2⟩, rfl, rfl⟩ := h
    obtain ⟨h3, rfl⟩ := Wd.OkA.of h1
    obtain ⟨h4, rfl⟩ := Wd.OkA.of h2
    exact ⟨cf_of sysOk23 (f := 16) (evw16a _ _ h3 h4), by kernel_rfl, by kernel_rfl, Nat.le_refl _⟩
  · cases h
noncomputable def sys38 : FSys := sys37.tell 16 (FAA fun v w => .k (.bool (same v w)))
theorem sys38Ok : SysOk Try.prog sys38 := sys37Ok.tellCF 16 _ told16a
end Go.Proofs.Ytmcgeohnmncinaa.W
namespace Go.Proofs.Ytmcgeohnmncinaa.W
open Go.Fw
set_option maxRecDepth 100000
/-! ### Put and Drop that hand back lists of their own -/
def ownRes (ct : CT) : RS := .t [.a [.cell .str, .cell (.int .i64), .cell .str, .sr 0], .cell ct]
def ann24k : FAnn := { ann24b with post := [.ownIn 0 42, .loose 0], res := ownRes (.int .i64), objs := [.arr 42 .any] }
def ann25k : FAnn := { ann25b with post := [.ownIn 0 42, .loose 0], res := ownRes .bool, objs := [.arr 42 .any] }
noncomputable def annK (a : FuncId → FAnn) : FuncId → FAnn := fun f => bif Nat.beq f 24 then ann24k else bif Nat.beq f 25 then ann25k else a f
/-! lists that are not nil -/
theorem bodyOkK : [24, 25].all (bodyB Try.prog (annK (annB ann38w))) = true := by kernel_rfl
noncomputable def sysK0 : FSys := { T := tab, body := bodyOf Try.prog [24, 25], ann := annK (annB ann38w), prim := fun _ _ _ => none }
theorem sysK0Ok : SysOk Try.prog sysK0 where
  mixed := by kernel_rfl
  tab := tabOk
  body := fun f fn h => body_ok bodyOkK f fn h
  prim := fun f args st r st' h => by cases h
noncomputable def sysK1 : FSys := ((((sysK0.tell 11 (FA fun w => .k (.int .i64 (chk w)))).tell 31 F31).tell 37 F37p).tell 38 F38p)
noncomputable def sysK2 : FSys := (sysK1.tell 32 F32p).tell 39 F39p
theorem cf32p (args : List AV) (st : List AObj) (r : AV) (st' : List AObj) (h : F32p args st = some (true, (r, st'))) :
    CF Try.prog tab 32 args st [] r st' ∧ (sysK1.ann 32).res.ok r = true ∧ OS.okL (sysK1.ann 32).objs st' = true ∧ st.length ≤ st'.length := by
  have sysP5Ok : SysOk Try.prog sysP5 := sysP4Ok.tell 42 F42p told42p
  obtain ⟨k, hk⟩ := told32p args st (r, st') h
  exact ev_ok sysP5Ok k 32 args st r st' hk
theorem cf39p (args : List AV) (st : List AObj) (r : AV) (st' : List AObj) (h : F39p args st = some (true, (r, st'))) :
    CF Try.prog tab 39 args st [0] r st' ∧ (sysK1.ann 39).res.ok r = true ∧ OS.okL (sysK1.ann 39).objs st' = true ∧ st.length ≤ st'.length := by
  obtain ⟨k, hk⟩ := told39p args st (r, st') h
  exact ev_ok sysP6Ok k 39 args st r st' hk
theorem sysK2Ok : SysOk Try.prog sysK2 :=
  (((((sysK0Ok.tellCF 11 _ fun args st r st' h => told11a args st r st' h).tellCF 31 F31 fun args st r st' h => told31p args st r st' h).tellCF 37 F37p fun args st r st' h => told37p args st r st' h).tellCF 38 F38p fun args st r st' h => told38p args st r st' h).tellCF 32 F32p fun args st r st' h => cf32p args st r st' h).tellCF 39 F39p fun args st r st' h => cf39p args st r st' h
def ownR (w : Wd) (x : AV) : Option Res := some (.tup [ownW w.inp w.out w.at_, x], [.arr 42 .any w.rows])
def ownI (w : Wd) (n : Int) : Option Res := ownR w (.k (.int .i64 n))
def ownB (w : Wd) (b : Bool) : Option Res := ownR w (.k (.bool b))
theorem ev24k (a o : ByteArray) (i : Int) (rows : RowL) (name text : ByteArray) (k : Nat) : ev sysK2 (k + 1) 24 [Wd.av ⟨a, i, o, .wide, rows⟩, .k (.string name), .k (.string text)] [] =
  bif Wd.okA ⟨a, i, o, .wide, rows⟩ 42 then (bif chk ⟨a, i, o, .wide, rows⟩ != 0 then ownI zeroW (chk ⟨a, i, o, .wide, rows⟩) else bif textC text then (bif fileE name .empty text true != 0 then ownI zeroW (fileE name .empty text true) else
  bif decide (rows.length * 32 ≤ reachBytes) then (bif Wd.okA ⟨a, i, o, .wide, rows⟩ 42 && sortedB rows then
    (bif !found rows name then (bif decide ((rows.length : Int) ≥ 64) then ownI zeroW 6 else
       bif decide (0 ≤ (pos rows name : Int)) && (decide ((pos rows name : Int) ≤ (rows.length : Int)) && decide ((rows.length + 1) * 32 ≤ reachBytes)) then
        (bif decide (0 ≤ (pos rows name : Int)) && decide ((pos rows name : Int) < ((ins rows (pos rows name : Int).toNat (newRow name)).length : Int)) then
          ownI ⟨a, i, o, .wide, setT (ins rows (pos rows name : Int).toNat (newRow name)) (pos rows name : Int) text⟩ 0 else none) else none)
     else bif decide (0 ≤ (pos rows name : Int)) && decide ((pos rows name : Int) < (rows.length : Int)) then ownI ⟨a, i, o, .wide, setT rows (pos rows name : Int) text⟩ 0 else none) else none) else none) else none) else none := by kernel_rfl
theorem ev25k (a o : ByteArray) (i : Int) (rows : RowL) (name : ByteArray) (k : Nat) : ev sysK2 (k + 1) 25 [Wd.av ⟨a, i, o, .wide, rows⟩, .k (.string name)] [] =
  bif Wd.okA ⟨a, i, o, .wide, rows⟩ 42 then (bif chk ⟨a, i, o, .wide, rows⟩ != 0 then ownB zeroW false else bif decide (rows.length * 32 ≤ reachBytes) then (bif Wd.okA ⟨a, i, o, .wide, rows⟩ 42 && sortedB rows then
   (bif found rows name then (bif decide (0 ≤ (pos rows name : Int)) && (decide ((pos rows name : Int) < (rows.length : Int)) && decide (IntKind.i64.wrap ((pos rows name : Int) + 1) = (pos rows name : Int) + 1)) then ownB ⟨a, i, o, .any, del rows (pos rows name : Int).toNat⟩ (found rows name) else none)
    else ownB ⟨a, i, o, .wide, rows⟩ (found rows name)) else none) else none) else none := by kernel_rfl
/-! lists that are nil -/
theorem bodyOkL : [24, 25].all (bodyB Try.prog (annK (annN ann38v))) = true := by kernel_rfl
noncomputable def sysL0 : FSys := { T := tab, body := bodyOf Try.prog [24, 25], ann := annK (annN ann38v), prim := fun _ _ _ => none }
theorem sysL0Ok : SysOk Try.prog sysL0 where
  mixed := by kernel_rfl
  tab := tabOk
  body := fun f fn h => body_ok bodyOkL f fn h
  prim := fun f args st r st' h => by cases h
noncomputable def sysL1 : FSys := ((((sysL0.tell 38 F38n).tell 11 (FA fun w => .k (.int .i64 (chk w)))).tell 31 F31).tell 37 (FAT (fun w _ => sortedB w.rows) fun w s => srchAV w.rows s)).tell 32 (FW Wd.av)
theorem sysL1Ok : SysOk Try.prog sysL1 :=
  ((((sysL0Ok.tellCF 38 F38n fun args st r st' h => told38n args st r st' h).tellCF 11 _ fun args st r st' h => told11a args st r st' h).tellCF 31 F31 fun args st r st' h => told31p args st r st' h).tellCF 37 _ fun args st r st' h => told37n args st r st' h).tellCF 32 _ fun args st r st' h => told32n args st r st' h
theorem ev24l (a o : ByteArray) (i : Int) (name text : ByteArray) (k : Nat) : ev sysL1 (k + 1) 24 [Wd.av ⟨a, i, o, .nil, []⟩, .k (.string name), .k (.string text)] [] =
  bif Wd.okA ⟨a, i, o, .nil, []⟩ 0 then (bif chk ⟨a, i, o, .nil, []⟩ != 0 then ownI zeroW (chk ⟨a, i, o, .nil, []⟩) else bif textC text then (bif fileE name .empty text true != 0 then ownI zeroW (fileE name .empty text true) else
  bif Wd.okB ⟨a, i, o, .nil, []⟩ 0 then (bif Wd.okA ⟨a, i, o, .nil, []⟩ 0 && sortedB [] then ownI ⟨a, i, o, .wide, setT [newRow name] 0 text⟩ 0 else none) else none) else none) else none := by kernel_rfl
theorem ev25l (a o : ByteArray) (i : Int) (name : ByteArray) (k : Nat) : ev sysL1 (k + 1) 25 [Wd.av ⟨a, i, o, .nil, []⟩, .k (.string name)] [] =
  bif Wd.okA ⟨a, i, o, .nil, []⟩ 0 then (bif chk ⟨a, i, o, .nil, []⟩ != 0 then ownB zeroW false else bif Wd.okB ⟨a, i, o, .nil, []⟩ 0 then (bif Wd.okA ⟨a, i, o, .nil, []⟩ 0 && sortedB [] then ownB ⟨a, i, o, .nil, []⟩ false else none) else none) else none := by kernel_rfl
end Go.Proofs.Ytmcgeohnmncinaa.W
namespace Go.Proofs.Ytmcgeohnmncinaa.W
open Go.Fw
set_option maxRecDepth 100000
theorem putk_wide (a o : ByteArray) (i : Int) (rows : RowL) (n t : ByteArray) (hw : Wd.Ok ⟨a, i, o, .wide, rows⟩) (ht : textC t = true) : ev sysK2 (0 + 1) 24 [Wd.av ⟨a, i, o, .wide, rows⟩, .k (.string n), .k (.string t)] [] = ownI (putW ⟨a, i, o, .wide, rows⟩ n t).1 (putW ⟨a, i, o, .wide, rows⟩ n t).2 := by
  have hk : Wd.okA ⟨a, i, o, .wide, rows⟩ 42 = true := hw.a.okA
  rw [ev24k, hk, ht]
  unfold putW
  cases hc : chk ⟨a, i, o, .wide, rows⟩ != 0 with
  | true => rfl
  | false =>
    have hl := chk_len hc
    simp only at hl
    cases fileE n .empty t true != 0 with
    | true => rfl
    | false =>
      have k1 : decide (rows.length * 32 ≤ reachBytes) = true := by rw [decide_eq_true_eq]; exact hw.len
      have hp := pos_le rows n
      have k2 : decide ((rows.length + 1) * 32 ≤ reachBytes) = true := by rw [decide_eq_true_eq]; unfold reachBytes; omega
      have k3 : decide ((pos rows n : Int) ≤ (rows.length : Int)) = true := by rw [decide_eq_true_eq]; omega
      have hil : (ins rows (pos rows n) (newRow n)).length = rows.length + 1 := by
        unfold ins
        simp only [List.length_append, List.length_take, List.length_drop, List.length_singleton]; omega
      have k4 : decide ((pos rows n : Int) < ((ins rows (pos rows n : Int).toNat (newRow n)).length : Int)) = true := by rw [Int.toNat_natCast, hil, decide_eq_true_eq]; omega
      have hso : sortedB rows = true := chk_sorted hc
      rw [k1, hso, k2, k3, k4, leN]
      unfold putRows
      cases hf : found rows n with
      | true => rw [ltN (found_lt hf)]; rfl
      | false => cases decide ((rows.length : Int) ≥ 64) <;> rfl
theorem putk_nil (a o : ByteArray) (i : Int) (n t : ByteArray) (hw : Wd.Ok ⟨a, i, o, .nil, []⟩) (ht : textC t = true) : ev sysL1 (0 + 1) 24 [Wd.av ⟨a, i, o, .nil, []⟩, .k (.string n), .k (.string t)] [] = ownI (putW ⟨a, i, o, .nil, []⟩ n t).1 (putW ⟨a, i, o, .nil, []⟩ n t).2 := by
  have hk : Wd.okA ⟨a, i, o, .nil, []⟩ 0 = true := hw.a.okA
  have hk' : Wd.okB ⟨a, i, o, .nil, []⟩ 0 = true := hw.okB
  rw [ev24l, hk, hk', ht]
  unfold putW
  cases hc : chk ⟨a, i, o, .nil, []⟩ != 0 with
  | true => rfl
  | false =>
    cases fileE n .empty t true != 0 <;> rfl
theorem dropk_wide (a o : ByteArray) (i : Int) (rows : RowL) (n : ByteArray) (hw : Wd.Ok ⟨a, i, o, .wide, rows⟩) : ev sysK2 (0 + 1) 25 [Wd.av ⟨a, i, o, .wide, rows⟩, .k (.string n)] [] = ownB (dropW ⟨a, i, o, .wide, rows⟩ n).1 (dropW ⟨a, i, o, .wide, rows⟩ n).2 := by
  have hk : Wd.okA ⟨a, i, o, .wide, rows⟩ 42 = true := hw.a.okA
  rw [ev25k, hk]
  unfold dropW
  cases hc : chk ⟨a, i, o, .wide, rows⟩ != 0 with
  | true => rfl
  | false =>
    have hl := chk_len hc
    simp only at hl
    have k1 : decide (rows.length * 32 ≤ reachBytes) = true := by rw [decide_eq_true_eq]; exact hw.len
    have hso : sortedB rows = true := chk_sorted hc
    have hp := pos_le rows n
    have k2 : decide (IntKind.i64.wrap ((pos rows n : Int) + 1) = (pos rows n : Int) + 1) = true := by rw [decide_eq_true_eq, wrap64] <;> omega
    rw [k1, hso, k2, leN]
    cases hf : found rows n with
    | true => rw [ltN (found_lt hf)]; rfl
    | false => rfl
theorem dropk_nil (a o : ByteArray) (i : Int) (n : ByteArray) (hw : Wd.Ok ⟨a, i, o, .nil, []⟩) : ev sysL1 (0 + 1) 25 [Wd.av ⟨a, i, o, .nil, []⟩, .k (.string n)] [] = ownB (dropW ⟨a, i, o, .nil, []⟩ n).1 (dropW ⟨a, i, o, .nil, []⟩ n).2 := by
  have hk : Wd.okA ⟨a, i, o, .nil, []⟩ 0 = true := hw.a.okA
  have hk' : Wd.okB ⟨a, i, o, .nil, []⟩ 0 = true := hw.okB
  rw [ev25l, hk, hk']
  unfold dropW
  cases hc : chk ⟨a, i, o, .nil, []⟩ != 0 <;> rfl
/-- of a world whose list may be nil, with more arguments -/
theorem CF_anyX {f : FuncId} {inp out : ByteArray} {i : Int} {rows : RowL} {ex : List AV} {mvs : List Nat} {r : AV} {st' : List AObj}
    (h1 : CF Try.prog tab f (Wd.av ⟨inp, i, out, .wide, rows⟩ :: ex) [] mvs r st') (h2 : rows = [] → CF Try.prog tab f (Wd.av ⟨inp, i, out, .nil, []⟩ :: ex) [] mvs r st') : CF Try.prog tab f (Wd.av ⟨inp, i, out, .any, rows⟩ :: ex) [] mvs r st' :=
  CF_entry fun E Z w vals hs hv => by
    obtain ⟨hl, hr⟩ := hv
    match vals, hl with
    | v :: vt, hl =>
      have hv := hr 0 _ v rfl rfl
      cases hv with
      | agg _ vs hl2 hr2 =>
        match vs, hl2 with
        | [a, b, c, d], _ =>
          have ha := hr2 0 _ a rfl rfl
          have hb := hr2 1 _ b rfl rfl
          have hc := hr2 2 _ c rfl rfl
          have hd : VR tab E Z w (.sl 42 .any rows) d := hr2 3 _ d rfl rfl
          have key : ∀ x, VR tab E Z w x d → VRs tab E Z w (.agg [.k (.string inp), .k (.int .i64 i), .k (.string out), x] :: ex) (.agg [a, b, c, d].toArray :: vt) := fun x hx =>
            ⟨by simpa using hl, fun j av v hj hv => by
              cases j with
              | zero =>
                cases hj; cases hv
                refine .agg _ [a, b, c, d] rfl fun j av v hj hv => ?_
                match j, hj, hv with
                | 0, hj, hv => cases hj; cases hv; exact ha
                | 1, hj, hv => cases hj; cases hv; exact hb
                | 2, hj, hv => cases hj; cases hv; exact hc
                | 3, hj, hv => cases hj; cases hv; exact hx
                | n + 4, hj, hv => simp at hj
              | succ j => exact hr (j + 1) av v (by simpa using hj) (by simpa using hv)⟩
          rcases VR_any hd with hw | ⟨rfl, hn⟩
          · exact ⟨E, _, _, hs, key _ hw, fun _ => Iff.rfl, rfl, fun _ _ _ => ⟨rfl, rfl⟩, h1⟩
          · exact ⟨E, _, _, hs, key _ hn, fun _ => Iff.rfl, rfl, fun _ _ _ => ⟨rfl, rfl⟩, h2 rfl⟩
def ownAV (w : Wd) (x : AV) : AV := .tup [ownW w.inp w.out w.at_, x]
def F24k : List AV → List AObj → Ab Res
  | [.agg [.k (.string a), .k (.int .i64 i), .k (.string o), .sl u kd rows], .k (.string n), .k (.string t)], [] => some (Wd.okA ⟨a, i, o, kd, rows⟩ u && textC t, ownAV (putW ⟨a, i, o, kd, rows⟩ n t).1 (.k (.int .i64 (putW ⟨a, i, o, kd, rows⟩ n t).2)), [.arr 42 .any (putW ⟨a, i, o, kd, rows⟩ n t).1.rows])
  | _, _ => none
def F25k : List AV → List AObj → Ab Res
  | [.agg [.k (.string a), .k (.int .i64 i), .k (.string o), .sl u kd rows], .k (.string n)], [] => some (Wd.okA ⟨a, i, o, kd, rows⟩ u, ownAV (dropW ⟨a, i, o, kd, rows⟩ n).1 (.k (.bool (dropW ⟨a, i, o, kd, rows⟩ n).2)), [.arr 42 .any (dropW ⟨a, i, o, kd, rows⟩ n).1.rows])
  | _, _ => none
theorem cf24k (args : List AV) (st : List AObj) (r : AV) (st' : List AObj) (h : F24k args st = some (true, (r, st'))) : CF Try.prog tab 24 args st [] r st' ∧ ann24k.res.ok r = true ∧ OS.okL ann24k.objs st' = true ∧ st.length ≤ st'.length := by
  unfold F24k at h
  split at h
  · rename_i a i o u kd rows n t
    simp only [Option.some.injEq, Prod.mk.injEq, Bool.and_eq_true] at h
    obtain ⟨⟨h1, ht⟩, rfl, rfl⟩ := h
    obtain ⟨h2, rfl⟩ := Wd.OkA.of h1
    refine ⟨?_, by kernel_rfl, by kernel_rfl, Nat.zero_le _⟩
    have hwide : ∀ rows : RowL, Wd.Ok ⟨a, i, o, .wide, rows⟩ → CF Try.prog tab 24 [Wd.av ⟨a, i, o, .wide, rows⟩, .k (.string n), .k (.string t)] [] [] (ownAV (putW ⟨a, i, o, .wide, rows⟩ n t).1 (.k (.int .i64 (putW ⟨a, i, o, .wide, rows⟩ n t).2))) [.arr 42 .any (putW ⟨a, i, o, .wide, rows⟩ n t).1.rows] :=
      fun rows hw => cf_of sysK2Ok (f := 24) ⟨0 + 1, putk_wide a o i rows n t hw ht⟩
    have hnil : Wd.Ok ⟨a, i, o, .nil, []⟩ → CF Try.prog tab 24 [Wd.av ⟨a, i, o, .nil, []⟩, .k (.string n), .k (.string t)] [] [] (ownAV (putW ⟨a, i, o, .nil, []⟩ n t).1 (.k (.int .i64 (putW ⟨a, i, o, .nil, []⟩ n t).2))) [.arr 42 .any (putW ⟨a, i, o, .nil, []⟩ n t).1.rows] :=
      fun hw => cf_of sysL1Ok (f := 24) ⟨0 + 1, putk_nil a o i n t hw ht⟩
    rcases h2.kd with (h3 | h3) | ⟨h3, h4⟩
    · simp only at h3; subst h3
      exact hwide rows ⟨.inl rfl, h2.len, h2.inp, h2.out, h2.rows⟩
    · simp only at h3; subst h3
      exact CF_anyX (hwide rows ⟨.inl rfl, h2.len, h2.inp, h2.out, h2.rows⟩) fun hr => by subst hr; exact hnil ⟨.inr ⟨rfl, rfl⟩, h2.len, h2.inp, h2.out, h2.rows⟩
    · simp only at h3 h4; subst h3; subst h4
      exact hnil ⟨.inr ⟨rfl, rfl⟩, h2.len, h2.inp, h2.out, h2.rows⟩
  · cases h
theorem drop_same (a o : ByteArray) (i : Int) (kd kd' : SK) (rows : RowL) (n : ByteArray) :
    ownAV (dropW ⟨a, i, o, kd, rows⟩ n).1 (.k (.bool (dropW ⟨a, i, o, kd, rows⟩ n).2)) = ownAV (dropW ⟨a, i, o, kd', rows⟩ n).1 (.k (.bool (dropW ⟨a, i, o, kd', rows⟩ n).2)) ∧ (dropW ⟨a, i, o, kd, rows⟩ n).1.rows = (dropW ⟨a, i, o, kd', rows⟩ n).1.rows := by
  unfold dropW
  have hc : chk ⟨a, i, o, kd, rows⟩ = chk ⟨a, i, o, kd', rows⟩ := rfl
  rw [hc]
  cases chk ⟨a, i, o, kd', rows⟩ != 0 <;> cases found rows n <;> exact ⟨rfl, rfl⟩
theorem cf25k (args : List AV) (st : List AObj) (r : AV) (st' : List AObj) (h : F25k args st = some (true, (r, st'))) : CF Try.prog tab 25 args st [] r st' ∧ ann25k.res.ok r = true ∧ OS.okL ann25k.objs st' = true ∧ st.length ≤ st'.length := by
  unfold F25k at h
  split at h
  · rename_i a i o u kd rows n
    simp only [Option.some.injEq, Prod.mk.injEq] at h
    obtain ⟨h1, rfl, rfl⟩ := h
    obtain ⟨h2, rfl⟩ := Wd.OkA.of h1
    refine ⟨?_, by kernel_rfl, by kernel_rfl, Nat.zero_le _⟩
    have hwide : ∀ rows : RowL, Wd.Ok ⟨a, i, o, .wide, rows⟩ → CF Try.prog tab 25 [Wd.av ⟨a, i, o, .wide, rows⟩, .k (.string n)] [] [] (ownAV (dropW ⟨a, i, o, .wide, rows⟩ n).1 (.k (.bool (dropW ⟨a, i, o, .wide, rows⟩ n).2))) [.arr 42 .any (dropW ⟨a, i, o, .wide, rows⟩ n).1.rows] :=
      fun rows hw => cf_of sysK2Ok (f := 25) ⟨0 + 1, dropk_wide a o i rows n hw⟩
    have hnil : Wd.Ok ⟨a, i, o, .nil, []⟩ → CF Try.prog tab 25 [Wd.av ⟨a, i, o, .nil, []⟩, .k (.string n)] [] [] (ownAV (dropW ⟨a, i, o, .nil, []⟩ n).1 (.k (.bool (dropW ⟨a, i, o, .nil, []⟩ n).2))) [.arr 42 .any (dropW ⟨a, i, o, .nil, []⟩ n).1.rows] :=
      fun hw => cf_of sysL1Ok (f := 25) ⟨0 + 1, dropk_nil a o i n hw⟩
    rcases h2.kd with (h3 | h3) | ⟨h3, h4⟩
    · simp only at h3; subst h3
      exact hwide rows ⟨.inl rfl, h2.len, h2.inp, h2.out, h2.rows⟩
    · simp only at h3; subst h3
      obtain ⟨e1, e2⟩ := drop_same a o i .any .wide rows n
      rw [e1, e2]
      refine CF_anyX (hwide rows ⟨.inl rfl, h2.len, h2.inp, h2.out, h2.rows⟩) fun hr => ?_
      subst hr
      obtain ⟨e3, e4⟩ := drop_same a o i .wide .nil [] n
      rw [e3, e4]
      exact hnil ⟨.inr ⟨rfl, rfl⟩, h2.len, h2.inp, h2.out, h2.rows⟩
    · simp only at h3 h4; subst h3; subst h4
      exact hnil ⟨.inr ⟨rfl, rfl⟩, h2.len, h2.inp, h2.out, h2.rows⟩
  · cases h
/-! copied, of lists that may be nil -/
theorem ev19a (a p : ByteArray) (i : Int) (r : RowL) (k : Nat) : ev sys25 (k + 1) 19 [Wd.av ⟨a, i, p, .any, r⟩] [] = bif ((0 + r.length) * 32).ble (2 ^ 47) then some (Wd.av ⟨a, i, p, .wide, r⟩, []) else none := by kernel_rfl
theorem evw19a (w : Wd) (hw : w.OkA) : ∃ k, ev sys25 k 19 [w.av] [] = some ((copied w).av, []) := by
  rcases hw.kd with (h | h) | h
  · exact evw19 w ⟨.inl h, hw.len, hw.inp, hw.out, hw.rows⟩
  · obtain ⟨a, i, p, kd, r⟩ := w
    have hl := hw.len
    simp only at hl h
    subst h
    have : ((0 + r.length) * 32).ble (2 ^ 47) = true := by rw [Nat.ble_eq, Nat.zero_add]; unfold reachBytes at hl; omega
    exact ⟨0 + 1, by rw [ev19a, this]; rfl⟩
  · exact evw19 w ⟨.inr h, hw.len, hw.inp, hw.out, hw.rows⟩
end Go.Proofs.Ytmcgeohnmncinaa.W
namespace Go.Proofs.Ytmcgeohnmncinaa.W
open Go.Fw
set_option maxRecDepth 100000
/-! ### WorldsKept -/
theorem bodyOkJ : [7].all (bodyB Try.prog (annK ann)) = true := by kernel_rfl
noncomputable def sysJ0 : FSys := { T := tab, body := bodyOf Try.prog [7], ann := annK ann, prim := fun _ _ _ => none }
theorem sysJ0Ok : SysOk Try.prog sysJ0 where
  mixed := by kernel_rfl
  tab := tabOk
  body := fun f fn h => body_ok bodyOkJ f fn h
  prim := fun f args st r st' h => by cases h
noncomputable def sysJ : FSys := (((((sysJ0.tell 10 (FW fun w => .k (.bool (large w)))).tell 19 (FA fun w => (copied w).av)).tell 24 F24k).tell 25 F25k).tell 16 (FAA fun v w => .k (.bool (same v w)))).tell 12 F12

def ta : ByteArray := ⟨#[97]⟩
def tb : ByteArray := ⟨#[98]⟩
def tc : ByteArray := ⟨#[99]⟩
def anyW (w : Wd) : Wd := { w with kd := .any }
def bx (w : Wd) : AObj := .box 24 [.k (.string w.inp), .k (.int .i64 w.at_), .k (.string w.out), .sr 5]
def σ7 (w x y : Wd) (name : ByteArray) (rows : RowL) (j : Int) : St := ⟨tm 80 [(1, .k (.string name)), (2, .ptr 0 0), (5, .ptr 1 0), (6, .ptr 2 0), (8, .ptr 3 0), (9, .ptr 4 0), (11, .k (.int .i64 j))], [boxW w, boxW (copied w), boxW x, boxW (copied x), bx y, .arr 42 .any rows], []⟩
def τ7 (w x z : Wd) (rows : RowL) (j : Int) : St := ⟨tm 80 [(2, .ptr 0 0), (5, .ptr 1 0), (6, .ptr 2 0), (8, .ptr 3 0), (12, .ptr 4 0), (14, .k (.int .i64 j))], [boxW w, boxW (copied w), boxW x, boxW (copied x), bx z, .arr 42 .any rows], []⟩
def setN (rows : RowL) (i : Int) (t : ByteArray) : RowL := rows.set i.toNat (putAt (rows.getD i.toNat []) 0 [.k (.string t)])
def end7 (w x : Wd) : Option Res :=
  bif w.okA (w.kd.tag 42) && (copied w).okA 42 then (bif same w (copied w) then (bif x.okA 42 && (copied x).okA 42 then (bif same x (copied x) then boolR true else boolR false) else none) else boolR false) else none
theorem round7b (w x z : Wd) (rows : RowL) (j : Int) (k : Nat) (R : St → Option Res) : roundAt sysJ 7 Try.f7 0 k [1,1,1,1,1,1,1,1,0,1,0] [] R (τ7 w (anyW x) z rows j) =
  bif decide (j < (rows.length : Int)) then (bif decide (0 ≤ j) && decide (j < (rows.length : Int)) then R (τ7 w (anyW x) z (setN rows j tc) (IntKind.i64.wrap (j + 1))) else none) else end7 w (anyW x) := by kernel_rfl
theorem round7a (w x y : Wd) (name : ByteArray) (rows : RowL) (j : Int) (k : Nat) (R : St → Option Res) : roundAt sysJ 7 Try.f7 0 k [1,1,1,1,1,1,0,1,0] [] R (σ7 w (anyW x) y name rows j) =
  bif decide (j < (rows.length : Int)) then (bif decide (0 ≤ j) && decide (j < (rows.length : Int)) then R (σ7 w (anyW x) y name (setT rows j tc) (IntKind.i64.wrap (j + 1))) else none) else
    bif (anyW x).okA 42 then loopAt sysJ 7 Try.f7 0 k [1,1,1,1,1,1,1,1,0,1,0] [] k (τ7 w (anyW x) (dropW (anyW x) name).1 (dropW (anyW x) name).1.rows 0) else none := by kernel_rfl
theorem start7 (w : Wd) (name : ByteArray) (k : Nat) : ev sysJ (k + 1) 7 [w.av, .k (.string name)] [] =
  bif w.okB (w.kd.tag 42) then (bif large w then boolR true else bif decide ((name.size : Int) > 400) then boolR true else
   bif w.okA (w.kd.tag 42) then (bif w.okA (w.kd.tag 42) && textC ta then (bif (anyW (putW w name ta).1).okA 42 then (bif (anyW (putW w name ta).1).okA 42 && textC tb then
    loopAt sysJ 7 Try.f7 0 k [1,1,1,1,1,1,0,1,0] [] k (σ7 w (anyW (putW w name ta).1) (putW (anyW (putW w name ta).1) name tb).1 name (putW (anyW (putW w name ta).1) name tb).1.rows 0) else none) else none) else none) else none) else none := by kernel_rfl
end Go.Proofs.Ytmcgeohnmncinaa.W
namespace Go.Proofs.Ytmcgeohnmncinaa.W
open Go.Fw
set_option maxRecDepth 100000
theorem setT_len (rows : RowL) (i : Int) (t : ByteArray) : (setT rows i t).length = rows.length := by unfold setT; rw [List.length_set]
theorem setN_len (rows : RowL) (i : Int) (t : ByteArray) : (setN rows i t).length = rows.length := by unfold setN; rw [List.length_set]
theorem loop7b (w x z : Wd) (k : Nat) : ∀ (n : Nat) (rows : RowL) (j : Nat), j ≤ rows.length → rows.length ≤ 100 → rows.length - j < n →
    loopAt sysJ 7 Try.f7 0 k [1,1,1,1,1,1,1,1,0,1,0] [] n (τ7 w (anyW x) z rows (j : Int)) = end7 w (anyW x)
  | 0, rows, j, _, _, h => by omega
  | n + 1, rows, j, hj, hl, h => by
    refine (loopAt_succ _ _ _ _ _ _ _ _ _).trans ((round7b w x z rows j k _).trans ?_)
    rcases Nat.lt_or_eq_of_le hj with hlt | rfl
    · have hw : IntKind.i64.wrap ((j : Int) + 1) = ((j + 1 : Nat) : Int) := by rw [wrap64] <;> omega
      rw [ltN hlt, leN, hw]
      exact loop7b w x z k n (setN rows j tc) (j + 1) (by rw [setN_len]; omega) (by rw [setN_len]; omega) (by rw [setN_len]; omega)
    · rw [nltN]; rfl
theorem loop7a (w x y : Wd) (name : ByteArray) (k : Nat) : ∀ (n : Nat) (rows : RowL) (j : Nat), j ≤ rows.length → rows.length ≤ 100 → rows.length - j < n →
    loopAt sysJ 7 Try.f7 0 k [1,1,1,1,1,1,0,1,0] [] n (σ7 w (anyW x) y name rows (j : Int)) = bif (anyW x).okA 42 then loopAt sysJ 7 Try.f7 0 k [1,1,1,1,1,1,1,1,0,1,0] [] k (τ7 w (anyW x) (dropW (anyW x) name).1 (dropW (anyW x) name).1.rows 0) else none
  | 0, rows, j, _, _, h => by omega
  | n + 1, rows, j, hj, hl, h => by
    refine (loopAt_succ _ _ _ _ _ _ _ _ _).trans ((round7a w x y name rows j k _).trans ?_)
    rcases Nat.lt_or_eq_of_le hj with hlt | rfl
    · have hw : IntKind.i64.wrap ((j : Int) + 1) = ((j + 1 : Nat) : Int) := by rw [wrap64] <;> omega
      rw [ltN hlt, leN, hw]
      exact loop7a w x y name k n (setT rows j tc) (j + 1) (by rw [setT_len]; omega) (by rw [setT_len]; omega) (by rw [setT_len]; omega)
    · rw [nltN]; rfl
theorem put_cases (w : Wd) (n t : ByteArray) : (putW w n t).1 = zeroW ∨ (putW w n t).2 = 0 ∧ (chk w != 0) = false ∧ (putW w n t).1.rows = putRows w.rows n t := by
  unfold putW
  cases hc : (chk w != 0) with
  | true => exact .inl rfl
  | false =>
    cases fileE n .empty t true != 0 with
    | true => exact .inl rfl
    | false => cases (!found w.rows n && decide ((w.rows.length : Int) ≥ 64)) with
      | true => exact .inl rfl
      | false => exact .inr ⟨rfl, rfl, rfl⟩
theorem put_len (w : Wd) (n t : ByteArray) : (putW w n t).1.rows.length ≤ 65 := by
  rcases put_cases w n t with h | ⟨_, hc, h⟩
  · rw [h]; exact Nat.zero_le _
  · rw [h]
    have hl := chk_len hc
    unfold putRows
    cases found w.rows n with
    | true => simp only [cond_true, setT_len]; omega
    | false =>
      simp only [cond_false, setT_len, ins, List.length_append, List.length_take, List.length_drop, List.length_singleton]
      have := pos_le w.rows n
      omega
theorem put_okA {w : Wd} (hw : w.Ok) {n t : ByteArray} (ht : textC t = true) : (anyW (putW w n t).1).OkA := by
  rcases put_cases w n t with h | ⟨h, _, _⟩
  · rw [h]
    exact ⟨.inl (.inr rfl), Nat.zero_le _, rfl, rfl, fun r h => by cases h⟩
  · have P := put_done hw ht h
    exact ⟨.inl (.inr rfl), P.ok.len, P.ok.inp, P.ok.out, P.ok.rows⟩
theorem drop_len (w : Wd) (n : ByteArray) (h : w.rows.length ≤ 65) : (dropW w n).1.rows.length ≤ 65 := by
  unfold dropW
  cases chk w != 0 with
  | true => exact Nat.zero_le _
  | false => cases found w.rows n with
    | true =>
      simp only [cond_true, cond_false, del, List.length_append, List.length_take, List.length_drop]
      omega
    | false => exact h
theorem copied_okA {w : Wd} (hw : w.OkA) : (copied w).OkA := ⟨.inl (.inl rfl), hw.len, hw.inp, hw.out, hw.rows⟩
theorem end7_true {w x : Wd} (hw : w.OkA) (hx : (anyW x).OkA) : end7 w (anyW x) = boolR true := by
  unfold end7
  have h1 : (copied w).okA 42 = true := (copied_okA hw).okA
  have h2 : (copied (anyW x)).okA 42 = true := (copied_okA hx).okA
  have h3 : (anyW x).okA 42 = true := hx.okA
  rw [hw.okA, h1, h2, h3, same_copied, same_copied]; rfl
theorem pick7 (w : Wd) (name : ByteArray) (hw : w.Ok) (L : Option Res) (hL : L = boolR true) :
    (bif w.okB (w.kd.tag 42) then (bif large w then boolR true else bif decide ((name.size : Int) > 400) then boolR true else
   bif w.okA (w.kd.tag 42) then (bif w.okA (w.kd.tag 42) && textC ta then (bif (anyW (putW w name ta).1).okA 42 then (bif (anyW (putW w name ta).1).okA 42 && textC tb then L else none) else none) else none) else none) else none) = boolR true := by
  have hta : textC ta = true := by decide +kernel
  have htb : textC tb = true := by decide +kernel
  have hx : (anyW (putW w name ta).1).okA 42 = true := (put_okA hw hta).okA
  rw [hw.okB, hw.a.okA, hta, htb, hx, hL]
  cases large w <;> cases decide ((name.size : Int) > 400) <;> rfl
theorem bif_true (b : Bool) (L : Option Res) (hb : b = true) (hL : L = boolR true) : (bif b then L else none) = boolR true := by rw [hb, hL]; rfl
theorem loop7a' (w x y : Wd) (name : ByteArray) (k n : Nat) (rows : RowL) (hl : rows.length ≤ 100) (hn : rows.length < n) :
    loopAt sysJ 7 Try.f7 0 k [1,1,1,1,1,1,0,1,0] [] n (σ7 w (anyW x) y name rows 0) = bif (anyW x).okA 42 then loopAt sysJ 7 Try.f7 0 k [1,1,1,1,1,1,1,1,0,1,0] [] k (τ7 w (anyW x) (dropW (anyW x) name).1 (dropW (anyW x) name).1.rows 0) else none :=
  loop7a w x y name k n rows 0 (Nat.zero_le _) hl (by omega)
theorem loop7b' (w x z : Wd) (k n : Nat) (rows : RowL) (hl : rows.length ≤ 100) (hn : rows.length < n) :
    loopAt sysJ 7 Try.f7 0 k [1,1,1,1,1,1,1,1,0,1,0] [] n (τ7 w (anyW x) z rows 0) = end7 w (anyW x) :=
  loop7b w x z k n rows 0 (Nat.zero_le _) hl (by omega)
theorem law7_true (w : Wd) (name : ByteArray) (hw : w.Ok) (k : Nat) (hk : 100 ≤ k) : ev sysJ (k + 1) 7 [w.av, .k (.string name)] [] = boolR true := by
  have hta : textC ta = true := by decide +kernel
  have hx : (anyW (putW w name ta).1).OkA := put_okA hw hta
  have h1 := put_len (anyW (putW w name ta).1) name tb
  have hl : (anyW (putW w name ta).1).rows.length ≤ 65 := put_len w name ta
  have hz := drop_len (anyW (putW w name ta).1) name hl
  have h2 := loop7b' w (putW w name ta).1 (dropW (anyW (putW w name ta).1) name).1 k k (dropW (anyW (putW w name ta).1) name).1.rows (by omega) (by omega)
  have h3 := loop7a' w (putW w name ta).1 (putW (anyW (putW w name ta).1) name tb).1 name k k (putW (anyW (putW w name ta).1) name tb).1.rows (by omega) (by omega)
  have h4 := bif_true _ _ hx.okA (h2.trans (end7_true hw.a hx))
  exact (start7 w name k).trans (pick7 w name hw _ (h3.trans h4))
theorem told10j (args : List AV) (st : List AObj) (r : AV) (st' : List AObj) (h : FW (fun w => .k (.bool (large w))) args st = some (true, (r, st'))) :
    CF Try.prog tab 10 args st [] r st' ∧ (sysJ0.ann 10).res.ok r = true ∧ OS.okL (sysJ0.ann 10).objs st' = true ∧ st.length ≤ st'.length := by
  have sysOk24 : SysOk Try.prog sys24 := sysOk23.tell 16 _ (toldWW evw16)
  obtain ⟨k, hk⟩ := toldW evw10 args st (r, st') h
  exact ev_ok sysOk24 k 10 args st r st' hk
theorem told19j (args : List AV) (st : List AObj) (r : AV) (st' : List AObj) (h : FA (fun w => (copied w).av) args st = some (true, (r, st'))) :
    CF Try.prog tab 19 args st [] r st' ∧ (sysJ0.ann 19).res.ok r = true ∧ OS.okL (sysJ0.ann 19).objs st' = true ∧ st.length ≤ st'.length := by
  have sysOk25 : SysOk Try.prog sys25 := (sysOk23.tell 16 _ (toldWW evw16)).tell 10 _ (toldW evw10)
  unfold FA at h
  split at h
  · rename_i a i o u kd rows
    simp only [Option.some.injEq, Prod.mk.injEq] at h
    obtain ⟨h1, rfl, rfl⟩ := h
    obtain ⟨h2, rfl⟩ := Wd.OkA.of h1
    obtain ⟨k, hk⟩ := evw19a _ h2
    exact ev_ok sysOk25 k 19 _ _ _ _ hk
  · cases h
theorem told12j (args : List AV) (st : List AObj) (r : AV) (st' : List AObj) (h : F12 args st = some (true, (r, st'))) :
    CF Try.prog tab 12 args st [] r st' ∧ (sysJ0.ann 12).res.ok r = true ∧ OS.okL (sysJ0.ann 12).objs st' = true ∧ st.length ≤ st'.length := by
  have sysOk26 : SysOk Try.prog sys26 := ((sysOk23.tell 16 _ (toldWW evw16)).tell 10 _ (toldW evw10)).tell 19 _ (toldW evw19)
  obtain ⟨k, hk⟩ := told12 args st (r, st') h
  exact ev_ok sysOk26 k 12 args st r st' hk
theorem sysJOk : SysOk Try.prog sysJ :=
  (((((sysJ0Ok.tellCF 10 _ fun args st r st' h => told10j args st r st' h).tellCF 19 _ fun args st r st' h => told19j args st r st' h).tellCF 24 F24k fun args st r st' h => cf24k args st r st' h).tellCF 25 F25k fun args st r st' h => cf25k args st r st' h).tellCF 16 _ fun args st r st' h => told16a args st r st' h).tellCF 12 F12 fun args st r st' h => told12j args st r st' h
theorem pure7 (avs : List AV) (h : Args tab [24, 9] avs) : ∃ k, ev sysJ k 7 avs [] = some (.k (.bool true), []) := by
  obtain ⟨a, b, rfl, ha, hb⟩ := args_two h
  obtain ⟨w, rfl, hw⟩ := arg24 ha
  obtain ⟨s, rfl, _⟩ := arg9 hb
  exact ⟨_, law7_true w s hw 100 (Nat.le_refl _)⟩
end Go.Proofs.Ytmcgeohnmncinaa.W
