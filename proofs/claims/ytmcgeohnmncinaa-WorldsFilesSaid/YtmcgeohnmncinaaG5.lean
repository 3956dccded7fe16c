/- A part of the proofs over the laws of layer 8 (worlds): what its functions come to. No conditions. -/
import Derived.Test.YtmcgeohnmncinaaG4
set_option linter.all false
namespace Go.Proofs.Ytmcgeohnmncinaa.W
open Go.Fw
set_option maxRecDepth 100000
theorem cf_of {S : FSys} (hS : SysOk Try.prog S) {f : FuncId} {args : List AV} {st : List AObj} {r : AV} {st' : List AObj} (h : ∃ k, ev S k f args st = some (r, st')) : CF Try.prog S.T f args st (S.ann f).mvs r st' := by
  obtain ⟨k, hk⟩ := h
  exact (ev_ok hS k f args st r st' hk).1
theorem CF_exit {f : FuncId} {args : List AV} {st : List AObj} {mvs : List Nat} {r : AV} {st1 st2 : List AObj} (h : CF Try.prog tab f args st mvs r st1)
    (hs : ∀ E Z w, SR tab E Z w st1 → SR tab E Z w st2 ∧ ∀ B, Owned E st2 B ↔ Owned E st1 B) (hl : st2.length = st1.length) : CF Try.prog tab f args st mvs r st2 := fun E Z w vals hsr hv => by
  have hp : ∀ v w', Post tab E Z w st mvs r st1 v w' → Post tab E Z w st mvs r st2 v w' := fun v w' ⟨E', Z', p1, p2, p3, p4, p5⟩ => by
    obtain ⟨q1, q2⟩ := hs E' Z' w' p1
    have hO : Owned E' st2 = Owned E' st1 := funext fun B => propext (q2 B)
    exact ⟨E', Z', q1, p2, hO ▸ p3, by omega, p5⟩
  rcases h E Z w vals hsr hv with ⟨k1, k2⟩ | ⟨v, w', k1, k2⟩ | ⟨row, ar, k1, k2⟩
  · exact .inl ⟨k1, k2.mono fun e w' ⟨v, hv, hq⟩ => ⟨v, hv, hp v w' hq⟩⟩
  · exact .inr (.inl ⟨v, w', k1, hp v w' k2⟩)
  · exact .inr (.inr ⟨row, ar, k1, k2.mono fun v w' hq => hp v w' hq⟩)
theorem any_wide {t : Nat} {o1 : AObj} {out : RowL} (hne : out ≠ []) (E : Env) (Z : Nat → Prop) (w : World) (h : SR tab E Z w [.dead, o1, .arr t .any out]) :
    SR tab E Z w [.dead, o1, .arr t .wide out] ∧ ∀ B, Owned E [.dead, o1, .arr t .wide out] B ↔ Owned E [.dead, o1, .arr t .any out] B := by
  have howns : ∀ i B, owns E [.dead, o1, .arr t .wide out] i B ↔ owns E [.dead, o1, .arr t .any out] i B := fun i B => by
    match i with
    | 0 => exact Iff.rfl
    | 1 => exact Iff.rfl
    | 2 => exact Iff.rfl
    | n + 3 => exact Iff.rfl
  refine ⟨⟨fun id o hst => ?_, fun id hid => h.out id hid, fun i j B hi hj => h.inj i j B ((howns i B).1 hi) ((howns j B).1 hj), fun B ⟨i, hi⟩ => h.zown B ⟨i, (howns i B).1 hi⟩, h.zlt⟩, fun B => ⟨fun ⟨i, hi⟩ => ⟨i, (howns i B).1 hi⟩, fun ⟨i, hi⟩ => ⟨i, (howns i B).2 hi⟩⟩⟩
  match id, hst with
  | 0, hst => cases hst; exact .dead
  | 1, hst => cases hst; exact h.obj 1 _ rfl
  | 2, hst =>
    cases hst
    have := h.obj 2 _ rfl
    cases this with
    | arr0 _ _ A he hn hk hsz => exact absurd rfl hne
    | arr _ _ _ B o c vs ty hn he hc h0 hf hsz hb ho hok hr => exact .arr t .wide out B o c vs ty (by simp) he hc h0 ⟨by simp, fun hk => by cases hk⟩ hsz hb ho hok hr
  | n + 3, hst => simp at hst
theorem sysI1Ok : SysOk Try.prog sysI1 := sysIOk.tellCF 47 F47 told47
theorem cf38 (rows : RowL) (v : List AV) (i : Nat) (hi : i ≤ rows.length) (hl : (rows.length + 1) * 32 ≤ reachBytes) :
    CF Try.prog tab 38 [.sr 0, .k (.int .i64 (i : Int)), .sr 1] [.arr 42 .fresh rows, .arr 42 .full [v]] [0] (.sr 2) [.dead, .arr 42 .full [v], .arr 42 .wide (ins rows i v)] := by
  have hz : (cts tab 42).map CT.zero = zrow := by rw [cts42]; rfl
  have h1 : CF Try.prog tab 38 [.sr 0, .k (.int .i64 (i : Int)), .sr 1] [.arr 42 .full rows, .arr 42 .full [v]] [0] (.sr 2) [.dead, .arr 42 .full [v], .arr 42 .any (ins rows i v)] :=
    cf_of sysI1Ok (f := 38) ⟨0 + 1, ev38n_ins rows v i hi hl⟩
  have h2 : ∀ d, CF Try.prog tab 38 [.ss 0 0 rows.length, .k (.int .i64 (i : Int)), .sr 1] [.arr 42 .full (rows ++ List.replicate (d + 1) zrow), .arr 42 .full [v]] [0] (.sr 2) [.dead, .arr 42 .full [v], .arr 42 .any (ins rows i v)] := fun d =>
    cf_of sysI1Ok (f := 38) ⟨0 + 1, ev38r_ins rows v i d hi hl⟩
  obtain ⟨te, hte⟩ : ∃ te, tab 42 = some te := ⟨_, rfl⟩
  have h3 := CF_fresh (P := Try.prog) (T := tab) (f := 38) (t := 42) (t1 := 42) (te := te) hte (by rw [cts42]; decide) (kd1 := .full) (rows := rows) (rows1 := [v]) (x := .int .i64 (i : Int)) (mvs := [0]) (by simp) h1 (fun d => by rw [hz]; exact h2 d)
  refine CF_exit h3 (fun E Z w h => any_wide ?_ E Z w h) rfl
  unfold ins
  simp
/-- a list that is read through an owned array -/
theorem cf_borrow {f : FuncId} {inp out s : ByteArray} {i : Int} {rows : RowL} {x y : Value} {mvs : List Nat} (h : CF Try.prog tab f [Wd.av ⟨inp, i, out, .wide, rows⟩, .k (.string s)] [] [] (.tup [.k x, .k y]) []) :
    CF Try.prog tab f [.agg [.k (.string inp), .k (.int .i64 i), .k (.string out), .sr 0], .k (.string s)] [.arr 42 .fresh rows] mvs (.tup [.k x, .k y]) [.arr 42 .fresh rows] := fun E Z w vals hs hv => by
  have hst : StR tab E Z w { tmps := [.agg [.k (.string inp), .k (.int .i64 i), .k (.string out), .sr 0], .k (.string s)], st := [.arr 42 .fresh rows] } vals := ⟨hs, hv⟩
  obtain ⟨Z', h1, h2⟩ := hst.freezeId 0
  let E0 : Env := { ρ := fun _ => none, sz := E.sz }
  have hv0 : VRs tab E0 Z' w [Wd.av ⟨inp, i, out, .wide, rows⟩, .k (.string s)] vals :=
    h1.tm.map (E' := E0) (Z' := Z') (w' := w) (fun _ => .undef) (fun _ hz => hz) (fun _ _ _ => rfl) (fun r v hr _ => .undef v)
  have hs0 : SR tab E0 Z' w [] := ⟨fun id o h => by simp at h, fun _ _ => rfl, fun i j B hi => by obtain ⟨o, ho, _⟩ := owns_get hi; simp at ho, fun B ⟨i, hi⟩ => by obtain ⟨o, ho, _⟩ := owns_get hi; simp at ho, h1.sr.zlt⟩
  have hno : ∀ B, ¬ Owned E0 [] B := fun B ⟨i, hi⟩ => by obtain ⟨o, ho, _⟩ := owns_get hi; simp at ho
  have hp : ∀ v w', Post tab E0 Z' w [] [] (.tup [.k x, .k y]) [] v w' → Post tab E Z w [.arr 42 .fresh rows] mvs (.tup [.k x, .k y]) [.arr 42 .fresh rows] v w' := fun v w' ⟨E', Z'', p1, p2, p3, p4, p5⟩ => by
    have hheap : ∀ b, b < w.heap.size → w'.heap[b]? = w.heap[b]? := fun b hb => p3.same b hb (hno b)
    refine ⟨E, Z, ⟨fun id o ho => ?_, hs.out, hs.inj, hs.zown, fun B hz => Nat.lt_of_lt_of_le (hs.zlt B hz) p3.size⟩, ?_, ⟨p3.os, p3.tape, p3.output, p3.size, fun b hb _ => hheap b hb, fun _ hz => hz, fun _ hz => .inl hz, fun _ ho => .inl ho⟩, Nat.le_refl _, fun _ _ _ => ⟨rfl, rfl⟩⟩
    · have hor := hs.obj id o ho
      exact hor.mono (fun i v hv => ⟨hv, rfl⟩) (fun _ hz => hz) (fun b o hz => cell?_of_heap (hheap b (hs.zlt b hz)) o) hor.has (fun B hB => hheap B (hor.owns_heap hB))
    · have hk : ∀ {z u}, VR tab E' Z'' w' (.k z) u → VR tab E Z w' (.k z) u := fun hz => by
        cases hz with
        | k _ h => exact .k _ h
        | ku => exact .ku
      cases p2 with
      | tup _ vs hl hr =>
        match vs, hl with
        | [a, b], _ =>
          refine .tup _ [a, b] rfl fun j av v hj hv => ?_
          match j, hj, hv with
          | 0, hj, hv => cases hj; cases hv; exact hk (hr 0 _ a rfl rfl)
          | 1, hj, hv => cases hj; cases hv; exact hk (hr 1 _ b rfl rfl)
          | n + 2, hj, hv => simp at hj
  rcases h E0 Z' w vals hs0 hv0 with ⟨k1, k2⟩ | ⟨v, w', k1, k2⟩ | ⟨row, ar, k1, k2⟩
  · exact .inl ⟨k1, k2.mono fun e w' ⟨v, hv, hq⟩ => ⟨v, hv, hp v w' hq⟩⟩
  · exact .inr (.inl ⟨v, w', k1, hp v w' k2⟩)
  · exact .inr (.inr ⟨row, ar, k1, k2.mono fun v w' hq => hp v w' hq⟩)
end Go.Proofs.Ytmcgeohnmncinaa.W
namespace Go.Proofs.Ytmcgeohnmncinaa.W
open Go.Fw
set_option maxRecDepth 100000
/-! ### The system in which Put and Drop are done, of worlds whose list is not nil -/
def ann38w : FAnn := { ann38i with objs := [.dead, .arr 42 .full, .arr 42 .wide] }
def fnsP : List Nat := [24, 25, 32, 39, 42]
theorem bodyOkP : fnsP.all (bodyB Try.prog (annB ann38w)) = true := by kernel_rfl
noncomputable def sysP0 : FSys := { T := tab, body := bodyOf Try.prog fnsP, ann := annB ann38w, prim := fun _ _ _ => none }
theorem sysP0Ok : SysOk Try.prog sysP0 where
  mixed := by kernel_rfl
  tab := tabOk
  body := fun f fn h => body_ok bodyOkP f fn h
  prim := fun f args st r st' h => by cases h
theorem sysOk31 : SysOk Try.prog sys31 := ((((sysOk27.tellCF 59 F59 told59).tell 52 F59 told52).tell 46 F59 told46).tell 45 F45 told45)
theorem sysOk33 : SysOk Try.prog sys33 := (sysOk31.tell 44 F44 told44).tellCF 11 _ told11a
theorem sysOk35 : SysOk Try.prog sys35 := (sysOk33.tell 37 _ (toldAT evw37)).tell 27 _ (toldAT fun w s hw _ => evw27 w s hw)
theorem told11p (args : List AV) (st : List AObj) (r : AV) (st' : List AObj) (h : FA (fun w => .k (.int .i64 (chk w))) args st = some (true, (r, st'))) :
    CF Try.prog sysP0.T 11 args st (sysP0.ann 11).mvs r st' ∧ (sysP0.ann 11).res.ok r = true ∧ OS.okL (sysP0.ann 11).objs st' = true ∧ st.length ≤ st'.length := told11a args st r st' h
noncomputable def sysP1 : FSys := sysP0.tell 11 (FA fun w => .k (.int .i64 (chk w)))
theorem told31p (args : List AV) (st : List AObj) (r : AV) (st' : List AObj) (h : F31 args st = some (true, (r, st'))) :
    CF Try.prog sysP1.T 31 args st (sysP1.ann 31).mvs r st' ∧ (sysP1.ann 31).res.ok r = true ∧ OS.okL (sysP1.ann 31).objs st' = true ∧ st.length ≤ st'.length := by
  have sysOk6 : SysOk Try.prog sys6 := ((((((sysOk.tell 30 F30 told30).tell 50 F50 told50).tell 61 F61 told61).tell 49 F49 told49).tell 41 F41 told41).tell 34 _ (told1 ev34)).tell 35 _ (told1 ev35)
  obtain ⟨k, hk⟩ := told31 args st (r, st') h
  exact ev_ok sysOk6 k 31 args st r st' hk
noncomputable def sysP2 : FSys := sysP1.tell 31 F31
def F37p : List AV → List AObj → Ab Res
  | [.agg [.k (.string a), .k (.int .i64 i), .k (.string o), .sr 0], .k (.string s)], [.arr 42 .fresh rows] => some (Wd.okA ⟨a, i, o, .wide, rows⟩ 42 && sortedB rows, srchAV rows s, [.arr 42 .fresh rows])
  | _, _ => none
theorem told37p (args : List AV) (st : List AObj) (r : AV) (st' : List AObj) (h : F37p args st = some (true, (r, st'))) :
    CF Try.prog sysP2.T 37 args st (sysP2.ann 37).mvs r st' ∧ (sysP2.ann 37).res.ok r = true ∧ OS.okL (sysP2.ann 37).objs st' = true ∧ st.length ≤ st'.length := by
  unfold F37p at h
  split at h
  · rename_i a i o s rows
    simp only [Option.some.injEq, Prod.mk.injEq, Bool.and_eq_true] at h
    obtain ⟨⟨h1, h2⟩, rfl, rfl⟩ := h
    obtain ⟨h3, _⟩ := Wd.OkA.of h1
    refine ⟨?_, by kernel_rfl, by kernel_rfl, Nat.le_refl _⟩
    exact cf_borrow (cf_of sysOk33 (f := 37) (evw37 ⟨a, i, o, .wide, rows⟩ s h3 h2))
  · cases h
noncomputable def sysP3 : FSys := sysP2.tell 37 F37p
def F38p : List AV → List AObj → Ab Res
  | [.sr 0, .k (.int .i64 i), .sr 1], [.arr 42 .fresh rows, .arr 42 .full [v]] => some (decide (0 ≤ i) && (decide (i ≤ (rows.length : Int)) && decide ((rows.length + 1) * 32 ≤ reachBytes)), .sr 2, [.dead, .arr 42 .full [v], .arr 42 .wide (ins rows i.toNat v)])
  | _, _ => none
theorem told38p (args : List AV) (st : List AObj) (r : AV) (st' : List AObj) (h : F38p args st = some (true, (r, st'))) :
    CF Try.prog sysP3.T 38 args st (sysP3.ann 38).mvs r st' ∧ (sysP3.ann 38).res.ok r = true ∧ OS.okL (sysP3.ann 38).objs st' = true ∧ st.length ≤ st'.length := by
  unfold F38p at h
  split at h
  · rename_i i rows v
    simp only [Option.some.injEq, Prod.mk.injEq, Bool.and_eq_true, decide_eq_true_eq] at h
    obtain ⟨⟨h1, h2, h3⟩, rfl, rfl⟩ := h
    refine ⟨?_, by kernel_rfl, by kernel_rfl, Nat.le_succ 2⟩
    obtain ⟨n, rfl⟩ : ∃ n : Nat, i = (n : Int) := ⟨i.toNat, by omega⟩
    exact cf38 rows v n (by omega) h3
  · cases h
noncomputable def sysP4 : FSys := sysP3.tell 38 F38p
theorem sysP4Ok : SysOk Try.prog sysP4 := (((sysP0Ok.tellCF 11 _ told11p).tellCF 31 F31 told31p).tellCF 37 F37p told37p).tellCF 38 F38p told38p

def F42p : List AV → List AObj → Ab Res
  | [.sl 42 .wide rows], [] => some (decide (rows.length * 32 ≤ reachBytes), .sr 0, [.arr 42 .fresh rows])
  | _, _ => none
theorem ev42p (rows : RowL) (k : Nat) : ev sysP4 (k + 1) 42 [.sl 42 .wide rows] [] = bif ((0 + rows.length) * 32).ble (2 ^ 47) then some (.sr 0, [.arr 42 .fresh rows]) else none := by kernel_rfl
theorem told42p (args : List AV) (st : List AObj) (r : Res) (h : F42p args st = some (true, r)) : ∃ k, ev sysP4 k 42 args st = some r := by
  unfold F42p at h
  split at h
  · rename_i rows
    simp only [Option.some.injEq, Prod.mk.injEq, decide_eq_true_eq] at h
    obtain ⟨h1, rfl⟩ := h
    have : ((0 + rows.length) * 32).ble (2 ^ 47) = true := by rw [Nat.ble_eq, Nat.zero_add]; unfold reachBytes at h1; omega
    exact ⟨0 + 1, by rw [ev42p, this]; rfl⟩
  · cases h
noncomputable def sysP5 : FSys := sysP4.tell 42 F42p
def ownW (a o : ByteArray) (i : Int) : AV := .agg [.k (.string a), .k (.int .i64 i), .k (.string o), .sr 0]
def F32p : List AV → List AObj → Ab Res
  | [.agg [.k (.string a), .k (.int .i64 i), .k (.string o), .sl 42 .wide rows]], [] => some (decide (rows.length * 32 ≤ reachBytes), ownW a o i, [.arr 42 .fresh rows])
  | _, _ => none
theorem ev32p (a o : ByteArray) (i : Int) (rows : RowL) (k : Nat) : ev sysP5 (k + 1) 32 [Wd.av ⟨a, i, o, .wide, rows⟩] [] = bif decide (rows.length * 32 ≤ reachBytes) then some (ownW a o i, [.arr 42 .fresh rows]) else none := by kernel_rfl
theorem told32p (args : List AV) (st : List AObj) (r : Res) (h : F32p args st = some (true, r)) : ∃ k, ev sysP5 k 32 args st = some r := by
  unfold F32p at h
  split at h
  · rename_i a i o rows
    simp only [Option.some.injEq, Prod.mk.injEq, decide_eq_true_eq] at h
    obtain ⟨h1, rfl⟩ := h
    exact ⟨0 + 1, (ev32p a o i rows 0).trans (by rw [decide_eq_true h1]; rfl)⟩
  · cases h
noncomputable def sysP6 : FSys := sysP5.tell 32 F32p
theorem sysP6Ok : SysOk Try.prog sysP6 := (sysP4Ok.tell 42 F42p told42p).tell 32 F32p told32p
end Go.Proofs.Ytmcgeohnmncinaa.W
namespace Go.Proofs.Ytmcgeohnmncinaa.W
open Go.Fw
set_option maxRecDepth 100000
/-! ### Put -/
def setT (rows : RowL) (i : Int) (t : ByteArray) : RowL := rows.set i.toNat (putAt (rows.getD i.toNat []) 1 [.k (.string t)])
def newRow (n : ByteArray) : List AV := [.k (.string n), .k (.string .empty)]
theorem ev24w (a o : ByteArray) (i : Int) (rows : RowL) (name text : ByteArray) (k : Nat) : ev sysP6 (k + 1) 24 [Wd.av ⟨a, i, o, .wide, rows⟩, .k (.string name), .k (.string text)] [] =
  bif Wd.okA ⟨a, i, o, .wide, rows⟩ 42 then (bif chk ⟨a, i, o, .wide, rows⟩ != 0 then wrtR zeroW (chk ⟨a, i, o, .wide, rows⟩) else bif textC text then (bif fileE name .empty text true != 0 then wrtR zeroW (fileE name .empty text true) else
  bif decide (rows.length * 32 ≤ reachBytes) then (bif Wd.okA ⟨a, i, o, .wide, rows⟩ 42 && sortedB rows then
    (bif !found rows name then (bif decide ((rows.length : Int) ≥ 64) then wrtR zeroW 6 else
       bif decide (0 ≤ (pos rows name : Int)) && (decide ((pos rows name : Int) ≤ (rows.length : Int)) && decide ((rows.length + 1) * 32 ≤ reachBytes)) then
        (bif decide (0 ≤ (pos rows name : Int)) && decide ((pos rows name : Int) < ((ins rows (pos rows name : Int).toNat (newRow name)).length : Int)) then
          wrtR ⟨a, i, o, .wide, setT (ins rows (pos rows name : Int).toNat (newRow name)) (pos rows name : Int) text⟩ 0 else none) else none)
     else bif decide (0 ≤ (pos rows name : Int)) && decide ((pos rows name : Int) < (rows.length : Int)) then wrtR ⟨a, i, o, .wide, setT rows (pos rows name : Int) text⟩ 0 else none) else none) else none) else none) else none := by kernel_rfl
end Go.Proofs.Ytmcgeohnmncinaa.W
namespace Go.Proofs.Ytmcgeohnmncinaa.W
open Go.Fw
set_option maxRecDepth 100000
/-! ### The system in which Put is done of worlds whose list is nil -/
def ann38a : FAnn := { ann38 with pre := [], post := [], res := .sr 1, objs := [.arr 42 .full, .arr 42 .any], mvs := [] }
def ann38v : FAnn := { ann38a with objs := [.arr 42 .full, .arr 42 .wide] }
noncomputable def annN (a38 : FAnn) : FuncId → FAnn := fun f => bif Nat.beq f 38 then a38 else bif Nat.beq f 24 then ann24b else ann f
theorem bodyOkNa : [38].all (bodyB Try.prog (annN ann38a)) = true := by kernel_rfl
theorem bodyOkN : [24].all (bodyB Try.prog (annN ann38v)) = true := by kernel_rfl
noncomputable def sysNa : FSys := { T := tab, body := bodyOf Try.prog [38], ann := annN ann38a, prim := fun _ _ _ => none }
theorem sysNaOk : SysOk Try.prog sysNa where
  mixed := by kernel_rfl
  tab := tabOk
  body := fun f fn h => body_ok bodyOkNa f fn h
  prim := fun f args st r st' h => by cases h
theorem ev38nil (v : List AV) (k : Nat) : ev sysNa (k + 1) 38 [.sl 0 .nil [], .k (.int .i64 0), .sr 0] [.arr 42 .full [v]] = some (.sr 1, [.arr 42 .full [v], .arr 42 .any [v]]) := by kernel_rfl
theorem any_wide2 {t : Nat} {o1 : AObj} {out : RowL} (hne : out ≠ []) (E : Env) (Z : Nat → Prop) (w : World) (h : SR tab E Z w [o1, .arr t .any out]) :
    SR tab E Z w [o1, .arr t .wide out] ∧ ∀ B, Owned E [o1, .arr t .wide out] B ↔ Owned E [o1, .arr t .any out] B := by
  have howns : ∀ i B, owns E [o1, .arr t .wide out] i B ↔ owns E [o1, .arr t .any out] i B := fun i B => by
    match i with
    | 0 => exact Iff.rfl
    | 1 => exact Iff.rfl
    | n + 2 => exact Iff.rfl
  refine ⟨⟨fun id o hst => ?_, fun id hid => h.out id hid, fun i j B hi hj => h.inj i j B ((howns i B).1 hi) ((howns j B).1 hj), fun B ⟨i, hi⟩ => h.zown B ⟨i, (howns i B).1 hi⟩, h.zlt⟩, fun B => ⟨fun ⟨i, hi⟩ => ⟨i, (howns i B).1 hi⟩, fun ⟨i, hi⟩ => ⟨i, (howns i B).2 hi⟩⟩⟩
  match id, hst with
  | 0, hst => cases hst; exact h.obj 0 _ rfl
  | 1, hst =>
    cases hst
    have := h.obj 1 _ rfl
    cases this with
    | arr0 _ _ A he hn hk hsz => exact absurd rfl hne
    | arr _ _ _ B o c vs ty hn he hc h0 hf hsz hb ho hok hr => exact .arr t .wide out B o c vs ty (by simp) he hc h0 ⟨by simp, fun hk => by cases hk⟩ hsz hb ho hok hr
  | n + 2, hst => simp at hst
noncomputable def sysN0 : FSys := { T := tab, body := bodyOf Try.prog [24], ann := annN ann38v, prim := fun _ _ _ => none }
theorem sysN0Ok : SysOk Try.prog sysN0 where
  mixed := by kernel_rfl
  tab := tabOk
  body := fun f fn h => body_ok bodyOkN f fn h
  prim := fun f args st r st' h => by cases h
def F38n : List AV → List AObj → Ab Res
  | [.sl 0 .nil [], .k (.int .i64 i), .sr 0], [.arr 42 .full [v]] => some (decide (i = 0), .sr 1, [.arr 42 .full [v], .arr 42 .wide [v]])
  | _, _ => none
theorem told38n (args : List AV) (st : List AObj) (r : AV) (st' : List AObj) (h : F38n args st = some (true, (r, st'))) :
    CF Try.prog sysN0.T 38 args st (sysN0.ann 38).mvs r st' ∧ (sysN0.ann 38).res.ok r = true ∧ OS.okL (sysN0.ann 38).objs st' = true ∧ st.length ≤ st'.length := by
  unfold F38n at h
  split at h
  · rename_i i v
    simp only [Option.some.injEq, Prod.mk.injEq, decide_eq_true_eq] at h
    obtain ⟨rfl, rfl, rfl⟩ := h
    refine ⟨?_, by kernel_rfl, by kernel_rfl, Nat.le_succ 1⟩
    exact CF_exit (cf_of sysNaOk (f := 38) ⟨0 + 1, ev38nil v 0⟩) (fun E Z w h => any_wide2 (by simp) E Z w h) rfl
  · cases h
noncomputable def sysN1 : FSys := sysN0.tell 38 F38n
theorem told11n (args : List AV) (st : List AObj) (r : AV) (st' : List AObj) (h : FA (fun w => .k (.int .i64 (chk w))) args st = some (true, (r, st'))) :
    CF Try.prog sysN1.T 11 args st (sysN1.ann 11).mvs r st' ∧ (sysN1.ann 11).res.ok r = true ∧ OS.okL (sysN1.ann 11).objs st' = true ∧ st.length ≤ st'.length := told11a args st r st' h
noncomputable def sysN2 : FSys := sysN1.tell 11 (FA fun w => .k (.int .i64 (chk w)))
theorem told31n (args : List AV) (st : List AObj) (r : AV) (st' : List AObj) (h : F31 args st = some (true, (r, st'))) :
    CF Try.prog sysN2.T 31 args st (sysN2.ann 31).mvs r st' ∧ (sysN2.ann 31).res.ok r = true ∧ OS.okL (sysN2.ann 31).objs st' = true ∧ st.length ≤ st'.length := told31p args st r st' h
noncomputable def sysN3 : FSys := sysN2.tell 31 F31
theorem told37n (args : List AV) (st : List AObj) (r : AV) (st' : List AObj) (h : FAT (fun w _ => sortedB w.rows) (fun w s => srchAV w.rows s) args st = some (true, (r, st'))) :
    CF Try.prog sysN3.T 37 args st (sysN3.ann 37).mvs r st' ∧ (sysN3.ann 37).res.ok r = true ∧ OS.okL (sysN3.ann 37).objs st' = true ∧ st.length ≤ st'.length := by
  obtain ⟨k, hk⟩ := toldAT evw37 args st (r, st') h
  exact ev_ok sysOk33 k 37 args st r st' hk
noncomputable def sysN4 : FSys := sysN3.tell 37 (FAT (fun w _ => sortedB w.rows) fun w s => srchAV w.rows s)
theorem told32n (args : List AV) (st : List AObj) (r : AV) (st' : List AObj) (h : FW Wd.av args st = some (true, (r, st'))) :
    CF Try.prog sysN4.T 32 args st (sysN4.ann 32).mvs r st' ∧ (sysN4.ann 32).res.ok r = true ∧ OS.okL (sysN4.ann 32).objs st' = true ∧ st.length ≤ st'.length := by
  have sysOk10 : SysOk Try.prog sys10 := ((((((((((sysOk.tell 30 F30 told30).tell 50 F50 told50).tell 61 F61 told61).tell 49 F49 told49).tell 41 F41 told41).tell 34 _ (told1 ev34)).tell 35 _ (told1 ev35)).tell 31 F31 told31).tell 11 _ (toldW ev11)).tell 17 _ (toldW ev17)).tell 42 F42 told42
  obtain ⟨k, hk⟩ := toldW ev32 args st (r, st') h
  exact ev_ok sysOk10 k 32 args st r st' hk
noncomputable def sysN5 : FSys := sysN4.tell 32 (FW Wd.av)
theorem sysN5Ok : SysOk Try.prog sysN5 := ((((sysN0Ok.tellCF 38 F38n told38n).tellCF 11 _ told11n).tellCF 31 F31 told31n).tellCF 37 _ told37n).tellCF 32 _ told32n
theorem ev24n (a o : ByteArray) (i : Int) (name text : ByteArray) (k : Nat) : ev sysN5 (k + 1) 24 [Wd.av ⟨a, i, o, .nil, []⟩, .k (.string name), .k (.string text)] [] =
  bif Wd.okA ⟨a, i, o, .nil, []⟩ 0 then (bif chk ⟨a, i, o, .nil, []⟩ != 0 then wrtR zeroW (chk ⟨a, i, o, .nil, []⟩) else bif textC text then (bif fileE name .empty text true != 0 then wrtR zeroW (fileE name .empty text true) else
  bif Wd.okB ⟨a, i, o, .nil, []⟩ 0 then (bif Wd.okA ⟨a, i, o, .nil, []⟩ 0 && sortedB [] then wrtR ⟨a, i, o, .wide, setT [newRow name] 0 text⟩ 0 else none) else none) else none) else none := by kernel_rfl
end Go.Proofs.Ytmcgeohnmncinaa.W
