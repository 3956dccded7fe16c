/- The framework, part Zb: functions of Go's library that have no body here. -/
import Derived.Test.YtgcdiccbehiijaaFwZa
import Derived.Laws.Externs
import Derived.Lib.Bytealg
import Derived.Lib.Overlaps
set_option linter.all false
set_option linter.unusedSimpArgs false
set_option linter.unusedVariables false
namespace Go.Fw
theorem CF_extern {P : Program} {T : Tab} {f : FuncId} {fn : Func} {e : Array Value → Sem Value} (hf : P.funcs[f]? = some fn) (hname : (fn.name == "runtime.NumGoroutine") = false)
    (hb : fn.body.isNone = true) (hn : Extern.findNext fn = none) (he : Extern.find fn = some e) {args : List AV} {st : List AObj} {mvs : List Nat} {r : AV}
    (h : ∀ (E : Env) (Z : Nat → Prop) (w : World) (vals : List Value), VRs T E Z w args vals → ∃ v, (e vals.toArray).run P w = .ok v w ∧ VR T E Z w r v) : CF P T f args st mvs r st := fun E Z w vals hs hv => by
  obtain ⟨v, hr, hvr⟩ := h E Z w vals hv
  refine .inr (.inl ⟨v, w, ?_, E, Z, hs, hvr, Ext.refl _ _ _, Nat.le_refl _, fun _ _ _ => ⟨rfl, rfl⟩⟩)
  rw [run_callFunc_extern hf hname hb hn he, hr]
  rfl
theorem VRs_two {T : Tab} {E : Env} {Z : Nat → Prop} {w : World} {a b : AV} {vals : List Value} (h : VRs T E Z w [a, b] vals) : ∃ x y, vals = [x, y] ∧ VR T E Z w a x ∧ VR T E Z w b y := by
  obtain ⟨hl, hr⟩ := h
  match vals, hl with
  | [x, y], _ => exact ⟨x, y, rfl, hr 0 a x rfl rfl, hr 1 b y rfl rfl⟩
theorem CF_indexByte {P : Program} {T : Tab} {f : FuncId} {fn : Func} (hf : P.funcs[f]? = some fn) (hname : (fn.name == "runtime.NumGoroutine") = false)
    (hb : fn.body.isNone = true) (hn : Extern.findNext fn = none) (he : Extern.find fn = some Extern.BytealgIndexByte.indexByte) (s : ByteArray) (c : Int) (st : List AObj) (mvs : List Nat) :
    CF P T f [.k (.string s), .k (.int .u8 c)] st mvs (.k (.int .i64 (firstIdx s c.toNat.toUInt8))) st :=
  CF_extern hf hname hb hn he fun E Z w vals hv => by
    obtain ⟨x, y, rfl, hx, hy⟩ := VRs_two hv
    obtain rfl := VR_str hx
    obtain rfl := VR_int hy
    exact ⟨_, run_indexByte_string s c w, .k _ rfl⟩
end Go.Fw
set_option linter.unusedSimpArgs false
set_option linter.unusedVariables false
namespace Go.Fw
def CT.isZ : CT → Value → Bool
  | .int k, .int j n => decide (j = k) && decide (n = 0)
  | .bool, .bool b => !b
  | .str, .string s => Nat.beq s.data.toList.length 0
  | .sl _, .slice none n c => Nat.beq n 0 && Nat.beq c 0
  | .ptr, .pointer none => true
  | .func, .nilFunc => true
  | .iface, .nilIface => true
  | .map, .map none => true
  | _, _ => false
def allZ : List CT → List Value → Bool
  | [], [] => true
  | c :: cs, v :: vs => c.isZ v && allZ cs vs
  | _, _ => false
theorem CT.isZ_ok {c : CT} {v : Value} (h : c.isZ v = true) : v = c.zeroV := by
  unfold CT.isZ at h
  split at h <;> simp_all [CT.zeroV]
theorem allZ_ok : ∀ {cs : List CT} {vs : List Value}, allZ cs vs = true → vs = cs.map CT.zeroV
  | [], [], _ => rfl
  | [], _ :: _, h => by simp [allZ] at h
  | _ :: _, [], h => by simp [allZ] at h
  | c :: cs, v :: vs, h => by
    simp only [allZ, Bool.and_eq_true] at h
    rw [CT.isZ_ok h.1, allZ_ok h.2]; rfl
def tokB (P : Program) (t : Nat) (ti : TI) : Bool :=
  match P.info? t, P.underlying t with
  | some i, some d => dOk ti.d d && (Nat.beq i.size ti.cells.length && (Nat.beq i.bytes ti.bytes && (match i.zero with
      | some z => allZ ti.cells z.cells.toList && (match z with | .agg _ => ti.isAgg | _ => !ti.isAgg)
      | none => false) && (!ti.eqable || (!P.stoodInHeld t && (!P.eqGuardType P.depth t && (P.fieldsOf t).toList.all fun f => !(f.name == "_"))))))
  | _, _ => false
def tabB (P : Program) : Nat → List (Option TI) → Bool
  | _, [] => true
  | t, none :: l => tabB P (t + 1) l
  | t, some ti :: l => tokB P t ti && tabB P (t + 1) l
theorem tokB_ok {P : Program} {t : Nat} {ti : TI} (h : tokB P t ti = true) : ∃ i d z, TOk P t ti i d z := by
  unfold tokB at h
  split at h
  · rename_i i d hi hd
    simp only [Bool.and_eq_true] at h
    obtain ⟨h1, h2, ⟨h3, h4⟩, h5⟩ := h
    split at h4
    · rename_i z hz
      simp only [Bool.and_eq_true, Bool.or_eq_true, Bool.not_eq_true'] at h4 h5
      refine ⟨i, d, z, hi, hd, h1, Nat.eq_of_beq_eq_true h2, Nat.eq_of_beq_eq_true h3, hz, allZ_ok h4.1, fun ha => ?_, fun he => ?_, fun ha => ?_⟩
      · have h := h4.2
        split at h
        · exact ⟨_, rfl⟩
        · rw [ha] at h; cases h
      · rcases h5 with h | ⟨g1, g2, g3⟩
        · rw [he] at h; cases h
        · exact ⟨g1, g2, fun f hf => by simpa using List.all_eq_true.1 g3 f hf⟩
      · have h := h4.2
        split at h
        · rw [ha] at h; cases h
        · rename_i hna
          cases z <;> first | rfl | exact absurd rfl (hna _)
    · cases h4
  · cases h
theorem tabB_ok {P : Program} : ∀ {l : List (Option TI)} {b : Nat}, tabB P b l = true → ∀ t ti, l[t]? = some (some ti) → ∃ i d z, TOk P (b + t) ti i d z
  | [], b, h, t, ti, ht => by simp at ht
  | x :: l, b, h, t, ti, ht => by
    cases t with
    | zero =>
      simp only [List.getElem?_cons_zero, Option.some.injEq] at ht
      subst ht
      simp only [tabB, Bool.and_eq_true] at h
      exact tokB_ok h.1
    | succ t =>
      rw [List.getElem?_cons_succ] at ht
      have h' : tabB P (b + 1) l = true := by
        cases x with
        | none => exact h
        | some x => simp only [tabB, Bool.and_eq_true] at h; exact h.2
      have := tabB_ok h' t ti ht
      rwa [Nat.add_assoc, Nat.add_comm 1 t] at this
theorem tab_ok {P : Program} {l : List (Option TI)} (h : tabB P 0 l = true) : TabOk P (fun t => l.getD t none) := fun t ti ht => by
  have : l[t]? = some (some ti) := by
    simp only [List.getD_eq_getElem?_getD] at ht
    cases hh : l[t]? with
    | none => rw [hh] at ht; cases ht
    | some x => rw [hh] at ht; simp only [Option.getD_some] at ht; rw [ht]
  simpa using tabB_ok h t ti this
def bodyOf (P : Program) (fs : List Nat) (f : FuncId) : Option Func := bif fs.elem f then P.funcs[f]? else none
def bodyB (P : Program) (ann : FuncId → FAnn) (f : Nat) : Bool :=
  match P.funcs[f]? with
  | some fn => !(fn.name == "runtime.NumGoroutine") && (match fn.body with
    | some c => codeOk (fun g => ((ann g).res, (ann g).objs, (ann g).mvs)) (ann f) c
    | none => true)
  | none => true
theorem body_ok {P : Program} {ann : FuncId → FAnn} {fs : List Nat} (h : fs.all (bodyB P ann) = true) (f : FuncId) (fn : Func) (hf : bodyOf P fs f = some fn) :
    P.funcs[f]? = some fn ∧ (fn.name == "runtime.NumGoroutine") = false ∧ ∀ c, fn.body = some c → codeOk (fun g => ((ann g).res, (ann g).objs, (ann g).mvs)) (ann f) c = true := by
  unfold bodyOf at hf
  cases he : fs.elem f with
  | false => rw [he] at hf; cases hf
  | true =>
    rw [he] at hf
    simp only [cond_true] at hf
    have := List.all_eq_true.1 h f (by simpa using he)
    unfold bodyB at this
    rw [hf] at this
    simp only [Bool.and_eq_true, Bool.not_eq_true'] at this
    refine ⟨hf, this.1, fun c hc => ?_⟩
    have h2 := this.2
    rw [hc] at h2; exact h2
end Go.Fw
set_option linter.unusedSimpArgs false
set_option linter.unusedVariables false
namespace Go.Fw
noncomputable section
def FSys.tell (S : FSys) (g : FuncId) (F : List AV → List AObj → Ab Res) : FSys :=
  { S with prim := fun f args st => bif Nat.beq f g then (match F args st with
    | some r => some (some r)
    | none => S.prim f args st) else S.prim f args st }
theorem SysOk.tell {P : Program} {S : FSys} (hS : SysOk P S) (g : FuncId) (F : List AV → List AObj → Ab Res) (h : ∀ args st r, F args st = some (true, r) → ∃ k, ev S k g args st = some r) : SysOk P (S.tell g F) where
  mixed := hS.mixed
  harm := hS.harm
  cok := hS.cok
  tab := hS.tab
  body := hS.body
  prim := fun f args st r st' hp => by
    simp only [FSys.tell] at hp
    cases hb : Nat.beq f g with
    | false => rw [hb] at hp; exact hS.prim f args st r st' hp
    | true =>
      rw [hb] at hp
      simp only [cond_true] at hp
      split at hp
      · rename_i x hF
        cases hp
        obtain ⟨k, hk⟩ := h args st _ hF
        obtain rfl := Nat.eq_of_beq_eq_true hb
        exact ev_ok hS k f args st r st' hk
      · exact hS.prim f args st r st' hp
abbrev Kon := Out → Option Res
def kont (C : Ctx) : Nat → Code → List Nat → List Nat → Kon → Nat × Code × Kon
  | blk, .seq a b, 0 :: p, ms, K => kont C blk a p ms fun
    | .norm σ' => evC C blk b σ' K
    | o => K o
  | blk, .seq a b, 1 :: p, ms, K => kont C blk b p ms K
  | blk, .cond _ a b, 0 :: p, ms, K => kont C blk a p ms K
  | blk, .cond _ a b, 1 :: p, ms, K => kont C blk b p ms K
  | blk, .block id b, 0 :: p, ms, K => kont C id b p ms fun
    | .exit j σ' => bif Nat.beq j id then K (.norm σ') else K (.exit j σ')
    | o => K o
  | blk, .loop b, 0 :: p, m :: ms, K =>
    let weak := fun σ : St => (σ.weaks C.T (look1 C.ann.loops blk)).canon C.m
    kont C blk b p ms fun
      | .norm σ' => loopGo weak (fun σ K => evC C blk b σ K) K m (weak σ')
      | o => K o
  | blk, c, _, _, K => (blk, c, K)
def ctxOf (S : FSys) (f : FuncId) (m k : Nat) : Ctx := { T := S.T, ann := S.ann f, m := m, fuel := k, call := callOf S (ev S k), sig := fun g => ((S.ann g).res, (S.ann g).objs, (S.ann g).mvs), fid := f, ent := S.ent, round := evR S k }
def finK (S : FSys) (f : FuncId) (m : Nat) (fn : Func) : Kon := fun
  | .norm σ => finish S.T (S.ann f) m fn.results.toList σ
  | .ret σ => finish S.T (S.ann f) m fn.results.toList σ
  | _ => none
def loopAt (S : FSys) (f : FuncId) (fn : Func) (m k : Nat) (p ms : List Nat) (n : Nat) (σ : St) : Option Res :=
  match fn.body with
  | none => none
  | some c =>
    match kont (ctxOf S f m k) 0 c p ms (finK S f m fn) with
    | (blk, .loop b, K) => loopGo (fun σ : St => (σ.weaks S.T (look1 (S.ann f).loops blk)).canon m) (fun σ K => evC (ctxOf S f m k) blk b σ K) K n σ
    | _ => none
def roundAt (S : FSys) (f : FuncId) (fn : Func) (m k : Nat) (p ms : List Nat) (R : St → Option Res) (σ : St) : Option Res :=
  match fn.body with
  | none => none
  | some c =>
    match kont (ctxOf S f m k) 0 c p ms (finK S f m fn) with
    | (blk, .loop b, K) => evC (ctxOf S f m k) blk b σ fun
      | .norm σ' => R ((σ'.weaks S.T (look1 (S.ann f).loops blk)).canon m)
      | o => K o
    | _ => none
theorem loopAt_succ (S : FSys) (f : FuncId) (fn : Func) (m k : Nat) (p ms : List Nat) (n : Nat) (σ : St) :
    loopAt S f fn m k p ms (n + 1) σ = roundAt S f fn m k p ms (loopAt S f fn m k p ms n) σ := by
  unfold loopAt roundAt
  cases fn.body with
  | none => rfl
  | some c =>
    simp only
    generalize kont (ctxOf S f m k) 0 c p ms (finK S f m fn) = x
    obtain ⟨blk, c', K⟩ := x
    cases c' <;> first | rfl | (simp only [loopGo])
def tm (n : Nat) (l : List (Nat × AV)) : List AV := (List.range n).map fun i => match l.find? fun p => Nat.beq p.1 i with | some p => p.2 | none => .undef
end
end Go.Fw
set_option linter.unusedSimpArgs false
set_option linter.unusedVariables false
namespace Go.Fw
noncomputable section
theorem wrap64 {n : Int} (h1 : -9223372036854775808 ≤ n) (h2 : n ≤ 9223372036854775807) : IntKind.i64.wrap n = n := by
  simp only [IntKind.wrap, IntKind.signed, IntKind.bits]
  simp
  omega
theorem bytesRows_at (s : ByteArray) (i : Nat) (h : i < s.data.toList.length) : ((bytesRows s).getD i []).getD 0 .undef = .k (.int .u8 ((s.data.toList[i]).toNat : Int)) := by
  simp only [bytesRows, List.getD_eq_getElem?_getD, List.getElem?_map, List.getElem?_eq_getElem h]
  rfl
theorem toI_k (k : IntKind) (n : Int) : AV.toI (.k (.int k n)) = n := rfl
theorem toB_k (b : Bool) : AV.toB (.k (.bool b)) = b := rfl
theorem toS_k (s : ByteArray) : AV.toS (.k (.string s)) = s := rfl
theorem bytesRows_length (s : ByteArray) : (bytesRows s).length = s.data.toList.length := by simp [bytesRows]
theorem loop_up {S : FSys} {f : FuncId} {fn : Func} {m k : Nat} {p ms : List Nat} (σ : Nat → St) (len : Nat) (F : Nat → Option Res)
    (hstep : ∀ i, i < len → ∀ R : St → Option Res, R (σ (i + 1)) = F (i + 1) → roundAt S f fn m k p ms R (σ i) = F i)
    (hend : ∀ R : St → Option Res, roundAt S f fn m k p ms R (σ len) = F len) : ∀ (n i : Nat), i ≤ len → len - i < n → loopAt S f fn m k p ms n (σ i) = F i
  | 0, i, _, h => by omega
  | n + 1, i, hi, h => by
    rw [loopAt_succ]
    rcases Nat.lt_or_eq_of_le hi with h1 | h1
    · exact hstep i h1 _ (loop_up σ len F hstep hend n (i + 1) h1 (by omega))
    · subst h1; exact hend _
end
end Go.Fw
set_option linter.unusedSimpArgs false
set_option linter.unusedVariables false
namespace Go.Fw
noncomputable section
theorem SysOk.tellCF {P : Program} {S : FSys} (hS : SysOk P S) (g : FuncId) (F : List AV → List AObj → Ab Res)
    (h : ∀ args st r st', F args st = some (true, (r, st')) → CF P S.T g args st (S.ann g).mvs r st' ∧ (S.ann g).res.ok r = true ∧ OS.okL (S.ann g).objs st' = true ∧ st.length ≤ st'.length) : SysOk P (S.tell g F) where
  mixed := hS.mixed
  harm := hS.harm
  cok := hS.cok
  tab := hS.tab
  body := hS.body
  prim := fun f args st r st' hp => by
    simp only [FSys.tell] at hp
    cases hb : Nat.beq f g with
    | false => rw [hb] at hp; exact hS.prim f args st r st' hp
    | true =>
      rw [hb] at hp
      simp only [cond_true] at hp
      split at hp
      · rename_i x hF
        cases hp
        obtain rfl := Nat.eq_of_beq_eq_true hb
        exact h args st r st' hF
      · exact hS.prim f args st r st' hp
theorem CF_externS {P : Program} {T : Tab} {f : FuncId} {fn : Func} {e : Array Value → Sem Value} (hf : P.funcs[f]? = some fn) (hname : (fn.name == "runtime.NumGoroutine") = false)
    (hb : fn.body.isNone = true) (hn : Extern.findNext fn = none) (he : Extern.find fn = some e) {args : List AV} {st : List AObj} {mvs : List Nat} {r : AV}
    (h : ∀ (E : Env) (Z : Nat → Prop) (w : World) (vals : List Value), SR T E Z w st → VRs T E Z w args vals → ∃ v, (e vals.toArray).run P w = .ok v w ∧ VR T E Z w r v) : CF P T f args st mvs r st := fun E Z w vals hs hv => by
  obtain ⟨v, hr, hvr⟩ := h E Z w vals hs hv
  refine .inr (.inl ⟨v, w, ?_, E, Z, hs, hvr, Ext.refl _ _ _, Nat.le_refl _, fun _ _ _ => ⟨rfl, rfl⟩⟩)
  rw [run_callFunc_extern hf hname hb hn he, hr]
  rfl
def cmpB (a b : ByteArray) : Int := Lib.compareBytes a.data.toList b.data.toList
theorem CF_cmpstring {P : Program} {T : Tab} {f : FuncId} {fn : Func} (hf : P.funcs[f]? = some fn) (hname : (fn.name == "runtime.NumGoroutine") = false)
    (hb : fn.body.isNone = true) (hn : Extern.findNext fn = none) (he : Extern.find fn = some Extern.BytealgCompare.compare) (a b : ByteArray) (st : List AObj) (mvs : List Nat) :
    CF P T f [.k (.string a), .k (.string b)] st mvs (.k (.int .i64 (cmpB a b))) st :=
  CF_extern hf hname hb hn he fun E Z w vals hv => by
    obtain ⟨x, y, rfl, hx, hy⟩ := VRs_two hv
    obtain rfl := VR_str hx
    obtain rfl := VR_str hy
    exact ⟨_, Lib.run_compareString a b w, .k _ rfl⟩
theorem arr_block {T : Tab} {E : Env} {Z : Nat → Prop} {w : World} {id t : Nat} {kd : SK} {rows : List (List AV)} (h : OR T E Z w id (.arr t kd rows)) (hne : rows ≠ []) (hsz : 0 < (cts T t).length) :
    ∃ (B o c : Nat) (vs : List Value) (ty : TypeId), E.ρ id = some (.slice (some ⟨B, o, none⟩) rows.length c) ∧ c ≠ 0 ∧ rows.length ≤ c ∧ w.heap[B]? = some (.cells vs.toArray ty (0, 0)) ∧ vs.length ≠ 0 := by
  cases h with
  | arr0 _ _ A he hn hk hs => exact absurd rfl hne
  | arr _ _ _ B o c vs ty hn he hc h0 hf hs hb ho hok hr =>
    refine ⟨B, o, c, vs, ty, he, h0, hc, hb, fun hv => ?_⟩
    have : 0 < c * (cts T t).length := Nat.mul_pos (by omega) hsz
    omega
theorem shape_of {w : World} {B : Nat} {vs : List Value} {ty : TypeId} (h : w.heap[B]? = some (.cells vs.toArray ty (0, 0))) : w.shape? B = some (ty, vs.length) := by
  simp [World.shape?, h]
theorem frozen_of {w : World} {B o : Nat} {vs : List Value} {ty : TypeId} (h : w.heap[B]? = some (.cells vs.toArray ty (0, 0))) : w.frozen? ⟨B, o, none⟩ = false := by
  simp [World.frozen?, h]
theorem CF_overlaps {P : Program} {T : Tab} (hT : TabOk P T) {f : FuncId} {fn : Func} {tS tR e : Nat} (hf : P.funcs[f]? = some fn) (hname : (fn.name == "runtime.NumGoroutine") = false)
    (hb : fn.body.isNone = true) (hn : Extern.findNext fn = none) (he : Extern.find fn = some (Extern.SlicesOverlaps.overlaps #[tS, tS] #[tR])) {c0 b0} (htS : T tS = some ⟨.sl e, c0, b0⟩) (hte : (T e).isSome = true) (hsz : 0 < (cts T e).length)
    {kd kd' : SK} {r0 r1 : List (List AV)} {a n : Nat} (h0 : r0 ≠ []) (hn0 : 0 < n) (hb1 : a + n ≤ r1.length) (mvs : List Nat) :
    CF P T f [.sr 0, .ss 1 a n] [.arr e kd r0, .arr e kd' r1] mvs (.k (.bool false)) [.arr e kd r0, .arr e kd' r1] :=
  CF_externS hf hname hb hn he fun E Z w vals hs hv => by
    obtain ⟨x, y, rfl, hx, hy⟩ := VRs_two hv
    obtain ⟨i, d, z, hto⟩ := hT _ _ htS
    have hd := dOk_sl hto.desc
    subst hd
    obtain ⟨te, hte⟩ := Option.isSome_iff_exists.1 hte
    obtain ⟨ie, de, ze, htoe⟩ := hT _ _ hte
    have o0 := hs.obj 0 _ rfl
    have o1 := hs.obj 1 _ rfl
    obtain ⟨B0, p0, c0, vs0, ty0, q0, q0', q0'', g0, l0⟩ := arr_block o0 h0 hsz
    obtain ⟨B1, p1, c1, vs1, ty1, q1, q1', q1'', g1, l1⟩ := arr_block o1 (by rintro rfl; simp at hb1; omega) hsz
    have hne : B0 ≠ B1 := fun eq => by
      have w0 : owns E [.arr e kd r0, .arr e kd' r1] 0 B0 := ⟨_, _, _, q0, q0', rfl⟩
      have w1 : owns E [.arr e kd r0, .arr e kd' r1] 1 B1 := ⟨_, _, _, q1, q1', rfl⟩
      have := hs.inj 0 1 B0 w0 (eq ▸ w1)
      cases this
    cases hx with
    | sr _ A m c hE =>
      rw [q0] at hE
      cases hE
      cases hy with
      | ss _ _ _ A A' len c hE hb' hA =>
        rw [q1] at hE
        cases hE
        have hAA := hA (by omega)
        subst hAA
        refine ⟨.bool false, ?_, .k _ rfl⟩
        exact Lib.run_overlaps_apart w tS tR e hto.und ie.size (fun w => run_szOf htoe.info) ⟨B0, p0, none⟩ ⟨B1, p1 + a * E.sz 1, none⟩ _ _ _ _ hne ty0 ty1 vs0.length vs1.length (shape_of g0) (shape_of g1) l1 (frozen_of g0) (frozen_of g0)
theorem CF_entry {P : Program} {T : Tab} {f : FuncId} {args : List AV} {st : List AObj} {mvs : List Nat} {r : AV} {st' : List AObj}
    (h : ∀ (E : Env) (Z : Nat → Prop) (w : World) (vals : List Value), SR T E Z w st → VRs T E Z w args vals → ∃ E1 args1 st1, SR T E1 Z w st1 ∧ VRs T E1 Z w args1 vals ∧ (∀ B, Owned E1 st1 B ↔ Owned E st B) ∧ st1.length = st.length ∧
      (∀ i, i < st.length → i ∉ mvs → E1.ρ i = E.ρ i ∧ E1.sz i = E.sz i) ∧ CF P T f args1 st1 mvs r st') : CF P T f args st mvs r st' := fun E Z w vals hs hv => by
  obtain ⟨E1, args1, st1, h1, h2, h3, h4, h5, h6⟩ := h E Z w vals hs hv
  have hO : Owned E1 st1 = Owned E st := funext fun B => propext (h3 B)
  have hp : ∀ v w', Post T E1 Z w st1 mvs r st' v w' → Post T E Z w st mvs r st' v w' := fun v w' ⟨E', Z', p1, p2, p3, p4, p5⟩ =>
    ⟨E', Z', p1, p2, hO ▸ p3, by omega, fun i hi hm => ⟨(p5 i (by omega) hm).1.trans (h5 i hi hm).1, (p5 i (by omega) hm).2.trans (h5 i hi hm).2⟩⟩
  rcases h6 E1 Z w vals h1 h2 with ⟨k1, k2⟩ | ⟨v, w', k1, k2⟩ | ⟨row, as, k1, k2⟩
  · exact .inl ⟨k1, k2.mono fun e w' ⟨v, hv, hq⟩ => ⟨v, hv, hp v w' hq⟩⟩
  · exact .inr (.inl ⟨v, w', k1, hp v w' k2⟩)
  · exact .inr (.inr ⟨row, as, k1, k2.mono fun v w' hq => hp v w' hq⟩)
theorem owned_two {E : Env} {o0 o1 : AObj} {B : Nat} : Owned E [o0, o1] B ↔ ownsO E 0 o0 B ∨ ownsO E 1 o1 B := by
  constructor
  · rintro ⟨id, hid⟩
    obtain ⟨o, hst, ho⟩ := owns_get hid
    match id, hst with
    | 0, hst => cases hst; exact .inl ho
    | 1, hst => cases hst; exact .inr ho
    | n + 2, hst => simp at hst
  · rintro (h | h)
    · exact ⟨0, h⟩
    · exact ⟨1, h⟩
theorem CF_fresh {P : Program} {T : Tab} {f : FuncId} {t t1 : Nat} {te : TI} (hte : T t = some te) (hsz : 0 < (cts T t).length) {kd1 : SK} {rows rows1 : List (List AV)} {x : Value} {r : AV} {mvs : List Nat} {st' : List AObj} (hm : 0 ∈ mvs)
    (hfull : CF P T f [.sr 0, .k x, .sr 1] [.arr t .full rows, .arr t1 kd1 rows1] mvs r st')
    (hroom : ∀ d, CF P T f [.ss 0 0 rows.length, .k x, .sr 1] [.arr t .full (rows ++ List.replicate (d + 1) ((cts T t).map CT.zeroR)), .arr t1 kd1 rows1] mvs r st') :
    CF P T f [.sr 0, .k x, .sr 1] [.arr t .fresh rows, .arr t1 kd1 rows1] mvs r st' := CF_entry fun E Z w vals hs hv => by
  have o0 := hs.obj 0 _ rfl
  have o1 := hs.obj 1 _ rfl
  have hall : ∀ (o' : AObj), OR T E Z w 0 o' → (∀ B, ownsO E 0 o' B ↔ ownsO E 0 (.arr t .fresh rows) B) → SR T E Z w [o', .arr t1 kd1 rows1] ∧ ∀ B, Owned E [o', .arr t1 kd1 rows1] B ↔ Owned E [.arr t .fresh rows, .arr t1 kd1 rows1] B := fun o' ho' hown => by
    have hO : ∀ B, Owned E [o', .arr t1 kd1 rows1] B ↔ Owned E [.arr t .fresh rows, .arr t1 kd1 rows1] B := fun B => by rw [owned_two, owned_two, hown B]
    have howns : ∀ i B, owns E [o', .arr t1 kd1 rows1] i B → owns E [.arr t .fresh rows, .arr t1 kd1 rows1] i B := fun i B hi => by
      obtain ⟨o, hst, ho⟩ := owns_get hi
      match i, hst with
      | 0, hst => cases hst; exact (hown B).1 ho
      | 1, hst => cases hst; exact ho
      | n + 2, hst => simp at hst
    refine ⟨⟨fun id o hst => ?_, fun id hid => hs.out id hid, fun i j B hi hj => hs.inj i j B (howns i B hi) (howns j B hj), fun B hB => hs.zown B ((hO B).1 hB), hs.zlt⟩, hO⟩
    match id, hst with
    | 0, hst => cases hst; exact ho'
    | 1, hst => cases hst; exact o1
    | n + 2, hst => simp at hst
  cases o0 with
  | arr0 _ _ A he hn hk hsz' =>
    obtain ⟨h1, h2⟩ := hall (.arr t .full []) (.arr0 t .full A he (by simp) (fun ha => by have := hk ha; cases this) hsz') (fun B => Iff.rfl)
    exact ⟨E, _, _, h1, hv, h2, rfl, fun _ _ _ => ⟨rfl, rfl⟩, hfull⟩
  | arr _ _ _ B o c vs ty hn he hc h0 hf hsz' hb ho hok hr =>
    rcases Nat.lt_or_eq_of_le hc with hlt | rfl
    · -- there is room
      obtain ⟨d, rfl⟩ : ∃ d, c = rows.length + (d + 1) := ⟨c - rows.length - 1, by omega⟩
      have hsp := hf.2 rfl
      let E1 : Env := { ρ := fun i => if i = 0 then some (.slice (some ⟨B, o, none⟩) (rows.length + (d + 1)) (rows.length + (d + 1))) else E.ρ i, sz := E.sz }
      have hR0 : RowsR T E1 Z w t rows ((vs.drop o).take (rows.length * (cts T t).length)) := (arr_rows hc ho hok hsz hr).env
      have hmul : (rows.length + (d + 1)) * (cts T t).length = rows.length * (cts T t).length + (d + 1) * (cts T t).length := Nat.add_mul _ _ _
      have hRz : RowsR T E1 Z w t (List.replicate (d + 1) ((cts T t).map CT.zeroR)) ((vs.drop (o + rows.length * (cts T t).length)).take ((d + 1) * (cts T t).length)) := by
        refine RowsR.of (fun row hrow => ?_) (by simp; omega) hsz (fun i row j av v hi hj hv => ?_)
        · obtain ⟨_, rfl⟩ := List.mem_replicate.1 hrow
          exact zerosR_row _
        · rw [List.getElem?_replicate] at hi
          split at hi
          · cases hi
            rename_i hin
            rw [List.getElem?_take] at hv
            split at hv
            · rw [List.getElem?_drop] at hv
              have hjl : j < (cts T t).length := by have := (List.getElem?_eq_some_iff.1 hj).1; simpa using this
              have hlt2 : i * (cts T t).length + j < (d + 1) * (cts T t).length := by assumption
              obtain ⟨ct, q1, q2⟩ := hsp (rows.length * (cts T t).length + (i * (cts T t).length + j)) (by omega) (by omega)
              have hmod : (rows.length * (cts T t).length + (i * (cts T t).length + j)) % (cts T t).length = j := by
                rw [← Nat.add_assoc, ← Nat.add_mul, Nat.mul_comm, Nat.mul_add_mod, Nat.mod_eq_of_lt hjl]
              rw [hmod] at q1
              rw [← Nat.add_assoc] at q2
              rw [q2] at hv
              cases hv
              rw [List.getElem?_map, q1] at hj
              cases hj
              exact zeroR_ok ct
            · cases hv
          · cases hi
      have hRR := hR0.append hRz
      have hcat : (vs.drop o).take (rows.length * (cts T t).length) ++ (vs.drop (o + rows.length * (cts T t).length)).take ((d + 1) * (cts T t).length) = (vs.drop o).take ((rows ++ List.replicate (d + 1) ((cts T t).map CT.zeroR)).length * (cts T t).length) := by
        rw [List.length_append, List.length_replicate, hmul, List.take_add, List.drop_drop]
      rw [hcat] at hRR
      have hlen : (rows ++ List.replicate (d + 1) ((cts T t).map CT.zeroR)).length = rows.length + (d + 1) := by simp
      have ho1 : OR T E1 Z w 1 (.arr t1 kd1 rows1) := by
        have hh : ∀ r v, isRef r = true → VR T E Z w r v → VR T E1 Z w ((fun _ => AV.undef) r) v := fun r v _ _ => .undef v
        exact o1.map (E' := E1) (Z' := Z) (w' := w) (id' := 1) (fun _ => .undef) (fun _ hz => hz) (fun _ _ _ => rfl) hh rfl rfl (fun _ _ => rfl)
      have ho0 : OR T E1 Z w 0 (.arr t .full (rows ++ List.replicate (d + 1) ((cts T t).map CT.zeroR))) :=
        .arr t .full _ B o (rows.length + (d + 1)) vs ty (by simp) (by show E1.ρ 0 = _; rw [hlen]; rfl) (by rw [hlen]; exact Nat.le_refl _) h0 ⟨fun _ => hlen.symm, fun h => by cases h⟩ hsz' hb ho hRR.1 (arr_of hRR)
      have hown0 : ∀ C, ownsO E1 0 (.arr t .full (rows ++ List.replicate (d + 1) ((cts T t).map CT.zeroR))) C ↔ ownsO E 0 (.arr t .fresh rows) C := fun C => by
        constructor
        · rintro ⟨A, n, c', hA, hc', rfl⟩
          cases hA
          exact ⟨_, _, _, he, h0, rfl⟩
        · rintro ⟨A, n, c', hA, hc', rfl⟩
          rw [he] at hA
          cases hA
          exact ⟨_, _, _, rfl, h0, rfl⟩
      have hown1 : ∀ C, ownsO E1 1 (.arr t1 kd1 rows1) C ↔ ownsO E 1 (.arr t1 kd1 rows1) C := fun C => Iff.rfl
      have hO : ∀ C, Owned E1 [.arr t .full (rows ++ List.replicate (d + 1) ((cts T t).map CT.zeroR)), .arr t1 kd1 rows1] C ↔ Owned E [.arr t .fresh rows, .arr t1 kd1 rows1] C := fun C => by
        rw [owned_two, owned_two, hown0 C, hown1 C]
      have howns : ∀ i C, owns E1 [.arr t .full (rows ++ List.replicate (d + 1) ((cts T t).map CT.zeroR)), .arr t1 kd1 rows1] i C → owns E [.arr t .fresh rows, .arr t1 kd1 rows1] i C := fun i C hi => by
        obtain ⟨q, hst, hq⟩ := owns_get hi
        match i, hst with
        | 0, hst => cases hst; exact (hown0 C).1 hq
        | 1, hst => cases hst; exact hq
        | n + 2, hst => simp at hst
      obtain ⟨hvl, hvr⟩ := hv
      match vals, hvl with
      | [v0, v1, v2], _ =>
        refine ⟨E1, [.ss 0 0 rows.length, .k x, .sr 1], _, ⟨fun id q hst => ?_, fun id hid => ?_, fun i j C hi hj => hs.inj i j C (howns i C hi) (howns j C hj), fun C hC => hs.zown C ((hO C).1 hC), hs.zlt⟩, ⟨rfl, fun j av v hj hv => ?_⟩, hO, rfl,
          fun i hi hmi => ?_, hroom d⟩
        · match id, hst with
          | 0, hst => cases hst; exact ho0
          | 1, hst => cases hst; exact ho1
          | n + 2, hst => simp at hst
        · have hne : id ≠ 0 := by simp at hid; omega
          show (if id = 0 then _ else E.ρ id) = none
          rw [if_neg hne]
          exact hs.out id hid
        · match j, hj, hv with
          | 0, hj, hv =>
            cases hj; cases hv
            have := hvr 0 (.sr 0) v0 rfl rfl
            cases this with
            | sr _ A n c' hE =>
              rw [he] at hE
              cases hE
              exact .ss 0 0 rows.length (some ⟨B, o, none⟩) (some ⟨B, o, none⟩) (rows.length + (d + 1)) (rows.length + (d + 1)) rfl (by omega) (fun _ => by simp)
          | 1, hj, hv =>
            cases hj; cases hv
            have := hvr 1 (.k x) v1 rfl rfl
            cases this with
            | k _ h => exact .k _ h
            | ku => exact .ku
          | 2, hj, hv =>
            cases hj; cases hv
            have := hvr 2 (.sr 1) v2 rfl rfl
            cases this with
            | sr _ A n c' hE => exact .sr 1 A n c' hE
          | n + 3, hj, hv => simp at hj
        · have hne : i ≠ 0 := fun e => hmi (e ▸ hm)
          exact ⟨by show (if i = 0 then _ else E.ρ i) = _; rw [if_neg hne], rfl⟩
    · obtain ⟨h1, h2⟩ := hall (.arr t .full rows) (.arr t .full rows B o rows.length vs ty (by simp) he (Nat.le_refl _) h0 ⟨fun _ => rfl, fun h => by cases h⟩ hsz' hb ho hok hr) (fun B => Iff.rfl)
      exact ⟨E, _, _, h1, hv, h2, rfl, fun _ _ _ => ⟨rfl, rfl⟩, hfull⟩
end
end Go.Fw
