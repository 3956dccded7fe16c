/- The framework, part Zb: functions of Go's library that have no body here. -/
import Derived.Test.YtgcdiccbehiijaaFwZa
import Derived.Laws.Externs
import Derived.Lib.Bytealg
import Derived.Lib.Overlaps
set_option linter.all false
set_option linter.unusedSimpArgs false
set_option linter.unusedVariables false
namespace Go.Fw
end Go.Fw
set_option linter.unusedSimpArgs false
set_option linter.unusedVariables false
namespace Go.Fw
def CT.isZ : CT → Value → Bool
  | .int k, .int j n => decide (j = k) && decide (n = 0)
  | .bool, .bool b => !b
  | .str, .string s => Nat.beq s.data.toList.length 0
  | .sl _, .slice none n c => Nat.beq n 0 && Nat.beq c 0
  | .ptr, .pointer none => true
  | .func, .nilFunc => true
  | .iface, .nilIface => true
  | .map, .map none => true
  | _, _ => false
def allZ : List CT → List Value → Bool
  | [], [] => true
  | c :: cs, v :: vs => c.isZ v && allZ cs vs
  | _, _ => false
theorem CT.isZ_ok {c : CT} {v : Value} (h : c.isZ v = true) : v = c.zeroV := by
  unfold CT.isZ at h
  split at h <;> simp_all [CT.zeroV]
theorem allZ_ok : ∀ {cs : List CT} {vs : List Value}, allZ cs vs = true → vs = cs.map CT.zeroV
  | [], [], _ => rfl
  | [], _ :: _, h => by simp [allZ] at h
  | _ :: _, [], h => by simp [allZ] at h
  | c :: cs, v :: vs, h => by
    simp only [allZ, Bool.and_eq_true] at h
    rw [CT.isZ_ok h.1, allZ_ok h.2]; rfl
def tokB (P : Program) (t : Nat) (ti : TI) : Bool :=
  match P.info? t, P.underlying t with
  | some i, some d => dOk ti.d d && (Nat.beq i.size ti.cells.length && (Nat.beq i.bytes ti.bytes && (match i.zero with
      | some z => allZ ti.cells z.cells.toList && (match z with | .agg _ => ti.isAgg | _ => !ti.isAgg)
      | none => false) && (!ti.eqable || (!P.stoodInHeld t && (!P.eqGuardType P.depth t && (P.fieldsOf t).toList.all fun f => !(f.name == "_"))))))
  | _, _ => false
def tabB (P : Program) : Nat → List (Option TI) → Bool
  | _, [] => true
  | t, none :: l => tabB P (t + 1) l
  | t, some ti :: l => tokB P t ti && tabB P (t + 1) l
theorem tokB_ok {P : Program} {t : Nat} {ti : TI} (h : tokB P t ti = true) : ∃ i d z, TOk P t ti i d z := by
  unfold tokB at h
  split at h
  · rename_i i d hi hd
    simp only [Bool.and_eq_true] at h
    obtain ⟨h1, h2, ⟨h3, h4⟩, h5⟩ := h
    split at h4
    · rename_i z hz
      simp only [Bool.and_eq_true, Bool.or_eq_true, Bool.not_eq_true'] at h4 h5
      refine ⟨i, d, z, hi, hd, h1, Nat.eq_of_beq_eq_true h2, Nat.eq_of_beq_eq_true h3, hz, allZ_ok h4.1, fun ha => ?_, fun he => ?_, fun ha => ?_⟩
      · have h := h4.2
        split at h
        · exact ⟨_, rfl⟩
        · rw [ha] at h; cases h
      · rcases h5 with h | ⟨g1, g2, g3⟩
        · rw [he] at h; cases h
        · exact ⟨g1, g2, fun f hf => by simpa using List.all_eq_true.1 g3 f hf⟩
      · have h := h4.2
        split at h
        · rw [ha] at h; cases h
        · rename_i hna
          cases z <;> first | rfl | exact absurd rfl (hna _)
    · cases h4
  · cases h
theorem tabB_ok {P : Program} : ∀ {l : List (Option TI)} {b : Nat}, tabB P b l = true → ∀ t ti, l[t]? = some (some ti) → ∃ i d z, TOk P (b + t) ti i d z
  | [], b, h, t, ti, ht => by simp at ht
  | x :: l, b, h, t, ti, ht => by
    cases t with
    | zero =>
      simp only [List.getElem?_cons_zero, Option.some.injEq] at ht
      subst ht
      simp only [tabB, Bool.and_eq_true] at h
      exact tokB_ok h.1
    | succ t =>
      rw [List.getElem?_cons_succ] at ht
      have h' : tabB P (b + 1) l = true := by
        cases x with
        | none => exact h
        | some x => simp only [tabB, Bool.and_eq_true] at h; exact h.2
      have := tabB_ok h' t ti ht
      rwa [Nat.add_assoc, Nat.add_comm 1 t] at this
theorem tab_ok {P : Program} {l : List (Option TI)} (h : tabB P 0 l = true) : TabOk P (fun t => l.getD t none) := fun t ti ht => by
  have : l[t]? = some (some ti) := by
    simp only [List.getD_eq_getElem?_getD] at ht
    cases hh : l[t]? with
    | none => rw [hh] at ht; cases ht
    | some x => rw [hh] at ht; simp only [Option.getD_some] at ht; rw [ht]
  simpa using tabB_ok h t ti this
def bodyOf (P : Program) (fs : List Nat) (f : FuncId) : Option Func := bif fs.elem f then P.funcs[f]? else none
def bodyB (P : Program) (ann : FuncId → FAnn) (f : Nat) : Bool :=
  match P.funcs[f]? with
  | some fn => !(fn.name == "runtime.NumGoroutine") && (match fn.body with
    | some c => codeOk (fun g => ((ann g).res, (ann g).objs, (ann g).mvs)) (ann f) c
    | none => true)
  | none => true
theorem body_ok {P : Program} {ann : FuncId → FAnn} {fs : List Nat} (h : fs.all (bodyB P ann) = true) (f : FuncId) (fn : Func) (hf : bodyOf P fs f = some fn) :
    P.funcs[f]? = some fn ∧ (fn.name == "runtime.NumGoroutine") = false ∧ ∀ c, fn.body = some c → codeOk (fun g => ((ann g).res, (ann g).objs, (ann g).mvs)) (ann f) c = true := by
  unfold bodyOf at hf
  cases he : fs.elem f with
  | false => rw [he] at hf; cases hf
  | true =>
    rw [he] at hf
    simp only [cond_true] at hf
    have := List.all_eq_true.1 h f (by simpa using he)
    unfold bodyB at this
    rw [hf] at this
    simp only [Bool.and_eq_true, Bool.not_eq_true'] at this
    refine ⟨hf, this.1, fun c hc => ?_⟩
    have h2 := this.2
    rw [hc] at h2; exact h2
end Go.Fw
set_option linter.unusedSimpArgs false
set_option linter.unusedVariables false
namespace Go.Fw
noncomputable section
def FSys.tell (S : FSys) (g : FuncId) (F : List AV → List AObj → Ab Res) : FSys :=
  { S with prim := fun f args st => bif Nat.beq f g then (match F args st with
    | some r => some (some r)
    | none => S.prim f args st) else S.prim f args st }
theorem SysOk.tell {P : Program} {S : FSys} (hS : SysOk P S) (g : FuncId) (F : List AV → List AObj → Ab Res) (h : ∀ args st r, F args st = some (true, r) → ∃ k, ev S k g args st = some r) : SysOk P (S.tell g F) where
  mixed := hS.mixed
  harm := hS.harm
  cok := hS.cok
  tab := hS.tab
  body := hS.body
  prim := fun f args st r st' hp => by
    simp only [FSys.tell] at hp
    cases hb : Nat.beq f g with
    | false => rw [hb] at hp; exact hS.prim f args st r st' hp
    | true =>
      rw [hb] at hp
      simp only [cond_true] at hp
      split at hp
      · rename_i x hF
        cases hp
        obtain ⟨k, hk⟩ := h args st _ hF
        obtain rfl := Nat.eq_of_beq_eq_true hb
        exact ev_ok hS k f args st r st' hk
      · exact hS.prim f args st r st' hp
abbrev Kon := Out → Option Res
def kont (C : Ctx) : Nat → Code → List Nat → List Nat → Kon → Nat × Code × Kon
  | blk, .seq a b, 0 :: p, ms, K => kont C blk a p ms fun
    | .norm σ' => evC C blk b σ' K
    | o => K o
  | blk, .seq a b, 1 :: p, ms, K => kont C blk b p ms K
  | blk, .cond _ a b, 0 :: p, ms, K => kont C blk a p ms K
  | blk, .cond _ a b, 1 :: p, ms, K => kont C blk b p ms K
  | blk, .block id b, 0 :: p, ms, K => kont C id b p ms fun
    | .exit j σ' => bif Nat.beq j id then K (.norm σ') else K (.exit j σ')
    | o => K o
  | blk, .loop b, 0 :: p, m :: ms, K =>
    let weak := fun σ : St => (σ.weaks C.T (look1 C.ann.loops blk)).canon C.m
    kont C blk b p ms fun
      | .norm σ' => loopGo weak (fun σ K => evC C blk b σ K) K m (weak σ')
      | o => K o
  | blk, c, _, _, K => (blk, c, K)
def ctxOf (S : FSys) (f : FuncId) (m k : Nat) : Ctx := { T := S.T, ann := S.ann f, m := m, fuel := k, call := callOf S (ev S k), sig := fun g => ((S.ann g).res, (S.ann g).objs, (S.ann g).mvs), fid := f, ent := S.ent, round := evR S k }
def finK (S : FSys) (f : FuncId) (m : Nat) (fn : Func) : Kon := fun
  | .norm σ => finish S.T (S.ann f) m fn.results.toList σ
  | .ret σ => finish S.T (S.ann f) m fn.results.toList σ
  | _ => none
def loopAt (S : FSys) (f : FuncId) (fn : Func) (m k : Nat) (p ms : List Nat) (n : Nat) (σ : St) : Option Res :=
  match fn.body with
  | none => none
  | some c =>
    match kont (ctxOf S f m k) 0 c p ms (finK S f m fn) with
    | (blk, .loop b, K) => loopGo (fun σ : St => (σ.weaks S.T (look1 (S.ann f).loops blk)).canon m) (fun σ K => evC (ctxOf S f m k) blk b σ K) K n σ
    | _ => none
def roundAt (S : FSys) (f : FuncId) (fn : Func) (m k : Nat) (p ms : List Nat) (R : St → Option Res) (σ : St) : Option Res :=
  match fn.body with
  | none => none
  | some c =>
    match kont (ctxOf S f m k) 0 c p ms (finK S f m fn) with
    | (blk, .loop b, K) => evC (ctxOf S f m k) blk b σ fun
      | .norm σ' => R ((σ'.weaks S.T (look1 (S.ann f).loops blk)).canon m)
      | o => K o
    | _ => none
theorem loopAt_succ (S : FSys) (f : FuncId) (fn : Func) (m k : Nat) (p ms : List Nat) (n : Nat) (σ : St) :
    loopAt S f fn m k p ms (n + 1) σ = roundAt S f fn m k p ms (loopAt S f fn m k p ms n) σ := by
  unfold loopAt roundAt
  cases fn.body with
  | none => rfl
  | some c =>
    simp only
    generalize kont (ctxOf S f m k) 0 c p ms (finK S f m fn) = x
    obtain ⟨blk, c', K⟩ := x
    cases c' <;> first | rfl | (simp only [loopGo])
def tm (n : Nat) (l : List (Nat × AV)) : List AV := (List.range n).map fun i => match l.find? fun p => Nat.beq p.1 i with | some p => p.2 | none => .undef
end
end Go.Fw
set_option linter.unusedSimpArgs false
set_option linter.unusedVariables false
namespace Go.Fw
noncomputable section
theorem wrap64 {n : Int} (h1 : -9223372036854775808 ≤ n) (h2 : n ≤ 9223372036854775807) : IntKind.i64.wrap n = n := by
  simp only [IntKind.wrap, IntKind.signed, IntKind.bits]
  simp
  omega
theorem loop_up {S : FSys} {f : FuncId} {fn : Func} {m k : Nat} {p ms : List Nat} (σ : Nat → St) (len : Nat) (F : Nat → Option Res)
    (hstep : ∀ i, i < len → ∀ R : St → Option Res, R (σ (i + 1)) = F (i + 1) → roundAt S f fn m k p ms R (σ i) = F i)
    (hend : ∀ R : St → Option Res, roundAt S f fn m k p ms R (σ len) = F len) : ∀ (n i : Nat), i ≤ len → len - i < n → loopAt S f fn m k p ms n (σ i) = F i
  | 0, i, _, h => by omega
  | n + 1, i, hi, h => by
    rw [loopAt_succ]
    rcases Nat.lt_or_eq_of_le hi with h1 | h1
    · exact hstep i h1 _ (loop_up σ len F hstep hend n (i + 1) h1 (by omega))
    · subst h1; exact hend _
end
end Go.Fw
set_option linter.unusedSimpArgs false
set_option linter.unusedVariables false
namespace Go.Fw
noncomputable section
theorem SysOk.tellCF {P : Program} {S : FSys} (hS : SysOk P S) (g : FuncId) (F : List AV → List AObj → Ab Res)
    (h : ∀ args st r st', F args st = some (true, (r, st')) → CF P S.T g args st (S.ann g).mvs r st' ∧ (S.ann g).res.ok r = true ∧ OS.okL (S.ann g).objs st' = true ∧ st.length ≤ st'.length) : SysOk P (S.tell g F) where
  mixed := hS.mixed
  harm := hS.harm
  cok := hS.cok
  tab := hS.tab
  body := hS.body
  prim := fun f args st r st' hp => by
    simp only [FSys.tell] at hp
    cases hb : Nat.beq f g with
    | false => rw [hb] at hp; exact hS.prim f args st r st' hp
    | true =>
      rw [hb] at hp
      simp only [cond_true] at hp
      split at hp
      · rename_i x hF
        cases hp
        obtain rfl := Nat.eq_of_beq_eq_true hb
        exact h args st r st' hF
      · exact hS.prim f args st r st' hp
theorem CF_externS {P : Program} {T : Tab} {f : FuncId} {fn : Func} {e : Array Value → Sem Value} (hf : P.funcs[f]? = some fn) (hname : (fn.name == "runtime.NumGoroutine") = false)
    (hb : fn.body.isNone = true) (hn : Extern.findNext fn = none) (he : Extern.find fn = some e) {args : List AV} {st : List AObj} {mvs : List Nat} {r : AV}
    (h : ∀ (E : Env) (Z : Nat → Prop) (w : World) (vals : List Value), SR T E Z w st → VRs T E Z w args vals → ∃ v, (e vals.toArray).run P w = .ok v w ∧ VR T E Z w r v) : CF P T f args st mvs r st := fun E Z w vals hs hv => by
  obtain ⟨v, hr, hvr⟩ := h E Z w vals hs hv
  refine .inr (.inl ⟨v, w, ?_, E, Z, hs, hvr, Ext.refl _ _ _, Nat.le_refl _, fun _ _ _ => ⟨rfl, rfl⟩⟩)
  rw [run_callFunc_extern hf hname hb hn he, hr]
  rfl
end
end Go.Fw
