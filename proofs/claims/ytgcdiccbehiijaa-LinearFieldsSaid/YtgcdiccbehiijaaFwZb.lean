/- The framework, part Zb: functions of Go's library that have no body here. -/
import Derived.Test.YtgcdiccbehiijaaFwZa
import Derived.Laws.Externs
set_option linter.all false
set_option linter.unusedSimpArgs false
set_option linter.unusedVariables false
namespace Go.Fw

theorem CF_extern {P : Program} {T : Tab} {f : FuncId} {fn : Func} {e : Array Value → Sem Value} (hf : P.funcs[f]? = some fn) (hname : (fn.name == "runtime.NumGoroutine") = false)
    (hb : fn.body.isNone = true) (hn : Extern.findNext fn = none) (he : Extern.find fn = some e) {args : List AV} {st : List AObj} {mvs : List Nat} {r : AV}
    (h : ∀ (E : Env) (Z : Nat → Prop) (w : World) (vals : List Value), VRs T E Z w args vals → ∃ v, (e vals.toArray).run P w = .ok v w ∧ VR T E Z w r v) : CF P T f args st mvs r st := fun E Z w vals hs hv => by
  obtain ⟨v, hr, hvr⟩ := h E Z w vals hv
  refine .inr (.inl ⟨v, w, ?_, E, Z, hs, hvr, Ext.refl _ _ _, Nat.le_refl _, fun _ _ _ => ⟨rfl, rfl⟩⟩)
  rw [run_callFunc_extern hf hname hb hn he, hr]
  rfl

theorem VRs_two {T : Tab} {E : Env} {Z : Nat → Prop} {w : World} {a b : AV} {vals : List Value} (h : VRs T E Z w [a, b] vals) : ∃ x y, vals = [x, y] ∧ VR T E Z w a x ∧ VR T E Z w b y := by
  obtain ⟨hl, hr⟩ := h
  match vals, hl with
  | [x, y], _ => exact ⟨x, y, rfl, hr 0 a x rfl rfl, hr 1 b y rfl rfl⟩

/-- internal/bytealg.IndexByteString -/
theorem CF_indexByte {P : Program} {T : Tab} {f : FuncId} {fn : Func} (hf : P.funcs[f]? = some fn) (hname : (fn.name == "runtime.NumGoroutine") = false)
    (hb : fn.body.isNone = true) (hn : Extern.findNext fn = none) (he : Extern.find fn = some Extern.BytealgIndexByte.indexByte) (s : ByteArray) (c : Int) (st : List AObj) (mvs : List Nat) :
    CF P T f [.k (.string s), .k (.int .u8 c)] st mvs (.k (.int .i64 (firstIdx s c.toNat.toUInt8))) st :=
  CF_extern hf hname hb hn he fun E Z w vals hv => by
    obtain ⟨x, y, rfl, hx, hy⟩ := VRs_two hv
    obtain rfl := VR_str hx
    obtain rfl := VR_int hy
    exact ⟨_, run_indexByte_string s c w, .k _ rfl⟩

end Go.Fw
