/- The framework, part Za: a law that is true of all values without addresses holds as its row asks. -/
import Derived.Test.YtgcdiccbehiijaaFwZ
set_option linter.all false
set_option linter.unusedSimpArgs false
set_option linter.unusedVariables false
namespace Go.Fw
open Go.ChangeShapes Go.RowKit
def ArgOf (T : Tab) (t : Nat) (av : AV) : Prop :=
  match T t with
  | some ti => (match ti.isAgg with
    | true => ∃ avs, av = .agg avs ∧ rowOk (cts T t) avs = true ∧ ∀ v ∈ avs, Fine T v
    | false => rowOk (cts T t) [av] = true ∧ Fine T av)
  | none => False
def Args (T : Tab) : List Nat → List AV → Prop
  | [], [] => True
  | t :: ts, a :: as => ArgOf T t a ∧ Args T ts as
  | _, _ => False
section
variable {P : Program} {T : Tab} {E : Env} {Z : Nat → Prop} {W W' : World} {H : Type} {enc : TypeId × Value → H}
theorem arg_ok (hT : TabOk P T) {ts : List Nat} (hp : plainT T ts = true) (hZ : ∀ b, b < W.heap.size → Z b) {t : Nat} (ht : t ∈ ts) {v : Value} {d : DataW H} {p : List MemPlace} {base : Nat}
    (h : DataW.Trod enc P W 0 (fun _ => true) true t v d p) (hval : Value.okWide P W .any base t v) (hw : ∀ n ∈ d.weights P t, n ≤ reachBytes) : ∃ av, ArgOf T t av ∧ VR T E Z W av v := by
  obtain ⟨fuel, hf⟩ := h
  obtain ⟨avs, h1, h2, h3⟩ := read_ok hT hp hZ fuel t v.cells.toList _ ht hf hw
  have hpt := List.all_eq_true.1 hp t ht
  unfold ArgOf
  split at hpt
  · rename_i ti hti
    obtain ⟨i0, dd, z, hto⟩ := hT t ti hti
    simp only [hti]
    have hdo := hto.desc
    cases hagg : ti.isAgg with
    | true =>
      simp only
      have hcs : ∃ cs, v = .agg cs := by
        unfold TI.isAgg at hagg
        split at hagg
        · rename_i fs hd
          rw [hd] at hdo
          obtain ⟨fields, rfl, _⟩ := dOk_struct hdo
          obtain ⟨cs, hcs, _⟩ := WideShapes.okWide_struct hto.und hval
          exact ⟨cs, hcs⟩
        · rename_i n e hd
          rw [hd] at hdo
          obtain rfl := dOk_arr hdo
          simp only [Value.okWide, hto.und] at hval
          obtain ⟨cs, h1, _⟩ := hval
          exact ⟨cs, h1⟩
        · cases hagg
      obtain ⟨cs, rfl⟩ := hcs
      refine ⟨.agg avs, ⟨avs, rfl, h1, h3⟩, ?_⟩
      have hc : (Value.agg cs).cells = cs := rfl
      rw [hc] at h2
      have := VR.agg (T := T) (E := E) (Z := Z) (w := W) avs cs.toList h2.1 h2.2
      simpa using this
    | false =>
      simp only
      have hone : v.cells.toList = [v] := by
        unfold TI.isAgg at hagg
        split at hpt
        · rename_i k hd; rw [hd] at hdo; obtain rfl := dOk_int hdo
          obtain ⟨n, rfl⟩ := WideShapes.okWide_int hto.und hval; rfl
        · rename_i hd; rw [hd] at hdo
          have : dd = .bool := by cases dd <;> simp_all [dOk]
          subst this
          obtain ⟨n, rfl⟩ := WideShapes.okWide_bool hto.und hval; rfl
        · rename_i hd; rw [hd] at hdo; obtain rfl := dOk_str hdo
          obtain ⟨n, rfl⟩ := WideShapes.okWide_string hto.und hval; rfl
        · rename_i e hd; rw [hd] at hdo; obtain rfl := dOk_sl hdo
          obtain ⟨a, l, c, rfl⟩ := WideShapes.okWide_slice hto.und hval; rfl
        · rename_i fs hd; rw [hd] at hagg; cases hagg
        · rename_i n e hd; rw [hd] at hagg; cases hagg
        · cases hpt
      rw [hone] at h2
      have hl := h2.1
      match avs, hl with
      | [av], _ => exact ⟨av, ⟨h1, h3 av List.mem_cons_self⟩, h2.2 0 av v rfl rfl⟩
  · cases hpt
theorem args_ok (hT : TabOk P T) {ts : List Nat} (hp : plainT T ts = true) (hZ : ∀ b, b < W.heap.size → Z b) {base : Nat} : ∀ (ps : List Nat) (vs : List Value) (ds : List (DataW H)) (q : List MemPlace),
    (∀ t ∈ ps, t ∈ ts) → DataW.TrodAll enc P W 0 (fun _ => true) true ps vs ds q → (∀ (j : Nat) t v, ps[j]? = some t → vs[j]? = some v → Value.okWide P W .any base t v) →
    (∀ (j : Nat) t (d : DataW H), ps[j]? = some t → ds[j]? = some d → ∀ n ∈ d.weights P t, n ≤ reachBytes) → ∃ avs, Args T ps avs ∧ VRs T E Z W avs vs
  | [], vs, ds, q, hts, h, hv, hw => by
    obtain ⟨rfl, rfl, _⟩ := trodAll_nil h
    exact ⟨[], trivial, rfl, fun j av v hj => by simp at hj⟩
  | t :: ps, vs, ds, q, hts, h, hv, hw => by
    obtain ⟨v, vs', d, ds', p, q', rfl, rfl, _, h1, h2⟩ := trodAll_cons h
    obtain ⟨av, ha, hr⟩ := arg_ok (E := E) hT hp hZ (hts t List.mem_cons_self) h1 (hv 0 t v rfl rfl) (hw 0 t d rfl rfl)
    obtain ⟨avs, hA, hR⟩ := args_ok hT hp hZ ps vs' ds' q' (fun x hx => hts x (List.mem_cons_of_mem _ hx)) h2 (fun j t v hj hv' => hv (j + 1) t v hj hv') (fun j t d hj hd => hw (j + 1) t d hj hd)
    refine ⟨av :: avs, ⟨ha, hA⟩, by simp [hR.1], fun j x u hj hu => ?_⟩
    cases j with
    | zero => simp at hj hu; subst hj; subst hu; exact hr
    | succ j => exact hR.2 j x u (by simpa using hj) (by simpa using hu)
theorem trodAll_below (hl : laidOutB P = true) (hb : Below W.heap.size W W') : ∀ {ps : List Nat} {vs : List Value} {ds : List (DataW H)} {q : List MemPlace},
    (ps.all fun t => P.readableRec t && decide (t < P.types.size)) = true → DataW.TrodAll enc P W 0 (fun _ => true) true ps vs ds q →
    DataW.TrodAll enc P W' 0 (fun b => decide (b < W.heap.size)) true ps vs ds q
  | [], vs, ds, q, hr, h => by
    obtain ⟨rfl, rfl, rfl⟩ := trodAll_nil h
    exact trodAll_mk0
  | t :: ps, vs, ds, q, hr, h => by
    obtain ⟨v, vs', d, ds', p, q', rfl, rfl, rfl, h1, h2⟩ := trodAll_cons h
    simp only [List.all_cons, Bool.and_eq_true, decide_eq_true_eq] at hr
    exact trodAll_cons_mk (Below.trod hl hr.1.1 hr.1.2 h1 hb (by obtain ⟨m, hm⟩ := h1; exact DataW.trod_lt m _ _ _ hm)) (trodAll_below hl hb hr.2 h2)
theorem law_calls {S : FSys} (hS : SysOk P S) {ts : List Nat} (hp : plainT S.T ts = true) {n : FuncId} {fn : Func} (hfn : P.funcs[n]? = some fn) (hbody : fn.body.isSome = true)
    (hname : (fn.name == "runtime.NumGoroutine") = false) (hts : fn.params.toList.all (fun t => ts.elem t) = true)
    (pure : ∀ avs, Args S.T fn.params.toList avs → ∃ mvs, CF P S.T n avs [] mvs (.k (.bool true)) [])
    {base : Nat} {args : Array Value} {ds : List (DataW H)} {q : List MemPlace} (hA : DataW.TrodAll enc P W 0 (fun _ => true) true fn.params.toList args.toList ds q)
    (hval : ∀ (j : Nat) t v, fn.params[j]? = some t → args[j]? = some v → Value.okWide P W .any base t v)
    (hw : ∀ (j : Nat) t (d : DataW H), fn.params.toList[j]? = some t → ds[j]? = some d → ∀ n ∈ d.weights P t, n ≤ reachBytes) :
    Calls P n args W fun e W' => e = .returned (.bool true) ∧ Below W.heap.size W W' := by
  obtain ⟨avs, hAs, hR⟩ := args_ok (E := ⟨fun _ => none, fun _ => 0⟩) (Z := fun b => b < W.heap.size) hS.tab hp (fun b hb => hb) fn.params.toList args.toList ds q
    (fun t ht => by simpa using List.all_eq_true.1 hts t ht) hA (fun j t v hj hv => hval j t v (by simpa using hj) (by simpa using hv)) hw
  obtain ⟨mvs, hcf⟩ := pure avs hAs
  have hsr : SR S.T ⟨fun _ => none, fun _ => 0⟩ (fun b => b < W.heap.size) W [] :=
    ⟨fun id o h => by simp at h, fun _ _ => rfl, fun i j B h => by simp [owns] at h, fun B ⟨i, h⟩ => by simp [owns] at h, fun b h => h⟩
  have hent : (callFunc n args).run P W = .ok (.enter n args) W := by
    obtain ⟨c, hb⟩ := Option.isSome_iff_exists.1 hbody
    have hnm' : ¬ fn.name = "runtime.NumGoroutine" := by simpa using hname
    simp [callFunc, hfn, hb, hnm']
  have post : ∀ v W', Post S.T ⟨fun _ => none, fun _ => 0⟩ (fun b => b < W.heap.size) W [] mvs (.k (.bool true)) [] v W' → v = .bool true ∧ Below W.heap.size W W' := fun v W' ⟨E', Z', p1, p2, p3, _, _⟩ => by
    refine ⟨VR_bool p2, p3.os, p3.tape, p3.output, p3.size, fun b hb => p3.same b hb fun ⟨i, h⟩ => by simp [owns] at h⟩
  rcases hcf _ _ W args.toList hsr hR with ⟨_, h2⟩ | ⟨v, w', h1, _⟩ | ⟨row, as, h1, _⟩
  · simp only [Array.toArray_toList] at h2
    refine Calls.mono h2 fun e W' h3 => ?_
    obtain ⟨v, he, hpost⟩ := h3
    obtain ⟨rfl, hb⟩ := post v W' hpost
    exact ⟨he, hb⟩
  · simp only [Array.toArray_toList] at h1; rw [hent] at h1; cases h1
  · simp only [Array.toArray_toList] at h1; rw [hent] at h1; cases h1
theorem law_returnsC {C : Checked} {S : FSys} (hS : SysOk C.prog S) {ts : List Nat} (hp : plainT S.T ts = true) {n : FuncId} {fn : Func} (hfn : C.prog.funcs[n]? = some fn) (hbody : fn.body.isSome = true)
    (hname : (fn.name == "runtime.NumGoroutine") = false) (hts : fn.params.toList.all (fun t => ts.elem t) = true)
    (pure : ∀ avs, Args S.T fn.params.toList avs → ∃ mvs, CF C.prog S.T n avs [] mvs (.k (.bool true)) [])
    {os : Os} {s : ChangeSpec} {conds : List PathCond} (hvars : s.vars = []) (hspec : ∀ ds : List (DataW H), ds.length = fn.params.size → s.fn H ds = { results := [.lit (.bool true)], args := ds })
    {rt : TypeId} (hres : fn.resultTypes = #[rt]) (hrt : C.prog.underlying rt = some .bool) (hlaid : laidOutB C.prog = true)
    (hread : (fn.params.toList.all fun t => C.prog.readableRec t && decide (t < C.prog.types.size)) = true)
    (own : ownKnob C.prog.godebug = none) (started : os.Started) (noInit : C.prog.inits.idxOf? n = none)
    (witness : ∃ (w : World) (tape : Tape) (i : Input), w.os = os ∧ (w.forCall tape i).Shaped C.prog ∧ i.vars = [] ∧ Input.okWide C.prog (w.forCall tape i) .any w.heap.size n i ∧
      s.pre6 enc C.prog fn conds false (w.forCall tape i).memory i.args ∧ ({} : Assume).holds C.prog (lone (Frame.enter C.prog n i.args .normal) [] (w.forCall tape i))) :
    ReturnsInHanded {} C os n .any (s.pre6 enc C.prog fn conds false) (s.post enc C.prog fn false true false false) := by
  refine returnsInHanded_of_change_sized (C := C) own started noInit hfn witness ?_
  intro W base args ds gs before hval hW hcnd hsz _
  have hW' := hW
  obtain ⟨p, q, hA, hV, rfl, hfz, hnd⟩ := hW
  rw [hvars] at hV
  obtain ⟨rfl, rfl⟩ := trodVars_none hV
  have hlen : ds.length = fn.params.size := by
    have : ∀ {ps : List Nat} {vs : List Value} {ds : List (DataW H)} {q : List MemPlace}, DataW.TrodAll enc C.prog W 0 (fun _ => true) true ps vs ds q → ds.length = ps.length := by
      intro ps
      induction ps with
      | nil => intro vs ds q h; obtain ⟨_, rfl, _⟩ := trodAll_nil h; rfl
      | cons t ps ih =>
        intro vs ds q h
        obtain ⟨v, vs', d, ds', p, q', rfl, rfl, _, _, h2⟩ := trodAll_cons h
        simp [ih h2]
    simpa using this hA
  refine (law_calls hS hp hfn hbody hname hts pure hA hval (fun j t d hj hd m hm => ?_)).mono fun e W' ⟨he, bel⟩ => ?_
  · have := List.all_eq_true.1 hsz m (by
      refine DataW.weights_mem_each (j := j) (t := t) (d := d) ?_ ?_ m hm
      · rw [List.getElem?_append_left (List.getElem?_eq_some_iff.1 hj).1]; exact hj
      · rw [List.getElem?_append_left (List.getElem?_eq_some_iff.1 hd).1]; exact hd)
    simpa using this
  · subst he
    have hsf := hspec (ds ++ []) (by simpa using hlen)
    refine ⟨_, rfl, ds, [], _, [], p, [], hW', ?_, ?_, ?_, bel.frame _, fun h => by cases h⟩
    · rw [hsf, hres]
      exact trodAll_mk1 (shut_bool hrt _)
    · rw [hsf]
      simpa using trodAll_below hlaid bel hread hA
    · rw [hvars, hsf]; rfl
theorem law_returns {C : Checked} {S : FSys} (hS : SysOk C.prog S) {ts : List Nat} (hp : plainT S.T ts = true) {n : FuncId} {fn : Func} (hfn : C.prog.funcs[n]? = some fn) (hbody : fn.body.isSome = true)
    (hname : (fn.name == "runtime.NumGoroutine") = false) (hts : fn.params.toList.all (fun t => ts.elem t) = true)
    (pure : ∀ avs, Args S.T fn.params.toList avs → ∃ k, ev S k n avs [] = some (.k (.bool true), []))
    {os : Os} {s : ChangeSpec} {conds : List PathCond} (hvars : s.vars = []) (hspec : ∀ ds : List (DataW H), ds.length = fn.params.size → s.fn H ds = { results := [.lit (.bool true)], args := ds })
    {rt : TypeId} (hres : fn.resultTypes = #[rt]) (hrt : C.prog.underlying rt = some .bool) (hlaid : laidOutB C.prog = true)
    (hread : (fn.params.toList.all fun t => C.prog.readableRec t && decide (t < C.prog.types.size)) = true)
    (own : ownKnob C.prog.godebug = none) (started : os.Started) (noInit : C.prog.inits.idxOf? n = none)
    (witness : ∃ (w : World) (tape : Tape) (i : Input), w.os = os ∧ (w.forCall tape i).Shaped C.prog ∧ i.vars = [] ∧ Input.okWide C.prog (w.forCall tape i) .any w.heap.size n i ∧
      s.pre6 enc C.prog fn conds false (w.forCall tape i).memory i.args ∧ ({} : Assume).holds C.prog (lone (Frame.enter C.prog n i.args .normal) [] (w.forCall tape i))) :
    ReturnsInHanded {} C os n .any (s.pre6 enc C.prog fn conds false) (s.post enc C.prog fn false true false false) :=
  law_returnsC hS hp hfn hbody hname hts (fun avs h => by obtain ⟨k, hk⟩ := pure avs h; exact ⟨_, (ev_ok hS k n avs [] _ _ hk).1⟩) hvars hspec hres hrt hlaid hread own started noInit witness
end
end Go.Fw
