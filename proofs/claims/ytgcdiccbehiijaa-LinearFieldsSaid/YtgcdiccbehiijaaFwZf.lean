/- The framework, part Zf: functions told by what a call of them comes to; more functions of Go's library that have no body here; arrays with room behind their rows. -/
import Derived.Test.YtgcdiccbehiijaaFwZe
import Derived.Lib.Bytealg
import Derived.Lib.Overlaps
set_option linter.all false
set_option linter.unusedSimpArgs false
set_option linter.unusedVariables false
namespace Go.Fw

theorem SysOk.tellCF {P : Program} {S : FSys} (hS : SysOk P S) (g : FuncId) (F : List AV → List AObj → Ab Res)
    (h : ∀ args st r st', F args st = some (true, (r, st')) → CF P S.T g args st (S.ann g).mvs r st' ∧ (S.ann g).res.ok r = true ∧ OS.okL (S.ann g).objs st' = true ∧ st.length ≤ st'.length) : SysOk P (S.tell g F) where
  mixed := hS.mixed
  harm := hS.harm
  tab := hS.tab
  body := hS.body
  prim := fun f args st r st' hp => by
    simp only [FSys.tell] at hp
    cases hb : Nat.beq f g with
    | false => rw [hb] at hp; exact hS.prim f args st r st' hp
    | true =>
      rw [hb] at hp
      simp only [cond_true] at hp
      split at hp
      · rename_i x hF
        cases hp
        obtain rfl := Nat.eq_of_beq_eq_true hb
        exact h args st r st' hF
      · exact hS.prim f args st r st' hp

theorem CF_externS {P : Program} {T : Tab} {f : FuncId} {fn : Func} {e : Array Value → Sem Value} (hf : P.funcs[f]? = some fn) (hname : (fn.name == "runtime.NumGoroutine") = false)
    (hb : fn.body.isNone = true) (hn : Extern.findNext fn = none) (he : Extern.find fn = some e) {args : List AV} {st : List AObj} {mvs : List Nat} {r : AV}
    (h : ∀ (E : Env) (Z : Nat → Prop) (w : World) (vals : List Value), SR T E Z w st → VRs T E Z w args vals → ∃ v, (e vals.toArray).run P w = .ok v w ∧ VR T E Z w r v) : CF P T f args st mvs r st := fun E Z w vals hs hv => by
  obtain ⟨v, hr, hvr⟩ := h E Z w vals hs hv
  refine .inr (.inl ⟨v, w, ?_, E, Z, hs, hvr, Ext.refl _ _ _, Nat.le_refl _, fun _ _ _ => ⟨rfl, rfl⟩⟩)
  rw [run_callFunc_extern hf hname hb hn he, hr]
  rfl

def cmpB (a b : ByteArray) : Int := Lib.compareBytes a.data.toList b.data.toList

/-- internal/bytealg.abigen_runtime_cmpstring -/
theorem CF_cmpstring {P : Program} {T : Tab} {f : FuncId} {fn : Func} (hf : P.funcs[f]? = some fn) (hname : (fn.name == "runtime.NumGoroutine") = false)
    (hb : fn.body.isNone = true) (hn : Extern.findNext fn = none) (he : Extern.find fn = some Extern.BytealgCompare.compare) (a b : ByteArray) (st : List AObj) (mvs : List Nat) :
    CF P T f [.k (.string a), .k (.string b)] st mvs (.k (.int .i64 (cmpB a b))) st :=
  CF_extern hf hname hb hn he fun E Z w vals hv => by
    obtain ⟨x, y, rfl, hx, hy⟩ := VRs_two hv
    obtain rfl := VR_str hx
    obtain rfl := VR_str hy
    exact ⟨_, Lib.run_compareString a b w, .k _ rfl⟩

theorem arr_block {T : Tab} {E : Env} {Z : Nat → Prop} {w : World} {id t : Nat} {kd : SK} {rows : List (List AV)} (h : OR T E Z w id (.arr t kd rows)) (hne : rows ≠ []) (hsz : 0 < (cts T t).length) :
    ∃ (B o c : Nat) (vs : List Value) (ty : TypeId), E.ρ id = some (.slice (some ⟨B, o, none⟩) rows.length c) ∧ c ≠ 0 ∧ rows.length ≤ c ∧ w.heap[B]? = some (.cells vs.toArray ty (0, 0)) ∧ vs.length ≠ 0 := by
  cases h with
  | arr0 _ _ A he hn hk hs => exact absurd rfl hne
  | arr _ _ _ B o c vs ty hn he hc h0 hf hs hb ho hok hr =>
    refine ⟨B, o, c, vs, ty, he, h0, hc, hb, fun hv => ?_⟩
    have : 0 < c * (cts T t).length := Nat.mul_pos (by omega) hsz
    omega

theorem shape_of {w : World} {B : Nat} {vs : List Value} {ty : TypeId} (h : w.heap[B]? = some (.cells vs.toArray ty (0, 0))) : w.shape? B = some (ty, vs.length) := by
  simp [World.shape?, h]
theorem frozen_of {w : World} {B o : Nat} {vs : List Value} {ty : TypeId} (h : w.heap[B]? = some (.cells vs.toArray ty (0, 0))) : w.frozen? ⟨B, o, none⟩ = false := by
  simp [World.frozen?, h]

/-- slices.overlaps of two owned arrays -/
theorem CF_overlaps {P : Program} {T : Tab} (hT : TabOk P T) {f : FuncId} {fn : Func} {tS tR e : Nat} (hf : P.funcs[f]? = some fn) (hname : (fn.name == "runtime.NumGoroutine") = false)
    (hb : fn.body.isNone = true) (hn : Extern.findNext fn = none) (he : Extern.find fn = some (Extern.SlicesOverlaps.overlaps #[tS, tS] #[tR])) {c0 b0} (htS : T tS = some ⟨.sl e, c0, b0⟩) (hte : (T e).isSome = true) (hsz : 0 < (cts T e).length)
    {kd kd' : SK} {r0 r1 : List (List AV)} {a n : Nat} (h0 : r0 ≠ []) (hn0 : 0 < n) (hb1 : a + n ≤ r1.length) (mvs : List Nat) :
    CF P T f [.sr 0, .ss 1 a n] [.arr e kd r0, .arr e kd' r1] mvs (.k (.bool false)) [.arr e kd r0, .arr e kd' r1] :=
  CF_externS hf hname hb hn he fun E Z w vals hs hv => by
    obtain ⟨x, y, rfl, hx, hy⟩ := VRs_two hv
    obtain ⟨i, d, z, hto⟩ := hT _ _ htS
    have hd := dOk_sl hto.desc
    subst hd
    obtain ⟨te, hte⟩ := Option.isSome_iff_exists.1 hte
    obtain ⟨ie, de, ze, htoe⟩ := hT _ _ hte
    have o0 := hs.obj 0 _ rfl
    have o1 := hs.obj 1 _ rfl
    obtain ⟨B0, p0, c0, vs0, ty0, q0, q0', q0'', g0, l0⟩ := arr_block o0 h0 hsz
    obtain ⟨B1, p1, c1, vs1, ty1, q1, q1', q1'', g1, l1⟩ := arr_block o1 (by rintro rfl; simp at hb1; omega) hsz
    have hne : B0 ≠ B1 := fun eq => by
      have w0 : owns E [.arr e kd r0, .arr e kd' r1] 0 B0 := ⟨_, _, _, q0, q0', rfl⟩
      have w1 : owns E [.arr e kd r0, .arr e kd' r1] 1 B1 := ⟨_, _, _, q1, q1', rfl⟩
      have := hs.inj 0 1 B0 w0 (eq ▸ w1)
      cases this
    cases hx with
    | sr _ A m c hE =>
      rw [q0] at hE
      cases hE
      cases hy with
      | ss _ _ _ A A' len c hE hb' hA =>
        rw [q1] at hE
        cases hE
        have hAA := hA (by omega)
        subst hAA
        refine ⟨.bool false, ?_, .k _ rfl⟩
        exact Lib.run_overlaps_apart w tS tR e hto.und ie.size (fun w => run_szOf htoe.info) ⟨B0, p0, none⟩ ⟨B1, p1 + a * E.sz 1, none⟩ _ _ _ _ hne ty0 ty1 vs0.length vs1.length (shape_of g0) (shape_of g1) l1 (frozen_of g0) (frozen_of g0)

/-- a call, seen in other words -/
theorem CF_entry {P : Program} {T : Tab} {f : FuncId} {args : List AV} {st : List AObj} {mvs : List Nat} {r : AV} {st' : List AObj}
    (h : ∀ (E : Env) (Z : Nat → Prop) (w : World) (vals : List Value), SR T E Z w st → VRs T E Z w args vals → ∃ E1 args1 st1, SR T E1 Z w st1 ∧ VRs T E1 Z w args1 vals ∧ (∀ B, Owned E1 st1 B ↔ Owned E st B) ∧ st1.length = st.length ∧
      (∀ i, i < st.length → i ∉ mvs → E1.ρ i = E.ρ i ∧ E1.sz i = E.sz i) ∧ CF P T f args1 st1 mvs r st') : CF P T f args st mvs r st' := fun E Z w vals hs hv => by
  obtain ⟨E1, args1, st1, h1, h2, h3, h4, h5, h6⟩ := h E Z w vals hs hv
  have hO : Owned E1 st1 = Owned E st := funext fun B => propext (h3 B)
  have hp : ∀ v w', Post T E1 Z w st1 mvs r st' v w' → Post T E Z w st mvs r st' v w' := fun v w' ⟨E', Z', p1, p2, p3, p4, p5⟩ =>
    ⟨E', Z', p1, p2, hO ▸ p3, by omega, fun i hi hm => ⟨(p5 i (by omega) hm).1.trans (h5 i hi hm).1, (p5 i (by omega) hm).2.trans (h5 i hi hm).2⟩⟩
  rcases h6 E1 Z w vals h1 h2 with ⟨k1, k2⟩ | ⟨v, w', k1, k2⟩ | ⟨row, as, k1, k2⟩
  · exact .inl ⟨k1, k2.mono fun e w' ⟨v, hv, hq⟩ => ⟨v, hv, hp v w' hq⟩⟩
  · exact .inr (.inl ⟨v, w', k1, hp v w' k2⟩)
  · exact .inr (.inr ⟨row, as, k1, k2.mono fun v w' hq => hp v w' hq⟩)

theorem owned_two {E : Env} {o0 o1 : AObj} {B : Nat} : Owned E [o0, o1] B ↔ ownsO E 0 o0 B ∨ ownsO E 1 o1 B := by
  constructor
  · rintro ⟨id, hid⟩
    obtain ⟨o, hst, ho⟩ := owns_get hid
    match id, hst with
    | 0, hst => cases hst; exact .inl ho
    | 1, hst => cases hst; exact .inr ho
    | n + 2, hst => simp at hst
  · rintro (h | h)
    · exact ⟨0, h⟩
    · exact ⟨1, h⟩

/-- an array with zeros behind its rows, as two that have none -/
theorem CF_fresh {P : Program} {T : Tab} {f : FuncId} {t t1 : Nat} {te : TI} (hte : T t = some te) (hsz : 0 < (cts T t).length) {kd1 : SK} {rows rows1 : List (List AV)} {x : Value} {r : AV} {mvs : List Nat} {st' : List AObj} (hm : 0 ∈ mvs)
    (hfull : CF P T f [.sr 0, .k x, .sr 1] [.arr t .full rows, .arr t1 kd1 rows1] mvs r st')
    (hroom : ∀ d, CF P T f [.ss 0 0 rows.length, .k x, .sr 1] [.arr t .full (rows ++ List.replicate (d + 1) ((cts T t).map CT.zero)), .arr t1 kd1 rows1] mvs r st') :
    CF P T f [.sr 0, .k x, .sr 1] [.arr t .fresh rows, .arr t1 kd1 rows1] mvs r st' := CF_entry fun E Z w vals hs hv => by
  have o0 := hs.obj 0 _ rfl
  have o1 := hs.obj 1 _ rfl
  have hall : ∀ (o' : AObj), OR T E Z w 0 o' → (∀ B, ownsO E 0 o' B ↔ ownsO E 0 (.arr t .fresh rows) B) → SR T E Z w [o', .arr t1 kd1 rows1] ∧ ∀ B, Owned E [o', .arr t1 kd1 rows1] B ↔ Owned E [.arr t .fresh rows, .arr t1 kd1 rows1] B := fun o' ho' hown => by
    have hO : ∀ B, Owned E [o', .arr t1 kd1 rows1] B ↔ Owned E [.arr t .fresh rows, .arr t1 kd1 rows1] B := fun B => by rw [owned_two, owned_two, hown B]
    have howns : ∀ i B, owns E [o', .arr t1 kd1 rows1] i B → owns E [.arr t .fresh rows, .arr t1 kd1 rows1] i B := fun i B hi => by
      obtain ⟨o, hst, ho⟩ := owns_get hi
      match i, hst with
      | 0, hst => cases hst; exact (hown B).1 ho
      | 1, hst => cases hst; exact ho
      | n + 2, hst => simp at hst
    refine ⟨⟨fun id o hst => ?_, fun id hid => hs.out id hid, fun i j B hi hj => hs.inj i j B (howns i B hi) (howns j B hj), fun B hB => hs.zown B ((hO B).1 hB), hs.zlt⟩, hO⟩
    match id, hst with
    | 0, hst => cases hst; exact ho'
    | 1, hst => cases hst; exact o1
    | n + 2, hst => simp at hst
  cases o0 with
  | arr0 _ _ A he hn hk hsz' =>
    obtain ⟨h1, h2⟩ := hall (.arr t .full []) (.arr0 t .full A he (by simp) (fun ha => by have := hk ha; cases this) hsz') (fun B => Iff.rfl)
    exact ⟨E, _, _, h1, hv, h2, rfl, fun _ _ _ => ⟨rfl, rfl⟩, hfull⟩
  | arr _ _ _ B o c vs ty hn he hc h0 hf hsz' hb ho hok hr =>
    rcases Nat.lt_or_eq_of_le hc with hlt | rfl
    · -- there is room
      obtain ⟨d, rfl⟩ : ∃ d, c = rows.length + (d + 1) := ⟨c - rows.length - 1, by omega⟩
      have hsp := hf.2 rfl
      let E1 : Env := { ρ := fun i => if i = 0 then some (.slice (some ⟨B, o, none⟩) (rows.length + (d + 1)) (rows.length + (d + 1))) else E.ρ i, sz := E.sz }
      have hR0 : RowsR T E1 Z w t rows ((vs.drop o).take (rows.length * (cts T t).length)) := (arr_rows hc ho hok hsz hr).env
      have hmul : (rows.length + (d + 1)) * (cts T t).length = rows.length * (cts T t).length + (d + 1) * (cts T t).length := Nat.add_mul _ _ _
      have hRz : RowsR T E1 Z w t (List.replicate (d + 1) ((cts T t).map CT.zero)) ((vs.drop (o + rows.length * (cts T t).length)).take ((d + 1) * (cts T t).length)) := by
        refine RowsR.of (fun row hrow => ?_) (by simp; omega) hsz (fun i row j av v hi hj hv => ?_)
        · obtain ⟨_, rfl⟩ := List.mem_replicate.1 hrow
          exact zeros_row _
        · rw [List.getElem?_replicate] at hi
          split at hi
          · cases hi
            rename_i hin
            rw [List.getElem?_take] at hv
            split at hv
            · rw [List.getElem?_drop] at hv
              have hjl : j < (cts T t).length := by have := (List.getElem?_eq_some_iff.1 hj).1; simpa using this
              have hlt2 : i * (cts T t).length + j < (d + 1) * (cts T t).length := by assumption
              obtain ⟨ct, q1, q2⟩ := hsp (rows.length * (cts T t).length + (i * (cts T t).length + j)) (by omega) (by omega)
              have hmod : (rows.length * (cts T t).length + (i * (cts T t).length + j)) % (cts T t).length = j := by
                rw [← Nat.add_assoc, ← Nat.add_mul, Nat.mul_comm, Nat.mul_add_mod, Nat.mod_eq_of_lt hjl]
              rw [hmod] at q1
              rw [← Nat.add_assoc] at q2
              rw [q2] at hv
              cases hv
              rw [List.getElem?_map, q1] at hj
              cases hj
              exact zero_ok ct
            · cases hv
          · cases hi
      have hRR := hR0.append hRz
      have hcat : (vs.drop o).take (rows.length * (cts T t).length) ++ (vs.drop (o + rows.length * (cts T t).length)).take ((d + 1) * (cts T t).length) = (vs.drop o).take ((rows ++ List.replicate (d + 1) ((cts T t).map CT.zero)).length * (cts T t).length) := by
        rw [List.length_append, List.length_replicate, hmul, List.take_add, List.drop_drop]
      rw [hcat] at hRR
      have hlen : (rows ++ List.replicate (d + 1) ((cts T t).map CT.zero)).length = rows.length + (d + 1) := by simp
      have ho1 : OR T E1 Z w 1 (.arr t1 kd1 rows1) := by
        have hh : ∀ r v, isRef r = true → VR T E Z w r v → VR T E1 Z w ((fun _ => AV.undef) r) v := fun r v _ _ => .undef v
        exact o1.map (E' := E1) (Z' := Z) (w' := w) (id' := 1) (fun _ => .undef) (fun _ hz => hz) (fun _ _ _ => rfl) hh rfl rfl (fun _ _ => rfl)
      have ho0 : OR T E1 Z w 0 (.arr t .full (rows ++ List.replicate (d + 1) ((cts T t).map CT.zero))) :=
        .arr t .full _ B o (rows.length + (d + 1)) vs ty (by simp) (by show E1.ρ 0 = _; rw [hlen]; rfl) (by rw [hlen]; exact Nat.le_refl _) h0 ⟨fun _ => hlen.symm, fun h => by cases h⟩ hsz' hb ho hRR.1 (arr_of hRR)
      have hown0 : ∀ C, ownsO E1 0 (.arr t .full (rows ++ List.replicate (d + 1) ((cts T t).map CT.zero))) C ↔ ownsO E 0 (.arr t .fresh rows) C := fun C => by
        constructor
        · rintro ⟨A, n, c', hA, hc', rfl⟩
          cases hA
          exact ⟨_, _, _, he, h0, rfl⟩
        · rintro ⟨A, n, c', hA, hc', rfl⟩
          rw [he] at hA
          cases hA
          exact ⟨_, _, _, rfl, h0, rfl⟩
      have hown1 : ∀ C, ownsO E1 1 (.arr t1 kd1 rows1) C ↔ ownsO E 1 (.arr t1 kd1 rows1) C := fun C => Iff.rfl
      have hO : ∀ C, Owned E1 [.arr t .full (rows ++ List.replicate (d + 1) ((cts T t).map CT.zero)), .arr t1 kd1 rows1] C ↔ Owned E [.arr t .fresh rows, .arr t1 kd1 rows1] C := fun C => by
        rw [owned_two, owned_two, hown0 C, hown1 C]
      have howns : ∀ i C, owns E1 [.arr t .full (rows ++ List.replicate (d + 1) ((cts T t).map CT.zero)), .arr t1 kd1 rows1] i C → owns E [.arr t .fresh rows, .arr t1 kd1 rows1] i C := fun i C hi => by
        obtain ⟨q, hst, hq⟩ := owns_get hi
        match i, hst with
        | 0, hst => cases hst; exact (hown0 C).1 hq
        | 1, hst => cases hst; exact hq
        | n + 2, hst => simp at hst
      obtain ⟨hvl, hvr⟩ := hv
      match vals, hvl with
      | [v0, v1, v2], _ =>
        refine ⟨E1, [.ss 0 0 rows.length, .k x, .sr 1], _, ⟨fun id q hst => ?_, fun id hid => ?_, fun i j C hi hj => hs.inj i j C (howns i C hi) (howns j C hj), fun C hC => hs.zown C ((hO C).1 hC), hs.zlt⟩, ⟨rfl, fun j av v hj hv => ?_⟩, hO, rfl,
          fun i hi hmi => ?_, hroom d⟩
        · match id, hst with
          | 0, hst => cases hst; exact ho0
          | 1, hst => cases hst; exact ho1
          | n + 2, hst => simp at hst
        · have hne : id ≠ 0 := by simp at hid; omega
          show (if id = 0 then _ else E.ρ id) = none
          rw [if_neg hne]
          exact hs.out id hid
        · match j, hj, hv with
          | 0, hj, hv =>
            cases hj; cases hv
            have := hvr 0 (.sr 0) v0 rfl rfl
            cases this with
            | sr _ A n c' hE =>
              rw [he] at hE
              cases hE
              exact .ss 0 0 rows.length (some ⟨B, o, none⟩) (some ⟨B, o, none⟩) (rows.length + (d + 1)) (rows.length + (d + 1)) rfl (by omega) (fun _ => by simp)
          | 1, hj, hv =>
            cases hj; cases hv
            have := hvr 1 (.k x) v1 rfl rfl
            cases this with
            | k _ h => exact .k _ h
            | ku => exact .ku
          | 2, hj, hv =>
            cases hj; cases hv
            have := hvr 2 (.sr 1) v2 rfl rfl
            cases this with
            | sr _ A n c' hE => exact .sr 1 A n c' hE
          | n + 3, hj, hv => simp at hj
        · have hne : i ≠ 0 := fun e => hmi (e ▸ hm)
          exact ⟨by show (if i = 0 then _ else E.ρ i) = _; rw [if_neg hne], rfl⟩
    · obtain ⟨h1, h2⟩ := hall (.arr t .full rows) (.arr t .full rows B o rows.length vs ty (by simp) he (Nat.le_refl _) h0 ⟨fun _ => rfl, fun h => by cases h⟩ hsz' hb ho hok hr) (fun B => Iff.rfl)
      exact ⟨E, _, _, h1, hv, h2, rfl, fun _ _ _ => ⟨rfl, rfl⟩, hfull⟩
end Go.Fw
