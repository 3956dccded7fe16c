/- The framework, part Na: maps. -/
import Derived.Test.YtgcdiccbehiijaaFwN
import Derived.MapKept
set_option linter.all false
set_option linter.unusedSimpArgs false
set_option linter.unusedVariables false
namespace Go.Fw
open MapKept
section
variable {P : Program} {T : Tab} {E : Env} {Z : Nat → Prop} {w w' : World} {σ σ' : St} {vals : List Value}
theorem keyT_ok (hT : TabOk P T) {kt : Nat} (h : keyT T kt = true) : ∃ d c, P.underlying kt = some d ∧ cts T kt = [c] ∧ (∀ av, c.ok av = true → ∃ v, av = .k v ∧ IsKey d v) ∧ (∃ ti, T kt = some ti ∧ ti.isAgg = false) := by
  unfold keyT at h
  split at h
  · rename_i k j b hti
    obtain ⟨i, d, z, hto⟩ := hT _ _ hti
    have hd := hto.desc
    have hk : k = j := by simpa using h
    subst hk
    refine ⟨d, .int k, hto.und, by simp [cts, hti], fun av hav => ?_, _, hti, rfl⟩
    cases d <;> simp [dOk] at hd
    subst hd
    cases av with
    | k v => cases v <;> simp [CT.ok] at hav ⊢; subst hav; simp [IsKey]
    | _ => simp [CT.ok] at hav
  · rename_i b hti
    obtain ⟨i, d, z, hto⟩ := hT _ _ hti
    have hd := hto.desc
    refine ⟨d, .str, hto.und, by simp [cts, hti], fun av hav => ?_, _, hti, rfl⟩
    cases d <;> simp [dOk] at hd
    cases av with
    | k v => cases v <;> simp [CT.ok] at hav ⊢; simp [IsKey]
    | _ => simp [CT.ok] at hav
  · rename_i b hti
    obtain ⟨i, d, z, hto⟩ := hT _ _ hti
    have hd := hto.desc
    refine ⟨d, .bool, hto.und, by simp [cts, hti], fun av hav => ?_, _, hti, rfl⟩
    cases d <;> simp [dOk] at hd
    cases av with
    | k v => cases v <;> simp [CT.ok] at hav ⊢; simp [IsKey]
    | _ => simp [CT.ok] at hav
  · cases h
theorem rowOk_one {c : CT} {l : List AV} (h : rowOk [c] l = true) : ∃ av, l = [av] ∧ c.ok av = true := by
  have := rowOk_get h
  obtain ⟨hl, hr⟩ := this
  match l, hl with
  | [av], _ => exact ⟨av, rfl, hr 0 c av rfl rfl⟩
theorem keyOk_ok (hT : TabOk P T) {kt : Nat} {k : AV} {vk : Value} (h : keyOk T kt k = true) (hv : VR T E Z w k vk) :
    ∃ d, P.underlying kt = some d ∧ IsKey d vk ∧ k.cells = [.k vk] ∧ vk.cells = #[vk] := by
  simp only [keyOk, Bool.and_eq_true] at h
  obtain ⟨h1, h2, h3⟩ := h
  obtain ⟨d, c, hd, hc, hall, _⟩ := keyT_ok hT h1
  rw [hc] at h2
  obtain ⟨av, hl, hok⟩ := rowOk_one h2
  obtain ⟨v, rfl, hk⟩ := hall av hok
  have he : k = .k v := by
    cases k <;> simp_all [AV.cells, notAgg]
  subst he
  have : v = vk := by cases hv <;> rfl
  subst this
  refine ⟨d, hd, hk, rfl, ?_⟩
  cases v <;> first | rfl | (cases d <;> simp [IsKey] at hk)
theorem entry_key (hT : TabOk P T) {kt et : Nat} {d : TypeDesc} (hk : keyT T kt = true) (hd : P.underlying kt = some d) {x : Bool} {e : List AV × List AV} {n : MapEntry} (h : EntR T E Z w x kt et e n) :
    IsKey d n.key ∧ e.1 = [.k n.key] := by
  obtain ⟨d', c, hd', hc, hall, ti, hti, hag⟩ := keyT_ok hT hk
  rw [hd] at hd'; cases hd'
  have h2 := h.kok
  rw [hc] at h2
  obtain ⟨av, hl, hok⟩ := rowOk_one h2
  obtain ⟨v, rfl, hkv⟩ := hall av hok
  have hsh := h.ksh
  unfold ShapeV at hsh
  rw [hti] at hsh
  simp only [hag, Bool.false_eq_true, if_false] at hsh
  have hkey := h.key
  rw [hl, hsh.2] at hkey
  have := hkey.2 0 (.k v) n.key rfl rfl
  have hvn : v = n.key := by
    revert this
    generalize n.key = u
    intro this
    cases this <;> rfl
  rw [hvn] at hkv hl
  exact ⟨hkv, hl⟩
theorem cellEq_ok {d : TypeDesc} {a b : Value} (ha : IsKey d a) (hb : IsKey d b) : Instr.sameNow d a b = some (cellEq (.k a) (.k b)) ∧ (cellEq (.k a) (.k b) = true → b = a) := by
  obtain ⟨r, hr, hiff⟩ := sameNow_of_keys ha hb
  have : r = cellEq (.k a) (.k b) := by
    cases d <;> cases a <;> cases b <;> simp_all [IsKey, Instr.sameNow, cellEq]
  subst this
  exact ⟨hr, fun h => (hiff.1 h).symm⟩
theorem find_ok (hT : TabOk P T) {kt et : Nat} {d : TypeDesc} (hkt : keyT T kt = true) (hd : P.underlying kt = some d) {x : Bool} {vk : Value} (hk : IsKey d vk) :
    ∀ {es : List (List AV × List AV)} {ns : List MapEntry} (i : Nat), es.length = ns.length → (∀ (i : Nat) (e : List AV × List AV) (n : MapEntry), es[i]? = some e → ns[i]? = some n → EntR T E Z w x kt et e n) →
    (mfind [.k vk] es = none ∧ Instr.findNow d vk ns i = some none ∧ ∀ v, mput [.k vk] v es = es ++ [([.k vk], v)]) ∨
    (∃ j e n, es[j]? = some e ∧ ns[j]? = some n ∧ mfind [.k vk] es = some e.2 ∧ Instr.findNow d vk ns i = some (some (i + j, n.val)) ∧ n.key = vk ∧ ∀ v, mput [.k vk] v es = es.set j ([.k vk], v))
  | [], [], i, _, _ => .inl ⟨rfl, rfl, fun v => rfl⟩
  | [], _ :: _, _, hl, _ => by simp at hl
  | _ :: _, [], _, hl, _ => by simp at hl
  | e :: es, n :: ns, i, hl, h => by
    obtain ⟨hkn, hke⟩ := entry_key hT hkt hd (h 0 e n rfl rfl)
    obtain ⟨hs, heq⟩ := cellEq_ok hk hkn
    have hkq : keyEq [.k vk] e.1 = cellEq (.k vk) (.k n.key) := by rw [hke]; rfl
    cases hb : cellEq (.k vk) (.k n.key) with
    | true =>
      refine .inr ⟨0, e, n, rfl, rfl, by simp [mfind, hkq, hb], by simp [Instr.findNow, hs, hb], heq hb, fun v => by simp [mput, hkq, hb]⟩
    | false =>
      rcases find_ok hT hkt hd hk (es := es) (ns := ns) (i + 1) (by simpa using hl) (fun i e n h1 h2 => h (i + 1) e n h1 h2) with ⟨h1, h2, h3⟩ | ⟨j, e', n', h1, h2, h3, h4, h5, h6⟩
      · exact .inl ⟨by simp [mfind, hkq, hb, h1], by simp [Instr.findNow, hs, hb, h2], fun v => by simp [mput, hkq, hb, h3]⟩
      · exact .inr ⟨j + 1, e', n', h1, h2, by simp [mfind, hkq, hb, h3], by simp [Instr.findNow, hs, hb, h4]; omega, h5, fun v => by simp [mput, hkq, hb, h6]⟩
theorem mchain_eq (k : List AV) (K : Option (List AV) → Option Res) : ∀ es, mchain k K es = K (mfind k es)
  | [] => rfl
  | e :: es => by
    simp only [mchain, mfind]
    cases keyEq k e.1 with
    | true => rfl
    | false => exact mchain_eq k K es
theorem und_map (hT : TabOk P T) {t kt et : Nat} {c b} (hti : T t = some ⟨.map kt et, c, b⟩) : P.underlying t = some (.map kt et) := by
  obtain ⟨i0, d0, z0, hto⟩ := hT _ _ hti
  have h1 := hto.und
  have h2 := hto.desc
  cases d0 <;> simp [dOk] at h2
  obtain ⟨h3, h4⟩ := h2
  subst h3; subst h4
  exact h1
theorem amakeMap_ok (hT : TabOk P T) (h : StR T E Z w σ vals) {t : Nat} {av : AV} (hs : amakeMap T σ t = some (σ', av)) {r : Option Value} (hr : ∀ v, r = some v → ∃ k n, v = .int k n) :
    OpRes P T E Z w vals σ (Instr.makeMap t r) σ' av := by
  unfold amakeMap at hs
  split at hs
  · rename_i kt et c b hti
    cases hc : (keyT T kt && (T et).isSome) with
    | false => rw [hc] at hs; cases hs
    | true =>
      rw [hc] at hs
      simp only [cond_true, Option.some.injEq, Prod.mk.injEq] at hs
      obtain ⟨rfl, rfl⟩ := hs
      have hu := und_map hT hti
      have hl := heap_alloc w (.map #[] 0)
      have hsz : (w.alloc (.map #[] 0)).heap.size = w.heap.size + 1 := (Grew.alloc w (.map #[] 0)).size
      have := h.new (w' := w.alloc (.map #[] 0)) (.map false t []) (.map (some w.heap.size)) 0 hl.2 (by rw [hsz]; omega) rfl rfl rfl
        (.mpo false t kt et [] w.heap.size 0 [] (snoc_ρ _ _ _ _) hl.1 ⟨_, _, hti⟩ rfl (fun i e n hi _ => by simp at hi))
        (fun B hB => by
          have hB : (E.snoc σ.st.length (.map (some w.heap.size)) 0).ρ σ.st.length = some (.map (some B)) := hB
          rw [snoc_ρ] at hB; cases hB; exact Nat.le_refl _)
      refine ⟨_, Z, w.alloc (.map #[] 0), _, ?_, this.1, .mp _ _ (snoc_ρ _ _ _ _), this.2, Mv.of rfl (SameE.snoc _ _ _ _)⟩
      cases r with
      | none => simp [Instr.makeMap, Result.andThen]
      | some v =>
        obtain ⟨k, n, rfl⟩ := hr v rfl
        simp [Instr.makeMap, run_underlying hu, asInt, asIntOf, Result.andThen]
  · cases hs
theorem EntR.move {w'' : World} {x y : Bool} {kt et : Nat} {e : List AV × List AV} {n : MapEntry} (hy : y = false → x = false) (hZ : ∀ {a v}, VR T E Z w a v → VR T E Z w'' a v) (h : EntR T E Z w x kt et e n) : EntR T E Z w'' y kt et e n :=
  ⟨h.kok, ⟨h.key.1, fun j a v hj hv => hZ (h.key.2 j a v hj hv)⟩, h.ksh, fun h0 => h.vok (hy h0), ⟨h.val.1, fun j a v hj hv => hZ (h.val.2 j a v hj hv)⟩, h.vsh⟩
theorem OnlyAt.setBlock (w : World) (B : Nat) (o : Obj) : OnlyAt B w { w with heap := w.heap.setIfInBounds B o } :=
  ⟨fun b hb => by simp [Ne.symm hb], by simp, rfl, rfl, rfl⟩
theorem keyShape (hT : TabOk P T) {kt : Nat} {k : AV} {vk : Value} (h : keyOk T kt k = true) (hv : VR T E Z w k vk) : ShapeV T kt vk ∧ rowOk (cts T kt) k.cells = true := by
  obtain ⟨d, hd, hk, hc, hvc⟩ := keyOk_ok hT h hv
  simp only [keyOk, Bool.and_eq_true] at h
  obtain ⟨_, c, _, hcs, _, ti, hti, hag⟩ := keyT_ok hT h.1
  refine ⟨?_, h.2.1⟩
  unfold ShapeV
  rw [hti]
  have : ti.cells = [c] := by simpa [cts, hti] using hcs
  simp [hag, hvc, this]
theorem valShape {et : Nat} {te : TI} (hte : T et = some te) {v : AV} {vv : Value} (h : shOk te v = true) (hv : VR T E Z w v vv) : v ≠ .undef ∧ ShapeV T et vv := by
  simp only [shOk, Bool.and_eq_true] at h
  obtain ⟨h1, h2, h3⟩ := h
  have hne : v ≠ .undef := by rintro rfl; simp [AV.cells, isCell] at h3
  refine ⟨hne, ?_⟩
  unfold ShapeV
  rw [hte]
  have hcr := cells_ok hv hne
  refine ⟨by have := hcr.1; rw [Nat.eq_of_beq_eq_true h2] at this; simpa using this.symm, ?_⟩
  cases ha : te.isAgg with
  | true =>
    rw [ha] at h1
    simp only [cond_true] at h1
    cases v <;> simp [notAgg] at h1
    cases hv
    exact ⟨_, rfl⟩
  | false =>
    rw [ha] at h1
    simp only [cond_false] at h1
    exact not_agg hv hne (fun cs e => by rw [e] at h1; cases h1)
theorem amapUpdate_ok (hT : TabOk P T) (h : StR T E Z w σ vals) {t : Nat} {m k v : AV} {vm vk vv : Value} (hm : VR T E Z w m vm) (hk : VR T E Z w k vk) (hv : VR T E Z w v vv) (hs : amapUpdate T σ t m k v = some σ') :
    ∃ w', (Instr.mapUpdate t vm vk vv).run P w = .ok () w' ∧ StR T E Z w' σ' vals ∧ Ext (Owned E σ.st) Z w (Owned E σ'.st) Z w' ∧ σ'.moved = σ.moved := by
  unfold amapUpdate at hs
  split at hs
  · rename_i kt et c b id hti
    split at hs
    · rename_i x t' es te hst hte
      cases hc : (Nat.beq t t' && (keyOk T kt k && shOk te v)) with
      | false => rw [hc] at hs; cases hs
      | true =>
        rw [hc] at hs
        simp only [Bool.and_eq_true] at hc
        obtain ⟨h1, h2, h3⟩ := hc
        have h1 := Nat.eq_of_beq_eq_true h1
        subst h1
        have hst := getD_some hst (by simp)
        have hor := h.sr.obj id _ hst
        obtain ⟨i0, d0, z0, hto⟩ := hT _ _ hti
        obtain ⟨d, hd, hik, hkc, hvc⟩ := keyOk_ok hT h2 hk
        obtain ⟨hksh, hkrow⟩ := keyShape hT h2 hk
        obtain ⟨hne, hvsh⟩ := valShape hte h3 hv
        have hkt : keyT T kt = true := by simp only [keyOk, Bool.and_eq_true] at h2; exact h2.1
        have hid : id < σ.st.length := (List.getElem?_eq_some_iff.1 hst).1
        have hund := und_map hT hti
        cases hm with
        | mp _ r hr =>
        cases hor with
        | mpo _ _ kt' et' _ r' clock ns he hb ht hl hall =>
          obtain ⟨c', b', hti'⟩ := ht
          rw [hti] at hti'
          simp only [Option.some.injEq, TI.mk.injEq, TD.map.injEq] at hti'
          obtain ⟨⟨rfl, rfl⟩, rfl, rfl⟩ := hti'
          rw [hr] at he
          simp only [Option.some.injEq, Value.map.injEq] at he
          subst he
          have hB : owns E σ.st id r := (owns_some hst).2 hr
          have key : ∀ (y : Bool) (row : List AV), (y = false → x = false ∧ rowOk te.cells row = true) → VRs T E Z w row vv.cells.toList →
              ∃ w', (Instr.mapUpdate t (.map (some r)) vk vv).run P w = .ok () w' ∧ StR T E Z w' { σ with st := σ.st.set id (.map y t (mput k.cells row es)) } vals ∧ Ext (Owned E σ.st) Z w (Owned E (σ.st.set id (.map y t (mput k.cells row es)))) Z w' := fun y row hy hrow => by
            have fin : ∀ (ns' : List MapEntry) (clock' : Nat) (es' : List (List AV × List AV)), mput k.cells row es = es' → es'.length = ns'.length →
                (∀ (i : Nat) (e : List AV × List AV) (n : MapEntry), es'[i]? = some e → ns'[i]? = some n → EntR T E Z w y kt et e n) →
                (Instr.mapUpdate t (.map (some r)) vk vv).run P w = .ok () { w with heap := w.heap.setIfInBounds r (.map ns'.toArray clock') } →
                ∃ w', (Instr.mapUpdate t (.map (some r)) vk vv).run P w = .ok () w' ∧ StR T E Z w' { σ with st := σ.st.set id (.map y t (mput k.cells row es)) } vals ∧ Ext (Owned E σ.st) Z w (Owned E (σ.st.set id (.map y t (mput k.cells row es)))) Z w' := fun ns' clock' es' hes hlen hents hrun => by
              have hon := OnlyAt.setBlock w r (.map ns'.toArray clock')
              have hheap := (heap_set (o' := .map ns'.toArray clock') hb).1
              have hun : ∀ b, b < w.heap.size → ¬ Owned E σ.st b → ({ w with heap := w.heap.setIfInBounds r (.map ns'.toArray clock') } : World).heap[b]? = w.heap[b]? :=
                fun b _ hno => hon.other b (fun e => hno (e ▸ ⟨id, hB⟩))
              rw [hes]
              have := h.write (w' := { w with heap := w.heap.setIfInBounds r (.map ns'.toArray clock') }) (o' := .map y t es') hid hB hon
                (.mpo y t kt et es' r clock' ns' hr hheap ⟨_, _, hti⟩ hlen (fun i e n h1 h2 => (hents i e n h1 h2).move (fun h => h) (fun hx => hx.mono (fun i v hv => ⟨hv, rfl⟩) (fun _ hz => hz) (h.sr.zcell hun))))
                (fun C hC => by have hC : E.ρ id = some (.map (some C)) := hC; rw [hr] at hC; cases hC; rfl)
              exact ⟨_, hrun, this.1, this.2⟩
            have hent : ∀ born : Nat, EntR T E Z w y kt et (k.cells, row) { key := vk, val := vv, born } := fun born =>
              ⟨hkrow, by have := cells_ok hk (by rintro rfl; cases hkc); simpa using this, hksh, fun h0 => by rw [show cts T et = te.cells by simp [cts, hte]]; exact (hy h0).2, hrow, hvsh⟩
            have hold : ∀ (i : Nat) (e : List AV × List AV) (n : MapEntry), es[i]? = some e → ns[i]? = some n → EntR T E Z w y kt et e n := fun i e n h1 h2 =>
              (hall i e n h1 h2).move (fun h0 => (hy h0).1) (fun h => h)
            rcases find_ok hT hkt hd hik 0 hl hall with ⟨f1, f2, f3⟩ | ⟨j, e, n, f1, f2, f3, f4, f5, f6⟩
            · refine fin (ns ++ [{ key := vk, val := vv, born := clock }]) (clock + 1) (es ++ [(k.cells, row)]) (by rw [hkc]; exact f3 row) (by simp [hl]) (fun i e n h1 h2 => ?_) ?_
              · rcases Nat.lt_or_ge i es.length with hi | hi
                · rw [List.getElem?_append_left hi] at h1
                  rw [List.getElem?_append_left (by omega)] at h2
                  exact hold i e n h1 h2
                · rw [List.getElem?_append_right hi] at h1
                  rw [List.getElem?_append_right (by omega)] at h2
                  have hi0 : i - es.length = 0 := by
                    have := (List.getElem?_eq_some_iff.1 h1).1
                    simp at this; omega
                  rw [hi0] at h1
                  rw [← hl, hi0] at h2
                  cases h1; cases h2
                  exact hent clock
              · simp [Instr.mapUpdate, run_underlying hund, run_getObj_map hb, run_checkKey hd hik, run_findKey hd f2, run_setObj_map _ hb, Result.andThen]
            · rw [Nat.zero_add] at f4
              have hj : ns.toArray[j]? = some n := by simpa using f2
              refine fin (ns.modify j fun e' => { e' with key := vk, val := vv }) clock (es.set j (k.cells, row)) (by rw [hkc]; exact f6 row) (by simp [hl]) (fun i e' n' h1 h2 => ?_) ?_
              · rw [List.getElem?_modify] at h2
                by_cases hij : j = i
                · subst hij
                  rw [List.getElem?_set_self (by exact (List.getElem?_eq_some_iff.1 f1).1)] at h1
                  cases h1
                  rw [f2] at h2
                  simp at h2
                  subst h2
                  exact hent n.born
                · rw [List.getElem?_set_ne hij] at h1
                  simp [hij] at h2
                  exact hold i e' n' h1 h2
              · simp [Instr.mapUpdate, run_underlying hund, run_getObj_map hb, run_checkKey hd hik, run_findKey hd f4, f2, f5, run_keyThatStays hik, run_setObj_map _ hb, Result.andThen]
          cases hb2 : (!x && rowOk te.cells (coL te.cells v.cells)) with
          | true =>
            rw [hb2] at hs
            simp only [cond_true, Option.some.injEq] at hs
            subst hs
            simp only [Bool.and_eq_true, Bool.not_eq_true'] at hb2
            obtain ⟨w', g1, g2, g3⟩ := key false _ (fun _ => hb2) (cells_ok hv hne).coL
            exact ⟨w', g1, g2, g3, rfl⟩
          | false =>
            rw [hb2] at hs
            simp only [cond_true, cond_false, Option.some.injEq] at hs
            subst hs
            obtain ⟨w', g1, g2, g3⟩ := key true _ (fun h => by cases h) (cells_ok hv hne)
            exact ⟨w', g1, g2, g3, rfl⟩
    · cases hs
  · cases hs
theorem rowV_ok {et : Nat} {te : TI} (hte : T et = some te) {row : List AV} {v : Value} (hs : ShapeV T et v) (hr : VRs T E Z w row v.cells.toList) : VR T E Z w (rowV te row) v := by
  unfold ShapeV at hs
  rw [hte] at hs
  obtain ⟨h1, h2⟩ := hs
  unfold rowV
  cases ha : te.isAgg with
  | true =>
    rw [ha] at h2
    simp only [if_true] at h2
    obtain ⟨cs, rfl⟩ := h2
    have := VR.agg (T := T) (E := E) (Z := Z) (w := w) row cs.toList hr.1 (fun j av v hj hv => hr.2 j av v hj hv)
    simpa using this
  | false =>
    rw [ha] at h2
    simp only [Bool.false_eq_true, if_false] at h2
    rw [h2] at hr
    have hl := hr.1
    match row, hl with
    | [av], _ => exact hr.2 0 av v rfl rfl
theorem zShape {et : Nat} {te : TI} (hte : T et = some te) {i d z} (ht : TOk P et te i d z) : ShapeV T et z := by
  unfold ShapeV
  rw [hte]
  refine ⟨by have := congrArg List.length ht.cells; simpa using this, ?_⟩
  cases ha : te.isAgg with
  | true => exact ht.agg ha
  | false => exact ht.nagg ha
theorem lookup_map (hT : TabOk P T) {t kt et : Nat} {c b te} (hti : T t = some ⟨.map kt et, c, b⟩) (hte : T et = some te) {k : AV} {vk : Value} (hkk : keyOk T kt k = true) (hk : VR T E Z w k vk) {x : Bool} {id : Nat} {es : List (List AV × List AV)} {vm : Value}
    (hor : OR T E Z w id (.map x t es)) (hm : VR T E Z w (.mp id) vm) (ok : Bool) :
    ∃ v, (Instr.lookup t vm vk ok).run P w = .ok (if ok then .tuple #[v, .bool (mhas k.cells es)] else v) w ∧ ShapeV T et v ∧
      (∀ row, mfind k.cells es = some row → VRs T E Z w row v.cells.toList ∧ (x = false → rowOk te.cells row = true)) ∧ (mfind k.cells es = none → v.cells.toList = te.cells.map CT.zeroV) := by
  obtain ⟨i0, d0, z0, hto⟩ := hT _ _ hti
  obtain ⟨ie, de, ze, hte'⟩ := hT _ _ hte
  obtain ⟨d, hd, hik, hkc, hvc⟩ := keyOk_ok hT hkk hk
  have hkt : keyT T kt = true := by simp only [keyOk, Bool.and_eq_true] at hkk; exact hkk.1
  have hund := und_map hT hti
  cases hm with
  | mp _ r hr =>
  cases hor with
  | mpo _ _ kt' et' _ r' clock ns he hb ht hl hall =>
    obtain ⟨c', b', hti'⟩ := ht
    rw [hti] at hti'
    simp only [Option.some.injEq, TI.mk.injEq, TD.map.injEq] at hti'
    obtain ⟨⟨rfl, rfl⟩, rfl, rfl⟩ := hti'
    rw [hr] at he
    simp only [Option.some.injEq, Value.map.injEq] at he
    subst he
    rw [hkc]
    rcases find_ok hT hkt hd hik 0 hl hall with ⟨f1, f2, f3⟩ | ⟨j, e, n, f1, f2, f3, f4, f5, f6⟩
    · refine ⟨ze, ?_, zShape hte hte', (fun row hrow => by rw [f1] at hrow; cases hrow), fun _ => hte'.cells⟩
      cases ok <;> simp [Instr.lookup, run_underlying hund, run_getObj_map hb, run_checkKey hd hik, run_findKey hd f2, run_zero hte'.info hte'.zero, Result.andThen, mhas, f1]
    · rw [Nat.zero_add] at f4
      have hent := hall j e n f1 f2
      refine ⟨n.val, ?_, hent.vsh, fun row hrow => by rw [f3] at hrow; cases hrow; exact ⟨hent.val, fun hx => by have := hent.vok hx; rwa [show cts T et = te.cells by simp [cts, hte]] at this⟩, fun h => by rw [f3] at h; cases h⟩
      cases ok <;> simp [Instr.lookup, run_underlying hund, run_getObj_map hb, run_checkKey hd hik, run_findKey hd f4, Result.andThen, mhas, f3]
theorem tup2_ok {a : AV} {v : Value} (h : VR T E Z w a v) (b : Bool) : VR T E Z w (.tup [a, .k (.bool b)]) (.tuple #[v, .bool b]) := by
  refine .tup [a, .k (.bool b)] [v, .bool b] rfl (fun j av u hj hu => ?_)
  match j with
  | 0 => cases hj; cases hu; exact h
  | 1 => cases hj; cases hu; exact .k _ rfl
  | j + 2 => simp at hj
theorem alookup_ok (hT : TabOk P T) (hs : SR T E Z w σ.st) {t : Nat} {m k av : AV} {vm vk : Value} (hm : VR T E Z w m vm) (hk : VR T E Z w k vk) {ok : Bool} (h : alookup T σ t m k ok = some av) :
    ∃ v, (Instr.lookup t vm vk ok).run P w = .ok v w ∧ VR T E Z w av v := by
  unfold alookup at h
  split at h
  · rename_i kt et c b hti
    split at h
    · rename_i te hte
      cases hkk : keyOk T kt k with
      | false => rw [hkk] at h; cases h
      | true =>
        rw [hkk] at h
        simp only [cond_true] at h
        split at h
        · -- a nil map
          obtain ⟨i0, d0, z0, hto⟩ := hT _ _ hti
          obtain ⟨ie, de, ze, hte'⟩ := hT _ _ hte
          obtain ⟨d, hd, hik, hkc, hvc⟩ := keyOk_ok hT hkk hk
          have hund := und_map hT hti
          cases hm with
          | k _ _ =>
          have hz : VR T E Z w (rowV te (te.cells.map CT.zero)) ze := rowV_ok hte (zShape hte hte') (by rw [hte'.cells]; exact zeros_ok _)
          have hf : Instr.findNow d vk [] 0 = some none := rfl
          cases ok with
          | true =>
            simp only [cond_true, Option.some.injEq] at h
            subst h
            exact ⟨_, by simp [Instr.lookup, run_underlying hund, run_checkKey hd hik, run_findKey hd hf, run_zero hte'.info hte'.zero, Result.andThen], tup2_ok hz false⟩
          | false =>
            simp only [cond_false, Option.some.injEq] at h
            subst h
            exact ⟨_, by simp [Instr.lookup, run_underlying hund, run_checkKey hd hik, run_findKey hd hf, run_zero hte'.info hte'.zero, Result.andThen], hz⟩
        · rename_i id
          split at h
          · rename_i t' es hst
            cases ht : Nat.beq t t' with
            | false => rw [ht] at h; cases h
            | true =>
              rw [ht] at h
              have ht := Nat.eq_of_beq_eq_true ht
              subst ht
              obtain ⟨v, hrun, hsh, h1, h2⟩ := lookup_map hT hti hte hkk hk (hs.obj id _ (getD_some hst (by simp))) hm ok
              have hrow : VR T E Z w (rowV te (rowAt (bif mhas k.cells es then (mfind k.cells es).getD [] else te.cells.map CT.zeroR) 0 te.cells)) v := by
                have : ∀ row, rowOk te.cells row = true → VRs T E Z w row v.cells.toList → VR T E Z w (rowV te (rowAt row 0 te.cells)) v := fun row g1 g2 => by
                  have := rowAt_eq te.cells te.cells row 0 g1 (by simp)
                  rw [this]
                  have hl := (rowOk_get g1).1
                  simp only [List.drop_zero]
                  rw [List.take_of_length_le (by omega)]
                  exact rowV_ok hte hsh g2
                cases hf : mfind k.cells es with
                | none =>
                  simp only [mhas, hf, Option.isSome_none, cond_false]
                  exact this _ (zerosR_row _) (by rw [h2 hf]; exact zerosR_ok _)
                | some row =>
                  simp only [mhas, hf, Option.isSome_some, cond_true, Option.getD_some]
                  exact this _ ((h1 row hf).2 rfl) (h1 row hf).1
              cases ok with
              | true =>
                simp only [cond_true, Option.some.injEq] at h
                subst h
                exact ⟨_, hrun, tup2_ok hrow _⟩
              | false =>
                simp only [cond_true, cond_false, Option.some.injEq] at h
                subst h
                exact ⟨_, hrun, hrow⟩
          · cases h
        · cases h
    · cases h
  · cases h
end
end Go.Fw
