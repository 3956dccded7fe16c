/- The framework, part Wf: what a step comes to, and what it leaves of another's view. -/
import Derived.Test.YtgcdiccbehiijaaFwWe
set_option linter.all false
set_option linter.unusedSimpArgs false
set_option linter.unusedVariables false
namespace Go.Fw

mutual
theorem onRefs_comp {g h : AV → AV} (hg : Scrubs g) (hh : h .undef = .undef) : ∀ v : AV, (v.onRefs g).onRefs h = v.onRefs fun r => h (g r)
  | .agg cs => by simp only [AV.onRefs]; rw [onRefsL_comp hg hh cs]
  | .tup cs => by simp only [AV.onRefs]; rw [onRefsL_comp hg hh cs]
  | .fn f a b => by simp only [AV.onRefs]; rw [onRefsL_comp hg hh a, onRefsL_comp hg hh b]
  | .iface t v => by simp only [AV.onRefs]; rw [onRefs_comp hg hh v]
  | .sr i => by simp only [AV.onRefs]; rcases hg (.sr i) with e | e <;> rw [e] <;> simp only [AV.onRefs, hh]
  | .ss i a b => by simp only [AV.onRefs]; rcases hg (.ss i a b) with e | e <;> rw [e] <;> simp only [AV.onRefs, hh]
  | .ptr i a => by simp only [AV.onRefs]; rcases hg (.ptr i a) with e | e <;> rw [e] <;> simp only [AV.onRefs, hh]
  | .ap i a b => by simp only [AV.onRefs]; rcases hg (.ap i a b) with e | e <;> rw [e] <;> simp only [AV.onRefs, hh]
  | .undef => rfl
  | .k v => rfl
  | .sl t kd r => rfl
  | .ep t r o => rfl
theorem onRefsL_comp {g h : AV → AV} (hg : Scrubs g) (hh : h .undef = .undef) : ∀ vs : List AV, AV.onRefsL h (AV.onRefsL g vs) = AV.onRefsL (fun r => h (g r)) vs
  | [] => rfl
  | v :: vs => by simp only [AV.onRefsL]; rw [onRefs_comp hg hh v, onRefsL_comp hg hh vs]
end
theorem onRefsO_comp {g h : AV → AV} (hg : Scrubs g) (hh : h .undef = .undef) (o : AObj) : (o.onRefs g).onRefs h = o.onRefs fun r => h (g r) := by
  cases o with
  | box t cs => simp only [AObj.onRefs, onRefsL_comp hg hh]
  | arx t rows =>
    simp only [AObj.onRefs, List.map_map]
    congr 1
    exact List.map_congr_left fun r _ => onRefsL_comp hg hh r
  | _ => rfl

/-- a state kept in part, as the machine's -/
theorem At.keep {T : Tab} {B : Base} {σ : St} {a : Act} {w : World} (h : At T B σ a w) (ks : List Nat) (hk : ks.Nodup) (hm : ∀ i, i < B.m → ks[i]? = some i) (hl : B.m ≤ ks.length) : At T B (σ.keep ks) a w := by
  obtain ⟨hd, E, Z, h1, h2, h3, h4⟩ := h
  obtain ⟨k1, k2⟩ := h1.keep ks hk
  refine ⟨hd, _, Z, k1, h2.trans k2, fun i hi hn => ?_, by simpa [St.keep] using hl⟩
  have := h3 i hi hn
  simp only [Env.sel, hm i hi]
  exact this

theorem range_set_nodup {N slot : Nat} : ((List.range N).set slot N).Nodup := by
  refine List.pairwise_iff_getElem.2 fun i j hi hj hij => ?_
  rw [List.length_set, List.length_range] at hi hj
  rw [List.getElem_set, List.getElem_set]
  simp only [List.getElem_range]
  split
  · split
    · omega
    · omega
  · split
    · omega
    · omega

/-- the state in which an operation is done -/
def keepIf (fk : Fk) (N : Nat) (x : St) : St := bif fk.isNew then x.keep (List.range N) else x
/-- the state behind it -/
def stepIf (fk : Fk) (N slot : Nat) (dst : Option Nat) (σ1 : St) (v : AV) : St :=
  bif fk.isNew && Nat.blt N σ1.st.length then (σ1.put dst v).keep ((List.range N).set slot N) else σ1.put dst v
def gOf (fk : Fk) (N : Nat) : AV → AV := bif fk.isNew then rename1 (List.range N) else fun r => r
def hOf (N slot : Nat) : AV → AV := rename1 ((List.range N).set slot N)

def mkAp (fk : Fk) (N slot : Nat) (dst : Option Nat) (e : Eff) (v : AV) : Ap :=
  match e with
  | .none => ⟨gOf fk N, dst, v, none⟩
  | .write id o => ⟨gOf fk N, dst, v, some (id, o)⟩
  | .own id o => ⟨fun r => scrub1 id (gOf fk N r), dst, v, some (id, o)⟩
  | .new o => ⟨fun r => hOf N slot (gOf fk N r), dst, v.onRefs (hOf N slot), some (slot, o.onRefs (hOf N slot))⟩

theorem idxIn_range {N i : Nat} (h : i < N) {ks : List Nat} (hk : ks.Nodup) (hi : ks[i]? = some i) : idxIn ks i = some i := by
  have key : ∀ (ks : List Nat) (i j : Nat), ks.Nodup → ks[j]? = some i → idxIn ks i = some j := by
    intro ks
    induction ks with
    | nil => intro i j _ h; simp at h
    | cons k ks ih =>
      intro i j hn h
      simp only [idxIn]
      cases j with
      | zero =>
        simp only [List.getElem?_cons_zero, Option.some.injEq] at h
        subst h; simp [Nat.beq_refl]
      | succ j =>
        rw [List.getElem?_cons_succ] at h
        obtain ⟨h1, h2⟩ := List.nodup_cons.1 hn
        have : Nat.beq k i = false := by
          cases hb : Nat.beq k i with
          | false => rfl
          | true =>
            have := Nat.eq_of_beq_eq_true hb
            subst this
            exact absurd (List.mem_of_getElem? h) h1
        rw [this]
        simp [ih i j h2 h]
  exact key ks i i hk hi

theorem idxIn_non {ks : List Nat} {i : Nat} (h : i ∉ ks) : idxIn ks i = none := by
  cases hh : idxIn ks i with
  | none => rfl
  | some j => exact absurd (List.mem_of_getElem? (idxIn_some hh)) h

theorem rename1_same {ks : List Nat} (hk : ks.Nodup) : (∀ i, ks[i]? = some i → rename1 ks (.sr i) = .sr i ∧ (∀ a b, rename1 ks (.ss i a b) = .ss i a b) ∧ (∀ a, rename1 ks (.ptr i a) = .ptr i a) ∧ (∀ a b, rename1 ks (.ap i a b) = .ap i a b)) := fun i hi => by
  have h := idxIn_range (Nat.lt_succ_self i) hk hi
  simp [rename1, h]

theorem getElem?_range_self {N i : Nat} (h : i < N) : (List.range N)[i]? = some i := List.getElem?_range h
theorem getElem?_range_set {N slot i : Nat} (h : i < N) (hne : i ≠ slot) : ((List.range N).set slot N)[i]? = some i := by
  rw [List.getElem?_set, if_neg (Ne.symm hne)]
  exact List.getElem?_range h

theorem rename_range_scr (N : Nat) : Scr [] N (rename1 (List.range N)) := by
  have hk : (List.range N).Nodup := List.nodup_range
  refine ⟨fun r => ?_, fun i hi _ => (rename1_same hk i (getElem?_range_self hi)).1, fun i a b hi _ => (rename1_same hk i (getElem?_range_self hi)).2.1 a b, fun i a hi _ => (rename1_same hk i (getElem?_range_self hi)).2.2.1 a, fun i a b hi _ => (rename1_same hk i (getElem?_range_self hi)).2.2.2 a b⟩
  have key : ∀ i, (i < N ∧ idxIn (List.range N) i = some i) ∨ idxIn (List.range N) i = none := fun i => by
    rcases Nat.lt_or_ge i N with h | h
    · exact .inl ⟨h, idxIn_range h hk (getElem?_range_self h)⟩
    · exact .inr (idxIn_non (by simpa using h))
  cases r with
  | sr i => rcases key i with ⟨_, h⟩ | h <;> simp [rename1, h]
  | ss i a b => rcases key i with ⟨_, h⟩ | h <;> simp [rename1, h]
  | ptr i a => rcases key i with ⟨_, h⟩ | h <;> simp [rename1, h]
  | ap i a b => rcases key i with ⟨_, h⟩ | h <;> simp [rename1, h]
  | _ => exact .inl rfl

theorem gOf_scr (fk : Fk) (N : Nat) : Scr [] N (gOf fk N) := by
  unfold gOf
  cases fk.isNew
  · exact ⟨fun _ => .inl rfl, fun _ _ _ => rfl, fun _ _ _ _ _ => rfl, fun _ _ _ _ => rfl, fun _ _ _ _ _ => rfl⟩
  · exact rename_range_scr N

theorem own_scr (fk : Fk) (N id : Nat) : Scr [id] N (fun r => scrub1 id (gOf fk N r)) := by
  have hg := gOf_scr fk N
  have hs : ∀ i, i ∉ [id] → Nat.beq i id = false := fun i hi => by
    cases hb : Nat.beq i id with
    | false => rfl
    | true => exact absurd (by simpa using Nat.eq_of_beq_eq_true hb) hi
  refine ⟨fun r => ?_, fun i hi hn => ?_, fun i a b hi hn => ?_, fun i a hi hn => ?_, fun i a b hi hn => ?_⟩
  · rcases hg.scr r with e | e <;> simp only [e]
    · exact Scrubs.scrub1 id r
    · exact .inr rfl
  · simp only [hg.sr i hi (by simp), scrub1, hs i hn, cond_false]
  · simp only [hg.ss i a b hi (by simp), scrub1, hs i hn, cond_false]
  · simp only [hg.ptr i a hi (by simp), scrub1, hs i hn, cond_false]
  · simp only [hg.ap i a b hi (by simp), scrub1, hs i hn, cond_false]

theorem new_scr {fk : Fk} (hf : fk.isNew = true) (N slot : Nat) : Scr [slot] N (fun r => hOf N slot (gOf fk N r)) := by
  have hg : gOf fk N = rename1 (List.range N) := by unfold gOf; rw [hf]; rfl
  rw [hg]
  have hk : (List.range N).Nodup := List.nodup_range
  have hk2 : ((List.range N).set slot N).Nodup := range_set_nodup
  have key : ∀ i, (i < N ∧ idxIn (List.range N) i = some i) ∨ idxIn (List.range N) i = none := fun i => by
    rcases Nat.lt_or_ge i N with h | h
    · exact .inl ⟨h, idxIn_range h hk (getElem?_range_self h)⟩
    · exact .inr (idxIn_non (by simpa using h))
  have key2 : ∀ i, i < N → (i ≠ slot ∧ idxIn ((List.range N).set slot N) i = some i) ∨ (i = slot ∧ idxIn ((List.range N).set slot N) i = none) := fun i hi => by
    by_cases h : i = slot
    · refine .inr ⟨h, idxIn_non fun hm => ?_⟩
      obtain ⟨j, hj, e⟩ := List.mem_iff_getElem.1 hm
      rw [List.length_set, List.length_range] at hj
      rw [List.getElem_set] at e
      split at e
      · omega
      · rw [List.getElem_range] at e; omega
    · exact .inl ⟨h, idxIn_range hi hk2 (getElem?_range_set hi h)⟩
  refine ⟨fun r => ?_, fun i hi hn => ?_, fun i a b hi hn => ?_, fun i a hi hn => ?_, fun i a b hi hn => ?_⟩
  · cases r with
    | sr i | ss i a b | ptr i a | ap i a b =>
      rcases key i with ⟨hi, h⟩ | h
      · rcases key2 i hi with ⟨_, h2⟩ | ⟨_, h2⟩ <;> simp [rename1, hOf, h, h2]
      · simp [rename1, hOf, h]
    | _ => exact .inl rfl
  all_goals
    have hne : i ≠ slot := by simpa using hn
    rcases key i with ⟨_, h⟩ | h
    · rcases key2 i hi with ⟨_, h2⟩ | ⟨h3, _⟩
      · simp [rename1, hOf, h, h2]
      · exact absurd h3 hne
    · rw [idxIn_range hi hk (getElem?_range_self hi)] at h; cases h

theorem onRefsL_id2 (l : List AV) : AV.onRefsL (fun r => r) l = l := onRefsL_id' l
theorem onRefsO_id2 (l : List AObj) : l.map (AObj.onRefs fun r => r) = l := by
  conv => rhs; rw [← List.map_id l]
  exact List.map_congr_left fun o _ => AObj.onRefs_id o

theorem keepIf_eq {fk : Fk} {N : Nat} {x : St} (hl : x.st.length = N) : keepIf fk N x = ⟨AV.onRefsL (gOf fk N) x.tmps, x.st.map (AObj.onRefs (gOf fk N)), x.moved⟩ := by
  unfold keepIf gOf
  cases fk.isNew
  · simp only [cond_false, onRefsL_id2, onRefsO_id2]
  · simp only [cond_true, St.keep, St.mk.injEq, true_and, and_true]
    apply List.ext_getElem?
    intro i
    rw [List.getElem?_map, List.getElem?_map]
    rcases Nat.lt_or_ge i N with h | h
    · rw [List.getElem?_range h]
      have : x.st[i]? = some x.st[i] := List.getElem?_eq_getElem (by omega)
      simp [List.getD, this]
    · rw [List.getElem?_eq_none (by simpa using h), List.getElem?_eq_none (by omega)]
      rfl

theorem Eff.on_len {e : Eff} {σ : St} : (e.on σ).st.length = match e with | .new _ => σ.st.length + 1 | _ => σ.st.length := by
  cases e <;> simp [Eff.on, St.new, St.scrub]

theorem mkAp_on {fk : Fk} {N slot : Nat} {dst : Option Nat} {e : Eff} {v : AV} {x : St} (hl : x.st.length = N) (hs : slot < N) (he : ∀ o, e = .new o → fk.isNew = true) :
    (mkAp fk N slot dst e v).on (x.tmps, x.st) = ((stepIf fk N slot dst (e.on (keepIf fk N x)) v).tmps, (stepIf fk N slot dst (e.on (keepIf fk N x)) v).st) ∧
    (stepIf fk N slot dst (e.on (keepIf fk N x)) v).st.length = N ∧
    (stepIf fk N slot dst (e.on (keepIf fk N x)) v).moved = (match e with | .own id _ => bif x.moved.elem id then x.moved else id :: x.moved | _ => x.moved) := by
  rw [keepIf_eq hl]
  have hput : ∀ (σ : St), (σ.put dst v).tmps = (match dst with | some d => σ.tmps.set d v | none => σ.tmps) := fun σ => by cases dst <;> rfl
  have hpst : ∀ (σ : St), (σ.put dst v).st = σ.st ∧ (σ.put dst v).moved = σ.moved := fun σ => by cases dst <;> exact ⟨rfl, rfl⟩
  have hng : ∀ σ : St, σ.st.length = N → stepIf fk N slot dst σ v = σ.put dst v := fun σ h => by
    unfold stepIf
    rw [h]
    have : Nat.blt N N = false := by
      cases hb : Nat.blt N N with
      | false => rfl
      | true => exact absurd (Nat.blt_eq ▸ hb : N < N) (Nat.lt_irrefl _)
    simp [this]
  cases e with
  | none =>
    have h1 := hng (Eff.on .none ⟨AV.onRefsL (gOf fk N) x.tmps, x.st.map (AObj.onRefs (gOf fk N)), x.moved⟩) (by simp [Eff.on, hl])
    rw [h1]
    refine ⟨?_, by rw [(hpst _).1]; simp [Eff.on, hl], (hpst _).2⟩
    rw [hput, (hpst _).1]
    cases dst <;> rfl
  | write id o =>
    have h1 := hng (Eff.on (.write id o) ⟨AV.onRefsL (gOf fk N) x.tmps, x.st.map (AObj.onRefs (gOf fk N)), x.moved⟩) (by simp [Eff.on, hl])
    rw [h1]
    refine ⟨?_, by rw [(hpst _).1]; simp [Eff.on, hl], (hpst _).2⟩
    rw [hput, (hpst _).1]
    cases dst <;> rfl
  | own id o =>
    have h1 := hng (Eff.on (.own id o) ⟨AV.onRefsL (gOf fk N) x.tmps, x.st.map (AObj.onRefs (gOf fk N)), x.moved⟩) (by simp [Eff.on, hl, St.scrub])
    rw [h1]
    refine ⟨?_, by rw [(hpst _).1]; simp [Eff.on, hl, St.scrub], (hpst _).2⟩
    rw [hput, (hpst _).1]
    have e1 : AV.onRefsL (scrub1 id) (AV.onRefsL (gOf fk N) x.tmps) = AV.onRefsL (fun r => scrub1 id (gOf fk N r)) x.tmps := onRefsL_comp (gOf_scr fk N).scr rfl _
    have e2 : (x.st.map (AObj.onRefs (gOf fk N))).map (AObj.onRefs (scrub1 id)) = x.st.map (AObj.onRefs fun r => scrub1 id (gOf fk N r)) := by
      rw [List.map_map]
      exact List.map_congr_left fun o _ => onRefsO_comp (gOf_scr fk N).scr rfl o
    simp only [mkAp, Ap.on, Ap.tm, Ap.st, Eff.on, St.scrub, e1, e2]
    cases dst <;> rfl
  | new o =>
    have hf := he o rfl
    have h1 : stepIf fk N slot dst (Eff.on (.new o) ⟨AV.onRefsL (gOf fk N) x.tmps, x.st.map (AObj.onRefs (gOf fk N)), x.moved⟩) v = ((Eff.on (.new o) ⟨AV.onRefsL (gOf fk N) x.tmps, x.st.map (AObj.onRefs (gOf fk N)), x.moved⟩).put dst v).keep ((List.range N).set slot N) := by
      unfold stepIf
      have : Nat.blt N (N + 1) = true := by simp [Nat.blt]
      simp [hf, Eff.on, St.new, hl, this]
    rw [h1]
    have e1 : AV.onRefsL (hOf N slot) (AV.onRefsL (gOf fk N) x.tmps) = AV.onRefsL (fun r => hOf N slot (gOf fk N r)) x.tmps := onRefsL_comp (gOf_scr fk N).scr rfl _
    refine ⟨?_, by simp [St.keep], ?_⟩
    · simp only [mkAp, Ap.on, St.keep, Prod.mk.injEq]
      constructor
      · simp only [Ap.tm, hput]
        cases dst with
        | none => exact e1.symm
        | some d => simp only [Eff.on, St.new]; rw [onRefsL_set]; exact congrArg (fun l => List.set l d _) e1.symm
      · simp only [Ap.st, (hpst _).1]
        apply List.ext_getElem?
        intro i
        rw [List.getElem?_map]
        rcases Nat.lt_or_ge i N with h | h
        · by_cases hi : slot = i
          · subst hi
            rw [List.getElem?_set_self (by simpa [hl] using h), List.getElem?_set_self (by simpa using h)]
            simp only [Option.map_some, Eff.on, St.new]
            have : (x.st.map (AObj.onRefs (gOf fk N)) ++ [o]).getD N .dead = o := by
              rw [List.getD_eq_getElem?_getD, List.getElem?_append_right (by simp [hl])]
              simp [hl]
            rw [this]; rfl
          · rw [List.getElem?_set_ne hi, List.getElem?_set_ne hi, List.getElem?_map, List.getElem?_range h]
            have hx : x.st[i]? = some x.st[i] := List.getElem?_eq_getElem (by omega)
            rw [hx]
            simp only [Option.map_some, Eff.on, St.new]
            have : (x.st.map (AObj.onRefs (gOf fk N)) ++ [o]).getD i .dead = x.st[i].onRefs (gOf fk N) := by
              rw [List.getD_eq_getElem?_getD, List.getElem?_append_left (by simp [hl, h]), List.getElem?_map, hx]; rfl
            rw [this]
            exact congrArg some (onRefsO_comp (gOf_scr fk N).scr rfl _).symm
        · rw [List.getElem?_eq_none (by simp [hl]; omega), List.getElem?_eq_none (by simp; omega)]
          rfl
    · simp only [St.keep, (hpst _).2]; rfl

def effScr (slot : Nat) : Eff → List Nat
  | .new _ => [slot]
  | .own id _ => [id]
  | _ => []
/-- what becomes unknown in a step -/
theorem mkAp_scr {fk : Fk} {N slot : Nat} {dst : Option Nat} {e : Eff} {v : AV} (he : ∀ o, e = .new o → fk.isNew = true) :
    Scr (effScr slot e) N (mkAp fk N slot dst e v).g := by
  cases e with
  | none => exact gOf_scr fk N
  | write id o => exact gOf_scr fk N
  | own id o => exact own_scr fk N id
  | new o => exact new_scr (he o rfl) N slot
end Go.Fw
