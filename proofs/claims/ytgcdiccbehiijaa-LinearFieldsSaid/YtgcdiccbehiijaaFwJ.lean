/- The framework, part J: objects that are made, written and moved. -/
import Derived.Test.YtgcdiccbehiijaaFwI
set_option linter.all false
set_option linter.unusedSimpArgs false
set_option linter.unusedVariables false
namespace Go.Fw
section
variable {P : Program} {T : Tab} {E : Env} {Z : Nat → Prop} {w w' : World} {σ : St} {vals : List Value}

/-- one block more -/
structure Grew (w w' : World) (o : Obj) : Prop where
  heap : w'.heap = w.heap.push o
  os : w'.os = w.os
  tape : w'.tape = w.tape
  output : w'.output = w.output

theorem Grew.old {o : Obj} (h : Grew w w' o) (b : Nat) (hb : b < w.heap.size) : w'.heap[b]? = w.heap[b]? := by
  rw [h.heap, Array.getElem?_push, if_neg (by omega)]
theorem Grew.new {o : Obj} (h : Grew w w' o) : w'.heap[w.heap.size]? = some o := by rw [h.heap]; simp
theorem Grew.size {o : Obj} (h : Grew w w' o) : w'.heap.size = w.heap.size + 1 := by rw [h.heap]; simp
theorem Grew.alloc (w : World) (o : Obj) : Grew w (w.alloc o) o := ⟨rfl, rfl, rfl, rfl⟩
theorem Grew.drewAlloc (w : World) (o : Obj) : Grew w (w.drew.alloc o) o := ⟨rfl, rfl, rfl, rfl⟩

/-- an object in a new block, or without one -/
theorem StR.new (h : StR T E Z w σ vals) (o : AObj) (v : Value) (s : Nat) (hold : ∀ b, b < w.heap.size → w'.heap[b]? = w.heap[b]?) (hsz : w.heap.size ≤ w'.heap.size)
    (hos : w'.os = w.os) (htape : w'.tape = w.tape) (hout : w'.output = w.output)
    (ho : OR T (E.snoc σ.st.length v s) Z w' σ.st.length o) (hnew : ∀ B, ownsO (E.snoc σ.st.length v s) σ.st.length o B → w.heap.size ≤ B) :
    StR T (E.snoc σ.st.length v s) Z w' (σ.new o) vals ∧ Ext (Owned E σ.st) Z w (Owned (E.snoc σ.st.length v s) (σ.st ++ [o])) Z w' := by
  obtain ⟨h1, h2⟩ := h.sr.new o v s hold hsz ho hnew
  refine ⟨⟨h1, h.tm.mono (h.sr.snoc_le v s) (fun _ hz => hz) (h.sr.zcell fun b hb _ => hold b hb)⟩, ⟨hos, htape, hout, hsz, fun b hb _ => hold b hb, fun _ hz => hz, fun _ hz => .inl hz, h2⟩⟩

/-- objects below 'n' lie where they lay -/
def SameE (n : Nat) (E E' : Env) : Prop := ∀ i, i < n → E'.ρ i = E.ρ i ∧ E'.sz i = E.sz i

theorem SameE.snoc (E : Env) (n : Nat) (v : Value) (s : Nat) : SameE n E (E.snoc n v s) := fun i hi => by
  have : i ≠ n := by omega
  simp [Env.snoc, this]

theorem snoc_ρ (E : Env) (n : Nat) (v : Value) (s : Nat) : (E.snoc n v s).ρ n = some v := by simp [Env.snoc]
theorem snoc_sz (E : Env) (n : Nat) (v : Value) (s : Nat) : (E.snoc n v s).sz n = s := by simp [Env.snoc]

/-- a variable's block -/
theorem StR.newBox (h : StR T E Z w σ vals) (t : Nat) {cs : List AV} {vs : List Value} (hr : VRs T E Z w cs vs) (ty : TypeId) :
    ∃ E', StR T E' Z (w.alloc (.cells vs.toArray ty)) (σ.new (.box t cs)) vals ∧ VR T E' Z (w.alloc (.cells vs.toArray ty)) (.ptr σ.st.length 0) (.pointer (some ⟨w.heap.size, 0, none⟩)) ∧
      Ext (Owned E σ.st) Z w (Owned E' (σ.st ++ [.box t cs])) Z (w.alloc (.cells vs.toArray ty)) ∧ SameE σ.st.length E E' := by
  have hg := Grew.alloc w (.cells vs.toArray ty)
  have := h.new (w' := w.alloc (.cells vs.toArray ty)) (.box t cs) (.pointer (some ⟨w.heap.size, 0, none⟩)) 0 hg.old (by rw [hg.size]; omega) rfl rfl rfl
    (.box t cs w.heap.size vs ty (snoc_ρ _ _ _ _) hg.new (hr.mono (h.sr.snoc_le _ _) (fun _ hz => hz) (h.sr.zcell fun b hb _ => hg.old b hb)))
    (fun B hB => by obtain ⟨A, hA, rfl⟩ := hB; rw [snoc_ρ] at hA; cases hA; exact Nat.le_refl _)
  exact ⟨_, this.1, .ptr _ _ _ (snoc_ρ _ _ _ _), this.2, SameE.snoc _ _ _ _⟩

/-- an array's block: rows, and room behind them -/
theorem StR.newArr (h : StR T E Z w σ vals) {e : Nat} {rows : List (List AV)} {vs rest : List Value} (hr : RowsR T E Z w e rows vs) (hsz : 0 < (cts T e).length) {c : Nat} (hc : rows.length ≤ c) (h0 : c ≠ 0)
    (hl : (vs ++ rest).length = c * (cts T e).length) (kd : SK) (hn : kd ≠ .nil) (hf : (kd = .full ∨ kd = .anyf → c = rows.length) ∧ (kd = .fresh → Spare T e (vs ++ rest) 0 rows.length c)) (ty : TypeId) (hg : Grew w w' (.cells (vs ++ rest).toArray ty)) :
    ∃ E', StR T E' Z w' (σ.new (.arr e kd rows)) vals ∧ VR T E' Z w' (.sr σ.st.length) (.slice (some ⟨w.heap.size, 0, none⟩) rows.length c) ∧
      Ext (Owned E σ.st) Z w (Owned E' (σ.st ++ [.arr e kd rows])) Z w' ∧ SameE σ.st.length E E' := by
  have hm := hr.mono (E' := E.snoc σ.st.length (.slice (some ⟨w.heap.size, 0, none⟩) rows.length c) (cts T e).length) (w' := w') (h.sr.snoc_le _ _) (fun _ hz => hz) (h.sr.zcell fun b hb _ => hg.old b hb)
  have := h.new (w' := w') (.arr e kd rows) (.slice (some ⟨w.heap.size, 0, none⟩) rows.length c) (cts T e).length hg.old (by rw [hg.size]; omega) hg.os hg.tape hg.output
    (.arr e kd rows w.heap.size 0 c (vs ++ rest) ty hn (snoc_ρ _ _ _ _) hc h0 hf (snoc_sz _ _ _ _) hg.new (by rw [Nat.zero_add, hl]; exact Nat.le_refl _) hr.1 (fun i row j av v hi hj hv => by
      obtain ⟨v', hv', hr'⟩ := hm.get hi hj
      rw [Nat.zero_add, List.getElem?_append_left (List.getElem?_eq_some_iff.1 hv').1, hv'] at hv
      cases hv; exact hr'))
    (fun B hB => by obtain ⟨A, n, c', hA, _, rfl⟩ := hB; rw [snoc_ρ] at hA; cases hA; exact Nat.le_refl _)
  exact ⟨_, this.1, .sr _ _ _ _ (snoc_ρ _ _ _ _), this.2, SameE.snoc _ _ _ _⟩

/-- an array without room: no block of its own -/
theorem StR.newArr0 (h : StR T E Z w σ vals) (e : Nat) (kd : SK) (A : Option Addr) (hn : kd ≠ .nil) (hk : A = none → kd = .any) :
    ∃ E', StR T E' Z w (σ.new (.arr e kd [])) vals ∧ VR T E' Z w (.sr σ.st.length) (.slice A 0 0) ∧ Ext (Owned E σ.st) Z w (Owned E' (σ.st ++ [.arr e kd []])) Z w ∧ SameE σ.st.length E E' := by
  have := h.new (w' := w) (.arr e kd []) (.slice A 0 0) (cts T e).length (fun _ _ => rfl) (Nat.le_refl _) rfl rfl rfl
    (.arr0 e kd A (snoc_ρ _ _ _ _) hn hk (snoc_sz _ _ _ _))
    (fun B hB => by obtain ⟨A', n, c', hA, h0, _⟩ := hB; rw [snoc_ρ] at hA; cases hA; exact absurd rfl h0)
  exact ⟨_, this.1, .sr _ _ _ _ (snoc_ρ _ _ _ _), this.2, SameE.snoc _ _ _ _⟩

/-- at most one block has turned -/
structure OnlyAt (B : Nat) (w w' : World) : Prop where
  other : ∀ b, b ≠ B → w'.heap[b]? = w.heap[b]?
  size : w'.heap.size = w.heap.size
  os : w'.os = w.os
  tape : w'.tape = w.tape
  output : w'.output = w.output

theorem OnlyAt.setRow (w : World) (B : Nat) (cs : Array Value) : OnlyAt B w (w.setRow B cs) :=
  ⟨fun b hb => setRow_other w B b cs hb, by simp, rfl, rfl, rfl⟩

/-- an object is written in its place -/
theorem StR.write (h : StR T E Z w σ vals) {id B : Nat} {o' : AObj} (hid : id < σ.st.length) (hB : owns E σ.st id B) (hw : OnlyAt B w w') (ho : OR T E Z w' id o') (hown : ∀ C, ownsO E id o' C → C = B) :
    StR T E Z w' { σ with st := σ.st.set id o' } vals ∧ Ext (Owned E σ.st) Z w (Owned E (σ.st.set id o')) Z w' := by
  have hun : ∀ b, b < w.heap.size → ¬ Owned E σ.st b → w'.heap[b]? = w.heap[b]? := fun b _ hno => hw.other b (fun e => hno (e ▸ ⟨id, hB⟩))
  obtain ⟨h1, h2⟩ := h.sr.update (w' := w') hid (fun j C hj hC => hw.other C (fun e => hj (h.sr.inj j id B (e ▸ hC) hB))) hun (by rw [hw.size]; exact Nat.le_refl _) ho (fun C hC => by rw [hown C hC]; exact hB)
  exact ⟨⟨h1, h.tm.mono (fun i v hv => ⟨hv, rfl⟩) (fun _ hz => hz) (h.sr.zcell hun)⟩,
    ⟨hw.os, hw.tape, hw.output, by rw [hw.size]; exact Nat.le_refl _, hun, fun _ hz => hz, fun _ hz => .inl hz, fun b hb => .inl (h2 b hb)⟩⟩

def Env.setρ (E : Env) (id : Nat) (v : Value) : Env := { E with ρ := fun i => if i = id then some v else E.ρ i }

/-- an array moves, or grows: what referred to it is forgotten -/
theorem StR.move (h : StR T E Z w σ vals) {id : Nat} {o' : AObj} (v : Value) (hid : id < σ.st.length)
    (hother : ∀ b, b < w.heap.size → ¬ owns E σ.st id b → w'.heap[b]? = w.heap[b]?) (hsz : w.heap.size ≤ w'.heap.size) (hos : w'.os = w.os) (htape : w'.tape = w.tape) (hout : w'.output = w.output)
    (ho : OR T (E.setρ id v) Z w' id o') (hown : ∀ C, ownsO (E.setρ id v) id o' C → owns E σ.st id C ∨ w.heap.size ≤ C) :
    StR T (E.setρ id v) Z w' { σ.scrub id with st := (σ.scrub id).st.set id o' } vals ∧ Ext (Owned E σ.st) Z w (Owned (E.setρ id v) ((σ.scrub id).st.set id o')) Z w' := by
  have hρ : ∀ i, i ≠ id → (E.setρ id v).ρ i = E.ρ i := fun i hi => by simp [Env.setρ, hi]
  have hun : ∀ b, b < w.heap.size → ¬ Owned E σ.st b → w'.heap[b]? = w.heap[b]? := fun b hb hno => hother b hb (fun hB => hno ⟨id, hB⟩)
  have hleaf : ∀ r u, isRef r = true → VR T E Z w r u → VR T (E.setρ id v) Z w' (scrub1 id r) u := fun r u hr hv => by
    cases hv <;> simp [isRef] at hr
    case sr i A n c he =>
      simp only [scrub1]
      cases hi : Nat.beq i id with
      | true => exact .undef _
      | false => exact .sr _ _ _ _ (by rw [hρ i (Nat.ne_of_beq_eq_false hi)]; exact he)
    case ss i a n A A' len c he hb hA =>
      simp only [scrub1]
      cases hi : Nat.beq i id with
      | true => exact .undef _
      | false => exact .ss _ _ _ _ _ _ _ (by rw [hρ i (Nat.ne_of_beq_eq_false hi)]; exact he) hb hA
    case ptr i off B he =>
      simp only [scrub1]
      cases hi : Nat.beq i id with
      | true => exact .undef _
      | false => exact .ptr _ _ _ (by rw [hρ i (Nat.ne_of_beq_eq_false hi)]; exact he)
    case ap i k off A n c he hk =>
      simp only [scrub1]
      cases hi : Nat.beq i id with
      | true => exact .undef _
      | false => exact .ap i k off A n c (by rw [hρ i (Nat.ne_of_beq_eq_false hi)]; exact he) hk
  have hst : ∀ j o, ((σ.scrub id).st.set id o')[j]? = some o → (j = id ∧ o = o') ∨ (j ≠ id ∧ ∃ x, σ.st[j]? = some x ∧ o = x.onRefs (scrub1 id)) := fun j o hj => by
    by_cases hji : j = id
    · subst hji
      rw [List.getElem?_set_self (by simpa [St.scrub] using hid)] at hj
      exact .inl ⟨rfl, (Option.some.inj hj).symm⟩
    · rw [List.getElem?_set_ne (Ne.symm hji)] at hj
      simp only [St.scrub, List.getElem?_map, Option.map_eq_some_iff] at hj
      obtain ⟨x, hx, rfl⟩ := hj
      exact .inr ⟨hji, x, hx, rfl⟩
  have hown' : ∀ j C, owns (E.setρ id v) ((σ.scrub id).st.set id o') j C → (j = id ∧ (owns E σ.st id C ∨ w.heap.size ≤ C)) ∨ (j ≠ id ∧ owns E σ.st j C) := fun j C hj => by
    obtain ⟨o, hjo, hC⟩ := owns_get hj
    rcases hst j o hjo with ⟨rfl, rfl⟩ | ⟨hji, x, hx, rfl⟩
    · exact .inl ⟨rfl, hown C hC⟩
    · refine .inr ⟨hji, (owns_some hx).2 ?_⟩
      cases x <;> simp [ownsO, AObj.onRefs, hρ j hji] at hC ⊢ <;> exact hC
  have hzc := h.sr.zcell hun
  refine ⟨⟨⟨fun j o hj => ?_, fun j hj => ?_, fun i j B hi hj => ?_, fun B hB => ?_, fun B hz => Nat.lt_of_lt_of_le (h.sr.zlt B hz) hsz⟩, ?_⟩,
    ⟨hos, htape, hout, hsz, hun, fun _ hz => hz, fun _ hz => .inl hz, fun b hb => ?_⟩⟩
  · rcases hst j o hj with ⟨rfl, rfl⟩ | ⟨hji, x, hx, rfl⟩
    · exact ho
    · have hor := h.sr.obj j x hx
      exact hor.map (scrub1 id) (fun _ hz => hz) hzc hleaf (hρ j hji) rfl
        (fun B hB => hother B (hor.owns_heap hB) (fun hb => hji (h.sr.inj j id B ((owns_some hx).2 hB) hb)))
  · have hj' : σ.st.length ≤ j := by simpa [St.scrub] using hj
    rw [hρ j (by omega)]; exact h.sr.out j hj'
  · rcases hown' i B hi with ⟨hie, hi2⟩ | ⟨hii, hi2⟩ <;> rcases hown' j B hj with ⟨hje, hj2⟩ | ⟨hjj, hj2⟩
    · rw [hie, hje]
    · rcases hi2 with hi2 | hi2
      · exact hie.trans (h.sr.inj _ _ B hi2 hj2)
      · exact absurd (h.sr.owns_lt hj2) (by omega)
    · rcases hj2 with hj2 | hj2
      · exact (h.sr.inj _ _ B hi2 hj2).trans hje.symm
      · exact absurd (h.sr.owns_lt hi2) (by omega)
    · exact h.sr.inj _ _ B hi2 hj2
  · obtain ⟨j, hj⟩ := hB
    rcases hown' j B hj with ⟨rfl, hj | hj⟩ | ⟨_, hj⟩
    · exact h.sr.zown B ⟨_, hj⟩
    · exact fun hz => absurd (h.sr.zlt B hz) (by omega)
    · exact h.sr.zown B ⟨_, hj⟩
  · exact h.tm.map (scrub1 id) (fun _ hz => hz) hzc hleaf
  · obtain ⟨j, hj⟩ := hb
    rcases hown' j b hj with ⟨rfl, hj | hj⟩ | ⟨_, hj⟩
    · exact .inl ⟨_, hj⟩
    · exact .inr hj
    · exact .inl ⟨_, hj⟩

end
end Go.Fw
