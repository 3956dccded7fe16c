/- The framework, part C: what becomes of the relation when an object is made, written, moved, dropped or frozen. -/
import Derived.Test.YtgcdiccbehiijaaFwB
set_option linter.all false
namespace Go.Fw
section
variable {T : Tab} {E E' : Env} {Z Z' : Nat → Prop} {w w' : World} {st : List AObj}
theorem owns_some {id B : Nat} {o : AObj} (h : st[id]? = some o) : owns E st id B ↔ ownsO E id o B := by unfold owns; rw [h]
theorem owns_get {id B : Nat} (h : owns E st id B) : ∃ o, st[id]? = some o ∧ ownsO E id o B := by
  unfold owns at h
  cases hh : st[id]? with
  | none => rw [hh] at h; exact h.elim
  | some o => rw [hh] at h; exact ⟨o, rfl, h⟩
theorem OR.owns_heap {id : Nat} {o : AObj} (ho : OR T E Z w id o) {B : Nat} (h : ownsO E id o B) : B < w.heap.size := by
  have key : ∀ {x}, w.heap[B]? = some x → B < w.heap.size := fun hx => (Array.getElem?_eq_some_iff.1 hx).1
  cases ho with
  | dead => exact h.elim
  | box t cs B' vs ty he hb hr =>
    obtain ⟨A, hA, rfl⟩ := h
    rw [he] at hA; simp at hA; subst hA; exact key hb
  | arr0 t kd A he hn hk hsz =>
    obtain ⟨A', n, c, hA, h0, rfl⟩ := h
    rw [he] at hA; simp at hA; omega
  | arr t kd rows B' o c vs ty hn he hc h0 hf hsz hb hoo hok hr =>
    obtain ⟨A', n, c', hA, h0', rfl⟩ := h
    rw [he] at hA; simp at hA; obtain ⟨rfl, _⟩ := hA; exact key hb
  | iter s pos B' he hb =>
    obtain ⟨A, hA, rfl⟩ := h
    rw [he] at hA; simp at hA; subst hA; exact key hb
  | arx t rows B' o c vs ty he hc h0 hsz hb hoo hlen hr =>
    obtain ⟨A', n, c', hA, h0', rfl⟩ := h
    rw [he] at hA; simp at hA; obtain ⟨rfl, _⟩ := hA; exact key hb
  | loop fin pend fn tmps ps a b l D fn' vs he hb hr =>
    have h' : E.ρ id = _ := h
    rw [he] at h'; simp at h'; subst h'; exact key hb
  | mpo x t kt et es r clock ns he hb ht hl hr =>
    have h' : E.ρ id = _ := h
    rw [he] at h'; simp at h'; subst h'; exact key hb
theorem SR.owns_lt (h : SR T E Z w st) {id B : Nat} (ho : owns E st id B) : B < w.heap.size := by
  obtain ⟨o, hst, ho⟩ := owns_get ho
  exact (h.obj id o hst).owns_heap ho
theorem SR.owned_lt (h : SR T E Z w st) {B : Nat} (ho : Owned E st B) : B < w.heap.size := ho.elim fun _ h' => h.owns_lt h'
theorem owns_lt_length {id B : Nat} (h : owns E st id B) : id < st.length := by
  obtain ⟨o, hst, _⟩ := owns_get h
  exact (List.getElem?_eq_some_iff.1 hst).1
theorem SR.zcell (h : SR T E Z w st) (hw : ∀ b, b < w.heap.size → ¬ Owned E st b → w'.heap[b]? = w.heap[b]?) (b o : Nat) (hz : Z b) :
    w'.cell? ⟨b, o, none⟩ = w.cell? ⟨b, o, none⟩ :=
  cell?_of_heap (hw b (h.zlt b hz) (fun ho => h.zown b ho hz)) o
theorem AObj.onRefs_id (o : AObj) : o.onRefs (fun x => x) = o := by
  cases o with
  | arx t rows =>
    simp only [AObj.onRefs]
    have : (AV.onRefsL fun x => x) = fun l => l := funext onRefsL_id
    rw [this]; simp
  | map x t es =>
    simp only [AObj.onRefs]
    have : (fun e : List AV × List AV => (e.1, AV.onRefsL (fun x => x) e.2)) = fun e => e := funext fun e => by rw [onRefsL_id]
    rw [this]; simp
  | _ => simp [AObj.onRefs, onRefsL_id]
theorem OR.mono {id : Nat} {o : AObj} (ho : OR T E Z w id o) (hE : ∀ i v, E.ρ i = some v → E'.ρ i = some v ∧ E'.sz i = E.sz i) (hZ : ∀ b, Z b → Z' b)
    (hw : ∀ b o, Z b → w'.cell? ⟨b, o, none⟩ = w.cell? ⟨b, o, none⟩) (hid : o ≠ .dead → ∃ v, E.ρ id = some v)
    (hb : ∀ B, ownsO E id o B → w'.heap[B]? = w.heap[B]?) : OR T E' Z' w' id o := by
  by_cases hd : o = .dead
  · subst hd; exact .dead
  · obtain ⟨v, hv⟩ := hid hd
    have := ho.map (E' := E') (Z' := Z') (w' := w') (id' := id) (fun x => x) hZ hw (fun r v hr h => VR.leaf_of hE r v hr h) ((hE _ _ hv).1.trans hv.symm) (hE _ _ hv).2 hb
    rwa [AObj.onRefs_id] at this
theorem OR.has {id : Nat} {o : AObj} (ho : OR T E Z w id o) (h : o ≠ .dead) : ∃ v, E.ρ id = some v := by
  cases ho with
  | dead => exact (h rfl).elim
  | box t cs B vs ty he hb hr => exact ⟨_, he⟩
  | arr0 t kd A he hn hk hsz => exact ⟨_, he⟩
  | arr t kd rows B o c vs ty hn he hc h0 hf hsz hb hoo hok hr => exact ⟨_, he⟩
  | iter s pos B he hb => exact ⟨_, he⟩
  | arx t rows B o c vs ty he hc h0 hsz hb hoo hlen hr => exact ⟨_, he⟩
  | loop fin pend fn tmps ps a b l D fn' vs he hb hr => exact ⟨_, he⟩
  | mpo x t kt et es r clock ns he hb ht hl hr => exact ⟨_, he⟩
theorem SR.update (h : SR T E Z w st) {id : Nat} {o' : AObj} (hid : id < st.length) (hother : ∀ j B, j ≠ id → owns E st j B → w'.heap[B]? = w.heap[B]?)
    (hunown : ∀ b, b < w.heap.size → ¬ Owned E st b → w'.heap[b]? = w.heap[b]?) (hsize : w.heap.size ≤ w'.heap.size)
    (ho : OR T E Z w' id o') (hown : ∀ B, ownsO E id o' B → owns E st id B) :
    SR T E Z w' (st.set id o') ∧ (∀ B, Owned E (st.set id o') B → Owned E st B) := by
  have hall : ∀ j B, owns E (st.set id o') j B → owns E st j B := fun j B hB => by
    obtain ⟨o, hj, hB⟩ := owns_get hB
    by_cases hji : j = id
    · subst hji
      rw [List.getElem?_set_self hid] at hj
      obtain rfl : o' = o := by simpa using hj
      exact hown B hB
    · rw [List.getElem?_set_ne (Ne.symm hji)] at hj
      exact (owns_some hj).2 hB
  have hO : ∀ B, Owned E (st.set id o') B → Owned E st B := fun B ⟨j, hj⟩ => ⟨j, hall j B hj⟩
  refine ⟨⟨fun j o hj => ?_, fun j hj => h.out j (by simpa using hj), fun i j B hi hj => h.inj i j B (hall i B hi) (hall j B hj),
    fun B hB => h.zown B (hO B hB), fun B hz => Nat.lt_of_lt_of_le (h.zlt B hz) hsize⟩, hO⟩
  by_cases hji : j = id
  · subst hji
    rw [List.getElem?_set_self hid] at hj
    obtain rfl : o' = o := by simpa using hj
    exact ho
  · rw [List.getElem?_set_ne (Ne.symm hji)] at hj
    have hor := h.obj j o hj
    exact hor.mono (fun i v hv => ⟨hv, rfl⟩) (fun _ hz => hz) (h.zcell hunown) hor.has (fun B hB => hother j B hji ((owns_some hj).2 hB))
def Env.snoc (E : Env) (n : Nat) (v : Value) (s : Nat) : Env := { ρ := fun i => if i = n then some v else E.ρ i, sz := fun i => if i = n then s else E.sz i }
theorem SR.snoc_le (h : SR T E Z w st) (v : Value) (s : Nat) (i : Nat) (x : Value) (hx : E.ρ i = some x) :
    (E.snoc st.length v s).ρ i = some x ∧ (E.snoc st.length v s).sz i = E.sz i := by
  have hne : i ≠ st.length := fun e => by rw [h.out i (by omega)] at hx; cases hx
  simp [Env.snoc, hne, hx]
theorem SR.new (h : SR T E Z w st) (o : AObj) (v : Value) (s : Nat) (hw : ∀ b, b < w.heap.size → w'.heap[b]? = w.heap[b]?) (hsize : w.heap.size ≤ w'.heap.size)
    (ho : OR T (E.snoc st.length v s) Z w' st.length o) (hnew : ∀ B, ownsO (E.snoc st.length v s) st.length o B → w.heap.size ≤ B) :
    SR T (E.snoc st.length v s) Z w' (st ++ [o]) ∧ (∀ B, Owned (E.snoc st.length v s) (st ++ [o]) B → Owned E st B ∨ w.heap.size ≤ B) := by
  have hle := h.snoc_le v s
  have hget : ∀ j x, (st ++ [o])[j]? = some x → (j < st.length ∧ st[j]? = some x) ∨ (j = st.length ∧ x = o) := fun j x hj => by
    rcases Nat.lt_trichotomy j st.length with hl | hl | hl
    · rw [List.getElem?_append_left hl] at hj; exact .inl ⟨hl, hj⟩
    · subst hl; simp at hj; exact .inr ⟨rfl, hj.symm⟩
    · rw [List.getElem?_eq_none (by simp; omega)] at hj; cases hj
  have hold : ∀ j x B, j < st.length → (ownsO (E.snoc st.length v s) j x B ↔ ownsO E j x B) := fun j x B hj => by
    have : (E.snoc st.length v s).ρ j = E.ρ j := by simp [Env.snoc]; omega
    cases x <;> simp only [ownsO, this]
  have hall : ∀ j B, owns (E.snoc st.length v s) (st ++ [o]) j B → (j < st.length ∧ owns E st j B) ∨ (j = st.length ∧ w.heap.size ≤ B) := fun j B hB => by
    obtain ⟨x, hj, hB'⟩ := owns_get hB
    rcases hget j x hj with ⟨hl, hj⟩ | ⟨rfl, rfl⟩
    · exact .inl ⟨hl, (owns_some hj).2 ((hold j x B hl).1 hB')⟩
    · exact .inr ⟨rfl, hnew B hB'⟩
  refine ⟨⟨fun j x hj => ?_, fun j hj => ?_, fun i j B hi hj => ?_, fun B hB => ?_, fun B hz => Nat.lt_of_lt_of_le (h.zlt B hz) hsize⟩, fun B ⟨j, hj⟩ => ?_⟩
  · rcases hget j x hj with ⟨hl, hj⟩ | ⟨rfl, rfl⟩
    · have hor := h.obj j x hj
      exact hor.mono hle (fun _ hz => hz) (h.zcell fun b hb _ => hw b hb) hor.has (fun B hB => hw B (hor.owns_heap hB))
    · exact ho
  · simp at hj
    have hne : j ≠ st.length := by omega
    simp [Env.snoc, hne]; exact h.out j (by omega)
  · rcases hall i B hi with ⟨hli, hi⟩ | ⟨rfl, hi⟩ <;> rcases hall j B hj with ⟨hlj, hj⟩ | ⟨rfl, hj⟩
    · exact h.inj i j B hi hj
    · exact absurd (h.owns_lt hi) (by omega)
    · exact absurd (h.owns_lt hj) (by omega)
    · rfl
  · obtain ⟨j, hj⟩ := hB
    rcases hall j B hj with ⟨_, hj⟩ | ⟨_, hj⟩
    · exact h.zown B ⟨j, hj⟩
    · exact fun hz => absurd (h.zlt B hz) (by omega)
  · rcases hall j B hj with ⟨_, hj⟩ | ⟨_, hj⟩
    · exact .inl ⟨j, hj⟩
    · exact .inr hj
end
end Go.Fw
