/- The framework, part B: how values without addresses stand for the machine's values, objects and worlds. -/
import Derived.Test.YtgcdiccbehiijaaFwA
import Derived.Laws.Sem
import Derived.Laws.Cells
import Derived.Laws.CopyRow
import Derived.Laws.World
set_option linter.all false
namespace Go.Fw
structure Env where
  ρ : Nat → Option Value
  sz : Nat → Nat
def CT.zeroV : CT → Value
  | .int k => .int k 0
  | .bool => .bool false
  | .str => .string .empty
  | .sl _ => .slice none 0 0
  | .ptr => .pointer none
  | .func => .nilFunc
  | .iface => .nilIface
  | .map => .map none
def Spare (T : Tab) (t : Nat) (vs : List Value) (o n c : Nat) : Prop :=
  ∀ j, n * (cts T t).length ≤ j → j < c * (cts T t).length → ∃ ct, (cts T t)[j % (cts T t).length]? = some ct ∧ vs[o + j]? = some ct.zeroV
section
variable (T : Tab) (E : Env) (Z : Nat → Prop) (w : World)
inductive VR : AV → Value → Prop
  | undef (v : Value) : VR .undef v
  | k (v : Value) (h : scalar v = true) : VR (.k v) v
  | ku : VR (.k Go.undef) Go.undef
  | slnil (t : Nat) (kd : SK) (h : kd = .nil ∨ kd = .any ∨ kd = .anyf) : VR (.sl t kd []) (.slice none 0 0)
  | sl (t : Nat) (kd : SK) (rows : List (List AV)) (A : Addr) (c : Nat) (cv : Nat → Nat → Value)
      (hn : kd ≠ .nil) (hf : kd = .full ∨ kd = .anyf → c = rows.length) (hc : rows.length ≤ c) (hs : c ≠ 0 → A.spot = none) (hz : rows ≠ [] → Z A.block)
      (hok : ∀ row ∈ rows, rowOk (cts T t) row = true)
      (hcell : ∀ (i : Nat) (row : List AV) (j : Nat) (av : AV), rows[i]? = some row → row[j]? = some av → w.cell? ⟨A.block, A.off + (i * (cts T t).length + j), none⟩ = some (cv i j))
      (hrep : ∀ (i : Nat) (row : List AV) (j : Nat) (av : AV), rows[i]? = some row → row[j]? = some av → VR av (cv i j)) :
      VR (.sl t kd rows) (.slice (some A) rows.length c)
  | sr (id : Nat) (A : Option Addr) (n c : Nat) (h : E.ρ id = some (.slice A n c)) : VR (.sr id) (.slice A n c)
  | ss (id a n : Nat) (A A' : Option Addr) (len c : Nat) (h : E.ρ id = some (.slice A len c)) (hb : a + n ≤ len)
      (hA : a < c → A' = A.map fun B => ⟨B.block, B.off + a * E.sz id, none⟩) : VR (.ss id a n) (.slice A' n (c - a))
  | ptr (id off B : Nat) (h : E.ρ id = some (.pointer (some ⟨B, 0, none⟩))) : VR (.ptr id off) (.pointer (some ⟨B, off, none⟩))
  | ap (id i off : Nat) (A : Addr) (n c : Nat) (h : E.ρ id = some (.slice (some A) n c)) (hi : i < n) :
      VR (.ap id i off) (.pointer (some ⟨A.block, A.off + (i * E.sz id + off), none⟩))
  | ep (t : Nat) (row : List AV) (off : Nat) (A : Addr) (cv : Nat → Value) (hz : Z A.block) (hok : rowOk (cts T t) row = true)
      (hcell : ∀ (j : Nat) (av : AV), row[j]? = some av → w.cell? ⟨A.block, A.off + j, none⟩ = some (cv j))
      (hrep : ∀ (j : Nat) (av : AV), row[j]? = some av → VR av (cv j)) :
      VR (.ep t row off) (.pointer (some ⟨A.block, A.off + off, none⟩))
  | agg (cs : List AV) (vs : List Value) (hl : cs.length = vs.length) (h : ∀ (j : Nat) (av : AV) (v : Value), cs[j]? = some av → vs[j]? = some v → VR av v) : VR (.agg cs) (.agg vs.toArray)
  | tup (cs : List AV) (vs : List Value) (hl : cs.length = vs.length) (h : ∀ (j : Nat) (av : AV) (v : Value), cs[j]? = some av → vs[j]? = some v → VR av v) : VR (.tup cs) (.tuple vs.toArray)
  | fn (f : Fn) (a b : List AV) (va vb : List Value) (ha : a.length = va.length) (hb : b.length = vb.length)
      (h : ∀ (j : Nat) (av : AV) (v : Value), a[j]? = some av → va[j]? = some v → VR av v) (h' : ∀ (j : Nat) (av : AV) (v : Value), b[j]? = some av → vb[j]? = some v → VR av v) : VR (.fn f a b) (.func f va.toArray vb.toArray)
  | iface (t : Nat) (x : AV) (v : Value) (h : VR x v) : VR (.iface t x) (.iface t v)
  | yl (id l : Nat) (h : E.ρ id = some (.func (.yield l) #[] #[])) : VR (.yl id) (.func (.yield l) #[] #[])
  | mp (id r : Nat) (h : E.ρ id = some (.map (some r))) : VR (.mp id) (.map (some r))
theorem VR.co {T : Tab} {E : Env} {Z : Nat → Prop} {w : World} {c : CT} {av : AV} {v : Value} (h : VR T E Z w av v) : VR T E Z w (c.co av) v := by
  unfold CT.co
  split
  · rename_i t u kd rows
    cases hf : kd.fits u t with
    | false => exact h
    | true =>
      cases h with
      | slnil _ _ _ => exact .slnil t .any (.inr (.inl rfl))
      | sl _ _ _ A c cv hn hff hc hs hz hok hcell hrep =>
        have : u = t := by cases kd <;> first | exact absurd rfl hn | exact Nat.eq_of_beq_eq_true hf
        subst this
        exact .sl u .any rows A c cv (by simp) (by simp) hc hs hz hok hcell hrep
  · exact h
def VRs (l : List AV) (vs : List Value) : Prop := l.length = vs.length ∧ ∀ (j : Nat) (av : AV) (v : Value), l[j]? = some av → vs[j]? = some v → VR T E Z w av v
variable {T E Z w} in
theorem VRs.coL : ∀ {cs : List CT} {l : List AV} {vs : List Value}, VRs T E Z w l vs → VRs T E Z w (coL cs l) vs
  | [], _, _, h => by unfold Fw.coL; exact h
  | _ :: _, [], _, h => by unfold Fw.coL; exact h
  | c :: cs, x :: l, vs, h => by
    obtain ⟨hl, hr⟩ := h
    match vs, hl with
    | v :: vs, hl =>
      have hl' : l.length = vs.length := by simpa using hl
      have ih := VRs.coL (cs := cs) (l := l) (vs := vs) ⟨hl', fun j av u hj hu => hr (j + 1) av u hj hu⟩
      simp only [Fw.coL]
      refine ⟨by simp [ih.1], fun j av u hj hu => ?_⟩
      cases j with
      | zero =>
        simp only [List.getElem?_cons_zero, Option.some.injEq] at hj hu
        subst hj; subst hu
        exact (hr 0 x v rfl rfl).co
      | succ j => exact ih.2 j av u hj hu
def ShapeV (t : Nat) (v : Value) : Prop := match T t with
  | some ti => v.cells.size = ti.cells.length ∧ (if ti.isAgg then ∃ cs, v = .agg cs else v.cells = #[v])
  | none => False
structure EntR (x : Bool) (kt et : Nat) (e : List AV × List AV) (n : MapEntry) : Prop where
  kok : rowOk (cts T kt) e.1 = true
  key : VRs T E Z w e.1 n.key.cells.toList
  ksh : ShapeV T kt n.key
  vok : x = false → rowOk (cts T et) e.2 = true
  val : VRs T E Z w e.2 n.val.cells.toList
  vsh : ShapeV T et n.val
inductive OR (id : Nat) : AObj → Prop
  | dead : OR id .dead
  | loop (fin : Bool) (pend : Code) (fn : FuncId) (tmps : List AV) (ps : List Nat) (a b : Code) (l D : Nat) (fn' : FuncId) (vs : List Value) (h : E.ρ id = some (.func (.yield l) #[] #[]))
      (hb : w.heap[l]? = some (.loop { state := bif fin then .done else .ready, pending := bif fin then some pend else none, fn := fn', tmps := vs.toArray, params := ps.toArray, assign := a, body := b, defers := D }))
      (hr : VRs T E Z w tmps vs) : OR id (.loop fin pend fn tmps ps a b)
  | mpo (x : Bool) (t kt et : Nat) (es : List (List AV × List AV)) (r clock : Nat) (ns : List MapEntry) (h : E.ρ id = some (.map (some r))) (hb : w.heap[r]? = some (.map ns.toArray clock))
      (ht : ∃ c b, T t = some ⟨.map kt et, c, b⟩) (hl : es.length = ns.length) (hr : ∀ (i : Nat) (e : List AV × List AV) (n : MapEntry), es[i]? = some e → ns[i]? = some n → EntR T E Z w x kt et e n) : OR id (.map x t es)
  | box (t : Nat) (cs : List AV) (B : Nat) (vs : List Value) (ty : TypeId) (h : E.ρ id = some (.pointer (some ⟨B, 0, none⟩)))
      (hb : w.heap[B]? = some (.cells vs.toArray ty (0, 0))) (hr : VRs T E Z w cs vs) : OR id (.box t cs)
  | arr0 (t : Nat) (kd : SK) (A : Option Addr) (h : E.ρ id = some (.slice A 0 0)) (hn : kd ≠ .nil) (hk : A = none → kd = .any)
      (hsz : E.sz id = (cts T t).length) : OR id (.arr t kd [])
  | arr (t : Nat) (kd : SK) (rows : List (List AV)) (B o c : Nat) (vs : List Value) (ty : TypeId) (hn : kd ≠ .nil)
      (h : E.ρ id = some (.slice (some ⟨B, o, none⟩) rows.length c)) (hc : rows.length ≤ c) (h0 : c ≠ 0) (hf : (kd = .full ∨ kd = .anyf → c = rows.length) ∧ (kd = .fresh → Spare T t vs o rows.length c))
      (hsz : E.sz id = (cts T t).length) (hb : w.heap[B]? = some (.cells vs.toArray ty (0, 0))) (ho : o + c * (cts T t).length ≤ vs.length)
      (hok : ∀ row ∈ rows, rowOk (cts T t) row = true)
      (hr : ∀ (i : Nat) (row : List AV) (j : Nat) (av : AV) (v : Value), rows[i]? = some row → row[j]? = some av → vs[o + (i * (cts T t).length + j)]? = some v → VR T E Z w av v) : OR id (.arr t kd rows)
  | iter (s : ByteArray) (pos B : Nat) (h : E.ρ id = some (.pointer (some ⟨B, 0, none⟩))) (hb : w.heap[B]? = some (.stringIter s pos)) : OR id (.iter s pos)
  | arx (t : Nat) (rows : List (List AV)) (B o c : Nat) (vs : List Value) (ty : TypeId)
      (h : E.ρ id = some (.slice (some ⟨B, o, none⟩) rows.length c)) (hc : rows.length ≤ c) (h0 : c ≠ 0)
      (hsz : E.sz id = (cts T t).length) (hb : w.heap[B]? = some (.cells vs.toArray ty (0, 0))) (ho : o + c * (cts T t).length ≤ vs.length)
      (hlen : ∀ row ∈ rows, row.length = (cts T t).length)
      (hr : ∀ (i : Nat) (row : List AV) (j : Nat) (av : AV) (v : Value), rows[i]? = some row → row[j]? = some av → vs[o + (i * (cts T t).length + j)]? = some v → VR T E Z w av v) : OR id (.arx t rows)
end
def ownsO (E : Env) (id : Nat) (o : AObj) (B : Nat) : Prop :=
  match o with
  | .box _ _ | .iter _ _ => ∃ A, E.ρ id = some (.pointer (some A)) ∧ A.block = B
  | .arr _ _ _ | .arx _ _ => ∃ A n c, E.ρ id = some (.slice (some A) n c) ∧ c ≠ 0 ∧ A.block = B
  | .loop _ _ _ _ _ _ _ => E.ρ id = some (.func (.yield B) #[] #[])
  | .map _ _ _ => E.ρ id = some (.map (some B))
  | .dead => False
def owns (E : Env) (st : List AObj) (id B : Nat) : Prop :=
  match st[id]? with
  | some o => ownsO E id o B
  | none => False
def Owned (E : Env) (st : List AObj) (B : Nat) : Prop := ∃ id, owns E st id B
structure SR (T : Tab) (E : Env) (Z : Nat → Prop) (w : World) (st : List AObj) : Prop where
  obj : ∀ id o, st[id]? = some o → OR T E Z w id o
  out : ∀ id, st.length ≤ id → E.ρ id = none
  inj : ∀ i j B, owns E st i B → owns E st j B → i = j
  zown : ∀ B, Owned E st B → ¬ Z B
  zlt : ∀ B, Z B → B < w.heap.size
structure StR (T : Tab) (E : Env) (Z : Nat → Prop) (w : World) (σ : St) (vals : List Value) : Prop where
  sr : SR T E Z w σ.st
  tm : VRs T E Z w σ.tmps vals
structure Ext (O Z : Nat → Prop) (w : World) (O' Z' : Nat → Prop) (w' : World) : Prop where
  os : w'.os = w.os
  tape : w'.tape = w.tape
  output : w'.output = w.output
  size : w.heap.size ≤ w'.heap.size
  same : ∀ b, b < w.heap.size → ¬ O b → w'.heap[b]? = w.heap[b]?
  zin : ∀ b, Z b → Z' b
  zout : ∀ b, Z' b → Z b ∨ O b ∨ w.heap.size ≤ b
  oout : ∀ b, O' b → O b ∨ w.heap.size ≤ b
theorem Ext.refl (O Z : Nat → Prop) (w : World) : Ext O Z w O Z w :=
  ⟨rfl, rfl, rfl, Nat.le_refl _, fun _ _ _ => rfl, fun _ h => h, fun _ h => .inl h, fun _ h => .inl h⟩
theorem Ext.trans {O Z O' Z' O'' Z'' : Nat → Prop} {w w' w'' : World} (h : Ext O Z w O' Z' w') (k : Ext O' Z' w' O'' Z'' w'') : Ext O Z w O'' Z'' w'' where
  os := k.os.trans h.os
  tape := k.tape.trans h.tape
  output := k.output.trans h.output
  size := Nat.le_trans h.size k.size
  same b hb ho := by
    have h1 := h.same b hb ho
    have h2 := k.same b (Nat.lt_of_lt_of_le hb h.size) (fun ho' => (h.oout b ho').elim ho (by omega))
    exact h2.trans h1
  zin b hz := k.zin b (h.zin b hz)
  zout b hz := by
    rcases k.zout b hz with h1 | h1 | h1
    · exact h.zout b h1
    · rcases h.oout b h1 with h2 | h2
      · exact .inr (.inl h2)
      · exact .inr (.inr h2)
    · exact .inr (.inr (Nat.le_trans h.size h1))
  oout b ho := by
    rcases k.oout b ho with h1 | h1
    · exact h.oout b h1
    · exact .inr (Nat.le_trans h.size h1)
theorem cell?_of_heap {w w' : World} {b : Nat} (h : w'.heap[b]? = w.heap[b]?) (o : Nat) : w'.cell? ⟨b, o, none⟩ = w.cell? ⟨b, o, none⟩ := by
  simp [World.cell?, h]
def isRef : AV → Bool
  | .sr _ | .ss _ _ _ | .ptr _ _ | .ap _ _ _ | .yl _ | .mp _ => true
  | _ => false
theorem onRefsL_eq (h : AV → AV) : ∀ l : List AV, AV.onRefsL h l = l.map (AV.onRefs h)
  | [] => rfl
  | v :: vs => by simp [AV.onRefsL, onRefsL_eq h vs]
theorem getElem?_onRefsL (h : AV → AV) (l : List AV) (j : Nat) : (AV.onRefsL h l)[j]? = (l[j]?).map (AV.onRefs h) := by
  rw [onRefsL_eq, List.getElem?_map]
theorem length_onRefsL (h : AV → AV) (l : List AV) : (AV.onRefsL h l).length = l.length := by rw [onRefsL_eq, List.length_map]
theorem onRefs_ok {c : CT} {v : AV} (h : AV → AV) (hc : c.ok v = true) : v.onRefs h = v := by
  cases c <;> cases v <;> simp_all [CT.ok, AV.onRefs]
theorem rowOk_get : ∀ {cs : List CT} {row : List AV}, rowOk cs row = true → row.length = cs.length ∧ ∀ (j : Nat) (c : CT) (v : AV), cs[j]? = some c → row[j]? = some v → c.ok v = true
  | [], [], _ => ⟨rfl, fun j c v h => by simp at h⟩
  | [], _ :: _, h => by simp [rowOk] at h
  | _ :: _, [], h => by simp [rowOk] at h
  | c :: cs, v :: vs, h => by
    simp only [rowOk, Bool.and_eq_true] at h
    obtain ⟨h1, h2⟩ := rowOk_get h.2
    refine ⟨by simp [h1], fun j c' v' hc hv => ?_⟩
    cases j with
    | zero => simp at hc hv; subst hc; subst hv; exact h.1
    | succ j => simp at hc hv; exact h2 j c' v' hc hv
theorem rowOk_onRefs {cs : List CT} {row : List AV} (h : AV → AV) (hr : rowOk cs row = true) {j : Nat} {v : AV} (hv : row[j]? = some v) : v.onRefs h = v := by
  obtain ⟨hl, hk⟩ := rowOk_get hr
  obtain ⟨hj, _⟩ := List.getElem?_eq_some_iff.1 hv
  exact onRefs_ok h (hk j _ v (List.getElem?_eq_getElem (hl ▸ hj)) hv)
mutual
theorem onRefs_id : ∀ v : AV, v.onRefs (fun x => x) = v
  | .agg cs => by simp [AV.onRefs, onRefsL_id cs]
  | .tup cs => by simp [AV.onRefs, onRefsL_id cs]
  | .fn f a b => by simp [AV.onRefs, onRefsL_id a, onRefsL_id b]
  | .iface t v => by simp [AV.onRefs, onRefs_id v]
  | .sr _ | .ss _ _ _ | .ptr _ _ | .ap _ _ _ | .yl _ | .mp _ | .undef | .k _ | .sl _ _ _ | .ep _ _ _ => by simp [AV.onRefs]
theorem onRefsL_id : ∀ l : List AV, AV.onRefsL (fun x => x) l = l
  | [] => rfl
  | v :: vs => by simp [AV.onRefsL, onRefs_id v, onRefsL_id vs]
end
section
variable {T : Tab} {E E' : Env} {Z Z' : Nat → Prop} {w w' : World}
theorem VR.map (h : AV → AV) (hZ : ∀ b, Z b → Z' b) (hw : ∀ b o, Z b → w'.cell? ⟨b, o, none⟩ = w.cell? ⟨b, o, none⟩)
    (hleaf : ∀ r v, isRef r = true → VR T E Z w r v → VR T E' Z' w' (h r) v) {av : AV} {v : Value} (hv : VR T E Z w av v) : VR T E' Z' w' (av.onRefs h) v := by
  induction hv with
  | undef v => exact .undef v
  | k v hs => exact .k v hs
  | ku => exact .ku
  | slnil t kd hk => exact .slnil t kd hk
  | sl t kd rows A c cv hn hf hc hs hz hok hcell hrep ih =>
    refine .sl t kd rows A c cv hn hf hc hs (fun h => hZ _ (hz h)) hok (fun i row j av hi hj => ?_) (fun i row j av hi hj => ?_)
    · rw [hw _ _ (hz (by rintro rfl; simp at hi))]; exact hcell i row j av hi hj
    · have := ih i row j av hi hj
      rwa [rowOk_onRefs h (hok row (List.mem_of_getElem? hi)) hj] at this
  | sr id A n c he => exact hleaf _ _ rfl (.sr id A n c he)
  | ss id a n A A' len c he hb hA => exact hleaf _ _ rfl (.ss id a n A A' len c he hb hA)
  | ptr id off B he => exact hleaf _ _ rfl (.ptr id off B he)
  | ap id i off A n c he hi => exact hleaf _ _ rfl (.ap id i off A n c he hi)
  | ep t row off A cv hz hok hcell hrep ih =>
    refine .ep t row off A cv (hZ _ hz) hok (fun j av hj => ?_) (fun j av hj => ?_)
    · rw [hw _ _ hz]; exact hcell j av hj
    · have := ih j av hj
      rwa [rowOk_onRefs h hok hj] at this
  | agg cs vs hl hr ih =>
    refine .agg _ vs (by rw [length_onRefsL]; exact hl) (fun j av v hj hv => ?_)
    rw [getElem?_onRefsL] at hj
    obtain ⟨x, hx, rfl⟩ := Option.map_eq_some_iff.1 hj
    exact ih j x v hx hv
  | tup cs vs hl hr ih =>
    refine .tup _ vs (by rw [length_onRefsL]; exact hl) (fun j av v hj hv => ?_)
    rw [getElem?_onRefsL] at hj
    obtain ⟨x, hx, rfl⟩ := Option.map_eq_some_iff.1 hj
    exact ih j x v hx hv
  | fn f a b va vb ha hb hr hr' ih ih' =>
    refine .fn f _ _ va vb (by rw [length_onRefsL]; exact ha) (by rw [length_onRefsL]; exact hb) (fun j av v hj hv => ?_) (fun j av v hj hv => ?_)
    · rw [getElem?_onRefsL] at hj
      obtain ⟨x, hx, rfl⟩ := Option.map_eq_some_iff.1 hj
      exact ih j x v hx hv
    · rw [getElem?_onRefsL] at hj
      obtain ⟨x, hx, rfl⟩ := Option.map_eq_some_iff.1 hj
      exact ih' j x v hx hv
  | iface t x v hr ih => exact .iface t _ v ih
  | yl id l he => exact hleaf _ _ rfl (.yl id l he)
  | mp id r he => exact hleaf _ _ rfl (.mp id r he)
theorem VRs.map (h : AV → AV) (hZ : ∀ b, Z b → Z' b) (hw : ∀ b o, Z b → w'.cell? ⟨b, o, none⟩ = w.cell? ⟨b, o, none⟩)
    (hleaf : ∀ r v, isRef r = true → VR T E Z w r v → VR T E' Z' w' (h r) v) {l : List AV} {vs : List Value} (hv : VRs T E Z w l vs) : VRs T E' Z' w' (AV.onRefsL h l) vs := by
  refine ⟨by rw [length_onRefsL]; exact hv.1, fun j av v hj hvj => ?_⟩
  rw [getElem?_onRefsL] at hj
  obtain ⟨x, hx, rfl⟩ := Option.map_eq_some_iff.1 hj
  exact (hv.2 j x v hx hvj).map h hZ hw hleaf
theorem VR.leaf_of (hE : ∀ i v, E.ρ i = some v → E'.ρ i = some v ∧ E'.sz i = E.sz i) (r : AV) (v : Value) (hr : isRef r = true) (h : VR T E Z w r v) : VR T E' Z' w' r v := by
  cases h <;> simp [isRef] at hr
  case sr id A n c h => exact .sr _ _ _ _ (hE _ _ h).1
  case ss id a n A A' len c h hb hA => exact .ss _ _ _ _ _ _ _ (hE _ _ h).1 hb (by rw [(hE _ _ h).2]; exact hA)
  case ptr id off B h => exact .ptr _ _ _ (hE _ _ h).1
  case ap id i off A n c h hi => rw [← (hE _ _ h).2]; exact .ap _ _ _ _ _ _ (hE _ _ h).1 hi
  case yl id l h => exact .yl _ _ (hE _ _ h).1
  case mp id r h => exact .mp _ _ (hE _ _ h).1
theorem VR.mono (hE : ∀ i v, E.ρ i = some v → E'.ρ i = some v ∧ E'.sz i = E.sz i) (hZ : ∀ b, Z b → Z' b)
    (hw : ∀ b o, Z b → w'.cell? ⟨b, o, none⟩ = w.cell? ⟨b, o, none⟩) {av : AV} {v : Value} (hv : VR T E Z w av v) : VR T E' Z' w' av v := by
  have := hv.map (E' := E') (Z' := Z') (w' := w') (fun x => x) hZ hw (fun r v hr h => VR.leaf_of hE r v hr h)
  rwa [onRefs_id] at this
theorem VRs.mono (hE : ∀ i v, E.ρ i = some v → E'.ρ i = some v ∧ E'.sz i = E.sz i) (hZ : ∀ b, Z b → Z' b)
    (hw : ∀ b o, Z b → w'.cell? ⟨b, o, none⟩ = w.cell? ⟨b, o, none⟩) {l : List AV} {vs : List Value} (hv : VRs T E Z w l vs) : VRs T E' Z' w' l vs :=
  ⟨hv.1, fun j av v hj hvj => (hv.2 j av v hj hvj).mono hE hZ hw⟩
theorem OR.map (h : AV → AV) (hZ : ∀ b, Z b → Z' b) (hw : ∀ b o, Z b → w'.cell? ⟨b, o, none⟩ = w.cell? ⟨b, o, none⟩)
    (hleaf : ∀ r v, isRef r = true → VR T E Z w r v → VR T E' Z' w' (h r) v) {id id' : Nat} {o : AObj} (hE : E'.ρ id' = E.ρ id) (hs : E'.sz id' = E.sz id)
    (hb : ∀ B, ownsO E id o B → w'.heap[B]? = w.heap[B]?)
    (ho : OR T E Z w id o) : OR T E' Z' w' id' (o.onRefs h) := by
  cases ho with
  | dead => exact .dead
  | loop fin pend fn tmps ps a b l D fn' vs he hbb hr => exact .loop fin pend fn _ ps a b l D fn' vs (hE.trans he) ((hb l he).trans hbb) (hr.map h hZ hw hleaf)
  | mpo x t kt et es r clock ns he hbb ht hl hr =>
    refine .mpo x t kt et _ r clock ns (hE.trans he) ((hb r he).trans hbb) ht (by rw [List.length_map]; exact hl) (fun i e n hi hn => ?_)
    rw [List.getElem?_map, Option.map_eq_some_iff] at hi
    obtain ⟨y, hy, rfl⟩ := hi
    obtain ⟨k1, k2, k3, k4, k5, k6⟩ := hr i y n hy hn
    have ek : ∀ {cs : List CT} {l : List AV}, rowOk cs l = true → AV.onRefsL h l = l := fun {cs l} hok => by
      rw [onRefsL_eq]
      refine List.ext_getElem? fun j => ?_
      rw [List.getElem?_map]
      cases hj : l[j]? with
      | none => rfl
      | some v => rw [Option.map_some, rowOk_onRefs h hok hj]
    refine ⟨k1, ?_, k3, fun hx => ?_, k5.map h hZ hw hleaf, k6⟩
    · have := k2.map (E' := E') (Z' := Z') (w' := w') h hZ hw hleaf
      rwa [ek k1] at this
    · simp only [ek (k4 hx)]; exact k4 hx
  | box t cs B vs ty he hbb hr => exact .box t _ B vs ty (hE.trans he) ((hb B ⟨_, he, rfl⟩).trans hbb) (hr.map h hZ hw hleaf)
  | arr0 t kd A he hn hk hsz => exact .arr0 t kd A (hE.trans he) hn hk (hs.trans hsz)
  | arr t kd rows B o c vs ty hn he hc h0 hf hsz hbb ho hok hr =>
    refine .arr t kd rows B o c vs ty hn (hE.trans he) hc h0 hf (hs.trans hsz) ((hb B ⟨_, _, _, he, h0, rfl⟩).trans hbb) ho hok (fun i row j av v hi hj hv => ?_)
    have := (hr i row j av v hi hj hv).map (E' := E') (Z' := Z') (w' := w') h hZ hw hleaf
    rwa [rowOk_onRefs h (hok row (List.mem_of_getElem? hi)) hj] at this
  | iter s pos B he hbb => exact .iter s pos B (hE.trans he) ((hb B ⟨_, he, rfl⟩).trans hbb)
  | arx t rows B o c vs ty he hc h0 hsz hbb ho hlen hr =>
    refine .arx t _ B o c vs ty (by rw [List.length_map]; exact hE.trans he) (by rw [List.length_map]; exact hc) h0 (hs.trans hsz) ((hb B ⟨_, _, _, he, h0, rfl⟩).trans hbb) ho (fun row hrow => ?_) (fun i row j av v hi hj hv => ?_)
    · obtain ⟨x, hx, rfl⟩ := List.mem_map.1 hrow
      rw [length_onRefsL]; exact hlen x hx
    · rw [List.getElem?_map, Option.map_eq_some_iff] at hi
      obtain ⟨x, hx, rfl⟩ := hi
      rw [getElem?_onRefsL, Option.map_eq_some_iff] at hj
      obtain ⟨y, hy, rfl⟩ := hj
      exact (hr i x j y v hx hy hv).map h hZ hw hleaf
end
end Go.Fw
