/- A part of the proofs over the laws of layer 8 (worlds): what its functions come to. No conditions. -/
import Derived.Test.YtmcgeohnmncinaaG5
set_option linter.all false
namespace Go.Proofs.Ytmcgeohnmncinaa.W
open Go.Fw
set_option maxRecDepth 100000
/-! ### Lists of files in order -/
def Ord (l : RowL) : Prop := l.Pairwise fun r s => ltB (nm r) (nm s)
theorem sorted_ord : ∀ {l : RowL}, sortedB l = true → Ord l
  | [], _ => List.Pairwise.nil
  | r :: l, h => List.Pairwise.cons (sorted_head h) (sorted_ord (sorted_tail h))
theorem ord_sorted : ∀ {l : RowL}, Ord l → sortedB l = true
  | [], _ => rfl
  | [_], _ => rfl
  | r :: s :: l, h => by
    cases h with
    | cons h1 h2 =>
      simp only [sortedB, Bool.and_eq_true]
      exact ⟨(less_ltB _ _).2 (h1 s List.mem_cons_self), ord_sorted h2⟩
def validR (r : List AV) : Bool := isName (nm r) && (isText (tx r) && !decide (((tx r).size : Int) > 65536))
theorem fileE_zero {n b t : ByteArray} {first : Bool} : fileE n b t first = 0 ↔ (isName n && (isText t && !decide ((t.size : Int) > 65536))) = true ∧ (first = false → ltB b n) := by
  unfold fileE
  cases hn : isName n with
  | false => simp
  | true =>
    cases first with
    | true =>
      cases ht : isText t <;> cases hs : decide ((t.size : Int) > 65536) <;> simp
    | false =>
      cases ho : (Op.bytesLess n.toList b.toList || n == b) with
      | true =>
        have : ¬ ltB b n := fun h => by
          have h' := (less_ltB _ _).2 h
          rw [← nameOrder] at ho
          rw [h'] at ho; cases ho
        simp [ho, this]
      | false =>
        have : ltB b n := by
          rw [← nameOrder] at ho
          simp only [Bool.not_eq_false'] at ho
          exact (less_ltB _ _).1 ho
        cases ht : isText t <;> cases hs : decide ((t.size : Int) > 65536) <;> simp [ho, this]
theorem filesE_zero : ∀ (l : RowL) (b : ByteArray) (first : Bool), filesE l b first = 0 ↔ (∀ r ∈ l, validR r = true) ∧ Ord l ∧ (first = false → ∀ r, l.head? = some r → ltB b (nm r))
  | [], b, first => ⟨fun _ => ⟨fun r h => (by cases h), List.Pairwise.nil, fun _ r h => (by cases h)⟩, fun _ => rfl⟩
  | r :: l, b, first => by
    have ih := filesE_zero l (nm r) false
    unfold filesE
    by_cases he : fileE (nm r) b (tx r) first = 0
    · simp only [he, bne_self_eq_false, cond_false]
      rw [ih]
      obtain ⟨h1, h2⟩ := fileE_zero.1 he
      constructor
      · rintro ⟨k1, k2, k3⟩
        refine ⟨fun x hx => ?_, ?_, fun hf x hx => by cases hx; exact h2 hf⟩
        · rcases List.mem_cons.1 hx with rfl | hx
          · exact h1
          · exact k1 x hx
        · cases l with
          | nil => exact List.Pairwise.cons (fun a h => by cases h) List.Pairwise.nil
          | cons s l =>
            have := k3 rfl s rfl
            refine List.Pairwise.cons (fun a ha => ?_) k2
            rcases List.mem_cons.1 ha with rfl | ha
            · exact this
            · cases k2 with
              | cons q1 q2 => exact ltB_trans this (q1 a ha)
      · rintro ⟨k1, k2, k3⟩
        cases k2 with
        | cons q1 q2 => exact ⟨fun x hx => k1 x (List.mem_cons_of_mem _ hx), q2, fun _ x hx => q1 x (List.mem_of_mem_head? hx)⟩
    · have hb : (fileE (nm r) b (tx r) first != 0) = true := by simpa using he
      rw [hb]
      simp only [cond_true]
      refine ⟨fun h => absurd h he, fun ⟨k1, k2, k3⟩ => absurd (fileE_zero.2 ⟨k1 r List.mem_cons_self, fun hf => k3 hf r rfl⟩) he⟩
/-- what Check asks of a world, but for its files -/
def headOk (w : Wd) : Prop := 0 ≤ w.at_ ∧ w.at_ ≤ (w.inp.size : Int) ∧ isText w.inp = true ∧ isText w.out = true ∧ w.inp.size ≤ 1048576 ∧ w.out.size ≤ 1048576
theorem chk_zero {w : Wd} : chk w = 0 ↔ headOk w ∧ w.rows.length ≤ 64 ∧ (∀ r ∈ w.rows, validR r = true) ∧ Ord w.rows := by
  have hf := filesE_zero w.rows .empty true
  unfold chk headOk
  by_cases h1 : w.at_ < 0
  · simp [h1]; omega
  by_cases h2 : w.at_ > (w.inp.size : Int)
  · simp [h1, h2]; omega
  cases h3 : isText w.inp with
  | false => simp [h1, h2]
  | true =>
    cases h4 : isText w.out with
    | false => simp [h1, h2]
    | true =>
      by_cases h5 : (w.inp.size : Int) > 1048576
      · simp [h1, h2, h5]; omega
      by_cases h6 : (w.out.size : Int) > 1048576
      · simp [h1, h2, h5, h6]; omega
      by_cases h7 : (w.rows.length : Int) > 64
      · simp [h1, h2, h5, h6, h7]; omega
      · simp only [h1, h2, h5, h6, h7, decide_false, cond_false, Bool.not_true]
        rw [hf]
        constructor
        · rintro ⟨k1, k2, _⟩
          exact ⟨⟨by omega, by omega, by simp, by simp, by omega, by omega⟩, by omega, k1, k2⟩
        · rintro ⟨_, _, k1, k2⟩
          exact ⟨k1, k2, fun h => by cases h⟩

/-! ### Where a name stands -/
def look (l : RowL) (s : ByteArray) : Option (List AV) := l.find? fun r => decide (nm r = s)
theorem pos_app {A C : RowL} {s : ByteArray} (h : ∀ r ∈ A, ltB (nm r) s) : pos (A ++ C) s = A.length + pos C s := by
  induction A with
  | nil => simp
  | cons r A ih =>
    have hr := (cmpB_lt _ _).2 (h r List.mem_cons_self)
    simp only [List.cons_append, pos, hr, decide_true, cond_true, ih fun x hx => h x (List.mem_cons_of_mem _ hx), List.length_cons]
    omega
theorem pos_zero {c : List AV} {C : RowL} {s : ByteArray} (h : ¬ ltB (nm c) s) : pos (c :: C) s = 0 := by
  have : ¬ cmpB (nm c) s < 0 := fun hh => h ((cmpB_lt _ _).1 hh)
  simp [pos, this]
theorem ltB_total {a b : ByteArray} (h : ¬ ltB a b) : b = a ∨ ltB b a := by
  by_cases hc : cmpB a b = 0
  · exact .inl ((cmpB_eq a b).1 hc).symm
  · right
    have h1 : Op.bytesLess a.toList b.toList = false := by
      cases hh : Op.bytesLess a.toList b.toList with
      | false => rfl
      | true => exact absurd ((less_ltB a b).1 hh) h
    have h2 := nameOrder a b
    rw [h1] at h2
    have h3 : (b == a) = false := by
      rw [ba_beq, decide_eq_false_iff_not]
      intro e
      exact hc ((cmpB_eq a b).2 e.symm)
    rw [h3, Bool.or_false] at h2
    exact (less_ltB b a).1 h2.symm
/-- a list in order, parted at a name -/
theorem split_at {l : RowL} (h : Ord l) (s : ByteArray) : (∀ r ∈ l.take (pos l s), ltB (nm r) s) ∧ (∀ r ∈ l.drop (pos l s), ¬ ltB (nm r) s) := by
  have hs := ord_sorted h
  constructor
  · intro r hr
    obtain ⟨i, hi, rfl⟩ := List.getElem_of_mem hr
    rw [List.length_take] at hi
    rw [List.getElem_take]
    exact (cmpB_lt _ _).1 ((pos_spec l s hs i (by omega)).2 (by omega))
  · intro r hr hlt
    obtain ⟨i, hi, rfl⟩ := List.getElem_of_mem hr
    rw [List.length_drop] at hi
    rw [List.getElem_drop] at hlt
    have := (pos_spec l s hs (pos l s + i) (by omega)).1 ((cmpB_lt _ _).2 hlt)
    omega
theorem found_look {l : RowL} (h : Ord l) (s : ByteArray) : look l s = bif found l s then some (l.getD (pos l s) []) else none := by
  obtain ⟨h1, h2⟩ := split_at h s
  have hA : look (l.take (pos l s)) s = none := by
    unfold look
    rw [List.find?_eq_none]
    intro r hr hh
    have e : nm r = s := of_decide_eq_true hh
    have := h1 r hr
    rw [e] at this
    exact ltB_irrefl _ this
  have hl : look l s = look (l.drop (pos l s)) s := by
    conv => lhs; rw [← List.take_append_drop (pos l s) l]
    unfold look at hA ⊢
    rw [List.find?_append, hA]; rfl
  rw [hl]
  unfold found
  by_cases hp : pos l s < l.length
  · rw [List.drop_eq_getElem_cons hp] at h2 ⊢
    have hg : l.getD (pos l s) [] = l[pos l s] := rowAtN l _ hp
    rw [decide_eq_true hp, hg]
    have ho : Ord (l[pos l s] :: l.drop (pos l s + 1)) := by
      have := h.drop (i := pos l s)
      rwa [List.drop_eq_getElem_cons hp] at this
    unfold look
    by_cases he : nm l[pos l s] = s
    · have : (cmpB (nm l[pos l s]) s == 0) = true := by rw [beq_iff_eq]; exact (cmpB_eq _ _).2 he
      rw [List.find?_cons_of_pos (by simpa using he), this]; rfl
    · have hne : (cmpB (nm l[pos l s]) s == 0) = false := by rw [beq_eq_false_iff_ne]; exact fun hh => he ((cmpB_eq _ _).1 hh)
      rw [List.find?_cons_of_neg (by simpa using he), hne]
      simp only [Bool.and_false, cond_false]
      rw [List.find?_eq_none]
      intro r hr hh
      have e : nm r = s := of_decide_eq_true hh
      cases ho with
      | cons q1 q2 =>
        have q := q1 r hr
        rw [e] at q
        exact h2 _ List.mem_cons_self q
  · rw [List.drop_of_length_le (by omega), decide_eq_false hp]
    rfl
end Go.Proofs.Ytmcgeohnmncinaa.W
namespace Go.Proofs.Ytmcgeohnmncinaa.W
open Go.Fw
set_option maxRecDepth 100000
/-! ### slices.Delete -/
def okD (out : RowL) : Option Res := some (.sr 1, [.dead, .arr 42 .any out])
def dX (rows : RowL) (j : Int) : RowL := List.take (rows.length - j.toNat) (List.drop j.toNat rows)
def dL (rows : RowL) (i j : Int) : Int := ((i.toNat - 0 + (dX rows j).length : Nat) : Int)
def dR (rows : RowL) (i j : Int) : RowL := List.take (0 + (i.toNat - 0)) rows ++ dX rows j ++ List.drop (0 + (i.toNat - 0) + (dX rows j).length) rows
def dZ (rows : RowL) (i j : Int) : RowL := List.replicate (List.take ((rows.length : Int).toNat - (dL rows i j).toNat) (List.drop (0 + (dL rows i j).toNat) (dR rows i j))).length zrow
theorem ev39 (rows : RowL) (i j : Int) (k : Nat) : ev sysP6 (k + 1) 39 [.sr 0, .k (.int .i64 i), .k (.int .i64 j)] [.arr 42 .fresh rows] =
  bif decide (0 ≤ (rows.length : Int)) && decide ((rows.length : Int) ≤ (rows.length : Int)) && (decide (0 ≤ j) && decide (j ≤ ((rows.length : Int).toNat : Int)) && (decide (0 ≤ i) && decide (i ≤ (j.toNat : Int)))) then
  (bif i == j then okD rows else bif decide (0 ≤ i) && decide (i ≤ (rows.length : Int)) && true then (bif decide (0 ≤ j) && decide (j ≤ (rows.length : Int)) then (bif Nat.ble (0 + (i.toNat - 0) + (dX rows j).length) rows.length then
   (bif decide (0 ≤ (rows.length : Int)) && decide ((rows.length : Int) ≤ (((dR rows i j).length - 0 : Nat) : Int)) && (decide (0 ≤ dL rows i j) && decide (dL rows i j ≤ ((rows.length : Int).toNat : Int))) then
    (bif Nat.ble (dZ rows i j).length ((rows.length : Int).toNat - (dL rows i j).toNat) && Nat.ble (0 + (dL rows i j).toNat + (dZ rows i j).length) (dR rows i j).length then
      okD (List.take (i.toNat - 0 + (dX rows j).length) (List.drop 0 (List.take (0 + (dL rows i j).toNat) (dR rows i j) ++ dZ rows i j ++ List.drop (0 + (dL rows i j).toNat + (dZ rows i j).length) (dR rows i j)))) else none) else none) else none) else none) else none) else none := by kernel_rfl
def del (rows : RowL) (i : Nat) : RowL := rows.take i ++ rows.drop (i + 1)
theorem ev39_del (rows : RowL) (i : Nat) (hi : i < rows.length) : ev sysP6 (0 + 1) 39 [.sr 0, .k (.int .i64 (i : Int)), .k (.int .i64 ((i + 1 : Nat) : Int))] [.arr 42 .fresh rows] = okD (del rows i) := by
  rw [ev39]
  have hX : dX rows ((i + 1 : Nat) : Int) = rows.drop (i + 1) := by
    unfold dX
    rw [Int.toNat_natCast, List.take_of_length_le]
    rw [List.length_drop]; omega
  have hXl : (rows.drop (i + 1)).length = rows.length - (i + 1) := List.length_drop
  have hL : dL rows (i : Int) ((i + 1 : Nat) : Int) = ((rows.length - 1 : Nat) : Int) := by
    unfold dL
    rw [hX, Int.toNat_natCast, hXl]; omega
  have hRl : (dR rows (i : Int) ((i + 1 : Nat) : Int)).length = rows.length := by
    unfold dR
    rw [hX, Int.toNat_natCast]
    simp only [List.length_append, List.length_take, List.length_drop]
    omega
  have hR : (dR rows (i : Int) ((i + 1 : Nat) : Int)).take (rows.length - 1) = del rows i := by
    unfold dR del
    rw [hX, Int.toNat_natCast, Nat.zero_add, Nat.sub_zero, List.take_left']
    rw [List.length_append, List.length_take, hXl]; omega
  have hZl : (dZ rows (i : Int) ((i + 1 : Nat) : Int)).length = 1 := by
    unfold dZ
    rw [List.length_replicate, hL, Int.toNat_natCast, Int.toNat_natCast, List.length_take, List.length_drop, hRl]; omega
  have hdl : (del rows i).length = rows.length - 1 := by
    unfold del
    simp only [List.length_append, List.length_take, List.length_drop]
    omega
  have k1 : decide ((rows.length : Int) ≤ (rows.length : Int)) = true := by simp
  have k2 : decide (((i + 1 : Nat) : Int) ≤ ((rows.length : Int).toNat : Int)) = true := by rw [decide_eq_true_eq]; omega
  have k3 : decide ((i : Int) ≤ (((i + 1 : Nat) : Int).toNat : Int)) = true := by rw [decide_eq_true_eq]; omega
  have k4 : ((i : Int) == ((i + 1 : Nat) : Int)) = false := by rw [beq_eq_false_iff_ne]; omega
  have k5 : decide ((i : Int) ≤ (rows.length : Int)) = true := by rw [decide_eq_true_eq]; omega
  have k6 : decide (((i + 1 : Nat) : Int) ≤ (rows.length : Int)) = true := by rw [decide_eq_true_eq]; omega
  have k7 : Nat.ble (0 + (((i : Nat) : Int).toNat - 0) + (dX rows ((i + 1 : Nat) : Int)).length) rows.length = true := by rw [Nat.ble_eq, hX, hXl]; omega
  have k8 : decide ((rows.length : Int) ≤ (((dR rows (i : Int) ((i + 1 : Nat) : Int)).length - 0 : Nat) : Int)) = true := by rw [decide_eq_true_eq, hRl]; omega
  have k9 : decide (0 ≤ dL rows (i : Int) ((i + 1 : Nat) : Int)) = true := by rw [hL]; exact leN _
  have k10 : decide (dL rows (i : Int) ((i + 1 : Nat) : Int) ≤ ((rows.length : Int).toNat : Int)) = true := by rw [hL, decide_eq_true_eq]; omega
  have k11 : Nat.ble (dZ rows (i : Int) ((i + 1 : Nat) : Int)).length ((rows.length : Int).toNat - (dL rows (i : Int) ((i + 1 : Nat) : Int)).toNat) = true := by rw [Nat.ble_eq, hZl, hL]; omega
  have k12 : Nat.ble (0 + (dL rows (i : Int) ((i + 1 : Nat) : Int)).toNat + (dZ rows (i : Int) ((i + 1 : Nat) : Int)).length) (dR rows (i : Int) ((i + 1 : Nat) : Int)).length = true := by rw [Nat.ble_eq, hZl, hL, hRl]; omega
  have hfin : List.take (((i : Nat) : Int).toNat - 0 + (dX rows ((i + 1 : Nat) : Int)).length) (List.drop 0 (List.take (0 + (dL rows (i : Int) ((i + 1 : Nat) : Int)).toNat) (dR rows (i : Int) ((i + 1 : Nat) : Int)) ++ dZ rows (i : Int) ((i + 1 : Nat) : Int) ++ List.drop (0 + (dL rows (i : Int) ((i + 1 : Nat) : Int)).toNat + (dZ rows (i : Int) ((i + 1 : Nat) : Int)).length) (dR rows (i : Int) ((i + 1 : Nat) : Int)))) = del rows i := by
    have e : 0 + (dL rows (i : Int) ((i + 1 : Nat) : Int)).toNat = rows.length - 1 := by rw [hL]; omega
    rw [e, hR, hX, hXl, Int.toNat_natCast, List.drop_zero, List.append_assoc, List.take_left']
    rw [hdl]; omega
  rw [k1, k2, k3, k4, k5, k6, k7, k8, k9, k10, k11, k12, hfin, leN, leN, leN]
  rfl
def F39p : List AV → List AObj → Ab Res
  | [.sr 0, .k (.int .i64 i), .k (.int .i64 j)], [.arr 42 .fresh rows] => some (decide (0 ≤ i) && (decide (i < (rows.length : Int)) && decide (j = i + 1)), .sr 1, [.dead, .arr 42 .any (del rows i.toNat)])
  | _, _ => none
theorem told39p (args : List AV) (st : List AObj) (r : Res) (h : F39p args st = some (true, r)) : ∃ k, ev sysP6 k 39 args st = some r := by
  unfold F39p at h
  split at h
  · rename_i i j rows
    simp only [Option.some.injEq, Prod.mk.injEq, Bool.and_eq_true, decide_eq_true_eq] at h
    obtain ⟨⟨h1, h2, h3⟩, rfl⟩ := h
    obtain ⟨n, rfl⟩ : ∃ n : Nat, i = (n : Int) := ⟨i.toNat, by omega⟩
    subst h3
    exact ⟨0 + 1, ev39_del rows n (by omega)⟩
  · cases h
noncomputable def sysP7 : FSys := sysP6.tell 39 F39p
theorem sysP7Ok : SysOk Try.prog sysP7 := sysP6Ok.tell 39 F39p told39p
def dropR (w : Wd) (b : Bool) : Option Res := some (.tup [w.av, .k (.bool b)], [])
theorem ev25w (a o : ByteArray) (i : Int) (rows : RowL) (name : ByteArray) (k : Nat) : ev sysP7 (k + 1) 25 [Wd.av ⟨a, i, o, .wide, rows⟩, .k (.string name)] [] =
  bif Wd.okA ⟨a, i, o, .wide, rows⟩ 42 then (bif chk ⟨a, i, o, .wide, rows⟩ != 0 then dropR zeroW false else bif decide (rows.length * 32 ≤ reachBytes) then (bif Wd.okA ⟨a, i, o, .wide, rows⟩ 42 && sortedB rows then
   (bif found rows name then (bif decide (0 ≤ (pos rows name : Int)) && (decide ((pos rows name : Int) < (rows.length : Int)) && decide (IntKind.i64.wrap ((pos rows name : Int) + 1) = (pos rows name : Int) + 1)) then dropR ⟨a, i, o, .any, del rows (pos rows name : Int).toNat⟩ (found rows name) else none)
    else dropR ⟨a, i, o, .wide, rows⟩ (found rows name)) else none) else none) else none := by kernel_rfl
end Go.Proofs.Ytmcgeohnmncinaa.W
namespace Go.Proofs.Ytmcgeohnmncinaa.W
open Go.Fw
set_option maxRecDepth 100000
/-! ### Put and Drop, of all worlds -/
noncomputable def sysM0 : FSys := { T := tab, body := bodyOf Try.prog [25], ann := ann, prim := fun _ _ _ => none }
theorem bodyOkM : [25].all (bodyB Try.prog ann) = true := by kernel_rfl
theorem sysM0Ok : SysOk Try.prog sysM0 where
  mixed := by kernel_rfl
  tab := tabOk
  body := fun f fn h => body_ok bodyOkM f fn h
  prim := fun f args st r st' h => by cases h
noncomputable def sysM1 : FSys := sysM0.tell 11 (FA fun w => .k (.int .i64 (chk w)))
noncomputable def sysM2 : FSys := sysM1.tell 37 (FAT (fun w _ => sortedB w.rows) fun w s => srchAV w.rows s)
noncomputable def sysM3 : FSys := sysM2.tell 32 (FW Wd.av)
theorem sysM3Ok : SysOk Try.prog sysM3 := ((sysM0Ok.tellCF 11 _ fun args st r st' h => told11a args st r st' h).tellCF 37 _ fun args st r st' h => told37n args st r st' h).tellCF 32 _ fun args st r st' h => told32n args st r st' h
theorem ev25n (a o : ByteArray) (i : Int) (name : ByteArray) (k : Nat) : ev sysM3 (k + 1) 25 [Wd.av ⟨a, i, o, .nil, []⟩, .k (.string name)] [] =
  bif Wd.okA ⟨a, i, o, .nil, []⟩ 0 then (bif chk ⟨a, i, o, .nil, []⟩ != 0 then dropR zeroW false else bif Wd.okB ⟨a, i, o, .nil, []⟩ 0 then (bif Wd.okA ⟨a, i, o, .nil, []⟩ 0 && sortedB [] then dropR ⟨a, i, o, .nil, []⟩ false else none) else none) else none := by kernel_rfl
def putRows (rows : RowL) (n t : ByteArray) : RowL := bif found rows n then setT rows (pos rows n : Int) t else setT (ins rows (pos rows n) (newRow n)) (pos rows n : Int) t
def putW (w : Wd) (n t : ByteArray) : Wd × Int :=
  bif chk w != 0 then (zeroW, chk w) else bif fileE n .empty t true != 0 then (zeroW, fileE n .empty t true) else
  bif !found w.rows n && decide ((w.rows.length : Int) ≥ 64) then (zeroW, 6) else ({ w with kd := .wide, rows := putRows w.rows n t }, 0)
def putAV (w : Wd) (n t : ByteArray) : AV := .tup [(putW w n t).1.av, .k (.int .i64 (putW w n t).2)]
def dropW (w : Wd) (n : ByteArray) : Wd × Bool :=
  bif chk w != 0 then (zeroW, false) else bif found w.rows n then ({ w with kd := .any, rows := del w.rows (pos w.rows n) }, true) else (w, false)
def dropAV (w : Wd) (n : ByteArray) : AV := .tup [(dropW w n).1.av, .k (.bool (dropW w n).2)]
theorem chk_len {w : Wd} (h : (chk w != 0) = false) : w.rows.length ≤ 64 := by
  have h : chk w = 0 := by simpa using h
  exact (chk_zero.1 h).2.1
theorem put_wide (a o : ByteArray) (i : Int) (rows : RowL) (n t : ByteArray) (hw : Wd.Ok ⟨a, i, o, .wide, rows⟩) (ht : textC t = true) : ev sysP6 (0 + 1) 24 [Wd.av ⟨a, i, o, .wide, rows⟩, .k (.string n), .k (.string t)] [] = some (putAV ⟨a, i, o, .wide, rows⟩ n t, []) := by
  have hk : Wd.okA ⟨a, i, o, .wide, rows⟩ 42 = true := hw.a.okA
  rw [ev24w, hk, ht]
  unfold putAV putW
  cases hc : chk ⟨a, i, o, .wide, rows⟩ != 0 with
  | true => rfl
  | false =>
    have hl := chk_len hc
    simp only at hl
    cases fileE n .empty t true != 0 with
    | true => rfl
    | false =>
      have k1 : decide (rows.length * 32 ≤ reachBytes) = true := by rw [decide_eq_true_eq]; exact hw.len
      have hp := pos_le rows n
      have k2 : decide ((rows.length + 1) * 32 ≤ reachBytes) = true := by rw [decide_eq_true_eq]; unfold reachBytes; omega
      have k3 : decide ((pos rows n : Int) ≤ (rows.length : Int)) = true := by rw [decide_eq_true_eq]; omega
      have hil : (ins rows (pos rows n) (newRow n)).length = rows.length + 1 := by
        unfold ins
        simp only [List.length_append, List.length_take, List.length_drop, List.length_singleton]; omega
      have k4 : decide ((pos rows n : Int) < ((ins rows (pos rows n : Int).toNat (newRow n)).length : Int)) = true := by rw [Int.toNat_natCast, hil, decide_eq_true_eq]; omega
      have hso : sortedB rows = true := chk_sorted hc
      rw [k1, hso, k2, k3, k4, leN]
      unfold putRows
      cases hf : found rows n with
      | true => rw [ltN (found_lt hf)]; rfl
      | false => cases decide ((rows.length : Int) ≥ 64) <;> rfl
theorem put_nil (a o : ByteArray) (i : Int) (n t : ByteArray) (hw : Wd.Ok ⟨a, i, o, .nil, []⟩) (ht : textC t = true) : ev sysN5 (0 + 1) 24 [Wd.av ⟨a, i, o, .nil, []⟩, .k (.string n), .k (.string t)] [] = some (putAV ⟨a, i, o, .nil, []⟩ n t, []) := by
  have hk : Wd.okA ⟨a, i, o, .nil, []⟩ 0 = true := hw.a.okA
  have hk' : Wd.okB ⟨a, i, o, .nil, []⟩ 0 = true := hw.okB
  rw [ev24n, hk, hk', ht]
  unfold putAV putW
  cases hc : chk ⟨a, i, o, .nil, []⟩ != 0 with
  | true => rfl
  | false =>
    cases fileE n .empty t true != 0 <;> rfl
theorem drop_wide (a o : ByteArray) (i : Int) (rows : RowL) (n : ByteArray) (hw : Wd.Ok ⟨a, i, o, .wide, rows⟩) : ev sysP7 (0 + 1) 25 [Wd.av ⟨a, i, o, .wide, rows⟩, .k (.string n)] [] = some (dropAV ⟨a, i, o, .wide, rows⟩ n, []) := by
  have hk : Wd.okA ⟨a, i, o, .wide, rows⟩ 42 = true := hw.a.okA
  rw [ev25w, hk]
  unfold dropAV dropW
  cases hc : chk ⟨a, i, o, .wide, rows⟩ != 0 with
  | true => rfl
  | false =>
    have hl := chk_len hc
    simp only at hl
    have k1 : decide (rows.length * 32 ≤ reachBytes) = true := by rw [decide_eq_true_eq]; exact hw.len
    have hso : sortedB rows = true := chk_sorted hc
    have hp := pos_le rows n
    have k2 : decide (IntKind.i64.wrap ((pos rows n : Int) + 1) = (pos rows n : Int) + 1) = true := by rw [decide_eq_true_eq, wrap64] <;> omega
    rw [k1, hso, k2, leN]
    cases hf : found rows n with
    | true => rw [ltN (found_lt hf)]; rfl
    | false => rfl
theorem drop_nil (a o : ByteArray) (i : Int) (n : ByteArray) (hw : Wd.Ok ⟨a, i, o, .nil, []⟩) : ev sysM3 (0 + 1) 25 [Wd.av ⟨a, i, o, .nil, []⟩, .k (.string n)] [] = some (dropAV ⟨a, i, o, .nil, []⟩ n, []) := by
  have hk : Wd.okA ⟨a, i, o, .nil, []⟩ 0 = true := hw.a.okA
  have hk' : Wd.okB ⟨a, i, o, .nil, []⟩ 0 = true := hw.okB
  rw [ev25n, hk, hk']
  unfold dropAV dropW
  cases hc : chk ⟨a, i, o, .nil, []⟩ != 0 <;> rfl
def FP : List AV → List AObj → Ab Res
  | [.agg [.k (.string a), .k (.int .i64 i), .k (.string o), .sl u kd rows], .k (.string n), .k (.string t)], [] => some (Wd.okB ⟨a, i, o, kd, rows⟩ u && textC t, putAV ⟨a, i, o, kd, rows⟩ n t, [])
  | _, _ => none
theorem told24 (args : List AV) (st : List AObj) (r : AV) (st' : List AObj) (h : FP args st = some (true, (r, st'))) :
    CF Try.prog sys35.T 24 args st (sys35.ann 24).mvs r st' ∧ (sys35.ann 24).res.ok r = true ∧ OS.okL (sys35.ann 24).objs st' = true ∧ st.length ≤ st'.length := by
  unfold FP at h
  split at h
  · rename_i a i o u kd rows n t
    simp only [Option.some.injEq, Prod.mk.injEq, Bool.and_eq_true] at h
    obtain ⟨⟨h1, ht⟩, rfl, rfl⟩ := h
    obtain ⟨h2, rfl⟩ := Wd.Ok.of h1
    have hres : ∀ (w : Wd) (m : Int), (sys35.ann 24).res.ok (.tup [w.av, .k (.int .i64 m)]) = true := fun w m => by
      obtain ⟨b1, b2, b3, b4, b5⟩ := w
      cases b4 <;> kernel_rfl
    refine ⟨?_, hres _ _, by kernel_rfl, Nat.le_refl _⟩
    rcases h2.kd with h3 | ⟨h3, h4⟩
    · simp only at h3; subst h3
      exact cf_of sysP6Ok (f := 24) ⟨0 + 1, put_wide a o i rows n t h2 ht⟩
    · simp only at h3 h4; subst h3; subst h4
      exact cf_of sysN5Ok (f := 24) ⟨0 + 1, put_nil a o i n t h2 ht⟩
  · cases h
noncomputable def sys36 : FSys := sys35.tell 24 FP
def FD : List AV → List AObj → Ab Res
  | [.agg [.k (.string a), .k (.int .i64 i), .k (.string o), .sl u kd rows], .k (.string n)], [] => some (Wd.okB ⟨a, i, o, kd, rows⟩ u, dropAV ⟨a, i, o, kd, rows⟩ n, [])
  | _, _ => none
theorem told25 (args : List AV) (st : List AObj) (r : AV) (st' : List AObj) (h : FD args st = some (true, (r, st'))) :
    CF Try.prog sys36.T 25 args st (sys36.ann 25).mvs r st' ∧ (sys36.ann 25).res.ok r = true ∧ OS.okL (sys36.ann 25).objs st' = true ∧ st.length ≤ st'.length := by
  unfold FD at h
  split at h
  · rename_i a i o u kd rows n
    simp only [Option.some.injEq, Prod.mk.injEq] at h
    obtain ⟨h1, rfl, rfl⟩ := h
    obtain ⟨h2, rfl⟩ := Wd.Ok.of h1
    have hres : ∀ (w : Wd) (m : Bool), (sys36.ann 25).res.ok (.tup [w.av, .k (.bool m)]) = true := fun w m => by
      obtain ⟨b1, b2, b3, b4, b5⟩ := w
      cases b4 <;> kernel_rfl
    refine ⟨?_, hres _ _, by kernel_rfl, Nat.le_refl _⟩
    rcases h2.kd with h3 | ⟨h3, h4⟩
    · simp only at h3; subst h3
      exact cf_of sysP7Ok (f := 25) ⟨0 + 1, drop_wide a o i rows n h2⟩
    · simp only at h3 h4; subst h3; subst h4
      exact cf_of sysM3Ok (f := 25) ⟨0 + 1, drop_nil a o i n h2⟩
  · cases h
noncomputable def sys37 : FSys := sys36.tell 25 FD
theorem sys37Ok : SysOk Try.prog sys37 := (sysOk35.tellCF 24 FP told24).tellCF 25 FD told25
end Go.Proofs.Ytmcgeohnmncinaa.W
namespace Go.Proofs.Ytmcgeohnmncinaa.W
open Go.Fw
set_option maxRecDepth 100000
/-! ### WorldsApart -/
def txt9 : ByteArray := ⟨#[115, 111, 109, 101, 32, 116, 101, 120, 116]⟩
def rest9 (x : Wd) (name : ByteArray) : Option Res :=
  bif x.okB (x.kd.tag 42) then (bif (dropW x name).1.okA ((dropW x name).1.kd.tag 42) && true then (bif (dropW x name).2 then (bif !(read (dropW x name).1 name).2 then boolR true else boolR false) else boolR false) else none) else none
theorem law9 (w : Wd) (name other : ByteArray) (k : Nat) : ev sys37 (k + 1) 9 [w.av, .k (.string name), .k (.string other)] [] =
  bif w.okB (w.kd.tag 42) then (bif large w then boolR true else bif decide ((name.size : Int) > 400) then boolR true else bif decide ((other.size : Int) > 400) then boolR true else
  bif w.okB (w.kd.tag 42) && textC txt9 then (bif (putW w name txt9).2 != 0 then boolR true else
   bif (putW w name txt9).1.okA ((putW w name txt9).1.kd.tag 42) && true then (bif !(read (putW w name txt9).1 name).2 then boolR false else bif !((read (putW w name txt9).1 name).1 == txt9) then boolR false else
   bif (putW w name txt9).1.okA ((putW w name txt9).1.kd.tag 42) then (bif chk (putW w name txt9).1 != 0 then boolR false else bif !((putW w name txt9).1.inp == w.inp) then boolR false else bif (putW w name txt9).1.at_ != w.at_ then boolR false else bif !((putW w name txt9).1.out == w.out) then boolR false else
   bif w.okA (w.kd.tag 42) && true then (bif (putW w name txt9).1.okA ((putW w name txt9).1.kd.tag 42) && true then (bif !(other == name) then (bif !((read w other).1 == (read (putW w name txt9).1 other).1) then boolR false else bif (read w other).2 != (read (putW w name txt9).1 other).2 then boolR false else rest9 (putW w name txt9).1 name) else rest9 (putW w name txt9).1 name) else none) else none) else none) else none) else none) else none := by kernel_rfl
end Go.Proofs.Ytmcgeohnmncinaa.W
namespace Go.Proofs.Ytmcgeohnmncinaa.W
open Go.Fw
set_option maxRecDepth 100000
theorem putAt_parts (r : List AV) (t : ByteArray) (h : r ≠ []) : nm (putAt r 1 [.k (.string t)]) = nm r ∧ tx (putAt r 1 [.k (.string t)]) = t := by
  cases r with
  | nil => exact absurd rfl h
  | cons a l => exact ⟨rfl, rfl⟩
theorem set_mid (A B : RowL) (x y : List AV) : (A ++ x :: B).set A.length y = A ++ y :: B := by
  induction A with
  | nil => rfl
  | cons a A ih => simp only [List.cons_append, List.length_cons, List.set_cons_succ, ih]
theorem getD_mid (A B : RowL) (x : List AV) : (A ++ x :: B).getD A.length [] = x := by
  induction A with
  | nil => rfl
  | cons a A ih => simpa using ih
theorem name_ne {r : List AV} (h : isName (nm r) = true) : r ≠ [] := by
  rintro rfl
  have : nm ([] : List AV) = .empty := rfl
  rw [this] at h
  exact absurd h (by decide +kernel)
/-- what Put makes of a list: what is less, the file, what is greater -/
theorem put_parts {l : RowL} (ho : Ord l) (hv : ∀ r ∈ l, validR r = true) (n t : ByteArray) : ∃ A B r, putRows l n t = A ++ r :: B ∧ nm r = n ∧ tx r = t ∧ (∀ x ∈ A, ltB (nm x) n) ∧ (∀ x ∈ B, ltB n (nm x)) ∧ Ord A ∧ Ord B ∧
    (∀ x ∈ A, x ∈ l) ∧ (∀ x ∈ B, x ∈ l) ∧ (∀ s, s ≠ n → look l s = look (A ++ B) s) ∧ A.length + B.length + (bif found l n then 1 else 0) = l.length := by
  obtain ⟨h1, h2⟩ := split_at ho n
  have hA : (l.take (pos l n)).length = pos l n := by rw [List.length_take]; have := pos_le l n; omega
  have hsplit : l.take (pos l n) ++ l.drop (pos l n) = l := List.take_append_drop _ _
  have hoA : Ord (l.take (pos l n)) := ho.take
  have hlk : ∀ (A B : RowL) (x : List AV) (s : ByteArray), nm x ≠ s → look (A ++ x :: B) s = look (A ++ B) s := fun A B x s hne => by
    unfold look
    rw [List.find?_append, List.find?_append, List.find?_cons_of_neg (by simpa using hne)]
  unfold putRows
  cases hf : found l n with
  | true =>
    have hp := found_lt hf
    have hg : l.getD (pos l n) [] = l[pos l n] := rowAtN l _ hp
    have he : nm l[pos l n] = n := by
      unfold found at hf
      rw [hg] at hf
      simp only [Bool.and_eq_true, beq_iff_eq] at hf
      exact (cmpB_eq _ _).1 hf.2
    have hd : l.drop (pos l n) = l[pos l n] :: l.drop (pos l n + 1) := List.drop_eq_getElem_cons hp
    have hl : l = l.take (pos l n) ++ l[pos l n] :: l.drop (pos l n + 1) := by rw [← hd, hsplit]
    have hoB : Ord (l[pos l n] :: l.drop (pos l n + 1)) := by rw [← hd]; exact ho.drop
    have hne : l[pos l n] ≠ [] := name_ne (by
      have := hv _ (List.getElem_mem hp)
      simp only [validR, Bool.and_eq_true] at this
      exact this.1)
    obtain ⟨q1, q2⟩ := putAt_parts _ t hne
    cases hoB with
    | cons b1 b2 =>
      refine ⟨l.take (pos l n), l.drop (pos l n + 1), putAt l[pos l n] 1 [.k (.string t)], ?_, q1.trans he, q2, h1, fun x hx => he ▸ b1 x hx, hoA, b2, fun x hx => List.mem_of_mem_take hx, fun x hx => List.mem_of_mem_drop hx, fun s hs => ?_, ?_⟩
      · simp only [cond_true, setT, Int.toNat_natCast, hg]
        conv => lhs; arg 1; rw [hl]
        have := set_mid (l.take (pos l n)) (l.drop (pos l n + 1)) l[pos l n] (putAt l[pos l n] 1 [.k (.string t)])
        rw [hA] at this
        exact this
      · conv => lhs; rw [hl]
        exact hlk _ _ _ _ (by rw [he]; exact fun e => hs e.symm)
      · rw [hA, List.length_drop]; simp only [cond_true]; omega
  | false =>
    have hgt : ∀ x ∈ l.drop (pos l n), ltB n (nm x) := fun x hx => by
      rcases ltB_total (h2 x hx) with e | hlt
      · exfalso
        have hlook := found_look ho n
        rw [hf] at hlook
        unfold look at hlook
        simp only [cond_false, List.find?_eq_none] at hlook
        exact hlook x (List.mem_of_mem_drop hx) (by simpa using e.symm)
      · exact hlt
    refine ⟨l.take (pos l n), l.drop (pos l n), [.k (.string n), .k (.string t)], ?_, rfl, rfl, h1, hgt, hoA, ho.drop, fun x hx => List.mem_of_mem_take hx, fun x hx => List.mem_of_mem_drop hx, fun s hs => by rw [hsplit], ?_⟩
    · simp only [cond_false, setT, Int.toNat_natCast, ins, List.append_assoc, List.singleton_append]
      have g := getD_mid (l.take (pos l n)) (l.drop (pos l n)) (newRow n)
      have s := set_mid (l.take (pos l n)) (l.drop (pos l n)) (newRow n) (putAt (newRow n) 1 [.k (.string t)])
      rw [hA] at g s
      rw [g, s]
      rfl
    · rw [hA, List.length_drop]; simp only [cond_false]; have := pos_le l n; omega
theorem ord_mid {A B : RowL} {r : List AV} (hA : Ord A) (hB : Ord B) (h1 : ∀ x ∈ A, ltB (nm x) (nm r)) (h2 : ∀ x ∈ B, ltB (nm r) (nm x)) : Ord (A ++ r :: B) := by
  unfold Ord
  rw [List.pairwise_append]
  refine ⟨hA, List.Pairwise.cons h2 hB, fun x hx y hy => ?_⟩
  rcases List.mem_cons.1 hy with rfl | hy
  · exact h1 x hx
  · exact ltB_trans (h1 x hx) (h2 y hy)
theorem ord_two {A B : RowL} {n : ByteArray} (hA : Ord A) (hB : Ord B) (h1 : ∀ x ∈ A, ltB (nm x) n) (h2 : ∀ x ∈ B, ltB n (nm x)) : Ord (A ++ B) := by
  unfold Ord
  rw [List.pairwise_append]
  exact ⟨hA, hB, fun x hx y hy => ltB_trans (h1 x hx) (h2 y hy)⟩
def readL : Option (List AV) → ByteArray × Bool
  | some r => (tx r, true)
  | none => (.empty, false)
theorem read_look {w : Wd} (h : chk w = 0) (s : ByteArray) : read w s = readL (look w.rows s) := by
  have hb : (chk w != 0) = false := by simpa using h
  rw [found_look (chk_zero.1 h).2.2.2 s]
  unfold read
  rw [hb]
  cases found w.rows s <;> rfl
theorem look_mid {A B : RowL} {r : List AV} {n : ByteArray} (hr : nm r = n) (h1 : ∀ x ∈ A, ltB (nm x) n) : look (A ++ r :: B) n = some r := by
  unfold look
  rw [List.find?_append]
  have : A.find? (fun r => decide (nm r = n)) = none := by
    rw [List.find?_eq_none]
    intro x hx hh
    have e : nm x = n := of_decide_eq_true hh
    have := h1 x hx
    rw [e] at this
    exact ltB_irrefl _ this
  rw [this, List.find?_cons_of_pos (by simpa using hr)]
  rfl
theorem look_none {A B : RowL} {n : ByteArray} (h1 : ∀ x ∈ A, ltB (nm x) n) (h2 : ∀ x ∈ B, ltB n (nm x)) : look (A ++ B) n = none := by
  unfold look
  rw [List.find?_eq_none]
  intro x hx hh
  have e : nm x = n := of_decide_eq_true hh
  rcases List.mem_append.1 hx with hx | hx
  · have := h1 x hx
    rw [e] at this
    exact ltB_irrefl _ this
  · have := h2 x hx
    rw [e] at this
    exact ltB_irrefl _ this
/-- a world behind a Put that has been done -/
structure Putted (w x : Wd) (n t : ByteArray) : Prop where
  chk : chk x = 0
  ok : x.Ok
  inp : x.inp = w.inp
  at_ : x.at_ = w.at_
  out : x.out = w.out
  got : read x n = (t, true)
  other : ∀ s, s ≠ n → read w s = read x s
  drop : dropW x n = ((dropW x n).1, true)
  gone : (read (dropW x n).1 n).2 = false
  dropOk : (dropW x n).1.OkA
theorem put_done {w : Wd} (hw : w.Ok) {n t : ByteArray} (ht : textC t = true) (h : (putW w n t).2 = 0) : Putted w (putW w n t).1 n t := by
  unfold putW at h ⊢
  cases hc : (chk w != 0) with
  | true =>
    rw [hc] at h
    have : chk w ≠ 0 := by simpa using hc
    exact absurd h this
  | false =>
    have hc0 : chk w = 0 := by simpa using hc
    cases he : (fileE n .empty t true != 0) with
    | true =>
      rw [hc, he] at h
      have : fileE n .empty t true ≠ 0 := by simpa using he
      exact absurd h this
    | false =>
      have he0 : fileE n .empty t true = 0 := by simpa using he
      cases hf : (!found w.rows n && decide ((w.rows.length : Int) ≥ 64)) with
      | true => rw [hc, he, hf] at h; simp at h
      | false =>
        simp only [cond_false]
        obtain ⟨hh, hlen, hval, hord⟩ := chk_zero.1 hc0
        obtain ⟨A, B, r, p1, p2, p3, p4, p5, p6, p7, p8, p9, p10, p11⟩ := put_parts hord hval n t
        obtain ⟨v1, _⟩ := fileE_zero.1 he0
        have hrv : validR r = true := by unfold validR; rw [p2, p3]; exact v1
        have hnl : (A ++ r :: B).length ≤ 64 := by
          rw [List.length_append, List.length_cons]
          cases hf' : found w.rows n with
          | true => rw [hf'] at p11; simp only [cond_true] at p11; omega
          | false =>
            rw [hf'] at p11 hf
            simp only [cond_false] at p11
            simp only [Bool.not_false, Bool.true_and, decide_eq_false_iff_not] at hf
            omega
        have hox : Ord (A ++ r :: B) := ord_mid p6 p7 (by rw [p2]; exact p4) (by rw [p2]; exact p5)
        have hrn : rowFits r = true := by
          have hn : isName n = true := by simp only [Bool.and_eq_true] at v1; exact v1.1
          have hn40 : n.size ≤ 40 := by
            unfold isName at hn
            simp only [Bool.and_eq_true, decide_eq_true_eq] at hn
            exact hn.2.1
          unfold rowFits
          rw [p2, p3, ht, Bool.and_true]
          unfold textC
          rw [decide_eq_true_eq]
          unfold reachBytes; omega
        have hfits : ∀ x ∈ A ++ r :: B, rowFits x = true := fun x hx => by
          rcases List.mem_append.1 hx with hx | hx
          · exact hw.rows x (p8 x hx)
          · rcases List.mem_cons.1 hx with rfl | hx
            · exact hrn
            · exact hw.rows x (p9 x hx)
        have hxc : chk { w with kd := .wide, rows := putRows w.rows n t } = 0 := by
          rw [p1]
          refine chk_zero.2 ⟨hh, hnl, fun x hx => ?_, hox⟩
          rcases List.mem_append.1 hx with hx | hx
          · exact hval x (p8 x hx)
          · rcases List.mem_cons.1 hx with rfl | hx
            · exact hrv
            · exact hval x (p9 x hx)
        have hlook : look (A ++ r :: B) n = some r := look_mid p2 p4
        have hfl := found_look hox n
        rw [hlook] at hfl
        have hfx : found (A ++ r :: B) n = true := by
          cases hh : found (A ++ r :: B) n with
          | true => rfl
          | false => rw [hh] at hfl; cases hfl
        have hpos : pos (A ++ r :: B) n = A.length := by
          rw [pos_app p4, pos_zero (by rw [p2]; exact ltB_irrefl n)]; rfl
        have hdel : del (A ++ r :: B) (pos (A ++ r :: B) n) = A ++ B := by
          rw [hpos]
          unfold del
          rw [List.take_left]
          have : A ++ r :: B = (A ++ [r]) ++ B := by simp
          rw [this, List.drop_left' (by simp)]
        have hdrop : dropW { w with kd := .wide, rows := putRows w.rows n t } n = ({ w with kd := .any, rows := A ++ B }, true) := by
          unfold dropW
          have hb : (chk { w with kd := .wide, rows := putRows w.rows n t } != 0) = false := by simpa using hxc
          rw [hb]
          simp only [p1, hfx, hdel, cond_false, cond_true]
        have hAB : (A ++ B).length ≤ 64 := by
          rw [List.length_append, List.length_cons] at hnl
          rw [List.length_append]; omega
        refine ⟨hxc, ⟨.inl rfl, ?_, hw.inp, hw.out, ?_⟩, rfl, rfl, rfl, ?_, fun s hs => ?_, by rw [hdrop], ?_, ?_⟩
        · show (putRows w.rows n t).length * 32 ≤ reachBytes
          rw [p1]; unfold reachBytes; omega
        · show ∀ x ∈ putRows w.rows n t, rowFits x = true
          rw [p1]; exact hfits
        · rw [read_look hxc]
          show readL (look (putRows w.rows n t) n) = _
          rw [p1, hlook]
          show (tx r, true) = _
          rw [p3]
        · rw [read_look hc0, read_look hxc, p10 s hs]
          show _ = readL (look (putRows w.rows n t) s)
          rw [p1]
          congr 1
          unfold look
          rw [List.find?_append, List.find?_append, List.find?_cons_of_neg (by rw [p2]; simpa using fun e : n = s => hs e.symm)]
        · rw [hdrop]
          show (read { w with kd := .any, rows := A ++ B } n).2 = false
          by_cases hy : chk { w with kd := .any, rows := A ++ B } = 0
          · rw [read_look hy]
            show (readL (look (A ++ B) n)).2 = false
            rw [look_none p4 p5]; rfl
          · have : (chk { w with kd := .any, rows := A ++ B } != 0) = true := by simpa using hy
            unfold read
            rw [this]; rfl
        · rw [hdrop]
          refine ⟨.inl (.inr rfl), ?_, hw.inp, hw.out, fun x hx => ?_⟩
          · show (A ++ B).length * 32 ≤ reachBytes
            unfold reachBytes; omega
          · rcases List.mem_append.1 hx with hx | hx
            · exact hw.rows x (p8 x hx)
            · exact hw.rows x (p9 x hx)
theorem law9_true (w : Wd) (name other : ByteArray) (hw : w.Ok) : ev sys37 (0 + 1) 9 [w.av, .k (.string name), .k (.string other)] [] = boolR true := by
  have ht : textC txt9 = true := by decide +kernel
  rw [law9, hw.okB, ht, hw.a.okA]
  cases large w with
  | true => rfl
  | false => cases decide ((name.size : Int) > 400) with
    | true => rfl
    | false => cases decide ((other.size : Int) > 400) with
      | true => rfl
      | false =>
        simp only [cond_true, cond_false, Bool.and_self]
        by_cases he : (putW w name txt9).2 = 0
        · have P := put_done hw ht he
          have hb : ((putW w name txt9).2 != 0) = false := by simpa using he
          have hc : (chk (putW w name txt9).1 != 0) = false := by simpa using P.chk
          have hat : ((putW w name txt9).1.at_ != w.at_) = false := by rw [P.at_]; simp
          have hin : ((putW w name txt9).1.inp == w.inp) = true := by rw [P.inp, ba_beq]; simp
          have hou : ((putW w name txt9).1.out == w.out) = true := by rw [P.out, ba_beq]; simp
          have hrest : rest9 (putW w name txt9).1 name = boolR true := by
            unfold rest9
            have hd2 : (dropW (putW w name txt9).1 name).2 = true := by rw [P.drop]
            rw [P.ok.okB, P.dropOk.okA, hd2, P.gone]; rfl
          have htt : (txt9 == txt9) = true := by rw [ba_beq]; simp
          rw [hb, P.ok.a.okA, P.got, hc, hat, hin, hou, hrest]
          simp only [cond_true, cond_false, Bool.and_self, Bool.not_true, htt]
          cases ho : (other == name) with
          | true => rfl
          | false =>
            have hne : other ≠ name := fun e => by rw [ba_beq, e] at ho; simp at ho
            rw [P.other other hne]
            have h1 : ((read (putW w name txt9).1 other).1 == (read (putW w name txt9).1 other).1) = true := by rw [ba_beq]; simp
            have h2 : ((read (putW w name txt9).1 other).2 != (read (putW w name txt9).1 other).2) = false := by simp
            rw [h1, h2]; rfl
        · have hb : ((putW w name txt9).2 != 0) = true := by simpa using he
          rw [hb]; rfl
end Go.Proofs.Ytmcgeohnmncinaa.W
namespace Go.Proofs.Ytmcgeohnmncinaa.W
open Go.Fw
set_option maxRecDepth 100000
theorem args_three {t u v : Nat} {avs : List AV} (h : Args tab [t, u, v] avs) : ∃ a b c, avs = [a, b, c] ∧ ArgOf tab t a ∧ ArgOf tab u b ∧ ArgOf tab v c := by
  match avs, h with
  | [a, b, c], h => exact ⟨a, b, c, rfl, h.1, h.2.1, h.2.2.1⟩
theorem pure9 (avs : List AV) (h : Args tab [24, 9, 9] avs) : ∃ k, ev sys37 k 9 avs [] = some (.k (.bool true), []) := by
  obtain ⟨a, b, c, rfl, ha, hb, hc⟩ := args_three h
  obtain ⟨w, rfl, hw⟩ := arg24 ha
  obtain ⟨s, rfl, _⟩ := arg9 hb
  obtain ⟨t, rfl, _⟩ := arg9 hc
  exact ⟨_, law9_true w s t hw⟩
end Go.Proofs.Ytmcgeohnmncinaa.W
