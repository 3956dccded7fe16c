/- A part of the proofs over the laws of layer 8 (worlds): what its functions come to. No conditions. -/
import Derived.Test.YtmcgeohnmncinaaG7
set_option linter.all false
namespace Go.Proofs.Ytmcgeohnmncinaa.W
open Go.Fw
set_option maxRecDepth 100000
/-! ### The reference's Read, without, Drop, Put -/
def loosen (t : Nat) (a : FAnn) : FAnn := { a with loops := a.loops.map fun x => (x.1, x.2 ++ [.loose t]) }
def annR : FuncId → FAnn := fun f => bif Nat.beq f 26 then loosen 10 ann26 else bif Nat.beq f 40 then loosen 5 ann40 else ann f
theorem bodyOkR : [26, 28, 29, 40].all (bodyB Try.prog annR) = true := by kernel_rfl
noncomputable def sysR0 : FSys := { T := tab, body := bodyOf Try.prog [26, 28, 29, 40], ann := annR, prim := fun _ _ _ => none }
theorem sysR0Ok : SysOk Try.prog sysR0 where
  mixed := by kernel_rfl
  tab := tabOk
  body := fun f fn h => body_ok bodyOkR f fn h
  prim := fun f args st r st' h => by cases h
noncomputable def sysR3 : FSys := ((sysR0.tell 17 (FW fun w => .k (.int .i64 (chk w)))).tell 34 (F1 textC fun s => .k (.bool (isText s)))).tell 35 (F1 textC fun s => .k (.bool (isName s)))
/-! without -/
def nrow (r : List AV) : List AV := [.k (.string (nm r)), .k (.string (tx r))]
def σ40 (rows : RowL) (n : ByteArray) (mv : List Nat) (out : RowL) (j : Int) : St := ⟨tm 29 [(0, .sl 42 .wide rows), (1, .k (.string n)), (5, .sr 0), (6, .k (.int .i64 j))], [.arr 42 .any out], mv⟩
theorem round40 (rows out : RowL) (n : ByteArray) (mv : List Nat) (hmv : mv = [] ∨ mv = [0]) (j : Int) (k : Nat) (R : St → Option Res) : roundAt sysR3 40 Try.f40 0 k [1,1,0,1,0] [] R (σ40 rows n mv out j) =
  bif decide (j < (rows.length : Int)) then (bif decide (0 ≤ j) && decide (j < (rows.length : Int)) then (bif !(nm (rows.getD j.toNat []) == n) then (bif decide (0 ≤ j) && decide (j < (rows.length : Int)) then
    (bif Nat.ble ((out.length + 1) * 32) (2 ^ 47) then R (σ40 rows n [0] (out ++ [nrow (rows.getD j.toNat [])]) (IntKind.i64.wrap (j + 1))) else none) else none) else R (σ40 rows n mv out (IntKind.i64.wrap (j + 1)))) else none) else some (.sl 42 .any out, []) := by
  rcases hmv with rfl | rfl <;> kernel_rfl
theorem start40 (rows : RowL) (n : ByteArray) (k : Nat) : ev sysR3 (k + 1) 40 [.sl 42 .wide rows, .k (.string n)] [] = loopAt sysR3 40 Try.f40 0 k [1,1,0,1,0] [] k (σ40 rows n [] [] 0) := by kernel_rfl
theorem start40n (n : ByteArray) (k : Nat) : ev sysR3 (k + 2) 40 [.sl 0 .nil [], .k (.string n)] [] = some (.sl 42 .any [], []) := by kernel_rfl
/-! Read -/
def readR' (s : ByteArray) (b : Bool) : Option Res := some (.tup [.k (.string s), .k (.bool b)], [])
def σ28 (w : Wd) (n : ByteArray) (j : Int) : St := ⟨tm 31 [(1, .k (.string n)), (2, .ptr 0 0), (6, .k (.int .i64 j))], [boxW w], []⟩
theorem round28 (a o n : ByteArray) (i j : Int) (rows : RowL) (k : Nat) (R : St → Option Res) : roundAt sysR3 28 Try.f28 0 k [1,1,0,1,0] [] R (σ28 ⟨a, i, o, .wide, rows⟩ n j) =
  bif decide (j < (rows.length : Int)) then (bif decide (0 ≤ j) && decide (j < (rows.length : Int)) then (bif nm (rows.getD j.toNat []) == n then (bif decide (0 ≤ j) && decide (j < (rows.length : Int)) then readR' (tx (rows.getD j.toNat [])) true else none)
    else R (σ28 ⟨a, i, o, .wide, rows⟩ n (IntKind.i64.wrap (j + 1)))) else none) else readR' .empty false := by kernel_rfl
theorem start28 (a o n : ByteArray) (i : Int) (rows : RowL) (k : Nat) : ev sysR3 (k + 1) 28 [Wd.av ⟨a, i, o, .wide, rows⟩, .k (.string n)] [] =
  bif Wd.okB ⟨a, i, o, .wide, rows⟩ 42 then (bif chk ⟨a, i, o, .wide, rows⟩ != 0 then readR' .empty false else loopAt sysR3 28 Try.f28 0 k [1,1,0,1,0] [] k (σ28 ⟨a, i, o, .wide, rows⟩ n 0)) else none := by kernel_rfl
theorem start28n (a o n : ByteArray) (i : Int) (k : Nat) : ev sysR3 (k + 2) 28 [Wd.av ⟨a, i, o, .nil, []⟩, .k (.string n)] [] =
  bif Wd.okB ⟨a, i, o, .nil, []⟩ 0 then (bif chk ⟨a, i, o, .nil, []⟩ != 0 then readR' .empty false else readR' .empty false) else none := by kernel_rfl
end Go.Proofs.Ytmcgeohnmncinaa.W
namespace Go.Proofs.Ytmcgeohnmncinaa.W
open Go.Fw
set_option maxRecDepth 100000
def woL (rows : RowL) (n : ByteArray) : RowL := (rows.filter fun r => !(nm r == n)).map nrow
theorem woL_app (a b : RowL) (n : ByteArray) : woL (a ++ b) n = woL a n ++ woL b n := by simp [woL]
theorem woL_len (l : RowL) (n : ByteArray) : (woL l n).length ≤ l.length := by
  unfold woL
  rw [List.length_map]; exact List.length_filter_le _ _
def mvOf (l : RowL) : List Nat := if l = [] then [] else [0]
theorem mvOf_or (l : RowL) : mvOf l = [] ∨ mvOf l = [0] := by
  unfold mvOf
  split
  · exact .inl rfl
  · exact .inr rfl
theorem mvOf_snoc (l : RowL) (x : List AV) : mvOf (l ++ [x]) = [0] := by
  unfold mvOf
  rw [if_neg (by simp)]
theorem take_snoc (rows : RowL) (i : Nat) (h : i < rows.length) : rows.take (i + 1) = rows.take i ++ [rows[i]] := by
  rw [List.take_succ_eq_append_getElem h]
theorem loop40 (rows : RowL) (n : ByteArray) (hl : rows.length * 32 ≤ reachBytes) (k : Nat) (hk : rows.length < k) : loopAt sysR3 40 Try.f40 0 k [1,1,0,1,0] [] k (σ40 rows n [] [] 0) = some (.sl 42 .any (woL rows n), []) :=
  loop_up (S := sysR3) (f := 40) (fn := Try.f40) (m := 0) (k := k) (p := [1,1,0,1,0]) (ms := []) (fun i => σ40 rows n (mvOf (woL (rows.take i) n)) (woL (rows.take i) n) i) rows.length (fun _ => some (.sl 42 .any (woL rows n), []))
    (fun i hi R hR => by
      rw [round40 _ _ _ _ (mvOf_or _), ltN hi, leN, rowAtL rows i hi, wrapR hi hl]
      simp only [take_snoc rows i hi, woL_app] at hR
      have hb : Nat.ble (((woL (rows.take i) n).length + 1) * 32) (2 ^ 47) = true := by
        have h1 := woL_len (rows.take i) n
        rw [List.length_take] at h1
        rw [Nat.ble_eq]; unfold reachBytes at hl; omega
      cases hn : nm rows[i] == n with
      | true =>
        have e : woL [rows[i]] n = [] := by simp [woL, hn]
        rw [e, List.append_nil] at hR
        exact hR
      | false =>
        have e : woL [rows[i]] n = [nrow rows[i]] := by simp [woL, hn]
        rw [e, mvOf_snoc] at hR
        rw [hb]
        exact hR)
    (fun R => by
      rw [round40 _ _ _ _ (mvOf_or _), nltN, List.take_length]
      rfl)
    k 0 (Nat.zero_le _) (by omega)
def F40 : List AV → List AObj → Ab Res
  | [.sl u kd rows, .k (.string n)], [] => some (okSl u kd rows, .sl 42 .any (woL rows n), [])
  | _, _ => none
theorem told40 (args : List AV) (st : List AObj) (r : Res) (h : F40 args st = some (true, r)) : ∃ k, ev sysR3 k 40 args st = some r := by
  unfold F40 at h
  split at h
  · rename_i u kd rows n
    simp only [Option.some.injEq, Prod.mk.injEq, okSl, Bool.and_eq_true, decide_eq_true_eq] at h
    obtain ⟨⟨h1, h2⟩, rfl⟩ := h
    cases kd with
    | wide =>
      obtain rfl := Nat.eq_of_beq_eq_true h1
      exact ⟨rows.length + 1 + 1, (start40 rows n _).trans (loop40 rows n h2 _ (by omega))⟩
    | nil =>
      simp only [Bool.and_eq_true, List.isEmpty_iff] at h1
      obtain ⟨h1, rfl⟩ := h1
      obtain rfl := Nat.eq_of_beq_eq_true h1
      exact ⟨0 + 2, start40n n 0⟩
    | full => cases h1
    | any => cases h1
    | anyf => cases h1
    | fresh => cases h1
  · cases h
/-! Read -/
def rd : RowL → ByteArray → ByteArray × Bool
  | [], _ => (.empty, false)
  | r :: l, s => bif nm r == s then (tx r, true) else rd l s
theorem loop28 (a o n : ByteArray) (i0 : Int) (rows : RowL) (hl : rows.length * 32 ≤ reachBytes) (k : Nat) (hk : rows.length < k) : loopAt sysR3 28 Try.f28 0 k [1,1,0,1,0] [] k (σ28 ⟨a, i0, o, .wide, rows⟩ n 0) = readR' (rd rows n).1 (rd rows n).2 :=
  loop_up (S := sysR3) (f := 28) (fn := Try.f28) (m := 0) (k := k) (p := [1,1,0,1,0]) (ms := []) (fun i => σ28 ⟨a, i0, o, .wide, rows⟩ n i) rows.length (fun i => readR' (rd (rows.drop i) n).1 (rd (rows.drop i) n).2)
    (fun i hi R hR => by
      rw [round28, ltN hi, leN, rowAtL rows i hi, wrapR hi hl, hR, List.drop_eq_getElem_cons hi]
      simp only [rd]
      cases nm rows[i] == n <;> rfl)
    (fun R => by
      rw [round28, nltN, List.drop_length]
      rfl)
    k 0 (Nat.zero_le _) (by omega)
def rread (w : Wd) (n : ByteArray) : ByteArray × Bool := bif chk w != 0 then (.empty, false) else rd w.rows n
def rreadAV (w : Wd) (n : ByteArray) : AV := .tup [.k (.string (rread w n).1), .k (.bool (rread w n).2)]
def FBT (F : Wd → ByteArray → AV) : List AV → List AObj → Ab Res
  | [.agg [.k (.string a), .k (.int .i64 i), .k (.string o), .sl u kd rows], .k (.string n)], [] => some (Wd.okB ⟨a, i, o, kd, rows⟩ u, F ⟨a, i, o, kd, rows⟩ n, [])
  | _, _ => none
theorem evw28 (w : Wd) (n : ByteArray) (hw : w.Ok) : ∃ k, ev sysR3 k 28 [w.av, .k (.string n)] [] = some (rreadAV w n, []) := by
  obtain ⟨a, i, o, kd, rows⟩ := w
  have hk := hw.okB
  rcases hw.kd with h1 | ⟨h1, h2⟩
  · simp only at h1; subst h1
    refine ⟨rows.length + 1 + 1, (start28 a o n i rows _).trans ?_⟩
    have h3 : Wd.okB ⟨a, i, o, .wide, rows⟩ 42 = true := hk
    rw [h3, loop28 a o n i rows hw.len _ (by omega)]
    unfold rreadAV rread
    cases chk ⟨a, i, o, .wide, rows⟩ != 0 <;> rfl
  · simp only at h1 h2; subst h1; subst h2
    refine ⟨0 + 2, (start28n a o n i 0).trans ?_⟩
    have h3 : Wd.okB ⟨a, i, o, .nil, []⟩ 0 = true := hk
    rw [h3]
    unfold rreadAV rread
    cases chk ⟨a, i, o, .nil, []⟩ != 0 <;> rfl
theorem toldBT {S : FSys} {f : FuncId} {F : Wd → ByteArray → AV} (hF : ∀ (w : Wd) (t : ByteArray), w.Ok → ∃ k, ev S k f [w.av, .k (.string t)] [] = some (F w t, [])) (args : List AV) (st : List AObj) (r : Res) (h : FBT F args st = some (true, r)) : ∃ k, ev S k f args st = some r := by
  unfold FBT at h
  split at h
  · rename_i a i o u kd rows t
    simp only [Option.some.injEq, Prod.mk.injEq] at h
    obtain ⟨h1, rfl⟩ := h
    obtain ⟨h2, rfl⟩ := Wd.Ok.of h1
    exact hF _ t h2
  · cases h
noncomputable def sysR4 : FSys := sysR3.tell 40 F40
noncomputable def sysR5 : FSys := sysR4.tell 28 (FBT rreadAV)
theorem toldBT28 (args : List AV) (st : List AObj) (r : Res) (h : FBT rreadAV args st = some (true, r)) : ∃ k, ev sysR3 k 28 args st = some r := toldBT (fun w n hw => evw28 w n hw) args st r h
/-! Drop -/
theorem start29 (a o n : ByteArray) (i : Int) (rows : RowL) (k : Nat) : ev sysR5 (k + 1) 29 [Wd.av ⟨a, i, o, .wide, rows⟩, .k (.string n)] [] =
  bif Wd.okB ⟨a, i, o, .wide, rows⟩ 42 then (bif chk ⟨a, i, o, .wide, rows⟩ != 0 then dropR zeroW false else bif Wd.okB ⟨a, i, o, .wide, rows⟩ 42 then (bif okSl 42 .wide rows then dropR ⟨a, i, o, .any, woL rows n⟩ (rread ⟨a, i, o, .wide, rows⟩ n).2 else none) else none) else none := by kernel_rfl
theorem start29n (a o n : ByteArray) (i : Int) (k : Nat) : ev sysR5 (k + 1) 29 [Wd.av ⟨a, i, o, .nil, []⟩, .k (.string n)] [] =
  bif Wd.okB ⟨a, i, o, .nil, []⟩ 0 then (bif chk ⟨a, i, o, .nil, []⟩ != 0 then dropR zeroW false else bif Wd.okB ⟨a, i, o, .nil, []⟩ 0 then (bif okSl 0 .nil [] then dropR ⟨a, i, o, .any, woL [] n⟩ (rread ⟨a, i, o, .nil, []⟩ n).2 else none) else none) else none := by kernel_rfl
/-! Put -/
def putR (w : Wd) (e : Int) : Option Res := some (.tup [w.av, .k (.int .i64 e)], [])
def σ26 (w : Wd) (n t : ByteArray) (l : RowL) (mv : List Nat) (out : RowL) (j : Int) : St := ⟨tm 74 [(1, .k (.string n)), (2, .k (.string t)), (3, .ptr 0 0), (6, .ptr 1 0), (9, .sl 42 .any l), (10, .sr 2), (11, .k (.int .i64 j))], [boxW w, boxW zeroW, .arr 42 .any out], mv⟩
def row2 (n t : ByteArray) : List AV := [.k (.string n), .k (.string t)]
def fin26 (w : Wd) (n t : ByteArray) (l out : RowL) (j : Int) : Option Res :=
  bif Nat.ble ((out.length + 1) * 32) (2 ^ 47) then (bif true && (decide (0 ≤ j) && decide (j ≤ (l.length : Int))) then (bif Nat.ble (((out ++ [row2 n t]).length + (List.take (l.length - j.toNat) (List.drop j.toNat l)).length) * 32) (2 ^ 47) then
    putR { w with kd := .any, rows := (out ++ [row2 n t]) ++ List.take (l.length - j.toNat) (List.drop j.toNat l) } 0 else none) else none) else none
theorem round26 (a o n t : ByteArray) (i : Int) (kd : SK) (hkd : kd = .wide ∨ kd = .nil) (rows l out : RowL) (mv : List Nat) (hmv : mv = [] ∨ mv = [2]) (j : Int) (k : Nat) (R : St → Option Res) :
  roundAt sysR5 26 Try.f26 0 k [1,1,1,1,1,1,1,0,0] [] R (σ26 ⟨a, i, o, kd, rows⟩ n t l mv out j) =
  bif decide (j < (l.length : Int)) then (bif decide (0 ≤ j) && decide (j < (l.length : Int)) then (bif Op.bytesLess (nm (l.getD j.toNat [])).toList n.toList then (bif decide (0 ≤ j) && decide (j < (l.length : Int)) then
    (bif Nat.ble ((out.length + 1) * 32) (2 ^ 47) then R (σ26 ⟨a, i, o, kd, rows⟩ n t l [2] (out ++ [nrow (l.getD j.toNat [])]) (IntKind.i64.wrap (j + 1))) else none) else none) else fin26 ⟨a, i, o, kd, rows⟩ n t l out j) else none) else fin26 ⟨a, i, o, kd, rows⟩ n t l out j := by
  rcases hkd with rfl | rfl <;> rcases hmv with rfl | rfl <;> kernel_rfl
theorem start26 (a o n t : ByteArray) (i : Int) (rows : RowL) (k : Nat) : ev sysR5 (k + 1) 26 [Wd.av ⟨a, i, o, .wide, rows⟩, .k (.string n), .k (.string t)] [] =
  bif Wd.okB ⟨a, i, o, .wide, rows⟩ 42 then (bif chk ⟨a, i, o, .wide, rows⟩ != 0 then putR zeroW (chk ⟨a, i, o, .wide, rows⟩) else bif textC n then (bif !isName n then putR zeroW 10 else bif textC t then (bif !isText t then putR zeroW 2 else
   bif okSl 42 .wide rows then (bif decide ((t.size : Int) > 65536) then putR zeroW 6 else bif ((woL rows n).length : Int) == 64 then putR zeroW 6 else loopAt sysR5 26 Try.f26 0 k [1,1,1,1,1,1,1,0,0] [] k (σ26 ⟨a, i, o, .wide, rows⟩ n t (woL rows n) [] [] 0)) else none) else none) else none) else none := by kernel_rfl
theorem start26n (a o n t : ByteArray) (i : Int) (k : Nat) : ev sysR5 (k + 1) 26 [Wd.av ⟨a, i, o, .nil, []⟩, .k (.string n), .k (.string t)] [] =
  bif Wd.okB ⟨a, i, o, .nil, []⟩ 0 then (bif chk ⟨a, i, o, .nil, []⟩ != 0 then putR zeroW (chk ⟨a, i, o, .nil, []⟩) else bif textC n then (bif !isName n then putR zeroW 10 else bif textC t then (bif !isText t then putR zeroW 2 else
   bif okSl 0 .nil [] then (bif decide ((t.size : Int) > 65536) then putR zeroW 6 else bif ((woL [] n).length : Int) == 64 then putR zeroW 6 else loopAt sysR5 26 Try.f26 0 k [1,1,1,1,1,1,1,0,0] [] k (σ26 ⟨a, i, o, .nil, []⟩ n t (woL [] n) [] [] 0)) else none) else none) else none) else none := by kernel_rfl
end Go.Proofs.Ytmcgeohnmncinaa.W
namespace Go.Proofs.Ytmcgeohnmncinaa.W
open Go.Fw
set_option maxRecDepth 100000
/-! Put of the reference: what it comes to -/
def insL : RowL → ByteArray → ByteArray → RowL
  | [], n, t => [row2 n t]
  | r :: l, n, t => bif Op.bytesLess (nm r).toList n.toList then nrow r :: insL l n t else row2 n t :: r :: l
theorem insL_len : ∀ (l : RowL) (n t : ByteArray), (insL l n t).length = l.length + 1
  | [], _, _ => rfl
  | r :: l, n, t => by
    unfold insL
    cases Op.bytesLess (nm r).toList n.toList with
    | true => simp only [cond_true, List.length_cons, insL_len l n t]
    | false => rfl
def mv2 (l : RowL) : List Nat := if l = [] then [] else [2]
theorem mv2_or (l : RowL) : mv2 l = [] ∨ mv2 l = [2] := by
  unfold mv2
  split
  · exact .inl rfl
  · exact .inr rfl
theorem mv2_snoc (l : RowL) (x : List AV) : mv2 (l ++ [x]) = [2] := by
  unfold mv2
  rw [if_neg (by simp)]
theorem fin26_eq (w : Wd) (n t : ByteArray) (l out : RowL) (i : Nat) (hi : i ≤ l.length) (ho : out.length = i) (hl : l.length ≤ 64) : fin26 w n t l out (i : Int) = putR { w with kd := .any, rows := out ++ (row2 n t :: l.drop i) } 0 := by
  have h1 : Nat.ble ((out.length + 1) * 32) (2 ^ 47) = true := by rw [Nat.ble_eq]; omega
  have h2 : decide ((i : Int) ≤ (l.length : Int)) = true := by rw [decide_eq_true_eq]; omega
  have e : List.take (l.length - (i : Int).toNat) (List.drop (i : Int).toNat l) = l.drop i := by
    rw [Int.toNat_natCast, List.take_of_length_le]
    rw [List.length_drop]; omega
  have h3 : Nat.ble (((out ++ [row2 n t]).length + (l.drop i).length) * 32) (2 ^ 47) = true := by
    rw [Nat.ble_eq]
    simp only [List.length_append, List.length_drop, List.length_singleton]; omega
  unfold fin26
  rw [e, h1, h2, h3, leN, List.append_assoc]
  rfl
theorem loop26 (a o n t : ByteArray) (i0 : Int) (kd : SK) (hkd : kd = .wide ∨ kd = .nil) (rows l : RowL) (hl : l.length ≤ 64) (k : Nat) (hk : l.length < k) :
    loopAt sysR5 26 Try.f26 0 k [1,1,1,1,1,1,1,0,0] [] k (σ26 ⟨a, i0, o, kd, rows⟩ n t l [] [] 0) = putR ⟨a, i0, o, .any, insL l n t⟩ 0 :=
  loop_up (S := sysR5) (f := 26) (fn := Try.f26) (m := 0) (k := k) (p := [1,1,1,1,1,1,1,0,0]) (ms := []) (fun i => σ26 ⟨a, i0, o, kd, rows⟩ n t l (mv2 ((l.take i).map nrow)) ((l.take i).map nrow) i) l.length
    (fun i => putR ⟨a, i0, o, .any, (l.take i).map nrow ++ insL (l.drop i) n t⟩ 0)
    (fun i hi R hR => by
      have hw : IntKind.i64.wrap ((i : Int) + 1) = ((i + 1 : Nat) : Int) := by rw [wrap64] <;> omega
      have hlen : ((l.take i).map nrow).length = i := by rw [List.length_map, List.length_take]; omega
      have hb : Nat.ble ((((l.take i).map nrow).length + 1) * 32) (2 ^ 47) = true := by rw [Nat.ble_eq, hlen]; omega
      rw [round26 _ _ _ _ _ _ hkd _ _ _ _ (mv2_or _), ltN hi, leN, rowAtL l i hi, hw, hb, fin26_eq _ _ _ _ _ _ (by omega) hlen hl, List.drop_eq_getElem_cons hi]
      have e : (l.take (i + 1)).map nrow = (l.take i).map nrow ++ [nrow l[i]] := by rw [take_snoc l i hi, List.map_append]; rfl
      rw [e, mv2_snoc] at hR
      unfold insL
      cases Op.bytesLess (nm l[i]).toList n.toList with
      | true =>
        refine hR.trans ?_
        rw [List.append_assoc]; rfl
      | false => rfl)
    (fun R => by
      have hlen : ((l.take l.length).map nrow).length = l.length := by rw [List.length_map, List.take_length]
      rw [round26 _ _ _ _ _ _ hkd _ _ _ _ (mv2_or _), nltN, fin26_eq _ _ _ _ _ _ (Nat.le_refl _) hlen hl, List.drop_length]
      rfl)
    k 0 (Nat.zero_le _) (by omega)
def rput (w : Wd) (n t : ByteArray) : Wd × Int :=
  bif chk w != 0 then (zeroW, chk w) else bif !isName n then (zeroW, 10) else bif !isText t then (zeroW, 2) else bif decide ((t.size : Int) > 65536) then (zeroW, 6) else
  bif ((woL w.rows n).length : Int) == 64 then (zeroW, 6) else ({ w with kd := .any, rows := insL (woL w.rows n) n t }, 0)
def rputAV (w : Wd) (n t : ByteArray) : AV := .tup [(rput w n t).1.av, .k (.int .i64 (rput w n t).2)]
def rdrop (w : Wd) (n : ByteArray) : Wd × Bool := bif chk w != 0 then (zeroW, false) else ({ w with kd := .any, rows := woL w.rows n }, (rread w n).2)
def rdropAV (w : Wd) (n : ByteArray) : AV := .tup [(rdrop w n).1.av, .k (.bool (rdrop w n).2)]
theorem pick26 (w : Wd) (hw : w.Ok) (n t : ByteArray) (hn : textC n = true) (ht : textC t = true) (L : Option Res) (hL : (chk w != 0) = false → L = putR { w with kd := .any, rows := insL (woL w.rows n) n t } 0) :
    (bif w.okB (w.kd.tag 42) then (bif chk w != 0 then putR zeroW (chk w) else bif textC n then (bif !isName n then putR zeroW 10 else bif textC t then (bif !isText t then putR zeroW 2 else
   bif okSl (w.kd.tag 42) w.kd w.rows then (bif decide ((t.size : Int) > 65536) then putR zeroW 6 else bif ((woL w.rows n).length : Int) == 64 then putR zeroW 6 else L) else none) else none) else none) else none) = some (rputAV w n t, []) := by
  rw [hw.okB, hw.okSl, hn, ht]
  unfold rputAV rput
  cases hc : chk w != 0 with
  | true => rfl
  | false =>
    rw [hL hc]
    cases isName n <;> cases isText t <;> cases decide ((t.size : Int) > 65536) <;> cases ((woL w.rows n).length : Int) == 64 <;> rfl
theorem evw26 (w : Wd) (n t : ByteArray) (hw : w.Ok) (hn : textC n = true) (ht : textC t = true) : ∃ k, ev sysR5 k 26 [w.av, .k (.string n), .k (.string t)] [] = some (rputAV w n t, []) := by
  obtain ⟨a, i, o, kd, rows⟩ := w
  have hlo : (chk ⟨a, i, o, kd, rows⟩ != 0) = false → (woL rows n).length ≤ 64 := fun hc => Nat.le_trans (woL_len rows n) (chk_len hc)
  rcases hw.kd with h1 | ⟨h1, h2⟩
  · simp only at h1; subst h1
    exact ⟨64 + 1 + 1, (start26 a o n t i rows _).trans (pick26 ⟨a, i, o, .wide, rows⟩ hw n t hn ht _ fun hc => loop26 a o n t i .wide (.inl rfl) rows _ (hlo hc) _ (by have := hlo hc; omega))⟩
  · simp only at h1 h2; subst h1; subst h2
    exact ⟨64 + 1 + 1, (start26n a o n t i _).trans (pick26 ⟨a, i, o, .nil, []⟩ hw n t hn ht _ fun hc => loop26 a o n t i .nil (.inr rfl) [] _ (hlo hc) _ (by have := hlo hc; omega))⟩
theorem evw29 (w : Wd) (n : ByteArray) (hw : w.Ok) : ∃ k, ev sysR5 k 29 [w.av, .k (.string n)] [] = some (rdropAV w n, []) := by
  obtain ⟨a, i, o, kd, rows⟩ := w
  have hk := hw.okB
  have hs := hw.okSl
  refine ⟨0 + 1, ?_⟩
  rcases hw.kd with h1 | ⟨h1, h2⟩
  · simp only at h1; subst h1
    have h3 : Wd.okB ⟨a, i, o, .wide, rows⟩ 42 = true := hk
    have h4 : okSl 42 .wide rows = true := hs
    rw [start29, h3, h4]
    unfold rdropAV rdrop
    cases chk ⟨a, i, o, .wide, rows⟩ != 0 <;> rfl
  · simp only at h1 h2; subst h1; subst h2
    have h3 : Wd.okB ⟨a, i, o, .nil, []⟩ 0 = true := hk
    have h4 : okSl 0 .nil [] = true := hs
    rw [start29n, h3, h4]
    unfold rdropAV rdrop
    cases chk ⟨a, i, o, .nil, []⟩ != 0 <;> rfl
/-! what they come to, told -/
theorem told_cf {S : FSys} (hS : SysOk Try.prog S) {f : FuncId} {F : List AV → List AObj → Ab Res} (h : ∀ args st r, F args st = some (true, r) → ∃ k, ev S k f args st = some r) (args : List AV) (st : List AObj) (r : AV) (st' : List AObj) (hF : F args st = some (true, (r, st'))) :
    CF Try.prog S.T f args st (S.ann f).mvs r st' ∧ (S.ann f).res.ok r = true ∧ OS.okL (S.ann f).objs st' = true ∧ st.length ≤ st'.length := by
  obtain ⟨k, hk⟩ := h args st (r, st') hF
  exact ev_ok hS k f args st r st' hk
theorem sysOk8 : SysOk Try.prog sys8 := sysOk7.tell 11 _ (toldW ev11)
theorem sysR3Ok : SysOk Try.prog sysR3 := by
  have sysOk4 : SysOk Try.prog sys4 := ((((sysOk.tell 30 F30 told30).tell 50 F50 told50).tell 61 F61 told61).tell 49 F49 told49).tell 41 F41 told41
  have sysOk5 : SysOk Try.prog sys5 := sysOk4.tell 34 _ (told1 ev34)
  exact ((sysR0Ok.tellCF 17 _ fun args st r st' h => told_cf sysOk8 (toldW ev17) args st r st' h).tellCF 34 _ fun args st r st' h => told_cf sysOk4 (told1 ev34) args st r st' h).tellCF 35 _ fun args st r st' h => told_cf sysOk5 (told1 ev35) args st r st' h
theorem sysR5Ok : SysOk Try.prog sysR5 := (sysR3Ok.tell 40 F40 told40).tellCF 28 _ fun args st r st' h => told_cf sysR3Ok toldBT28 args st r st' h
def FBTT (F : Wd → ByteArray → ByteArray → AV) : List AV → List AObj → Ab Res
  | [.agg [.k (.string a), .k (.int .i64 i), .k (.string o), .sl u kd rows], .k (.string n), .k (.string t)], [] => some (Wd.okB ⟨a, i, o, kd, rows⟩ u && (textC n && textC t), F ⟨a, i, o, kd, rows⟩ n t, [])
  | _, _ => none
theorem toldBTT {S : FSys} {f : FuncId} {F : Wd → ByteArray → ByteArray → AV} (hF : ∀ (w : Wd) (n t : ByteArray), w.Ok → textC n = true → textC t = true → ∃ k, ev S k f [w.av, .k (.string n), .k (.string t)] [] = some (F w n t, [])) (args : List AV) (st : List AObj) (r : Res) (h : FBTT F args st = some (true, r)) : ∃ k, ev S k f args st = some r := by
  unfold FBTT at h
  split at h
  · rename_i a i o u kd rows n t
    simp only [Option.some.injEq, Prod.mk.injEq, Bool.and_eq_true] at h
    obtain ⟨⟨h1, h3, h4⟩, rfl⟩ := h
    obtain ⟨h2, rfl⟩ := Wd.Ok.of h1
    exact hF _ n t h2 h3 h4
  · cases h
noncomputable def sysF : FSys := ((sys38.tell 28 (FBT rreadAV)).tell 29 (FBT rdropAV)).tell 26 (FBTT rputAV)
theorem sysFOk : SysOk Try.prog sysF :=
  ((sys38Ok.tellCF 28 _ fun args st r st' h => told_cf sysR3Ok toldBT28 args st r st' h).tellCF 29 _ fun args st r st' h => told_cf sysR5Ok (toldBT evw29) args st r st' h).tellCF 26 _ fun args st r st' h => told_cf sysR5Ok (toldBTT evw26) args st r st' h
end Go.Proofs.Ytmcgeohnmncinaa.W
namespace Go.Proofs.Ytmcgeohnmncinaa.W
open Go.Fw
set_option maxRecDepth 100000
/-! ### WorldsFiles -/
theorem law8 (w : Wd) (n t : ByteArray) (k : Nat) : ev sysF (k + 1) 8 [w.av, .k (.string n), .k (.string t)] [] =
  bif w.okB (w.kd.tag 42) then (bif large w then boolR true else bif decide ((n.size : Int) > 400) then boolR true else bif decide ((t.size : Int) > 2097152) then boolR true else
  bif w.okB (w.kd.tag 42) && textC t then (bif w.okB (w.kd.tag 42) && (textC n && textC t) then (bif w.okA (w.kd.tag 42) && true then (bif w.okB (w.kd.tag 42) then (bif w.okB (w.kd.tag 42) then (bif w.okB (w.kd.tag 42) then
   (bif (putW w n t).2 == (rput w n t).2 then (bif (putW w n t).1.okA ((putW w n t).1.kd.tag 42) && (rput w n t).1.okA ((rput w n t).1.kd.tag 42) then (bif same (putW w n t).1 (rput w n t).1 then
    (bif (read w n).1 == (rread w n).1 then (bif (read w n).2 == (rread w n).2 then (bif (dropW w n).2 == (rdrop w n).2 then
     (bif (dropW w n).1.okA ((dropW w n).1.kd.tag 42) && (rdrop w n).1.okA ((rdrop w n).1.kd.tag 42) then (bif same (dropW w n).1 (rdrop w n).1 then boolR true else boolR false) else none)
     else boolR false) else boolR false) else boolR false) else boolR false) else none) else boolR false) else none) else none) else none) else none) else none) else none) else none := by kernel_rfl
theorem rd_look : ∀ (l : RowL) (s : ByteArray), rd l s = readL (look l s)
  | [], _ => rfl
  | r :: l, s => by
    unfold rd look
    rw [ba_beq]
    by_cases h : nm r = s
    · rw [List.find?_cons_of_pos (by simpa using h), decide_eq_true h]; rfl
    · rw [List.find?_cons_of_neg (by simpa using h), decide_eq_false h]
      exact rd_look l s
theorem read_eq (w : Wd) (n : ByteArray) : read w n = rread w n := by
  by_cases hc : chk w = 0
  · have hb : (chk w != 0) = false := by simpa using hc
    rw [read_look hc]
    unfold rread
    rw [hb, rd_look]; rfl
  · have hb : (chk w != 0) = true := by simpa using hc
    unfold read rread
    rw [hb]; rfl
theorem keep_lt {A : RowL} {n : ByteArray} (h : ∀ x ∈ A, ltB (nm x) n) : A.filter (fun r => !(nm r == n)) = A := by
  rw [List.filter_eq_self]
  intro x hx
  rw [ba_beq]
  have : nm x ≠ n := fun e => by have := h x hx; rw [e] at this; exact ltB_irrefl _ this
  simpa using this
theorem keep_gt {B : RowL} {n : ByteArray} (h : ∀ x ∈ B, ltB n (nm x)) : B.filter (fun r => !(nm r == n)) = B := by
  rw [List.filter_eq_self]
  intro x hx
  rw [ba_beq]
  have : nm x ≠ n := fun e => by have := h x hx; rw [e] at this; exact ltB_irrefl _ this
  simpa using this
/-- a list in order without a name, and what Put makes of it -/
theorem wo_parts {l : RowL} (ho : Ord l) (hv : ∀ r ∈ l, validR r = true) (n t : ByteArray) : ∃ A B r, putRows l n t = A ++ r :: B ∧ nm r = n ∧ tx r = t ∧ (∀ x ∈ A, ltB (nm x) n) ∧ (∀ x ∈ B, ltB n (nm x)) ∧
    l.filter (fun r => !(nm r == n)) = A ++ B ∧ (found l n = true → del l (pos l n) = A ++ B ∧ l.length = (A ++ B).length + 1) ∧ (found l n = false → l = A ++ B) := by
  obtain ⟨h1, h2⟩ := split_at ho n
  have hA : (l.take (pos l n)).length = pos l n := by rw [List.length_take]; have := pos_le l n; omega
  have hsplit : l.take (pos l n) ++ l.drop (pos l n) = l := List.take_append_drop _ _
  unfold putRows
  cases hf : found l n with
  | true =>
    have hp := found_lt hf
    have hg : l.getD (pos l n) [] = l[pos l n] := rowAtN l _ hp
    have he : nm l[pos l n] = n := by
      unfold found at hf
      rw [hg] at hf
      simp only [Bool.and_eq_true, beq_iff_eq] at hf
      exact (cmpB_eq _ _).1 hf.2
    have hd : l.drop (pos l n) = l[pos l n] :: l.drop (pos l n + 1) := List.drop_eq_getElem_cons hp
    have hl : l = l.take (pos l n) ++ l[pos l n] :: l.drop (pos l n + 1) := by rw [← hd, hsplit]
    have hoB : Ord (l[pos l n] :: l.drop (pos l n + 1)) := by rw [← hd]; exact ho.drop
    have hne : l[pos l n] ≠ [] := name_ne (by
      have := hv _ (List.getElem_mem hp)
      simp only [validR, Bool.and_eq_true] at this
      exact this.1)
    obtain ⟨q1, q2⟩ := putAt_parts _ t hne
    cases hoB with
    | cons b1 b2 =>
      have hgt : ∀ x ∈ l.drop (pos l n + 1), ltB n (nm x) := fun x hx => he ▸ b1 x hx
      refine ⟨l.take (pos l n), l.drop (pos l n + 1), putAt l[pos l n] 1 [.k (.string t)], ?_, q1.trans he, q2, h1, hgt, ?_, fun _ => ⟨rfl, ?_⟩, fun h => by cases h⟩
      · simp only [cond_true, setT, Int.toNat_natCast, hg]
        conv => lhs; arg 1; rw [hl]
        have := set_mid (l.take (pos l n)) (l.drop (pos l n + 1)) l[pos l n] (putAt l[pos l n] 1 [.k (.string t)])
        rw [hA] at this
        exact this
      · conv => lhs; rw [hl]
        rw [List.filter_append, keep_lt h1, List.filter_cons_of_neg (by rw [ba_beq]; simp [he]), keep_gt hgt]
      · conv => lhs; rw [hl]
        simp only [List.length_append, List.length_cons]; omega
  | false =>
    have hgt : ∀ x ∈ l.drop (pos l n), ltB n (nm x) := fun x hx => by
      rcases ltB_total (h2 x hx) with e | hlt
      · exfalso
        have hlook := found_look ho n
        rw [hf] at hlook
        unfold look at hlook
        simp only [cond_false, List.find?_eq_none] at hlook
        exact hlook x (List.mem_of_mem_drop hx) (by simpa using e.symm)
      · exact hlt
    refine ⟨l.take (pos l n), l.drop (pos l n), [.k (.string n), .k (.string t)], ?_, rfl, rfl, h1, hgt, ?_, fun h => (by cases h), fun _ => hsplit.symm⟩
    · simp only [cond_false, setT, Int.toNat_natCast, ins, List.append_assoc, List.singleton_append]
      have g := getD_mid (l.take (pos l n)) (l.drop (pos l n)) (newRow n)
      have s := set_mid (l.take (pos l n)) (l.drop (pos l n)) (newRow n) (putAt (newRow n) 1 [.k (.string t)])
      rw [hA] at g s
      rw [g, s]
      rfl
    · conv => lhs; rw [← hsplit]
      rw [List.filter_append, keep_lt h1, keep_gt hgt]
theorem insL_app (n t : ByteArray) (C : RowL) : ∀ A : RowL, (∀ x ∈ A, ltB (nm x) n) → insL (A.map nrow ++ C) n t = A.map nrow ++ insL C n t
  | [], _ => rfl
  | a :: A, h => by
    have h1 : Op.bytesLess (nm (nrow a)).toList n.toList = true := (less_ltB _ _).2 (h a List.mem_cons_self)
    simp only [List.map_cons, List.cons_append, insL, h1, cond_true, insL_app n t C A fun x hx => h x (List.mem_cons_of_mem _ hx)]
    rfl
theorem insL_gt (n t : ByteArray) : ∀ B : RowL, (∀ x ∈ B, ltB n (nm x)) → insL (B.map nrow) n t = row2 n t :: B.map nrow
  | [], _ => rfl
  | b :: B, h => by
    have h1 : Op.bytesLess (nm (nrow b)).toList n.toList = false := by
      cases hh : Op.bytesLess (nm (nrow b)).toList n.toList with
      | false => rfl
      | true => exact absurd (ltB_trans ((less_ltB _ _).1 hh) (h b List.mem_cons_self)) (ltB_irrefl _)
    simp only [List.map_cons, insL, h1, cond_false]
theorem ins_put {l : RowL} (ho : Ord l) (hv : ∀ r ∈ l, validR r = true) (n t : ByteArray) : insL (woL l n) n t = (putRows l n t).map nrow := by
  obtain ⟨A, B, r, h1, h2, h3, h4, h5, h6, _, _⟩ := wo_parts ho hv n t
  unfold woL
  rw [h6, h1, List.map_append, insL_app n t _ A h4, insL_gt n t B h5, List.map_append, List.map_cons]
  have : nrow r = row2 n t := by unfold nrow row2; rw [h2, h3]
  rw [this]
theorem eqRows_map : ∀ l : RowL, eqRows l (l.map nrow) = true
  | [] => rfl
  | r :: l => by
    have : eqRow r (nrow r) = true := by
      have e1 : nm (nrow r) = nm r := rfl
      have e2 : tx (nrow r) = tx r := rfl
      unfold eqRow
      rw [e1, e2, ba_beq, ba_beq]; simp
    simp only [List.map_cons, eqRows, this, eqRows_map l, Bool.and_self]
theorem same_map (w : Wd) (kd : SK) (l : RowL) (h : l = w.rows.map nrow) : same w { w with kd := kd, rows := l } = true := by
  subst h
  unfold same eqF
  rw [ba_beq, ba_beq, len_ne, eqRows_map]
  simp
theorem mapFits {l : RowL} (h : ∀ r ∈ l, rowFits r = true) : ∀ r ∈ l.map nrow, rowFits r = true := fun r hr => by
  obtain ⟨x, hx, rfl⟩ := List.mem_map.1 hr
  exact h x hx
structure Agree (x y : Wd) : Prop where
  same : same x y = true
  okx : x.OkA
  oky : y.OkA
theorem zero_agree : Agree zeroW zeroW := ⟨same_self _, ⟨.inr ⟨rfl, rfl⟩, Nat.zero_le _, rfl, rfl, fun r h => by cases h⟩, ⟨.inr ⟨rfl, rfl⟩, Nat.zero_le _, rfl, rfl, fun r h => by cases h⟩⟩
theorem map_agree {x : Wd} (hx : x.OkA) {l : RowL} (h : l = x.rows.map nrow) : Agree x { x with kd := .any, rows := l } := by
  refine ⟨same_map x .any l h, hx, ⟨.inl (.inr rfl), ?_, hx.inp, hx.out, ?_⟩⟩
  · rw [h]; simp only [List.length_map]; exact hx.len
  · rw [h]; exact mapFits hx.rows
theorem put_agree {w : Wd} (hw : w.Ok) {n t : ByteArray} (ht : textC t = true) : (putW w n t).2 = (rput w n t).2 ∧ Agree (putW w n t).1 (rput w n t).1 := by
  by_cases hc : chk w = 0
  · obtain ⟨_, h64, hv, ho⟩ := chk_zero.1 hc
    obtain ⟨A, B, r, h1, h2, h3, h4, h5, h6, h7, h8⟩ := wo_parts ho hv n t
    have hb : (chk w != 0) = false := by simpa using hc
    have hP := put_done hw (n := n) (t := t) ht
    have hins := ins_put ho hv n t
    -- both are full at the same places
    have hfull : (((woL w.rows n).length : Int) == 64) = (!found w.rows n && decide ((w.rows.length : Int) ≥ 64)) := by
      have hwl : (woL w.rows n).length = (A ++ B).length := by unfold woL; rw [List.length_map, h6]
      rw [hwl]
      cases hf : found w.rows n with
      | true =>
        have := (h7 hf).2
        simp only [Bool.not_true, Bool.false_and, beq_eq_false_iff_ne]; omega
      | false =>
        have := h8 hf
        rw [← this]
        simp only [Bool.not_false, Bool.true_and]
        rw [Bool.eq_iff_iff, beq_iff_eq, decide_eq_true_eq]; omega
    unfold putW rput fileE at *
    rw [hfull, hb, hins] at *
    cases hn : isName n with
    | false => exact ⟨rfl, zero_agree⟩
    | true =>
      cases htx : isText t with
      | false => exact ⟨rfl, zero_agree⟩
      | true =>
        cases hs : decide ((t.size : Int) > 65536) with
        | true => exact ⟨rfl, zero_agree⟩
        | false =>
          cases hq : (!found w.rows n && decide ((w.rows.length : Int) ≥ 64)) with
          | true => exact ⟨rfl, zero_agree⟩
          | false =>
            rw [hn, htx, hs, hq] at hP
            exact ⟨rfl, map_agree (hP rfl).ok.a rfl⟩
  · have hb : (chk w != 0) = true := by simpa using hc
    unfold putW rput
    rw [hb]
    exact ⟨rfl, zero_agree⟩
theorem drop_agree {w : Wd} (hw : w.Ok) (n : ByteArray) : (dropW w n).2 = (rdrop w n).2 ∧ Agree (dropW w n).1 (rdrop w n).1 := by
  by_cases hc : chk w = 0
  · obtain ⟨_, h64, hv, ho⟩ := chk_zero.1 hc
    obtain ⟨A, B, r, h1, h2, h3, h4, h5, h6, h7, h8⟩ := wo_parts ho hv n .empty
    have hb : (chk w != 0) = false := by simpa using hc
    have hr : (rread w n).2 = found w.rows n := by
      rw [← read_eq]
      unfold read
      rw [hb]
      cases found w.rows n <;> rfl
    unfold dropW rdrop
    rw [hb, hr]
    cases hf : found w.rows n with
    | true =>
      refine ⟨rfl, ?_⟩
      have hok : Wd.OkA { w with kd := .any, rows := del w.rows (pos w.rows n) } := by
        have hsub : ∀ x ∈ del w.rows (pos w.rows n), x ∈ w.rows := fun x hx => by
          unfold del at hx
          rcases List.mem_append.1 hx with h | h
          · exact List.mem_of_mem_take h
          · exact List.mem_of_mem_drop h
        refine ⟨.inl (.inr rfl), ?_, hw.inp, hw.out, fun x hx => hw.rows x (hsub x hx)⟩
        have := (h7 hf).2
        have hl := hw.len
        simp only
        rw [(h7 hf).1]; omega
      exact map_agree (x := { w with kd := .any, rows := del w.rows (pos w.rows n) }) hok (by unfold woL; rw [h6, (h7 hf).1])
    | false =>
      refine ⟨rfl, ?_⟩
      exact map_agree hw.a (by unfold woL; rw [h6, ← h8 hf])
  · have hb : (chk w != 0) = true := by simpa using hc
    unfold dropW rdrop
    rw [hb]
    exact ⟨rfl, zero_agree⟩
theorem law8_true (w : Wd) (n t : ByteArray) (hw : w.Ok) (hn : textC n = true) (ht : textC t = true) : ev sysF (0 + 1) 8 [w.av, .k (.string n), .k (.string t)] [] = boolR true := by
  obtain ⟨p1, p2⟩ := put_agree hw (n := n) ht
  obtain ⟨d1, d2⟩ := drop_agree hw n
  rw [law8, hw.okB, hw.a.okA, hn, ht, p1, d1, read_eq, p2.okx.okA, p2.oky.okA, p2.same, d2.okx.okA, d2.oky.okA, d2.same]
  have e1 : ((rput w n t).2 == (rput w n t).2) = true := by simp
  have e2 : ((rread w n).1 == (rread w n).1) = true := by rw [ba_beq]; simp
  have e3 : ((rread w n).2 == (rread w n).2) = true := by simp
  have e4 : ((rdrop w n).2 == (rdrop w n).2) = true := by simp
  rw [e1, e2, e3, e4]
  cases large w <;> cases decide ((n.size : Int) > 400) <;> cases decide ((t.size : Int) > 2097152) <;> rfl
theorem args_three' {t u v : Nat} {avs : List AV} (h : Args tab [t, u, v] avs) : ∃ a b c, avs = [a, b, c] ∧ ArgOf tab t a ∧ ArgOf tab u b ∧ ArgOf tab v c := by
  match avs, h with
  | [a, b, c], h => exact ⟨a, b, c, rfl, h.1, h.2.1, h.2.2.1⟩
theorem pure8 (avs : List AV) (h : Args tab [24, 9, 9] avs) : ∃ k, ev sysF k 8 avs [] = some (.k (.bool true), []) := by
  obtain ⟨a, b, c, rfl, ha, hb, hc⟩ := args_three' h
  obtain ⟨w, rfl, hw⟩ := arg24 ha
  obtain ⟨s, rfl, h1⟩ := arg9 hb
  obtain ⟨t, rfl, h2⟩ := arg9 hc
  exact ⟨_, law8_true w s t hw h1 h2⟩
end Go.Proofs.Ytmcgeohnmncinaa.W
