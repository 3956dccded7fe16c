/- The framework, part A: values without addresses, and a pure evaluator of the given code over them. -/
import GoSem.Step
import Derived.Calls
import Derived.Orders
set_option linter.all false
namespace Go.Fw
inductive SK where
  | nil | full | wide | any | anyf | fresh
  deriving DecidableEq, Repr
inductive AV where
  | undef
  | k (v : Value)
  | sl (t : Nat) (kd : SK) (rows : List (List AV))
  | sr (id : Nat)
  | ss (id lo len : Nat)
  | ptr (id off : Nat)
  | ap (id i off : Nat)
  | ep (t : Nat) (row : List AV) (off : Nat)
  | agg (cs : List AV)
  | tup (vs : List AV)
  | fn (f : Fn) (first captured : List AV)
  | iface (t : Nat) (v : AV)
  | yl (id : Nat)
  | mp (id : Nat)
  deriving Inhabited
def scalar : Value → Bool
  | .bool _ | .int _ _ | .string _ | .nilFunc | .nilIface | .pointer none | .map none => true
  | _ => false
inductive CT where
  | int (k : IntKind) | bool | str | sl (t : Nat) | ptr | func | iface | map
  deriving DecidableEq, Repr
inductive TD where
  | int (k : IntKind) | bool | str | sl (e : Nat) | struct (fs : List (Nat × Nat)) | arr (n e : Nat) | ptr (e : Nat) | map (k e : Nat) | func | iface
  deriving DecidableEq, Repr
structure TI where
  d : TD
  cells : List CT
  bytes : Nat
def TI.eqable (ti : TI) : Bool := (match ti.d with | .struct _ => true | _ => false) && ti.cells.all fun c => match c with | .int _ | .bool | .str => true | _ => false
def TI.isAgg (ti : TI) : Bool := match ti.d with | .struct _ | .arr _ _ => true | _ => false
def SK.isAny : SK → Bool | .any => true | _ => false
def CT.zero : CT → AV
  | .int k => .k (.int k 0)
  | .bool => .k (.bool false)
  | .str => .k (.string .empty)
  | .sl _ => .sl 0 .nil []
  | .ptr => .k (.pointer none)
  | .func => .k .nilFunc
  | .iface => .k .nilIface
  | .map => .k (.map none)
def CT.zeroR : CT → AV
  | .sl t => .sl t .any []
  | c => c.zero
def AV.toI : AV → Int
  | .k (.int _ n) => n
  | _ => 0
def AV.toB : AV → Bool
  | .k (.bool b) => b
  | _ => false
def AV.toS : AV → ByteArray
  | .k (.string s) => s
  | _ => .empty
def AV.kind : AV → SK
  | .sl _ kd _ => kd
  | _ => .nil
def AV.rows : AV → List (List AV)
  | .sl _ _ rows => rows
  | _ => []
def AV.lo : AV → Nat
  | .ss _ a _ => a
  | _ => 0
def AV.len : AV → Nat
  | .ss _ _ n => n
  | _ => 0
def AV.cells : AV → List AV
  | .agg cs => cs
  | v => [v]
def AV.parts : AV → List AV
  | .tup vs => vs
  | v => [v]
def CT.expand : CT → AV → AV
  | .int k, x => .k (.int k x.toI)
  | .bool, x => .k (.bool x.toB)
  | .str, x => .k (.string x.toS)
  | .sl t, x => .sl t .any x.rows
  | _, x => x
def CT.ok : CT → AV → Bool
  | .int k, .k (.int j _) => decide (j = k)
  | .bool, .k (.bool _) => true
  | .str, .k (.string _) => true
  | .sl t, .sl u kd _ => Nat.beq u t && kd.isAny
  | .ptr, .k (.pointer none) => true
  | .func, .k .nilFunc => true
  | .iface, .k .nilIface => true
  | .map, .k (.map none) => true
  | _, _ => false
def rowOk : List CT → List AV → Bool
  | [], [] => true
  | c :: cs, v :: vs => c.ok v && rowOk cs vs
  | _, _ => false
def SK.fits (kd : SK) (u e : Nat) : Bool := match kd with | .nil => true | _ => Nat.beq u e
def CT.co : CT → AV → AV
  | .sl t, .sl u kd rows => bif kd.fits u t then .sl t .any rows else .sl u kd rows
  | _, v => v
def coL : List CT → List AV → List AV
  | c :: cs, v :: vs => c.co v :: coL cs vs
  | _, vs => vs
def rowAt (row : List AV) : Nat → List CT → List AV
  | _, [] => []
  | j, c :: cs => c.expand (row.getD j .undef) :: rowAt row (j + 1) cs
inductive AObj where
  | box (t : Nat) (cells : List AV)
  | arr (t : Nat) (kd : SK) (rows : List (List AV))
  | iter (s : ByteArray) (pos : Nat)
  | arx (t : Nat) (rows : List (List AV))
  | loop (fin : Bool) (pend : Code) (fn : FuncId) (tmps : List AV) (params : List Nat) (assign body : Code)
  | map (x : Bool) (t : Nat) (es : List (List AV × List AV))
  | dead
  deriving Inhabited
structure St where
  tmps : List AV
  st : List AObj
  moved : List Nat := []
abbrev Tab := Nat → Option TI
mutual
def AV.onRefs (h : AV → AV) : AV → AV
  | .agg cs => .agg (AV.onRefsL h cs)
  | .tup vs => .tup (AV.onRefsL h vs)
  | .fn f a b => .fn f (AV.onRefsL h a) (AV.onRefsL h b)
  | .iface t v => .iface t (AV.onRefs h v)
  | .sr i => h (.sr i)
  | .ss i a b => h (.ss i a b)
  | .ptr i a => h (.ptr i a)
  | .ap i a b => h (.ap i a b)
  | .yl i => h (.yl i)
  | .mp i => h (.mp i)
  | .undef => .undef
  | .k v => .k v
  | .sl t kd r => .sl t kd r
  | .ep t r o => .ep t r o
def AV.onRefsL (h : AV → AV) : List AV → List AV
  | [] => []
  | v :: vs => AV.onRefs h v :: AV.onRefsL h vs
end
def AObj.onRefs (h : AV → AV) : AObj → AObj
  | .box t cs => .box t (AV.onRefsL h cs)
  | .arx t rows => .arx t (rows.map (AV.onRefsL h))
  | .loop fin pend fn tmps ps a b => .loop fin pend fn (AV.onRefsL h tmps) ps a b
  | .map x t es => .map x t (es.map fun e => (e.1, AV.onRefsL h e.2))
  | o => o
def scrub1 (id : Nat) : AV → AV
  | .sr i => bif Nat.beq i id then .undef else .sr i
  | .ss i a b => bif Nat.beq i id then .undef else .ss i a b
  | .ptr i a => bif Nat.beq i id then .undef else .ptr i a
  | .ap i a b => bif Nat.beq i id then .undef else .ap i a b
  | .yl i => bif Nat.beq i id then .undef else .yl i
  | .mp i => bif Nat.beq i id then .undef else .mp i
  | v => v
def St.scrub (σ : St) (id : Nat) : St :=
  { σ with tmps := AV.onRefsL (scrub1 id) σ.tmps, st := σ.st.map (AObj.onRefs (scrub1 id)) }
def SK.val (_ : SK) : SK := .any
def freeze1 (id t : Nat) (kd : SK) (rows : List (List AV)) : AV → AV
  | .sr i => bif Nat.beq i id then .sl t kd.val rows else .sr i
  | .ss i a b => bif Nat.beq i id then .sl t .any ((rows.drop a).take b) else .ss i a b
  | .ap i a b => bif Nat.beq i id then .ep t (rows.getD a []) b else .ap i a b
  | .ptr i a => bif Nat.beq i id then .undef else .ptr i a
  | .yl i => bif Nat.beq i id then .undef else .yl i
  | .mp i => bif Nat.beq i id then .undef else .mp i
  | v => v
def St.freezeId (σ : St) (id : Nat) : St :=
  match σ.st.getD id .dead with
  | .arr t kd rows =>
    let h := freeze1 id t kd rows
    { σ with tmps := AV.onRefsL h σ.tmps, st := (σ.st.set id .dead).map (AObj.onRefs h) }
  | _ => σ
mutual
def AV.arrs : AV → List Nat
  | .agg cs => AV.arrsL cs
  | .tup vs => AV.arrsL vs
  | .fn _ a b => AV.arrsL a ++ AV.arrsL b
  | .iface _ v => AV.arrs v
  | .sr i => [i]
  | .ss i _ _ => [i]
  | .ap i _ _ => [i]
  | _ => []
def AV.arrsL : List AV → List Nat
  | [] => []
  | v :: vs => AV.arrs v ++ AV.arrsL vs
end
mutual
def AV.ids : AV → List Nat
  | .agg cs => AV.idsL cs
  | .tup vs => AV.idsL vs
  | .fn _ a b => AV.idsL a ++ AV.idsL b
  | .iface _ v => AV.ids v
  | .sr i => [i]
  | .ss i _ _ => [i]
  | .ap i _ _ => [i]
  | .ptr i _ => [i]
  | .yl i => [i]
  | .mp i => [i]
  | _ => []
def AV.idsL : List AV → List Nat
  | [] => []
  | v :: vs => AV.ids v ++ AV.idsL vs
end
def St.freezeAll (σ : St) : List Nat → St
  | [] => σ
  | i :: is => (σ.freezeId i).freezeAll is
def ofConst1 : Value → AV
  | .slice none 0 0 => .sl 0 .nil []
  | .func f ⟨[]⟩ ⟨[]⟩ => .fn f [] []
  | v => bif scalar v then .k v else .undef
def ofConst : Value → AV
  | .agg vs => .agg (vs.toList.map ofConst1)
  | v => ofConst1 v
def St.eval (σ : St) : Operand → AV
  | .tmp t => σ.tmps.getD t .undef
  | .const v => ofConst v
  | .func f => .fn (.func f) [] []
  | .global _ => .undef
def pureS : Sem Value → Option Value
  | .pure v => some v
  | _ => none
def pickAV (c : Bool) : AV → AV → AV
  | .k (.bool x), .k (.bool y) => .k (.bool (bif c then x else y))
  | a, b => bif c then a else b
def elemLoad (T : Tab) (t e : Nat) (row : List AV) (off : Nat) : Option AV :=
  match T t, T e with
  | some ti, some te =>
    bif decide ((te.cells.drop off).take ti.cells.length = ti.cells) then
      (bif ti.isAgg then some (.agg (rowAt row off ti.cells)) else
        match ti.cells with
        | [c] => some (c.expand (row.getD off .undef))
        | _ => none)
    else none
  | _, _ => none
def elemLoadX (T : Tab) (t e : Nat) (row : List AV) (off : Nat) : Option AV :=
  match T t, T e with
  | some ti, some te =>
    bif decide ((te.cells.drop off).take ti.cells.length = ti.cells) then
      (bif ti.isAgg then some (.agg ((row.drop off).take ti.cells.length)) else
        match ti.cells with
        | [_] => row[off]?
        | _ => none)
    else none
  | _, _ => none
def aload (T : Tab) (σ : St) (t : Nat) : AV → Option AV
  | .ptr id off =>
    match σ.st.getD id .dead, T t with
    | .box _ cs, some ti =>
      bif Nat.ble (off + ti.cells.length) cs.length then
        (bif ti.isAgg then some (.agg ((cs.drop off).take ti.cells.length)) else
          match ti.cells with
          | [_] => cs[off]?
          | _ => none)
      else none
    | _, _ => none
  | .ap id i off =>
    match σ.st.getD id .dead with
    | .arr e _ rows => elemLoad T t e (rows.getD i []) off
    | .arx e rows => elemLoadX T t e (rows.getD i []) off
    | _ => none
  | .ep e row off => elemLoad T t e row off
  | _ => none
def isCell : AV → Bool
  | .undef | .agg _ | .tup _ => false
  | .k v => scalar v
  | _ => true
def putAt (l : List AV) (off : Nat) (vs : List AV) : List AV := l.take off ++ vs ++ l.drop (off + vs.length)
def astore (T : Tab) (σ : St) (t : Nat) (v : AV) : AV → Option St
  | .ptr id off =>
    match σ.st.getD id .dead, T t with
    | .box bt cs, some ti =>
      bif Nat.beq v.cells.length ti.cells.length && (Nat.ble (off + ti.cells.length) cs.length && v.cells.all isCell) then
        some { σ with st := σ.st.set id (.box bt (putAt cs off v.cells)) }
      else none
    | _, _ => none
  | .ap id i off =>
    match σ.st.getD id .dead, T t with
    | .arr e kd rows, some ti =>
      match T e with
      | some te =>
        bif decide ((te.cells.drop off).take ti.cells.length = ti.cells) && rowOk ti.cells (coL ti.cells v.cells) then
          some { σ with st := σ.st.set id (.arr e kd (rows.set i (putAt (rows.getD i []) off (coL ti.cells v.cells)))) }
        else none
      | none => none
    | .arx e rows, some ti =>
      match T e with
      | some te =>
        bif decide ((te.cells.drop off).take ti.cells.length = ti.cells) && (Nat.beq v.cells.length ti.cells.length && v.cells.all isCell) then
          some { σ with st := σ.st.set id (.arx e (rows.set i (putAt (rows.getD i []) off v.cells))) }
        else none
      | none => none
    | _, _ => none
  | _ => none
def St.new (σ : St) (o : AObj) : St := { σ with st := σ.st ++ [o] }
abbrev Ab (α : Type) := Option (Bool × α)
def Ab.ok {α : Type} : Option α → Ab α
  | some x => some (true, x)
  | none => none
def Ab.map {α β : Type} (f : α → β) : Ab α → Ab β
  | some (c, x) => some (c, f x)
  | none => none
def Ab.when {α : Type} (c : Bool) : Ab α → Ab α
  | some (d, x) => some (c && d, x)
  | none => none
def bound? (x : Option AV) (dflt most : Nat) : Ab Nat :=
  match x with
  | none => some (true, dflt)
  | some (.k (.int _ n)) => some (decide (0 ≤ n) && decide (n ≤ (most : Int)), n.toNat)
  | _ => none
def SK.part (kd : SK) (toEnd : Bool) : SK := match kd, toEnd with | .nil, _ => .nil | .full, true => .full | .any, _ => .any | .anyf, true => .anyf | .anyf, false => .any | _, _ => .wide
def SK.part3 (kd : SK) : SK := match kd with | .nil => .nil | .any => .anyf | .anyf => .anyf | _ => .full
def chunks (z : Nat) : Nat → List AV → List (List AV)
  | 0, _ => []
  | n + 1, l => l.take z :: chunks z n (l.drop z)
def aslice (T : Tab) (σ : St) (t : Nat) (x : AV) (lo hi mx : Option AV) : Ab AV :=
  match T t with
  | some ⟨.str, _, _⟩ =>
    match x, mx with
    | .k (.string s), none =>
      match bound? hi s.size s.size with
      | none => none
      | some (c, h) => match bound? lo 0 h with
        | none => none
        | some (d, l) => some (c && d, .k (.string (s.extract l h)))
    | _, _ => none
  | some ⟨.sl e, _, _⟩ =>
    match T e with
    | none => none
    | some _ =>
      match x with
      | .sl u kd rows =>
        bif kd.fits u e then
          match mx with
          | none =>
            match bound? hi rows.length rows.length with
            | none => none
            | some (c, h) => match bound? lo 0 h with
              | none => none
              | some (d, l) => some (c && d, .sl u (kd.part hi.isNone) ((rows.drop l).take (h - l)))
          | some m =>
            match bound? (some m) 0 rows.length with
            | none => none
            | some (b, m) => match bound? hi 0 m with
              | none => none
              | some (c, h) => match bound? lo 0 h with
                | none => none
                | some (d, l) => some (b && (c && (d && decide (h = m))), .sl u kd.part3 ((rows.drop l).take (h - l)))
        else none
      | .sr id =>
        match mx, σ.st.getD id .dead with
        | none, .arr u _ rows =>
          bif Nat.beq u e then
            match lo, hi with
            | none, none => some (true, .sr id)
            | _, _ =>
              match bound? hi rows.length rows.length with
              | none => none
              | some (c, h) => match bound? lo 0 h with
                | none => none
                | some (d, l) => some (c && d, .ss id l (h - l))
          else none
        | some m, .arr u _ rows =>
          bif Nat.beq u e then
            match bound? (some m) 0 rows.length with
            | none => none
            | some (b, m) => match bound? hi 0 m with
              | none => none
              | some (c, h) => match bound? lo 0 h with
                | none => none
                | some (d, _) => some (b && (c && d), .undef)
          else none
        | _, _ => none
      | .ss id a n =>
        match mx, σ.st.getD id .dead with
        | none, .arr u _ rows =>
          bif Nat.beq u e then
            match bound? hi n (rows.length - a) with
            | none => none
            | some (c, h) => match bound? lo 0 h with
              | none => none
              | some (d, l) => some (c && d, .ss id (a + l) (h - l))
          else none
        | _, _ => none
      | _ => none
  | some ⟨.arr n e, _, _⟩ =>
    match x, lo, hi, mx with
    | .ep _ row off, none, none, none =>
      match T e with
      | some te => bif ((chunks te.cells.length n (row.drop off)).all (rowOk te.cells)) then some (true, .sl e .any (chunks te.cells.length n (row.drop off))) else none
      | none => none
    | _, _, _, _ => none
  | _ => none
def aindexAddr (T : Tab) (σ : St) (t : Nat) (x i : AV) : Ab AV :=
  match T t, i with
  | some ⟨.sl e, _, _⟩, .k (.int _ n) =>
    match T e with
    | none => none
    | some _ =>
      match x with
      | .sl u _ rows => bif Nat.beq u e then some (decide (0 ≤ n) && decide (n < (rows.length : Int)), .ep e (rows.getD n.toNat []) 0) else none
      | .sr id =>
        match σ.st.getD id .dead with
        | .arr u _ rows => bif Nat.beq u e then some (decide (0 ≤ n) && decide (n < (rows.length : Int)), .ap id n.toNat 0) else none
        | .arx u rows => bif Nat.beq u e then some (decide (0 ≤ n) && decide (n < (rows.length : Int)), .ap id n.toNat 0) else none
        | _ => none
      | .ss id a len =>
        match σ.st.getD id .dead with
        | .arr u _ _ => bif Nat.beq u e then some (decide (0 ≤ n) && decide (n < (len : Int)), .ap id (a + n.toNat) 0) else none
        | _ => none
      | _ => none
  | some ⟨.arr len e, _, _⟩, .k (.int _ n) =>
    match T e with
    | none => none
    | some te =>
      match x with
      | .ptr id o => some (decide (0 ≤ n) && decide (n < (len : Int)), .ptr id (o + n.toNat * te.cells.length))
      | .ap id i o => some (decide (0 ≤ n) && decide (n < (len : Int)), .ap id i (o + n.toNat * te.cells.length))
      | .ep u row o => some (decide (0 ≤ n) && decide (n < (len : Int)), .ep u row (o + n.toNat * te.cells.length))
      | _ => none
  | _, _ => none
def byteAt (s : ByteArray) (n : Int) : Int := ((s.data.toList.getD n.toNat 0).toNat : Int)
def aindex (T : Tab) (t : Nat) (x i : AV) : Ab AV :=
  match T t, x, i with
  | some ⟨.str, _, _⟩, .k (.string s), .k (.int _ n) => some (decide (0 ≤ n) && decide (n < (s.size : Int)), .k (.int .u8 (byteAt s n)))
  | some ⟨.arr len e, _, _⟩, .agg cs, .k (.int _ n) =>
    match T e with
    | some te =>
      bif te.isAgg then some (decide (0 ≤ n) && decide (n < (len : Int)), .agg ((cs.drop (n.toNat * te.cells.length)).take te.cells.length))
      else bif Nat.beq te.cells.length 1 && Nat.beq cs.length len then some (decide (0 ≤ n) && decide (n < (len : Int)), cs.getD (n.toNat * te.cells.length) .undef) else none
    | none => none
  | _, _, _ => none
def fieldOff (T : Tab) (s f : Nat) : Option (Nat × TI) :=
  match T s with
  | some ⟨.struct fs, _, _⟩ => match fs[f]? with
    | some (off, t) => match T t with
      | some ti => some (off, ti)
      | none => none
    | none => none
  | _ => none
def afieldAddr (T : Tab) (s : Nat) (x : AV) (f : Nat) : Option AV :=
  match fieldOff T s f with
  | some (off, ti) =>
    match ti.cells with
    | [] => none
    | _ => match x with
      | .ptr id o => some (.ptr id (o + off))
      | .ap id i o => some (.ap id i (o + off))
      | .ep t row o => some (.ep t row (o + off))
      | _ => none
  | none => none
def afield (T : Tab) (s : Nat) (x : AV) (f : Nat) : Option AV :=
  match fieldOff T s f, x with
  | some (off, ti), .agg cs =>
    bif ti.isAgg then some (.agg ((cs.drop off).take ti.cells.length)) else cs[off]?
  | _, _ => none
def fillAV (place : Nat → Option (Nat × Nat)) (cells : List AV) : List (Nat × AV) → Option (List AV)
  | [] => some cells
  | (i, v) :: rest =>
    match place i with
    | none => none
    | some (off, size) =>
      bif Nat.beq v.cells.length size && (Nat.ble (off + size) cells.length && v.cells.all isCell) then fillAV place (putAt cells off v.cells) rest else none
def placeOf (T : Tab) (fs : List (Nat × Nat)) (i : Nat) : Option (Nat × Nat) :=
  match fs[i]? with
  | some (off, ft) => (T ft).map fun ti => (off, ti.cells.length)
  | none => none
def abuild (T : Tab) (t : Nat) (parts : List (Nat × AV)) : Option AV :=
  match T t with
  | some ⟨.struct fs, cells, _⟩ =>
    bif !(fs.all fun f => (T f.2).isSome) then none else
    match fillAV (placeOf T fs) (cells.map CT.zero) parts with
    | some cs => some (.agg cs)
    | none => none
  | some ⟨.arr _ e, cells, _⟩ =>
    match T e with
    | some te => (fillAV (fun i => some (i * te.cells.length, te.cells.length)) (cells.map CT.zero) parts).map .agg
    | none => none
  | _ => none
def fillRows (zero : List AV) (cts : List CT) (rows : List (List AV)) : List (Nat × AV) → Option (List (List AV))
  | [] => some rows
  | (i, v) :: rest => bif rowOk cts (coL cts v.cells) && Nat.blt i rows.length then fillRows zero cts (rows.set i (coL cts v.cells)) rest else none
def abuildSlice (T : Tab) (σ : St) (t len : Nat) (parts : List (Nat × AV)) : Option (St × AV) :=
  match T t with
  | some ⟨.sl e, _, _⟩ =>
    match T e with
    | some te =>
      match te.cells with
      | [] => none
      | _ =>
        bif Nat.ble (len * te.cells.length) (2 ^ 24) then
          match fillRows (te.cells.map CT.zeroR) te.cells (List.replicate len (te.cells.map CT.zeroR)) parts with
          | some rows => some (σ.new (.arr e .full rows), .sr σ.st.length)
          | none => none
        else none
    | none => none
  | _ => none
def fillX (n : Nat) (rows : List (List AV)) : List (Nat × AV) → Option (List (List AV))
  | [] => some rows
  | (i, v) :: rest => bif Nat.beq v.cells.length n && (v.cells.all isCell && Nat.blt i rows.length) then fillX n (rows.set i v.cells) rest else none
def abuildX (T : Tab) (σ : St) (t len : Nat) (parts : List (Nat × AV)) : Option (St × AV) :=
  match T t with
  | some ⟨.sl e, _, _⟩ =>
    match T e with
    | some te =>
      bif Nat.blt 0 len && (Nat.blt 0 te.cells.length && Nat.ble (len * te.cells.length) (2 ^ 24)) then
        match fillX te.cells.length (List.replicate len (te.cells.map CT.zeroR)) parts with
        | some rows => some (σ.new (.arx e rows), .sr σ.st.length)
        | none => none
      else none
    | none => none
  | _ => none
def amakeSlice (T : Tab) (σ : St) (t : Nat) (len cap : AV) : Ab (St × AV) :=
  match T t, len, cap with
  | some ⟨.sl e, _, _⟩, .k (.int _ l), .k (.int _ c) =>
    match T e with
    | some te =>
      bif te.cells.isEmpty || Nat.beq te.bytes 0 then none else
        some (decide (0 ≤ l) && (decide (l ≤ c) && decide (c * te.bytes ≤ 2 ^ 47)),
          σ.new (.arr e .wide (List.replicate l.toNat (te.cells.map CT.zeroR))), .sr σ.st.length)
    | none => none
  | _, _, _ => none
def bytesRows (s : ByteArray) : List (List AV) := s.data.toList.map fun b => [.k (.int .u8 (b.toNat : Int))]
def rowsOf (σ : St) : AV → Option (List (List AV))
  | .sl _ _ rows => some rows
  | .sr id => match σ.st.getD id .dead with | .arr _ _ rows => some rows | _ => none
  | .ss id a n => match σ.st.getD id .dead with | .arr _ _ rows => some ((rows.drop a).take n) | _ => none
  | .k (.string s) => some (bytesRows s)
  | _ => none
def elemOk (σ : St) (e : Nat) : AV → Bool
  | .sl u kd _ => (match kd with | .nil => true | _ => Nat.beq u e)
  | .sr id => match σ.st.getD id .dead with | .arr u _ _ => Nat.beq u e | _ => false
  | .ss id _ _ => match σ.st.getD id .dead with | .arr u _ _ => Nat.beq u e | _ => false
  | .k (.string _) => true
  | _ => false
def roomFor (te : TI) (n : Nat) : Bool := Nat.ble (n * te.bytes) (2 ^ 47)
def strOk (te : TI) : AV → Bool
  | .k (.string _) => decide (te.cells = [.int .u8])
  | _ => true
def srcType (T : Tab) (u : Nat) : Bool := match T u with | some ⟨.sl _, _, _⟩ => true | some ⟨.str, _, _⟩ => true | _ => false
def SK.grown (kd : SK) : SK := match kd with | .any => .any | .anyf => .any | .full => .fresh | _ => .wide
def aappend (T : Tab) (σ : St) (t : Nat) (s x : AV) : Ab (St × AV) :=
  match T t with
  | some ⟨.sl e, _, _⟩ =>
    match T e, rowsOf σ x with
    | some te, some ys =>
      bif elemOk σ e x && (!(te.cells.isEmpty || Nat.beq te.bytes 0) && strOk te x) then
        match s with
        | .sl _ .nil _ => some (roomFor te ys.length, σ.new (.arr e .any ys), .sr σ.st.length)
        | .sl u .full rows =>
          match rows with
          | [] => some (roomFor te ys.length, σ.new (.arr e .wide ys), .sr σ.st.length)
          | _ :: _ => bif Nat.beq u e then some (!ys.isEmpty && roomFor te (rows.length + ys.length), σ.new (.arr e .wide (rows ++ ys)), .sr σ.st.length) else none
        | .sl u .anyf rows =>
          match rows with
          | [] => some (roomFor te ys.length, σ.new (.arr e .any ys), .sr σ.st.length)
          | _ :: _ => bif Nat.beq u e then some (!ys.isEmpty && roomFor te (rows.length + ys.length), σ.new (.arr e .wide (rows ++ ys)), .sr σ.st.length) else none
        | .sr id =>
          match σ.st.getD id .dead with
          | .arr u kd rows =>
            bif Nat.beq u e then
              let σ' := σ.scrub id
              some (roomFor te (rows.length + ys.length), { σ' with st := σ'.st.set id (.arr e kd.grown (rows ++ ys)), moved := bif σ.moved.elem id then σ.moved else id :: σ.moved }, .sr id)
            else none
          | _ => none
        | .ss id a n =>
          match σ.st.getD id .dead with
          | .arr u kd rows =>
            bif Nat.beq u e then
              some (Nat.ble (a + n + ys.length) rows.length, { σ with st := σ.st.set id (.arr e kd (rows.take (a + n) ++ ys ++ rows.drop (a + n + ys.length))) }, .ss id a (n + ys.length))
            else none
          | _ => none
        | _ => none
      else none
    | _, _ => none
  | _ => none
def aappendX (T : Tab) (σ : St) (t : Nat) (s x : AV) : Ab (St × AV) :=
  match T t, x with
  | some ⟨.sl e, _, _⟩, .sr jd =>
    match T e, σ.st.getD jd .dead with
    | some te, .arx v ys =>
      bif Nat.beq v e && (Nat.blt 0 te.cells.length && (!(Nat.beq te.bytes 0) && (Nat.blt 0 ys.length && ys.all fun r => r.all isCell))) then
        match s with
        | .sl _ .nil _ => some (roomFor te ys.length, σ.new (.arx e ys), .sr σ.st.length)
        | .sr id =>
          match σ.st.getD id .dead with
          | .arx u rows =>
            bif Nat.beq u e then
              let σ' := σ.scrub id
              some (roomFor te (rows.length + ys.length), { σ' with st := σ'.st.set id ((AObj.arx e (rows ++ ys)).onRefs (scrub1 id)), moved := bif σ.moved.elem id then σ.moved else id :: σ.moved }, .sr id)
            else none
          | _ => none
        | _ => none
      else none
    | _, _ => none
  | _, _ => none
def writeRows (T : Tab) (σ : St) (e : Nat) (dst : AV) (ys : List (List AV)) : Ab St :=
  match T e with
  | none => none
  | some te =>
    bif te.cells.isEmpty then none else
    match dst with
    | .sr id =>
      match σ.st.getD id .dead with
      | .arr u kd rows => bif Nat.beq u e then some (Nat.ble ys.length rows.length, { σ with st := σ.st.set id (.arr e kd (ys ++ rows.drop ys.length)) }) else none
      | _ => none
    | .ss id a n =>
      match σ.st.getD id .dead with
      | .arr u kd rows => bif Nat.beq u e then some (Nat.ble ys.length n && Nat.ble (a + ys.length) rows.length, { σ with st := σ.st.set id (.arr e kd (rows.take a ++ ys ++ rows.drop (a + ys.length))) }) else none
      | _ => none
    | _ => none
def acopy (T : Tab) (σ : St) (t : Nat) (d x : AV) : Ab (St × AV) :=
  match T t with
  | some ⟨.sl e, _, _⟩ =>
    match rowsOf σ d, rowsOf σ x, T e with
    | some ds, some xs, some te =>
      bif elemOk σ e x && strOk te x then
        (writeRows T σ e d (xs.take ds.length)).map fun σ' => (σ', .k (.int .i64 (min xs.length ds.length : Nat)))
      else none
    | _, _, _ => none
  | _ => none
def aclear (T : Tab) (σ : St) (t : Nat) (d : AV) : Ab (St × AV) :=
  match T t with
  | some ⟨.sl e, _, _⟩ =>
    match T e, rowsOf σ d with
    | some te, some ds => (writeRows T σ e d (List.replicate ds.length (te.cells.map CT.zeroR))).map fun σ' => (σ', .undef)
    | _, _ => none
  | _ => none
def alen (T : Tab) (σ : St) (t : Nat) (x : AV) : Option AV :=
  match T t with
  | some ⟨.str, _, _⟩ => (match x with
    | .k (.string s) => some (.k (.int .i64 (s.size : Int)))
    | _ => none)
  | some ⟨.sl _, _, _⟩ => (match x with
    | .sl _ _ rows => some (.k (.int .i64 (rows.length : Int)))
    | .sr id => (match σ.st.getD id .dead with
      | .arr _ _ rows => some (.k (.int .i64 (rows.length : Int)))
      | .arx _ rows => some (.k (.int .i64 (rows.length : Int)))
      | _ => none)
    | .ss _ _ n => some (.k (.int .i64 (n : Int)))
    | _ => none)
  | some ⟨.map _ _, _, _⟩ => (match x with
    | .k (.map none) => some (.k (.int .i64 0))
    | .mp id => (match σ.st.getD id .dead with
      | .map _ _ es => some (.k (.int .i64 (es.length : Int)))
      | _ => none)
    | _ => none)
  | _ => none
def acap (T : Tab) (σ : St) (t : Nat) (x : AV) : Option AV :=
  match T t with
  | some ⟨.sl _, _, _⟩ => (match x with
    | .sr id => (match σ.st.getD id .dead with
      | .arr _ .full rows => some (.k (.int .i64 (rows.length : Int)))
      | _ => none)
    | .ss id a _ => (match σ.st.getD id .dead with
      | .arr _ .full rows => some (.k (.int .i64 ((rows.length - a : Nat) : Int)))
      | _ => none)
    | _ => none)
  | _ => none
def aappendZ (T : Tab) (σ : St) (t u : Nat) (s x : AV) : Ab (St × AV) :=
  match T t, T u, x with
  | some ⟨.sl e, _, _⟩, some ⟨.int .i64, _, _⟩, .k (.int .i64 k) =>
    match T e, s with
    | some te, .ss id a n =>
      (match σ.st.getD id .dead with
      | .arr v .full rows =>
        bif Nat.beq v e && !(te.cells.isEmpty || Nat.beq te.bytes 0) then
          some (decide (0 < k) && (Nat.ble (rows.length - a + 1) (n + k.toNat) && roomFor te (n + k.toNat)),
            σ.new (.arr e .fresh ((rows.drop a).take n ++ List.replicate k.toNat (te.cells.map CT.zeroR))), .sr σ.st.length)
        else none
      | _ => none)
    | _, _ => none
  | _, _, _ => none
def cts (T : Tab) (t : Nat) : List CT := match T t with | some ti => ti.cells | none => []
def cellEq : AV → AV → Bool
  | .k (.int _ a), .k (.int _ b) => a == b
  | .k (.string a), .k (.string b) => a == b
  | .k (.bool a), .k (.bool b) => a == b
  | _, _ => false
def keyEq : List AV → List AV → Bool
  | [], [] => true
  | [a], [b] => cellEq a b
  | a :: as, b :: bs => cellEq a b && keyEq as bs
  | _, _ => false
def mfind (k : List AV) : List (List AV × List AV) → Option (List AV)
  | [] => none
  | e :: es => bif keyEq k e.1 then some e.2 else mfind k es
def mhas (k : List AV) (es : List (List AV × List AV)) : Bool := (mfind k es).isSome
def mput (k v : List AV) : List (List AV × List AV) → List (List AV × List AV)
  | [] => [(k, v)]
  | e :: es => bif keyEq k e.1 then (k, v) :: es else e :: mput k v es
def keyT (T : Tab) (kt : Nat) : Bool := match T kt with
  | some ⟨.int k, [.int j], _⟩ => decide (k = j)
  | some ⟨.str, [.str], _⟩ => true
  | some ⟨.bool, [.bool], _⟩ => true
  | _ => false
def notAgg : AV → Bool | .agg _ => false | _ => true
def keyOk (T : Tab) (kt : Nat) (k : AV) : Bool := keyT T kt && (rowOk (cts T kt) k.cells && notAgg k)
def shOk (te : TI) (v : AV) : Bool := (bif te.isAgg then !notAgg v else notAgg v) && (Nat.beq v.cells.length te.cells.length && v.cells.all isCell)
def rowV (te : TI) (row : List AV) : AV := bif te.isAgg then .agg row else row.getD 0 .undef
def amakeMap (T : Tab) (σ : St) (t : Nat) : Option (St × AV) :=
  match T t with
  | some ⟨.map kt et, _, _⟩ => bif keyT T kt && (T et).isSome then some (σ.new (.map false t []), .mp σ.st.length) else none
  | _ => none
def amapUpdate (T : Tab) (σ : St) (t : Nat) (m k v : AV) : Option St :=
  match T t, m with
  | some ⟨.map kt et, _, _⟩, .mp id =>
    match σ.st.getD id .dead, T et with
    | .map x t' es, some te =>
      bif Nat.beq t t' && (keyOk T kt k && shOk te v) then
        bif !x && rowOk te.cells (coL te.cells v.cells) then some { σ with st := σ.st.set id (.map false t (mput k.cells (coL te.cells v.cells) es)) }
        else some { σ with st := σ.st.set id (.map true t (mput k.cells v.cells es)) }
      else none
    | _, _ => none
  | _, _ => none
def alookup (T : Tab) (σ : St) (t : Nat) (m k : AV) (commaOk : Bool) : Option AV :=
  match T t with
  | some ⟨.map kt et, _, _⟩ =>
    match T et with
    | some te =>
      bif keyOk T kt k then
        let fin := fun (b : Bool) (row : List AV) => bif commaOk then some (.tup [rowV te row, .k (.bool b)]) else some (rowV te row)
        match m with
        | .k (.map none) => fin false (te.cells.map CT.zero)
        | .mp id =>
          match σ.st.getD id .dead with
          | .map false t' es => bif Nat.beq t t' then fin (mhas k.cells es) (rowAt (bif mhas k.cells es then (mfind k.cells es).getD [] else te.cells.map CT.zeroR) 0 te.cells) else none
          | _ => none
        | _ => none
      else none
    | none => none
  | _ => none
def slNil (kd : SK) (rows : List (List AV)) : Ab Bool :=
  match kd with
  | .nil => some (true, true)
  | .any => some (!rows.isEmpty, false)
  | .anyf => some (!rows.isEmpty, false)
  | _ => some (true, false)
def isNil (d : TD) (σ : St) (x : AV) : Ab Bool :=
  match d, x with
  | .sl _, .sl _ kd rows => slNil kd rows
  | .sl _, .sr id => match σ.st.getD id .dead with
    | .arr _ kd rows => slNil kd rows
    | _ => none
  | .ptr _, .k (.pointer none) => some (true, true)
  | .ptr _, .ptr _ _ => some (true, false)
  | .ptr _, .ap _ _ _ => some (true, false)
  | .ptr _, .ep _ _ _ => some (true, false)
  | .func, .k .nilFunc => some (true, true)
  | .func, .fn _ _ _ => some (true, false)
  | .func, .yl _ => some (true, false)
  | .map _ _, .mp _ => some (true, false)
  | .iface, .k .nilIface => some (true, true)
  | .iface, .iface _ _ => some (true, false)
  | .map _ _, .k (.map none) => some (true, true)
  | _, _ => none
def isNilConst (d : TD) (x : AV) : Bool :=
  match d, x with
  | .sl _, .sl _ .nil _ => true
  | .ptr _, .k (.pointer none) => true
  | .func, .k .nilFunc => true
  | .iface, .k .nilIface => true
  | .map _ _, .k (.map none) => true
  | _, _ => false
def eqT (T : Tab) : Nat → Nat → AV → AV → Option Bool
  | 0, _, _, _ => none
  | n + 1, t, x, y =>
    match T t with
    | none => none
    | some ti =>
      match ti.d with
      | .int k => (match x, y with
        | .k (.int a p), .k (.int b q) => bif decide (a = k) && decide (b = k) then some (p == q) else none
        | _, _ => none)
      | .bool => (match x, y with
        | .k (.bool p), .k (.bool q) => some (p == q)
        | _, _ => none)
      | .str => (match x, y with
        | .k (.string p), .k (.string q) => some (p == q)
        | _, _ => none)
      | .struct fs => (match x, y with
        | .agg xs, .agg ys =>
          bif !ti.eqable then none else fs.foldr (fun f acc =>
            match T f.2, acc with
            | some tf, some r =>
              let sub := fun (l : List AV) => bif tf.isAgg then AV.agg ((l.drop f.1).take tf.cells.length) else l.getD f.1 .undef
              bif Nat.ble (f.1 + tf.cells.length) xs.length && (Nat.ble (f.1 + tf.cells.length) ys.length && !tf.cells.isEmpty) then
                match eqT T n f.2 (sub xs) (sub ys) with
                | some b => some (b && r)
                | none => none
              else none
            | _, _ => none) (some true)
        | _, _ => none)
      | _ => none
def aeq (T : Tab) (σ : St) (t : Nat) (x y : AV) : Ab Bool :=
  match T t with
  | none => none
  | some ti =>
    match ti.d with
    | .bool => Ab.ok (eqT T 1 t x y)
    | .struct _ => bif ti.eqable then Ab.ok (eqT T 8 t x y) else none
    | d => bif isNilConst d y then isNil d σ x else bif isNilConst d x then isNil d σ y else none
def abinOp (T : Tab) (σ : St) (op : BinOp) (t : Nat) (x y : AV) : Ab AV :=
  match x, y with
  | .k (.int k a), .k (.int k' b) =>
    match op with
    | .shl => some (decide (0 ≤ b), .k (.int k (k.wrap (a * 2 ^ (min b.toNat k.bits)))))
    | .shr => some (decide (0 ≤ b), .k (.int k (a.fdiv (2 ^ (min b.toNat k.bits)))))
    | .quo => bif decide (k = k') then some (!decide (b = 0), .k (.int k (k.wrap (a.tdiv b)))) else none
    | .rem => bif decide (k = k') then some (!decide (b = 0), .k (.int k (a.tmod b))) else none
    | op => bif decide (k = k') then
        match pureS (binOp op t (.int k a) (.int k b)) with
        | some v => bif scalar v then some (true, .k v) else none
        | none => none
      else none
  | .k (.string a), .k (.string b) =>
    match op with
    | .add => some (Nat.ble (a.size + b.size) 9223372036854775807, .k (.string (a ++ b)))
    | .eql => some (true, .k (.bool (a == b)))
    | .neq => some (true, .k (.bool !(a == b)))
    | .lss => some (true, .k (.bool (Op.bytesLess a.toList b.toList)))
    | .leq => some (true, .k (.bool (Op.bytesLess a.toList b.toList || a == b)))
    | .gtr => some (true, .k (.bool !(Op.bytesLess a.toList b.toList || a == b)))
    | .geq => some (true, .k (.bool !(Op.bytesLess a.toList b.toList)))
    | _ => none
  | x, y =>
    match op with
    | .eql => (aeq T σ t x y).map fun b => .k (.bool b)
    | .neq => (aeq T σ t x y).map fun b => .k (.bool !b)
    | _ => none
def aconvert (T : Tab) (src dst : Nat) (x : AV) : Option AV :=
  match T src, T dst, x with
  | some _, some ⟨.int k, _, _⟩, .k (.int _ n) => some (.k (.int k (k.wrap n)))
  | some _, some ⟨.str, _, _⟩, .k (.string s) => some (.k (.string s))
  | some _, some ⟨.sl e, _, _⟩, .k (.string s) =>
    match T e with
    | some ⟨.int .u8, [.int .u8], _⟩ => some (.sl e .wide (bytesRows s))
    | _ => none
  | _, _, _ => none
def aminmax (isMax : Bool) : List AV → Option AV
  | [.k (.int k a), .k (.int k' b)] => bif decide (k = k') then some (.k (.int k (bif isMax then (if b > a then b else a) else (if b < a then b else a)))) else none
  | _ => none
def abuiltin (T : Tab) (σ : St) (b : Builtin) (ts : List Nat) (args : List AV) : Ab (St × AV) :=
  match b, ts, args with
  | .len, [t], [x] => (match alen T σ t x with | some v => some (true, σ, v) | none => none)
  | .append, [t, u], [s, x] => bif srcType T u then (match aappend T σ t s x with | some r => some r | none => aappendX T σ t s x) else aappendZ T σ t u s x
  | .cap, [t], [x] => (match acap T σ t x with | some v => some (true, σ, v) | none => none)
  | .copy, [t, _], [d, x] => acopy T σ t d x
  | .clear, [t], [d] => aclear T σ t d
  | .max, _, args => (match aminmax true args with | some v => some (true, σ, v) | none => none)
  | .min, _, args => (match aminmax false args with | some v => some (true, σ, v) | none => none)
  | _, _, _ => none
def aop (T : Tab) (σ : St) (o : Op) : Ab (St × AV) :=
  let v (r : Option AV) : Ab (St × AV) := match r with | some x => some (true, σ, x) | none => none
  let w (r : Ab AV) : Ab (St × AV) := match r with | some (c, x) => some (c, σ, x) | none => none
  match o with
  | .move x | .assign x => some (true, σ, σ.eval x)
  | .pick c a b => match σ.eval c with
    | .k (.bool c) => some (true, σ, pickAV c (σ.eval a) (σ.eval b))
    | _ => none
  | .alloc t => match T t with
    | some ti => some (true, σ.new (.box t (ti.cells.map CT.zero)), .ptr σ.st.length 0)
    | none => none
  | .box t x => match T t with
    | some ti => bif Nat.beq (σ.eval x).cells.length ti.cells.length && (σ.eval x).cells.all isCell then some (true, σ.new (.box t (σ.eval x).cells), .ptr σ.st.length 0) else none
    | none => none
  | .build t parts => v (abuild T t (parts.toList.map fun p => (p.1, σ.eval p.2)))
  | .buildSlice t len parts => Ab.ok (match abuildSlice T σ t len (parts.toList.map fun p => (p.1, σ.eval p.2)) with | some r => some r | none => abuildX T σ t len (parts.toList.map fun p => (p.1, σ.eval p.2)))
  | .load t a => v (aload T σ t (σ.eval a))
  | .store t a x => match astore T σ t (σ.eval x) (σ.eval a) with
    | some σ' => some (true, σ', .undef)
    | none => none
  | .makeMap t none => Ab.ok (amakeMap T σ t)
  | .makeMap t (some r) => match σ.eval r with
    | .k (.int _ _) => Ab.ok (amakeMap T σ t)
    | _ => none
  | .insert t m k x => match amapUpdate T σ t (σ.eval m) (σ.eval k) (σ.eval x) with
    | some σ' => some (true, σ', .undef)
    | none => none
  | .mapUpdate t m k x => match amapUpdate T σ t (σ.eval m) (σ.eval k) (σ.eval x) with
    | some σ' => some (true, σ', .undef)
    | none => none
  | .lookup t m k ok => v (alookup T σ t (σ.eval m) (σ.eval k) ok)
  | .nilCheck x => match σ.eval x with
    | .ptr i o => some (true, σ, .ptr i o)
    | .ap i j o => some (true, σ, .ap i j o)
    | .ep u r o => some (true, σ, .ep u r o)
    | .fn (.func f) p q => some (true, σ, .fn (.func f) p q)
    | .iface u v => some (true, σ, .iface u v)
    | .yl i => some (true, σ, .yl i)
    | _ => none
  | .binOp op t x y _ =>
    match σ.eval x, σ.eval y with
    | .k .nilIface, .k .nilIface => (match x, y with
      | .const _, _ => w (abinOp T σ op t (σ.eval x) (σ.eval y))
      | _, .const _ => w (abinOp T σ op t (σ.eval x) (σ.eval y))
      | _, _ => none)
    | p, q => w (abinOp T σ op t p q)
  | .unOp op _ x => match σ.eval x with
    | .k (.int kk n) => (match pureS (Op.unary op (.int kk n)) with
      | some r => bif scalar r then some (true, σ, .k r) else none
      | none => none)
    | .k (.bool b) => match op with
      | .not => some (true, σ, .k (.bool !b))
      | _ => none
    | _ => none
  | .convert src dst x => v (aconvert T src dst (σ.eval x))
  | .makeInterface t x => (match T t with
    | some ⟨.iface, _, _⟩ => none
    | some _ => some (true, σ, .iface t (σ.eval x))
    | none => none)
  | .makeFunc fn first captured => some (true, σ, .fn fn (first.toList.map σ.eval) (captured.toList.map σ.eval))
  | .makeSlice t l c => amakeSlice T σ t (σ.eval l) (σ.eval c)
  | .slice t x lo hi mx => bif mx.isSome && hi.isNone then none else w (aslice T σ t (σ.eval x) (lo.map σ.eval) (hi.map σ.eval) (mx.map σ.eval))
  | .fieldAddr s x f => v (afieldAddr T s (σ.eval x) f)
  | .field s x f => v (afield T s (σ.eval x) f)
  | .indexAddr t x i => w (aindexAddr T σ t (σ.eval x) (σ.eval i))
  | .index t x i => w (aindex T t (σ.eval x) (σ.eval i))
  | .extract x i => match σ.eval x with
    | .tup vs => v vs[i]?
    | _ => none
  | .range t x => match T t, σ.eval x with
    | some ⟨.str, _, _⟩, .k (.string s) => some (true, σ.new (.iter s 0), .ptr σ.st.length 0)
    | _, _ => none
  | .call { callee := .builtin b, args, argTypes } => abuiltin T σ b argTypes.toList (args.toList.map σ.eval)
  | _ => none
def St.put (σ : St) (dst : Option Nat) (v : AV) : St :=
  match dst with
  | some d => { σ with tmps := σ.tmps.set d v }
  | none => σ
abbrev Res := AV × List AObj
inductive Weak where
  | kill (ts : List Nat)
  | freeze (t : Nat)
  | own (t e : Nat)
  | ownCell (t off e : Nat)
  | drop (ids : List Nat)
  | part (t : Nat)
  | ownIn (t e : Nat)
  | loose (t : Nat)
  | freezeIn (t : Nat)
  | thaw (t : Nat)
  | chill (t : Nat)
  | freezeB (t : Nat)
  deriving Repr
def killS : List AV → List Nat → Nat → List AV
  | [], _, _ => []
  | v :: l, [], _ => v :: l
  | v :: l, t :: ts, i => bif Nat.beq t i then .undef :: killS l ts (i + 1) else v :: killS l (t :: ts) (i + 1)
def ownAV (σ : St) (e : Nat) : AV → Option (St × AV)
  | .sl _ .nil _ => some (σ.new (.arr e .any []), .sr σ.st.length)
  | _ => none
mutual
def AV.nilTo (x : AV) : AV → Option AV
  | .sl _ .nil _ => some x
  | .agg cs => match AV.nilToL x cs with
    | some cs' => some (.agg cs')
    | none => none
  | .tup vs => match AV.nilToL x vs with
    | some vs' => some (.tup vs')
    | none => none
  | _ => none
def AV.nilToL (x : AV) : List AV → Option (List AV)
  | [] => none
  | v :: vs => match AV.nilTo x v with
    | some v' => some (v' :: vs)
    | none => match AV.nilToL x vs with
      | some vs' => some (v :: vs')
      | none => none
end
def St.loose (σ : St) (id : Nat) : St :=
  match σ.st.getD id .dead with
  | .arr t _ rows => { σ with st := σ.st.set id (.arr t .any rows) }
  | _ => σ
def St.looseAll (σ : St) : List Nat → St
  | [] => σ
  | i :: is => (σ.loose i).looseAll is
def St.dropId (σ : St) (id : Nat) : St := { σ.scrub id with st := (σ.scrub id).st.set id .dead }
def St.dropAll (σ : St) : List Nat → St
  | [] => σ
  | i :: is => (σ.dropId i).dropAll is
def St.partOf (σ : St) (t id e : Nat) (rows : List (List AV)) : St :=
  { σ.dropId id with tmps := (σ.dropId id).tmps.set t (.sr (σ.dropId id).st.length), st := (σ.dropId id).st ++ [.arr e .any rows] }
def freezeB1 (id t : Nat) (cs : List AV) : AV → AV
  | .sr i => bif Nat.beq i id then .undef else .sr i
  | .ss i a b => bif Nat.beq i id then .undef else .ss i a b
  | .ap i a b => bif Nat.beq i id then .undef else .ap i a b
  | .ptr i a => bif Nat.beq i id then .ep t cs a else .ptr i a
  | .yl i => bif Nat.beq i id then .undef else .yl i
  | .mp i => bif Nat.beq i id then .undef else .mp i
  | v => v
def St.freezeBId (T : Tab) (σ : St) (id : Nat) : St :=
  match σ.st.getD id .dead with
  | .box t cs => bif rowOk (cts T t) cs then
      { σ with tmps := AV.onRefsL (freezeB1 id t cs) σ.tmps, st := (σ.st.set id .dead).map (AObj.onRefs (freezeB1 id t cs)) } else σ
  | _ => σ
def St.thawId (σ : St) (id : Nat) : St :=
  match σ.st.getD id .dead with
  | .arr t _ (r :: rs) => { σ with st := σ.st.set id (.arx t (r :: rs)) }
  | _ => σ
def St.chillId (T : Tab) (σ : St) (id : Nat) : St :=
  match σ.st.getD id .dead with
  | .arx t rows => bif (rows.map (coL (cts T t))).all (rowOk (cts T t)) then { σ with st := σ.st.set id (.arr t .any (rows.map (coL (cts T t)))) } else σ
  | _ => σ
def St.chill1 (T : Tab) (σ : St) (id : Nat) : St :=
  match σ.st.getD id .dead with
  | .arx _ rows => (σ.freezeAll (AV.arrsL rows.flatten)).chillId T id
  | _ => σ
def St.chillAll (T : Tab) (σ : St) : List Nat → St
  | [] => σ
  | i :: is => (σ.chill1 T i).chillAll T is
def St.weak (T : Tab) (σ : St) : Weak → St
  | .kill ts => { σ with tmps := killS σ.tmps ts 0 }
  | .freeze t => σ.freezeAll (σ.tmps.getD t .undef).arrs
  | .own t e => match ownAV σ e (σ.tmps.getD t .undef) with
    | some (σ', v) => σ'.put (some t) v
    | none => σ
  | .ownCell t off e =>
    match σ.tmps.getD t .undef with
    | .ptr id o =>
      match σ.st.getD id .dead with
      | .box bt cs => match ownAV σ e (cs.getD (o + off) .undef) with
        | some (σ', v) => { σ' with st := σ'.st.set id (.box bt (cs.set (o + off) v)) }
        | none => σ
      | _ => σ
    | _ => σ
  | .drop ids => σ.dropAll ids
  | .ownIn t e => match AV.nilTo (.sr σ.st.length) (σ.tmps.getD t .undef) with
    | some v => { σ.new (.arr e .any []) with tmps := σ.tmps.set t v }
    | none => σ
  | .loose t => σ.looseAll (σ.tmps.getD t .undef).arrs
  | .freezeIn t =>
    match σ.tmps.getD t .undef with
    | .ptr id _ =>
      match σ.st.getD id .dead with
      | .box _ cs => σ.freezeAll (AV.arrsL cs)
      | _ => σ
    | _ => σ
  | .thaw t =>
    match σ.tmps.getD t .undef with
    | .sr id => σ.thawId id
    | _ => σ
  | .chill t => σ.chillAll T (σ.tmps.getD t .undef).arrs
  | .freezeB t =>
    match σ.tmps.getD t .undef with
    | .ptr id _ => σ.freezeBId T id
    | _ => σ
  | .part t =>
    match σ.tmps.getD t .undef with
    | .ss id a n =>
      match σ.st.getD id .dead with
      | .arr e _ rows => σ.partOf t id e ((rows.drop a).take n)
      | _ => σ
    | .sr id =>
      match σ.st.getD id .dead with
      | .arr e _ rows => σ.partOf t id e rows
      | _ => σ
    | _ => σ
def St.weaks (T : Tab) (σ : St) : List Weak → St
  | [] => σ
  | x :: xs => (σ.weak T x).weaks T xs
def dedup : List Nat → List Nat → List Nat
  | [], seen => seen
  | i :: is, seen => bif seen.elem i then dedup is seen else dedup is (seen ++ [i])
def AObj.ids : AObj → List Nat
  | .box _ cs => AV.idsL cs
  | .arx _ rows => rows.flatMap AV.idsL
  | .loop _ _ _ tmps _ _ _ => AV.idsL tmps
  | .map _ _ es => es.flatMap fun e => AV.idsL e.2
  | _ => []
def reach (st : List AObj) : Nat → List Nat → List Nat
  | 0, l => l
  | n + 1, l =>
    let l' := dedup (l.flatMap fun i => (st.getD i .dead).ids) l
    bif Nat.beq l'.length l.length then l else reach st n l'
def idxIn (l : List Nat) (i : Nat) : Option Nat :=
  match l with
  | [] => none
  | j :: js => bif Nat.beq j i then some 0 else (idxIn js i).map (· + 1)
def rename1 (ks : List Nat) : AV → AV
  | .sr i => match idxIn ks i with | some j => .sr j | none => .undef
  | .ss i a b => match idxIn ks i with | some j => .ss j a b | none => .undef
  | .ptr i a => match idxIn ks i with | some j => .ptr j a | none => .undef
  | .ap i a b => match idxIn ks i with | some j => .ap j a b | none => .undef
  | .yl i => match idxIn ks i with | some j => .yl j | none => .undef
  | .mp i => match idxIn ks i with | some j => .mp j | none => .undef
  | v => v
def St.keep (σ : St) (ks : List Nat) : St :=
  { tmps := AV.onRefsL (rename1 ks) σ.tmps, st := ks.map fun i => (σ.st.getD i .dead).onRefs (rename1 ks), moved := σ.moved }
def St.canon0 (σ : St) (m : Nat) : St := σ.keep (List.range m ++ (reach σ.st 8 (dedup (List.range m ++ AV.idsL σ.tmps) [])).filter fun i => Nat.ble m i)
def St.canon (σ : St) (m : Nat) : St := { σ.canon0 m with moved := σ.moved.filter fun i => Nat.blt i m }
def back1 (ks : List Nat) (base : Nat) : AV → AV
  | .sr i => .sr (match ks[i]? with | some j => j | none => base + (i - ks.length))
  | .ss i a b => .ss (match ks[i]? with | some j => j | none => base + (i - ks.length)) a b
  | .ptr i a => .ptr (match ks[i]? with | some j => j | none => base + (i - ks.length)) a
  | .ap i a b => .ap (match ks[i]? with | some j => j | none => base + (i - ks.length)) a b
  | .yl i => .yl (match ks[i]? with | some j => j | none => base + (i - ks.length))
  | .mp i => .mp (match ks[i]? with | some j => j | none => base + (i - ks.length))
  | v => v
def setMany (st : List AObj) : List Nat → List AObj → List AObj
  | i :: is, o :: os => setMany (st.set i o) is os
  | _, _ => st
inductive RS where
  | cell (ct : CT) | a (cs : List RS) | t (vs : List RS) | sr (id : Nat) | p (id off : Nat) | ss (id : Nat) | any
inductive OS where
  | box (t : Nat) (cs : List RS) | arr (t : Nat) (kd : SK) | dead | rest
mutual
def RS.ok : RS → AV → Bool
  | .cell ct, v => ct.ok v
  | .a rs, .agg cs => RS.okL rs cs
  | .t rs, .tup vs => RS.okL rs vs
  | .sr i, .sr j => Nat.beq i j
  | .p i o, .ptr j u => Nat.beq i j && Nat.beq o u
  | .ss i, .ss j _ _ => Nat.beq i j
  | .any, _ => true
  | _, _ => false
def RS.okL : List RS → List AV → Bool
  | [], [] => true
  | r :: rs, v :: vs => RS.ok r v && RS.okL rs vs
  | _, _ => false
end
def OS.ok : OS → AObj → Bool
  | .box t rs, .box u cs => Nat.beq t u && RS.okL rs cs
  | .arr t kd, .arr u kd' _ => Nat.beq t u && decide (kd = kd')
  | .dead, .dead => true
  | _, _ => false
def OS.okL : List OS → List AObj → Bool
  | [], [] => true
  | [.rest], _ => true
  | r :: rs, v :: vs => OS.ok r v && OS.okL rs vs
  | _, _ => false
mutual
def RS.co : RS → AV → AV
  | .cell ct, v => ct.co v
  | .a rs, .agg cs => .agg (RS.coL rs cs)
  | .t rs, .tup vs => .tup (RS.coL rs vs)
  | _, v => v
def RS.coL : List RS → List AV → List AV
  | r :: rs, v :: vs => RS.co r v :: RS.coL rs vs
  | _, vs => vs
end
def OS.co : OS → AObj → AObj
  | .box _ rs, .box u cs => .box u (RS.coL rs cs)
  | _, o => o
def OS.coL : List OS → List AObj → List AObj
  | r :: rs, v :: vs => OS.co r v :: OS.coL rs vs
  | _, vs => vs
def coArg (T : Tab) (t : Nat) (v : AV) : AV :=
  match T t with
  | some ti => bif ti.isAgg then (match v with | .agg cs => .agg (coL ti.cells cs) | v => v) else (match ti.cells with | [c] => c.co v | _ => v)
  | none => v
def coArgs (T : Tab) : List Nat → List AV → List AV
  | t :: ts, v :: vs => coArg T t v :: coArgs T ts vs
  | _, vs => vs
mutual
def RS.expand : RS → AV → AV
  | .cell ct, v => ct.expand v
  | .a rs, v => .agg (RS.expandL rs 0 v.cells)
  | .t rs, v => .tup (RS.expandL rs 0 v.parts)
  | .sr i, _ => .sr i
  | .p i o, _ => .ptr i o
  | .ss i, v => .ss i v.lo v.len
  | .any, v => v
def RS.expandL : List RS → Nat → List AV → List AV
  | [], _, _ => []
  | r :: rs, j, vs => RS.expand r (vs.getD j .undef) :: RS.expandL rs (j + 1) vs
end
def AObj.cellsO : AObj → List AV
  | .box _ cs => cs
  | _ => []
def AObj.rowsO : AObj → List (List AV)
  | .arr _ _ rows => rows
  | _ => []
def OS.expand : OS → AObj → AObj
  | .box t rs, o => .box t (RS.expandL rs 0 o.cellsO)
  | .arr t kd, o => .arr t kd o.rowsO
  | .dead, _ => .dead
  | .rest, o => o
def OS.expandL : List OS → Nat → List AObj → List AObj
  | [], _, _ => []
  | [.rest], j, vs => vs.drop j
  | r :: rs, j, vs => OS.expand r (vs.getD j .dead) :: OS.expandL rs (j + 1) vs
structure FAnn where
  pre : List ((Nat × Nat) × List Weak) := []
  split : List (Nat × Nat) := []
  loops : List (Nat × List Weak) := []
  post : List Weak := []
  res : RS := .t []
  objs : List OS := []
  mvs : List Nat := []
  free : List (Nat × Nat) := []
  dyn : List (Nat × List Nat × List (Nat × Nat)) := []
  dfr : List Nat := []
  par : List Nat := []
  vals : List Nat := []
structure FSys where
  T : Tab
  body : FuncId → Option Func
  ann : FuncId → FAnn
  prim : FuncId → List AV → List AObj → Option (Ab Res)
  harm : FuncId → Nat → Bool := fun _ _ => false
  cok : FuncId → Code → Bool := fun _ _ => false
def look2 (l : List ((Nat × Nat) × List Weak)) (r i : Nat) : List Weak :=
  match l with
  | [] => []
  | ((a, b), w) :: rest => bif Nat.beq a r && Nat.beq b i then w else look2 rest r i
def has2 (l : List (Nat × Nat)) (r i : Nat) : Bool :=
  match l with
  | [] => false
  | (a, b) :: rest => bif Nat.beq a r && Nat.beq b i then true else has2 rest r i
def look1 (l : List (Nat × List Weak)) (r : Nat) : List Weak :=
  match l with
  | [] => []
  | (a, w) :: rest => bif Nat.beq a r then w else look1 rest r
inductive Out where
  | norm (σ : St) | exit (id : Nat) (σ : St) | ret (σ : St)
structure Ctx where
  T : Tab
  ann : FAnn
  m : Nat
  fuel : Nat
  call : FuncId → List AV → List AObj → Ab Res
  sig : FuncId → RS × List OS × List Nat
  fid : FuncId := 0
  ent : FuncId → Bool := fun _ => false
  round : FuncId → Nat → Code → St → (Out → Option Res) → Option Res := fun _ _ _ _ _ => none
def scrubL1 (ids : List Nat) : AV → AV
  | .sr i => bif ids.elem i then .undef else .sr i
  | .ss i a b => bif ids.elem i then .undef else .ss i a b
  | .ptr i a => bif ids.elem i then .undef else .ptr i a
  | .ap i a b => bif ids.elem i then .undef else .ap i a b
  | .yl i => bif ids.elem i then .undef else .yl i
  | .mp i => bif ids.elem i then .undef else .mp i
  | v => v
def pickIds (ks : List Nat) : List Nat → List Nat
  | [] => []
  | i :: is => match ks[i]? with
    | some k => k :: pickIds ks is
    | none => pickIds ks is
def under (c : Bool) (x : Option Res) : Option Res := bif c then x else none
def acall (C : Ctx) (σ : St) (f : FuncId) (args : List AV) (K : St → AV → Option Res) : Option Res :=
  let ks := reach σ.st 8 (dedup (AV.idsL args) [])
  bif !(ks.all fun i => Nat.blt i σ.st.length) then none else
  match C.call f (AV.onRefsL (rename1 ks) args) (ks.map fun i => (σ.st.getD i .dead).onRefs (rename1 ks)) with
  | none => none
  | some (c, r, st') =>
    let sg := C.sig f
    let r := sg.1.expand r
    let st' := OS.expandL sg.2.1 0 st'
    let h := back1 ks σ.st.length
    let mv := pickIds ks sg.2.2
    let s := scrubL1 mv
    under c <| K { tmps := AV.onRefsL s σ.tmps, st := setMany (σ.st.map (AObj.onRefs s)) ks (st'.map (AObj.onRefs h)) ++ (st'.drop ks.length).map (AObj.onRefs h), moved := mv ++ σ.moved } (r.onRefs h)
def guardOf (ops : List Oper) (σ : St) (o : Oper) : Option Bool :=
  match o.guard with
  | none => some true
  | some (j, want) =>
    match ops[j]? with
    | some g => match g.dst with
      | some d => match σ.tmps.getD d .undef with
        | .k (.bool b) => some (b == want)
        | .k (.tuple _) => some false
        | _ => none
      | none => none
    | none => none
def splitAt (sp : Bool) (σ : St) (dst : Option Nat) (v : AV) (K : St → Option Res) : Option Res :=
  match sp, v with
  | true, .k (.bool b) => bif b then K (σ.put dst (.k (.bool true))) else K (σ.put dst (.k (.bool false)))
  | _, v => K (σ.put dst v)
def anext (σ : St) (x : AV) (K : St → AV → Option Res) : Option Res :=
  match x with
  | .ptr id 0 =>
    match σ.st.getD id .dead with
    | .iter s pos =>
      bif decide (pos < s.size) then
        K { σ with st := σ.st.set id (.iter s (pos + (Utf8.decode s pos).2)) } (.tup [.k (.bool true), .k (.int .i64 (pos : Int)), .k (.int .i32 ((Utf8.decode s pos).1 : Nat))])
      else K σ (.tup [.k (.bool false)])
    | _ => none
  | _ => none
def forceL {α β : Type} : List α → (List α → β) → β
  | [], K => K []
  | v :: vs, K => forceL vs fun vs' => K (v :: vs')
def forceR {α β : Type} : List (List α) → (List (List α) → β) → β
  | [], K => K []
  | r :: rs, K => forceL r fun r' => forceR rs fun rs' => K (r' :: rs')
def forceO {β : Type} : List AObj → (List AObj → β) → β
  | [], K => K []
  | .box t cs :: os, K => forceL cs fun cs' => forceO os fun os' => K (.box t cs' :: os')
  | .arx t rows :: os, K => forceR rows fun rows' => forceO os fun os' => K (.arx t rows' :: os')
  | .loop fin p f tm ps a b :: os, K => forceL tm fun tm' => forceO os fun os' => K (.loop fin p f tm' ps a b :: os')
  | o :: os, K => forceO os fun os' => K (o :: os')
def forceSt {β : Type} (σ : St) (K : St → β) : β :=
  forceL σ.tmps fun t => forceO σ.st fun s => forceL σ.moved fun m => K ⟨t, s, m⟩
theorem forceL_eq {α β : Type} : ∀ (l : List α) (K : List α → β), forceL l K = K l
  | [], _ => rfl
  | v :: vs, K => by rw [forceL, forceL_eq vs]
theorem forceR_eq {α β : Type} : ∀ (l : List (List α)) (K : List (List α) → β), forceR l K = K l
  | [], _ => rfl
  | r :: rs, K => by rw [forceR, forceL_eq, forceR_eq rs]
theorem forceO_eq {β : Type} : ∀ (l : List AObj) (K : List AObj → β), forceO l K = K l
  | [], _ => rfl
  | o :: os, K => by
    cases o <;> simp only [forceO, forceL_eq, forceR_eq, forceO_eq os]
theorem forceSt_eq {β : Type} (σ : St) (K : St → β) : forceSt σ K = K σ := by
  unfold forceSt
  rw [forceL_eq, forceO_eq, forceL_eq]
mutual
def AV.clean : AV → Bool
  | .agg cs => AV.cleanL cs
  | .tup vs => AV.cleanL vs
  | .fn _ a b => AV.cleanL a && AV.cleanL b
  | .iface _ v => AV.clean v
  | .sr _ | .ss _ _ _ | .ptr _ _ | .ap _ _ _ | .yl _ | .mp _ | .undef => false
  | .k _ | .sl _ _ _ | .ep _ _ _ => true
def AV.cleanL : List AV → Bool
  | [] => true
  | v :: vs => AV.clean v && AV.cleanL vs
end
def freeOk (T : Tab) (σ : St) (o : Oper) : Bool :=
  (o.op.operands.toList.all fun x => (σ.eval x).clean) && match aop T σ o.op with
    | some (_, _, v) => v.clean
    | none => false
def freeBad (C : Ctx) (rid i : Nat) (σ : St) (o : Oper) : Bool := has2 C.ann.free rid i && !freeOk C.T σ o
def evOps (C : Ctx) (ops : List Oper) (rid : Nat) : List Oper → Nat → St → (St → Option Res) → Option Res
  | [], _, σ, K => K σ
  | o :: rest, i, σ, K =>
    bif freeBad C rid i σ o then none else
    match guardOf ops σ o with
    | none => none
    | some g =>
      bif g then
        let σ := σ.weaks C.T (look2 C.ann.pre rid i)
        match o.op with
        | .call { callee := .value f, args, argTypes := _ } =>
          match σ.eval f with
          | .fn (.func n) first captured =>
            acall C σ n (first ++ args.toList.map σ.eval ++ captured) fun σ' r => splitAt (has2 C.ann.split rid i) σ' o.dst r fun σ'' => evOps C ops rid rest (i + 1) σ'' K
          | _ => none
        | .next it true => anext σ (σ.eval it) fun σ' r => evOps C ops rid rest (i + 1) (σ'.put o.dst r) K
        | op =>
          match aop C.T σ op with
          | none => none
          | some (c, σ', v) => under c (splitAt (has2 C.ann.split rid i) σ' o.dst v fun σ'' => evOps C ops rid rest (i + 1) σ'' K)
      else evOps C ops rid rest (i + 1) (σ.put o.dst (.k undef)) K
mutual
def AV.stab (ids : List Nat) (n : Nat) : AV → Bool
  | .agg cs => AV.stabL ids n cs
  | .tup vs => AV.stabL ids n vs
  | .fn _ a b => AV.stabL ids n a && AV.stabL ids n b
  | .iface _ v => AV.stab ids n v
  | .sr i => Nat.blt i n && !ids.elem i
  | .ss i _ _ => Nat.blt i n && !ids.elem i
  | .ptr i _ => Nat.blt i n && !ids.elem i
  | .ap i _ _ => Nat.blt i n && !ids.elem i
  | .yl _ | .mp _ | .undef => false
  | .k _ | .sl _ _ _ | .ep _ _ _ => true
def AV.stabL (ids : List Nat) (n : Nat) : List AV → Bool
  | [] => true
  | v :: vs => AV.stab ids n v && AV.stabL ids n vs
end
def AObj.stab (ids : List Nat) (n : Nat) : AObj → Bool
  | .box _ cs => AV.stabL ids n cs
  | .arx _ rows => rows.all (AV.stabL ids n)
  | .loop _ _ _ _ _ _ _ | .map _ _ _ => false
  | _ => true
def acall1 (C : Ctx) (σ : St) (f : FuncId) (args : List AV) : Ab (St × AV) :=
  let ks := reach σ.st 8 (dedup (AV.idsL args) [])
  bif !(ks.all fun i => Nat.blt i σ.st.length) then none else
  match C.call f (AV.onRefsL (rename1 ks) args) (ks.map fun i => (σ.st.getD i .dead).onRefs (rename1 ks)) with
  | none => none
  | some (c, r, st') =>
    let sg := C.sig f
    let r := sg.1.expand r
    let st' := OS.expandL sg.2.1 0 st'
    let h := back1 ks σ.st.length
    let mv := pickIds ks sg.2.2
    let s := scrubL1 mv
    some (c, { tmps := AV.onRefsL s σ.tmps, st := setMany (σ.st.map (AObj.onRefs s)) ks (st'.map (AObj.onRefs h)) ++ (st'.drop ks.length).map (AObj.onRefs h), moved := mv ++ σ.moved }, r.onRefs h)
def anext1 (σ : St) (x : AV) : Option (St × AV) :=
  match x with
  | .ptr id 0 =>
    match σ.st.getD id .dead with
    | .iter s pos =>
      bif decide (pos < s.size) then
        some ({ σ with st := σ.st.set id (.iter s (pos + (Utf8.decode s pos).2)) }, .tup [.k (.bool true), .k (.int .i64 (pos : Int)), .k (.int .i32 ((Utf8.decode s pos).1 : Nat))])
      else some (σ, .tup [.k (.bool false)])
    | _ => none
  | _ => none
def exec1 (C : Ctx) (σ : St) (o : Oper) : Option (Bool × St × AV) :=
  match o.op with
  | .call { callee := .value f, args, argTypes := _ } =>
    match σ.eval f with
    | .fn (.func n) first captured => acall1 C σ n (first ++ args.toList.map σ.eval ++ captured)
    | _ => none
  | .next it true => (anext1 σ (σ.eval it)).map fun p => (true, p.1, p.2)
  | op => aop C.T σ op
def topIds : AV → List Nat
  | .sr i => [i]
  | .ss i _ _ => [i]
  | .ptr i _ => [i]
  | .ap i _ _ => [i]
  | .yl i => [i]
  | .mp i => [i]
  | _ => []
inductive Fk where
  | no | pure | look | load | new | store | app | call | calls
  deriving DecidableEq, Repr
def oneArr : List OS → Bool | [.arr _ _] => true | _ => false
def fkind (sig : FuncId → RS × List OS × List Nat) : Op → Fk
  | .move _ | .assign _ | .pick _ _ _ | .nilCheck _ | .unOp _ _ _ | .convert _ _ _ | .makeInterface _ _ | .makeFunc _ _ _
  | .fieldAddr _ _ _ | .field _ _ _ | .extract _ _ | .build _ _ | .index _ _ _ => .pure
  | .slice _ _ _ _ _ | .indexAddr _ _ _ | .binOp _ _ _ _ _ => .look
  | .load _ _ => .load
  | .alloc _ | .box _ _ | .buildSlice _ _ _ | .makeSlice _ _ _ => .new
  | .store _ _ _ => .store
  | .call { callee := .builtin .len, args := _, argTypes := _ } => .look
  | .call { callee := .builtin .min, args := _, argTypes := _ } | .call { callee := .builtin .max, args := _, argTypes := _ } => .pure
  | .call { callee := .builtin .append, args := _, argTypes := _ } => .app
  | .call { callee := .value (.func n), args := _, argTypes := _ } => bif (sig n).2.1.isEmpty then .call else bif oneArr (sig n).2.1 then .new else .calls
  | .call { callee := .value _, args := _, argTypes := _ } => .calls
  | _ => .no
def Fk.isNew : Fk → Bool
  | .new | .app => true
  | _ => false
structure Fp where
  opv : List AV
  touch : List Nat
  tobj : List AObj
  dst : Option Nat
  v : AV
  w : Option Nat
  o : AObj
  scr : List Nat
  fix : Bool
def headId (l : List Nat) : Option Nat := match l with | i :: _ => some i | [] => none
def grewOf (N : Nat) (fk : Fk) (σ1 : St) : Bool := fk.isNew && Nat.blt N σ1.st.length
def storeTops (o : Op) (σ : St) : List Nat := match o with | .store _ a _ => topIds (σ.eval a) | _ => []
def wOf (grew : Bool) (slot : Nat) (fk : Fk) (o : Op) (σ : St) (v : AV) : Option Nat :=
  bif grew then some slot else match fk with
    | .store => headId (storeTops o σ)
    | .app => headId (topIds v)
    | _ => none
def calleeOf (σ : St) : Op → Option (FuncId × List AV)
  | .call { callee := .value f, args, argTypes := _ } => (match σ.eval f with
    | .fn (.func n) first captured => some (n, first ++ args.toList.map σ.eval ++ captured)
    | _ => none)
  | _ => none
def callTouch (o : Op) (σ : St) : List Nat := match calleeOf σ o with
  | some (_, args) => reach σ.st 8 (dedup (AV.idsL args) [])
  | none => []
def touchOf (fk : Fk) (o : Op) (σ : St) : List Nat :=
  match fk with
  | .look | .load | .app => o.operands.toList.flatMap fun x => topIds (σ.eval x)
  | .store => storeTops o σ
  | .calls => callTouch o σ
  | _ => []
def tobjOf (fk : Fk) (o : Op) (σ : St) : List AObj :=
  match fk with
  | .load => []
  | fk => (touchOf fk o σ).map fun i => σ.st.getD i .dead
def scrOf (grew : Bool) (slot : Nat) (fk : Fk) (v : AV) : List Nat :=
  bif grew then [slot] else match fk, v with | .app, .sr i => [i] | _, _ => []
def fpOf (ops : Array Oper) (N slot : Nat) (fk : Fk) (o : Oper) (σ σ1 σ2 : St) (v : AV) : Fp :=
  { opv := (o.looksAt ops).map fun t => σ.tmps.getD t .undef
    touch := touchOf fk o.op σ
    tobj := tobjOf fk o.op σ
    dst := o.dst
    v := bif grewOf N fk σ1 then v.onRefs (rename1 ((List.range N).set slot N)) else v
    w := wOf (grewOf N fk σ1) slot fk o.op σ v
    o := match wOf (grewOf N fk σ1) slot fk o.op σ v with | some i => σ2.st.getD i .dead | none => .dead
    scr := scrOf (grewOf N fk σ1) slot fk v
    fix := !fk.isNew }
def splitV {β : Type} (sp : Bool) (v : AV) (K : AV → Option β) : Option β :=
  match sp, v with
  | true, .k (.bool b) => bif b then K (.k (.bool true)) else K (.k (.bool false))
  | _, v => K v
def fkBad (fk : Fk) (σ : St) (o : Oper) : Bool := match fk with
  | .no => true
  | .calls => true
  | .load => o.dst.isNone
  | .call => match o.op with
    | .call { callee := _, args, argTypes := _ } => !(AV.idsL (args.toList.map σ.eval)).isEmpty
    | _ => true
  | .new => match o.op with
    | .call { callee := _, args, argTypes := _ } => !(AV.idsL (args.toList.map σ.eval)).isEmpty
    | _ => false
  | _ => false
def litRows (T : Tab) (t len : Nat) (parts : List (Nat × AV)) : Option (Nat × List (List AV)) :=
  match T t with
  | some ⟨.sl e, _, _⟩ =>
    match T e with
    | some te =>
      match te.cells with
      | [] => none
      | _ =>
        bif Nat.ble (len * te.cells.length) (2 ^ 24) then
          match fillRows (te.cells.map CT.zeroR) te.cells (List.replicate len (te.cells.map CT.zeroR)) parts with
          | some rows => some (e, rows)
          | none => none
        else none
    | none => none
  | _ => none
def litOf (T : Tab) (σ : St) : Op → Option AV
  | .buildSlice t len parts => (match litRows T t len (parts.toList.map fun p => (p.1, σ.eval p.2)) with
    | some (e, rows) => some (.sl e .full rows)
    | none => none)
  | _ => none
def valD (ann : FAnn) (o : Oper) : Bool :=
  match o.op, o.dst with
  | .buildSlice _ _ _, some d => ann.vals.elem d
  | _, _ => false
def headV (ann : FAnn) : List Oper → Bool
  | o :: _ => valD ann o
  | [] => false
noncomputable section
def eqC {α : Type} (a b : α) : Bool := @decide (a = b) (Classical.propDecidable _)
theorem eqC_iff {α : Type} {a b : α} : eqC a b = true ↔ a = b := by unfold eqC; simp
theorem eqC_self {α : Type} (a : α) : eqC a a = true := eqC_iff.2 rfl
def acallS (C : Ctx) (σ : St) (o : Op) : Ab AV :=
  match calleeOf σ o with
  | none => none
  | some (f, args) =>
    let ks := reach σ.st 8 (dedup (AV.idsL args) [])
    bif !(ks.all fun i => Nat.blt i σ.st.length) then none else
    match C.call f (AV.onRefsL (rename1 ks) args) (ks.map fun i => (σ.st.getD i .dead).onRefs (rename1 ks)) with
    | none => none
    | some (c, r, st') =>
      bif (C.sig f).2.2.isEmpty then
        some (c && eqC ((OS.expandL (C.sig f).2.1 0 st').map (AObj.onRefs (back1 ks σ.st.length))) (ks.map fun i => σ.st.getD i .dead), ((C.sig f).1.expand r).onRefs (back1 ks σ.st.length))
      else none
def calmOp (C : Ctx) (σ : St) (o : Oper) : Option (Fk × Ab AV) :=
  bif valD C.ann o then some (.pure, Ab.ok (litOf C.T σ o.op)) else
  match fkind C.sig o.op with
  | .calls => some (.calls, acallS C σ o.op)
  | _ => none
def evSeg (C : Ctx) (ops : Array Oper) (rid N : Nat) : List Oper → Nat → Nat → St → List Fp → (St → List Fp → Option Res) → Option Res
  | [], _, _, σ, fps, K => K σ fps
  | o :: rest, i, slot, σ, fps, K =>
    bif !(look2 C.ann.pre rid i).isEmpty then none else
    match guardOf ops.toList σ o with
    | none => none
    | some g =>
      bif g then
        match calmOp C σ o with
        | some (fk, r) => (match r with
          | none => none
          | some (c, v) => under c <| splitV (has2 C.ann.split rid i) v fun v =>
            forceSt (σ.put o.dst v) fun σ2 => evSeg C ops rid N rest (i + 1) (slot + 1) σ2 (fps ++ [fpOf ops N slot fk o σ σ σ2 v]) K)
        | none =>
        let fk := fkind C.sig o.op
        bif fkBad fk σ o then none else
        let σ0 := bif fk.isNew then σ.keep (List.range N) else σ
        match exec1 C σ0 o with
        | none => none
        | some (c, σ1, v) => under c <| splitV (has2 C.ann.split rid i) v fun v =>
          let σ2 := bif fk.isNew && Nat.blt N σ1.st.length then (σ1.put o.dst v).keep ((List.range N).set slot N) else σ1.put o.dst v
          forceSt σ2 fun σ2 => evSeg C ops rid N rest (i + 1) (slot + 1) σ2 (fps ++ [fpOf ops N slot fk o σ0 σ1 σ2 v]) K
      else evSeg C ops rid N rest (i + 1) (slot + 1) (σ.put o.dst (.k undef)) (fps ++ [fpOf ops N slot .pure o σ σ (σ.put o.dst (.k undef)) (.k undef)]) K
def Fp.leaves (N : Nat) (p q : Fp) : Bool :=
  (match p.w with
    | some a => !q.touch.elem a && (match q.w with | some b => !Nat.beq a b | none => true)
    | none => true) &&
  (p.fix || (AV.stabL p.scr N q.opv && (q.tobj.all (AObj.stab p.scr N) && ((q.dst.isNone || q.v.stab p.scr N) && (q.w.isNone || q.o.stab p.scr N)))))
def fpairs (N : Nat) (fps : List Fp) (b : Nat) (pairs : List (Nat × Nat)) : Bool :=
  pairs.all fun (i, j) => bif Nat.ble b i && Nat.blt i (b + fps.length) then
    (match fps[i - b]?, fps[j - b]? with
      | some p, some q => p.leaves N q && q.leaves N p
      | _, _ => false)
    else true
def bothE (a b : Option Res) : Option Res := @ite _ (a = b) (Classical.propDecidable _) a none
theorem bothE_some {a b : Option Res} {r : Res} (h : bothE a b = some r) : a = some r ∧ b = some r := by
  unfold bothE at h
  split at h
  · rename_i e; exact ⟨h, e ▸ h⟩
  · cases h
def anySt : List Oper → Bool
  | x :: y :: _ => (match x.op, y.op with
    | .store _ _ _, .store _ _ _ => true
    | _, _ => false)
  | _ => false
def twoSt (T : Tab) (σ : St) : List Oper → Bool
  | x :: y :: _ => x.guard.isNone && (y.guard.isNone && (x.dst.isNone && (y.dst.isNone && (match x.op, y.op with
    | .store t a _, .store u c _ => (match σ.eval a, σ.eval c, T t, T u with
      | .ap id i o, .ap id' j p, some ti, some ui => Nat.beq id id' && (Nat.blt 0 ti.cells.length && (Nat.blt 0 ui.cells.length && (!Nat.beq i j || (Nat.ble (o + ti.cells.length) p || Nat.ble (p + ui.cells.length) o))))
      | _, _, _, _ => false)
    | _, _ => false))))
  | _ => false
def evDyn (C : Ctx) (ops : Array Oper) (rid : Nat) (pairs : List (Nat × Nat)) : List Nat → List Oper → Nat → St → (St → Option Res) → Option Res
  | [], [], _, σ, K => K σ
  | [], _ :: _, _, _, _ => none
  | n :: segs, os, i, σ, K =>
    bif Nat.beq n 1 && !headV C.ann os then evOps C ops.toList rid (os.take 1) i σ fun σ' => evDyn C ops rid pairs segs (os.drop 1) (i + 1) σ' K
    else bif Nat.beq n 2 && ((look2 C.ann.pre rid i).isEmpty && ((look2 C.ann.pre rid (i + 1)).isEmpty && twoSt C.T σ os)) then evOps C ops.toList rid (os.take 2) i σ fun σ' => evDyn C ops rid pairs segs (os.drop 2) (i + 2) σ' K
    else bif Nat.beq n 2 && anySt os then
      bothE (evOps C ops.toList rid (os.take 2) i σ fun σ' => evDyn C ops rid pairs segs (os.drop 2) (i + 2) σ' K)
        (evOps C ops.toList rid ((os.drop 1).take 1) (i + 1) σ fun σ' => evOps C ops.toList rid (os.take 1) i σ' fun σ' => evDyn C ops rid pairs segs (os.drop 2) (i + 2) σ' K)
    else
      let N := σ.st.length + n
      evSeg C ops rid N (os.take n) i σ.st.length (σ.keep (List.range N)) [] fun σ' fps =>
        bif fpairs N fps i pairs then forceSt (σ'.canon C.m) fun σ' => evDyn C ops rid pairs segs (os.drop n) (i + n) σ' K else none
def lookD (l : List (Nat × List Nat × List (Nat × Nat))) (r : Nat) : Option (List Nat × List (Nat × Nat)) :=
  match l with
  | [] => none
  | (a, d) :: rest => bif Nat.beq a r then some d else lookD rest r
def setTmps (tmps : List AV) : List Nat → List AV → List AV
  | p :: ps, v :: vs => setTmps (tmps.set p v) ps vs
  | _, _ => tmps
def backR (σ : St) (ks : List Nat) (id : Nat) (fin : Bool) (pend : Code) (σ' : St) : St :=
  let σf := ({ tmps := [], st := σ'.st, moved := σ'.moved } : St).canon ks.length
  let mv := pickIds ks σf.moved
  let s := scrubL1 mv
  let h := back1 ks σ.st.length
  let st := setMany (σ.st.map (AObj.onRefs s)) ks (σf.st.map (AObj.onRefs h)) ++ (σf.st.drop ks.length).map (AObj.onRefs h)
  { tmps := AV.onRefsL s σ.tmps
    st := match st.getD id .dead with | .loop _ _ fn tm ps a b => st.set id (.loop fin pend fn tm ps a b) | _ => st
    moved := mv ++ σ.moved }
def ayield (C : Ctx) (σ : St) (id : Nat) (args : List AV) (K : St → AV → Option Res) : Option Res :=
  match σ.st.getD id .dead with
  | .loop false _ fn tmps ps asg body =>
    bif Nat.beq args.length ps.length then
      let tm := setTmps tmps ps args
      let ks := reach σ.st 8 (dedup (AV.idsL tm) [])
      bif (ks.all fun i => Nat.blt i σ.st.length) && !ks.elem id then
        C.round fn ks.length asg { tmps := AV.onRefsL (rename1 ks) tm, st := ks.map fun i => (σ.st.getD i .dead).onRefs (rename1 ks) } fun
        | .norm σ1 => C.round fn ks.length body σ1 fun o =>
          match o with
          | .norm σ' => forceSt (backR σ ks id false .skip σ') fun σ2 => K σ2 (.k (.bool true))
          | .exit j σ' => forceSt (backR σ ks id true (.exit j) σ') fun σ2 => K σ2 (.k (.bool false))
          | .ret σ' => forceSt (backR σ ks id true .ret σ') fun σ2 => K σ2 (.k (.bool false))
        | _ => none
      else none
    else none
  | _ => none
def yieldOf (ops : List Oper) (σ : St) (o : Oper) : Option (Nat × List AV) :=
  match o.op with
  | .call { callee := .value f, args, argTypes := _ } =>
    match σ.eval f with
    | .yl id => match guardOf ops σ o with
      | some true => some (id, args.toList.map σ.eval)
      | _ => none
    | _ => none
  | _ => none
def lookOf (C : Ctx) (ops : List Oper) (rid i : Nat) (σ : St) (o : Oper) : Option (List (List AV × List AV) × List AV × (Option (List AV) → AV)) :=
  match o.op with
  | .lookup t m k ok =>
    bif !has2 C.ann.split rid i then none else
    match guardOf ops σ o, σ.eval m, C.T t with
    | some true, .mp id, some ⟨.map kt et, _, _⟩ =>
      match σ.st.getD id .dead, C.T et with
      | .map _ t' es, some te =>
        bif Nat.beq t t' && keyOk C.T kt (σ.eval k) then
          some (es, (σ.eval k).cells, fun r => match r with
            | some row => bif ok then .tup [rowV te row, .k (.bool true)] else rowV te row
            | none => bif ok then .tup [rowV te (te.cells.map CT.zero), .k (.bool false)] else rowV te (te.cells.map CT.zero))
        else none
      | _, _ => none
    | _, _, _ => none
  | _ => none
def mchain (k : List AV) (K : Option (List AV) → Option Res) : List (List AV × List AV) → Option Res
  | [] => K none
  | e :: es => bif keyEq k e.1 then K (some e.2) else mchain k K es
def evOpsY (C : Ctx) (ops : List Oper) (rid : Nat) : List Oper → Nat → St → (St → Option Res) → Option Res
  | [], _, σ, K => K σ
  | o :: rest, i, σ, K =>
    match yieldOf ops (σ.weaks C.T (look2 C.ann.pre rid i)) o with
    | some (id, args) => ayield C (σ.weaks C.T (look2 C.ann.pre rid i)) id args fun σ' v => splitAt (has2 C.ann.split rid i) σ' o.dst v fun σ'' => evOpsY C ops rid rest (i + 1) σ'' K
    | none =>
      match lookOf C ops rid i (σ.weaks C.T (look2 C.ann.pre rid i)) o with
      | some (es, k, mk) => mchain k (fun r => evOpsY C ops rid rest (i + 1) ((σ.weaks C.T (look2 C.ann.pre rid i)).put o.dst (mk r)) K) es
      | none => evOps C ops rid [o] i σ fun σ' => evOpsY C ops rid rest (i + 1) σ' K
def loopGo (weak : St → St) (body : St → (Out → Option Res) → Option Res) (K : Out → Option Res) : Nat → St → Option Res
  | 0, _ => none
  | n + 1, σ => body σ fun
    | .norm σ' => loopGo weak body K n (weak σ')
    | o => K o
def evC (C : Ctx) (blk : Nat) : Code → St → (Out → Option Res) → Option Res
  | .skip, σ, K => K (.norm σ)
  | .ret, σ, K => K (.ret σ)
  | .exit id, σ, K => K (.exit id σ)
  | .label _, σ, K => K (.norm σ)
  | .seq a b, σ, K => evC C blk a σ fun
    | .norm σ' => evC C blk b σ' K
    | o => K o
  | .cond c a b, σ, K => match σ.eval c with
    | .k (.bool t) => bif t then evC C blk a σ K else evC C blk b σ K
    | _ => none
  | .block id body, σ, K => evC C id body σ fun
    | .exit j σ' => bif Nat.beq j id then K (.norm σ') else K (.exit j σ')
    | o => K o
  | .loop body, σ, K =>
    let weak := fun σ : St => (σ.weaks C.T (look1 C.ann.loops blk)).canon C.m
    loopGo weak (fun σ K => evC C blk body σ K) K C.fuel (weak σ)
  | .region id ops dr, σ, K => forceSt σ fun σ => match (bif dr then lookD C.ann.dyn id else none) with
    | some (segs, pairs) => evDyn C ops id pairs segs ops.toList 0 σ fun σ' => K (.norm σ')
    | none => bif dr then evOps C ops.toList id ops.toList 0 σ fun σ' => K (.norm σ') else evOpsY C ops.toList id ops.toList 0 σ fun σ' => K (.norm σ')
  | .rangeFunc g ps a body, σ, K =>
    forceSt (σ.weaks C.T (look1 C.ann.loops blk)) fun σ0 =>
    match σ0.eval g with
    | .fn (.func n) first captured =>
      bif !C.ent n then none else
      acall C (σ0.new (.loop false .skip C.fid σ0.tmps ps.toList a body)) n (first ++ [.yl σ0.st.length] ++ captured) fun σ2 _ =>
        bif σ2.moved.elem σ0.st.length then none else
        match σ2.st.getD σ0.st.length .dead with
        | .loop fin pend _ _ _ _ _ =>
          forceSt (σ2.dropId σ0.st.length) fun σ3 => bif fin then (match pend with
            | .exit j => K (.exit j σ3)
            | .ret => K (.ret σ3)
            | _ => none) else K (.norm σ3)
        | _ => none
    | _ => none
  | _, _, _ => none
def deferOf (ops : List Oper) : Option (List Oper × Operand) :=
  match ops.reverse with
  | [] => none
  | o :: rest =>
    match o.dst, o.guard, o.op with
    | none, none, .defer { callee := .value f, args, argTypes := _ } => bif args.toList.isEmpty then some (rest.reverse, f) else none
    | _, _, _ => none
def evB (C : Ctx) : Code → St → Option (FuncId × Nat) → (Out → Option (FuncId × Nat) → Option Res) → Option Res
  | .seq a b, σ, D, K => evB C a σ D fun o D' => match o with
    | .norm σ' => evB C b σ' D' K
    | o => K o D'
  | .region id ops dr, σ, D, K =>
    bif C.ann.dfr.elem id then
      (match dr, D, deferOf ops.toList with
      | false, none, some (init, f) => forceSt σ fun σ => evOps C ops.toList id init 0 σ fun σ' =>
        match σ'.eval f with
        | .fn (.func n) [] cap => K (.norm σ') (some (n, cap.length))
        | _ => none
      | _, _, _ => none)
    else evC C 0 (.region id ops dr) σ fun o => K o D
  | c, σ, D, K => evC C 0 c σ fun o => K o D
def resultAV (T : Tab) (σ : St) : ResultVar → Option AV
  | .tmp t => some (σ.tmps.getD t .undef)
  | .cell a t => aload T σ t (σ.tmps.getD a .undef)
def resultsAV (T : Tab) (σ : St) : List ResultVar → Option (List AV)
  | [] => some []
  | r :: rs => match resultAV T σ r, resultsAV T σ rs with
    | some v, some vs => some (v :: vs)
    | _, _ => none
def finish (T : Tab) (ann : FAnn) (m : Nat) (rs : List ResultVar) (σ : St) : Option Res :=
  match resultsAV T σ rs with
  | none => none
  | some vs =>
    let r : AV := match vs with | [v] => v | vs => .tup vs
    let σ := (({ tmps := [r], st := σ.st, moved := σ.moved } : St).weaks T ann.post).canon m
    match σ.tmps with
    | [r] => bif ann.res.ok (ann.res.co r) && (OS.okL ann.objs (OS.coL ann.objs σ.st) && (Nat.ble m σ.st.length && σ.moved.all fun i => Nat.ble m i || ann.mvs.elem i)) then some (ann.res.co r, OS.coL ann.objs σ.st) else none
    | _ => none
def callOf (S : FSys) (E : FuncId → List AV → List AObj → Option Res) (f : FuncId) (args : List AV) (st : List AObj) : Ab Res :=
  match S.prim f (coArgs S.T (S.ann f).par args) st with
  | some x => x
  | none => match E f (coArgs S.T (S.ann f).par args) st with
    | some r => some (true, r)
    | none => none
def FSys.okD (S : FSys) (D : Option (FuncId × Nat)) : Bool := match D with | none => true | some (g, n) => S.harm g n
def FSys.ent (S : FSys) (f : FuncId) : Bool := match S.body f with | some fn => fn.body.isSome | none => false
mutual
def ev (S : FSys) : Nat → FuncId → List AV → List AObj → Option Res
  | 0, _, _, _ => none
  | k + 1, f, args, st =>
    match S.prim f args st with
    | some (some (c, r)) => under c (some r)
    | some none => none
    | none =>
      match S.body f with
      | none => none
      | some fn =>
        match fn.body with
        | none => none
        | some c =>
          let C : Ctx := { T := S.T, ann := S.ann f, m := st.length, fuel := k, call := callOf S (ev S k), sig := fun g => ((S.ann g).res, (S.ann g).objs, (S.ann g).mvs), fid := f, ent := S.ent, round := evR S k }
          bif (S.ann f).dfr.isEmpty then
            evC C 0 c { tmps := args ++ List.replicate (fn.ntmps - args.length) (.k undef), st := st } fun
              | .norm σ => finish S.T (S.ann f) st.length fn.results.toList σ
              | .ret σ => finish S.T (S.ann f) st.length fn.results.toList σ
              | _ => none
          else
            evB C c { tmps := args ++ List.replicate (fn.ntmps - args.length) (.k undef), st := st } none fun o D =>
              bif S.okD D then
                (match o with
                | .norm σ => finish S.T (S.ann f) st.length fn.results.toList σ
                | .ret σ => finish S.T (S.ann f) st.length fn.results.toList σ
                | _ => none)
              else none
def evR (S : FSys) : Nat → FuncId → Nat → Code → St → (Out → Option Res) → Option Res
  | 0, _, _, _, _, _ => none
  | k + 1, f, m, c, σ, K =>
    bif S.cok f c then
      evC { T := S.T, ann := S.ann f, m := m, fuel := k, call := callOf S (ev S k), sig := fun g => ((S.ann g).res, (S.ann g).objs, (S.ann g).mvs), fid := f, ent := S.ent, round := evR S k } 0 c σ K
    else none
end
end
end Go.Fw
