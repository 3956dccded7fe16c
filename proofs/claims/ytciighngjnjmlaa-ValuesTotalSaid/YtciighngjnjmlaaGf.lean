/- A part of the proofs over these laws: what its functions come to. No conditions. -/
import Derived.Test.YtciighngjnjmlaaGe
set_option linter.all false
namespace Go.Proofs.Ytciighngjnjmlaa.W
open Go.Fw
set_option maxRecDepth 100000
noncomputable section
noncomputable def tm63 : List AV := [.undef, .undef, .ptr 1 0, .undef, .undef, .fn (.func 107) [] [.ptr 2 0], .undef, .undef, .undef, .undef, .undef, .undef, .undef, .undef, .undef]
noncomputable def lo63 (fin : Bool) (pd : Code) : AObj := lob 63 Try.f63 fin pd tm63 [6]
structure Rt where
  a : Int
  b : Int
  s : ByteArray
  rows : List (List AV)
noncomputable def Rt.cells (r : Rt) : List AV := VV r.a r.b r.s r.rows
noncomputable def FvS (n : Nat) : List AV → List AObj → Ab Res := fun args st => match args, st with
  | [v, .yl 0], [o0, .box 4 [x], .box 28 [c1, c2, c3, c4]] => some (isV n v && ((eqC o0 (lo63 false .skip) || eqC o0 (lo63 false .ret)) && (eqC x (bl false) && eqC [c1, c2, c3, c4] (Rt.cells ⟨c1.toI, c2.toI, c3.toS, c4.rows⟩))),
    (bl (sortV n v), [lo63 (!(sortV n v)) .ret, .box 4 [bl false], .box 28 (Rt.cells ⟨c1.toI, c2.toI, c3.toS, c4.rows⟩)]))
  | _, _ => none
noncomputable def LvS (N n : Nat) : FSys := (K4 N).tell 108 (FvS n)
noncomputable def stS (o : AObj) (rt : Rt) : List AObj := [o, .box 4 [bl false], .box 28 rt.cells]
noncomputable def σvS (o : AObj) (rt : Rt) (rows : List (List AV)) (i : Int) : St := ⟨tm 23 [(1, .yl 0), (12, .sl 28 .any rows), (13, i64 (rows.length : Nat)), (14, i64 i)], stS o rt, []⟩
section
variable (a b : Int) (s : ByteArray) (k n N : Nat) (rows : List (List AV)) (R : St → Option Res) (i : Int) (rt : Rt) (pd : Code)
noncomputable def okP (o : AObj) (rt : Rt) : Bool := (eqC o (lo63 false .skip) || eqC o (lo63 false .ret)) && (eqC (bl false) (bl false) && eqC rt.cells (Rt.cells rt))
theorem rvS : roundAt (LvS N n) 108 Try.f108 3 k [1,1,0,1,0] [] R (σvS (lo63 false pd) rt rows i) = bif decide (i < (rows.length : Nat)) then (bif decide (0 ≤ i) && decide (i < (rows.length : Nat)) then (bif isV n (.agg (nx rows i)) && okP (lo63 false pd) rt then
  (bif !(sortV n (.agg (nx rows i))) then some (bl false, stS (lo63 (!(sortV n (.agg (nx rows i)))) .ret) rt) else R (σvS (lo63 (!(sortV n (.agg (nx rows i)))) .ret) rt rows (IntKind.i64.wrap (i + 1)))) else none) else none) else some (bl true, stS (lo63 false pd) rt) := by kernel_rfl
noncomputable def mvS : Option Res := loopAt (LvS N n) 108 Try.f108 3 k [1,1,0,1,0] [] k (σvS (lo63 false .skip) rt rows 0)
noncomputable def badS : Option Res := some (bl false, stS (lo63 true .ret) rt)
theorem bvS : evTop (LvS N n) (k + 1) 108 [.agg (VV a b s rows), .yl 0] (stS (lo63 false pd) rt) = bif a == 1 then (bif a == 1 then mvS (k + 1) n N rows rt else badS rt) else (bif a == 2 then (bif a == 2 then mvS (k + 1) n N rows rt else badS rt) else (bif a == 3 then (bif a == 3 then mvS (k + 1) n N rows rt else badS rt) else (bif a == 4 then (bif a == 4 then mvS (k + 1) n N rows rt else badS rt) else (bif a == 7 then mvS (k + 1) n N rows rt else badS rt)))) := by kernel_rfl
end
end
end Go.Proofs.Ytciighngjnjmlaa.W
namespace Go.Proofs.Ytciighngjnjmlaa.W
open Go.Fw
set_option maxRecDepth 100000
noncomputable section
theorem lo63_loop : ∃ a b, ∀ fin pd, lo63 fin pd = .loop fin pd 63 tm63 [6] a b := ⟨_, _, fun _ _ => rfl⟩
theorem FvS_inv {n : Nat} {args : List AV} {st : List AObj} {r : AV} {st' : List AObj} (h : FvS n args st = some (true, (r, st'))) :
    ∃ v pd rt, args = [v, .yl 0] ∧ st = stS (lo63 false pd) rt ∧ isV n v = true ∧ r = bl (sortV n v) ∧ st' = stS (lo63 (!(sortV n v)) .ret) rt := by
  unfold FvS at h
  split at h
  · rename_i v o0 x c1 c2 c3 c4
    simp only [Option.some.injEq, Prod.mk.injEq, Bool.and_eq_true, Bool.or_eq_true, eqC_iff] at h
    obtain ⟨⟨hv, ho, rfl, hc⟩, rfl, rfl⟩ := h
    rw [hc]
    rcases ho with rfl | rfl
    · exact ⟨v, .skip, _, rfl, rfl, hv, rfl, rfl⟩
    · exact ⟨v, .ret, _, rfl, rfl, hv, rfl, rfl⟩
  · cases h
theorem okP_self (pd : Code) (rt : Rt) (h : pd = .skip ∨ pd = .ret) : okP (lo63 false pd) rt = true := by
  unfold okP
  rw [eqC_self (bl false), eqC_self rt.cells]
  rcases h with rfl | rfl
  · rw [eqC_self]; rfl
  · rw [eqC_self (lo63 false .ret), Bool.or_true]; rfl
theorem foldS_visit (p : List AV → Bool) (rt : Rt) : ∀ (l : List (List AV)) (c : Code), (c = .skip ∨ c = .ret) →
    (l.all p = true → ∃ c', (c' = .skip ∨ c' = .ret) ∧ foldS (fun _ x => !(p x)) (fun _ x => some (bl false, stS (lo63 (!(p x)) .ret) rt)) (fun _ _ => .ret) (fun c => some (bl true, stS (lo63 false c) rt)) l c = some (bl true, stS (lo63 false c') rt)) ∧
    (l.all p = false → foldS (fun _ x => !(p x)) (fun _ x => some (bl false, stS (lo63 (!(p x)) .ret) rt)) (fun _ _ => .ret) (fun c => some (bl true, stS (lo63 false c) rt)) l c = some (bl false, stS (lo63 true .ret) rt))
  | [], c, hc => ⟨fun _ => ⟨c, hc, rfl⟩, fun h => by cases h⟩
  | x :: xs, c, hc => by
    simp only [List.all_cons, foldS]
    cases hp : p x with
    | true => simpa using foldS_visit p rt xs .ret (.inr rfl)
    | false => exact ⟨fun h => by simp at h, fun _ => rfl⟩
theorem loop_listI {S : FSys} {f : FuncId} {fn : Func} {m k : Nat} {p ms : List Nat} {rows : List (List AV)} {A : Type} (I : A → Prop)
    (σ : A → Int → St) (stop : A → List AV → Bool) (out : A → List AV → Option Res) (upd : A → List AV → A) (fin : A → Option Res) (hI : ∀ c x, I c → I (upd c x))
    (h : ∀ (R : St → Option Res) (c : A) (i : Nat) (h1 : i < rows.length), I c → roundAt S f fn m k p ms R (σ c i) = bif stop c rows[i] then out c rows[i] else R (σ (upd c rows[i]) ((i + 1 : Nat) : Int)))
    (he : ∀ (R : St → Option Res) (c : A), I c → roundAt S f fn m k p ms R (σ c (rows.length : Nat)) = fin c) :
    ∀ (n i : Nat) (c : A), I c → i ≤ rows.length → rows.length - i < n → loopAt S f fn m k p ms n (σ c i) = foldS stop out upd fin (rows.drop i) c
  | 0, i, c, _, _, h => by omega
  | n + 1, i, c, hc, hi, hn => by
    rw [loopAt_succ]
    rcases Nat.lt_or_eq_of_le hi with h1 | h1
    · rw [h _ c i h1 hc, List.drop_eq_getElem_cons h1, loop_listI I σ stop out upd fin hI h he n (i + 1) _ (hI _ _ hc) h1 (by omega)]
      rfl
    · subst h1
      rw [he _ _ hc, List.drop_length]
      rfl
theorem loopS (N n : Nat) (rt : Rt) (rows : List (List AV)) (hl : rows.length * 56 ≤ 140737488351232) (hr : ∀ x ∈ rows, isVr n x = true) :
    (rows.all (sortR n) = true → ∃ c', mvS (rows.length + 1) n N rows rt = some (bl true, stS (lo63 false c') rt)) ∧ (rows.all (sortR n) = false → mvS (rows.length + 1) n N rows rt = badS rt) := by
  have L := loop_listI (S := LvS N n) (f := 108) (fn := Try.f108) (m := 3) (k := rows.length + 1) (p := [1,1,0,1,0]) (ms := []) (rows := rows) (A := Code) (fun c => c = .skip ∨ c = .ret)
    (fun c i => σvS (lo63 false c) rt rows i) (fun _ x => !(sortR n x)) (fun _ x => some (bl false, stS (lo63 (!(sortR n x)) .ret) rt)) (fun _ _ => .ret) (fun c => some (bl true, stS (lo63 false c) rt)) (fun _ _ _ => .inr rfl)
    (fun R c i hi hc => (rvS _ n N rows R i rt c).trans (by
      have d1 : decide ((i : Int) < (rows.length : Nat)) = true := by simpa using hi
      have d2 : decide (0 ≤ (i : Int)) = true := by simp
      have hw : IntKind.i64.wrap ((i : Int) + 1) = ((i + 1 : Nat) : Int) := by rw [wrap64] <;> omega
      rw [d1, d2, hw, nx_at hr hi, isV_agg, hr _ (List.getElem_mem hi), okP_self c rt hc]
      change (bif !(sortR n rows[i]) then some (bl false, stS (lo63 (!(sortR n rows[i])) .ret) rt) else R (σvS (lo63 (!(sortR n rows[i])) .ret) rt rows _)) = _
      cases hs : sortR n rows[i] <;> rfl))
    (fun R c hc => (rvS _ n N rows R _ rt c).trans (stopped _ _ _)) (rows.length + 1) 0 .skip (.inl rfl) (Nat.zero_le _) (by omega)
  obtain ⟨f1, f2⟩ := foldS_visit (sortR n) rt rows .skip (.inl rfl)
  exact ⟨fun h => by obtain ⟨c', _, e⟩ := f1 h; exact ⟨c', L.trans e⟩, fun h => L.trans (f2 h)⟩
theorem sort_eq (n : Nat) (a b : Int) (s : ByteArray) (rows : List (List AV)) : sortV (n + 1) (.agg (VV a b s rows)) = (okK a && rows.all (sortR n)) := rfl
theorem bad_or {a : Int} {x y : Option Res} : (bif a == 1 then (bif a == 1 then x else y) else (bif a == 2 then (bif a == 2 then x else y) else (bif a == 3 then (bif a == 3 then x else y) else (bif a == 4 then (bif a == 4 then x else y) else (bif a == 7 then x else y))))) = bif okK a then x else y := by
  unfold okK
  cases a == 1 <;> cases a == 2 <;> cases a == 3 <;> cases a == 4 <;> cases a == 7 <;> rfl
theorem topS (N n : Nat) (v : AV) (pd : Code) (rt : Rt) (h : isV (n + 1) v = true) :
    (sortV (n + 1) v = true → ∃ k c', evTop (LvS N n) k 108 [v, .yl 0] (stS (lo63 false pd) rt) = some (bl true, stS (lo63 false c') rt)) ∧
    (sortV (n + 1) v = false → ∃ k, evTop (LvS N n) k 108 [v, .yl 0] (stS (lo63 false pd) rt) = some (bl false, stS (lo63 true .ret) rt)) := by
  obtain ⟨a, b, s, rows, rfl, hl, hr⟩ := isV_some h
  obtain ⟨f1, f2⟩ := loopS N n rt rows hl hr
  rw [sort_eq]
  have hb := (bvS a b s rows.length n N rows rt pd).trans bad_or
  refine ⟨fun hs => ?_, fun hs => ⟨rows.length + 1, hb.trans ?_⟩⟩
  · rw [Bool.and_eq_true] at hs
    obtain ⟨c', e⟩ := f1 hs.2
    exact ⟨rows.length + 1, c', hb.trans (by rw [hs.1, cond_true]; exact e)⟩
  · cases hk : okK a with
    | false => rfl
    | true =>
      rw [hk, Bool.true_and] at hs
      rw [cond_true, f2 hs]; rfl
theorem KvS (N : Nat) (n : Nat) : SysOk Try.prog (LvS N n) :=
  (K4Ok N).tellRec 108 FvS (fun n hn args st r st' hF => by
    obtain ⟨v, pd, rt, rfl, rfl, hv, rfl, rfl⟩ := FvS_inv hF
    obtain ⟨t1, t2⟩ := topS N n v pd rt hv
    cases hs : sortV (n + 1) v with
    | true =>
      obtain ⟨k, c', hk⟩ := t1 hs
      obtain ⟨q1, _, _, _⟩ := evTop_ok hn k 108 _ _ _ _ hk
      obtain ⟨la, lb, hlo⟩ := lo63_loop
      refine ⟨?_, by kernel_rfl, by kernel_rfl, Nat.le_refl _⟩
      have q2 : CF Try.prog (K4 N).T 108 [v, .yl 0] (stS (lo63 false pd) rt) ((K4 N).ann 108).mvs (bl true) (stS (lo63 false c') rt) := q1
      unfold stS at q2 ⊢
      rw [hlo false c'] at q2
      rw [Bool.not_true, hlo false .ret]
      exact q2.pend .ret
    | false =>
      obtain ⟨k, hk⟩ := t2 hs
      obtain ⟨q1, _, _, _⟩ := evTop_ok hn k 108 _ _ _ _ hk
      exact ⟨q1, by kernel_rfl, by kernel_rfl, Nat.le_refl _⟩) (fun args st r h => by
    obtain ⟨r, st'⟩ := r
    obtain ⟨v, _, _, _, _, h1, _⟩ := FvS_inv h
    rw [isV_zero] at h1; cases h1) n
end
end Go.Proofs.Ytciighngjnjmlaa.W
namespace Go.Proofs.Ytciighngjnjmlaa.W
open Go.Fw
set_option maxRecDepth 100000
noncomputable section
noncomputable def tm63b : List AV := [.undef, .undef, .ptr 2 0, .undef, .undef, .fn (.func 107) [] [.ptr 1 0], .undef, .undef, .undef, .undef, .undef, .undef, .undef, .undef, .undef]
noncomputable def lo63b (fin : Bool) (pd : Code) : AObj := lob 63 Try.f63 fin pd tm63b [6]
noncomputable def stB (o : AObj) (rt : Rt) : List AObj := [o, .box 28 rt.cells, .box 4 [bl false]]
noncomputable def FaS (n : Nat) : List AV → List AObj → Ab Res := fun args st => match args, st with
  | [.yl 0, .ptr 1 0], [o0, .box 28 [c1, c2, c3, c4], .box 4 [x]] => some (isV n (.agg (Rt.cells ⟨c1.toI, c2.toI, c3.toS, c4.rows⟩)) && (eqC o0 (lo63b false .skip) && (eqC x (bl false) && eqC [c1, c2, c3, c4] (Rt.cells ⟨c1.toI, c2.toI, c3.toS, c4.rows⟩))),
    (.tup [], [lo63b (!(sortV n (.agg (Rt.cells ⟨c1.toI, c2.toI, c3.toS, c4.rows⟩)))) .ret, .box 28 (Rt.cells ⟨c1.toI, c2.toI, c3.toS, c4.rows⟩), .box 4 [bl false]]))
  | _, _ => none
theorem FaS_inv {n : Nat} {args : List AV} {st : List AObj} {r : Res} (h : FaS n args st = some (true, r)) :
    ∃ rt : Rt, args = [.yl 0, .ptr 1 0] ∧ st = stB (lo63b false .skip) rt ∧ isV n (.agg rt.cells) = true ∧ r = (.tup [], stB (lo63b (!(sortV n (.agg rt.cells))) .ret) rt) := by
  unfold FaS at h
  split at h
  · rename_i o0 c1 c2 c3 c4 x
    simp only [Option.some.injEq, Prod.mk.injEq, Bool.and_eq_true, eqC_iff] at h
    obtain ⟨⟨hv, rfl, rfl, hc⟩, rfl⟩ := h
    rw [hc]
    exact ⟨_, rfl, rfl, hv, rfl⟩
  · cases h
noncomputable def LwS (N n : Nat) : FSys := (LvS N n).tell 107 (FaS n)
section
variable (a b : Int) (s : ByteArray) (k n N : Nat) (rows : List (List AV)) (rt : Rt)
theorem b107 : ev (LvS N n) (k + 2) 107 [.yl 0, .ptr 1 0] (stB (lo63b false .skip) rt) = bif isV n (.agg rt.cells) && okP (lo63 false .skip) rt then some (.tup [], stB (lo63b (!(sortV n (.agg rt.cells))) .ret) rt) else none := by kernel_rfl
noncomputable def okA (o : AObj) (rt : Rt) : Bool := eqC o (lo63b false .skip) && (eqC (bl false) (bl false) && eqC rt.cells (Rt.cells rt))
theorem b63 : ev (LwS N n) (k + 3) 63 [.agg (VV a b s rows)] [] = bif isV n (.agg (VV a b s rows)) && okA (lo63b false .skip) ⟨a, b, s, rows⟩ then (bif !(sortV n (.agg (VV a b s rows))) then some (bl false, []) else some (bl true, [])) else none := by kernel_rfl
end
theorem told107 (N n : Nat) (args : List AV) (st : List AObj) (r : Res) (h : FaS n args st = some (true, r)) : ∃ k, ev (LvS N n) k 107 args st = some r := by
  obtain ⟨rt, rfl, rfl, hv, rfl⟩ := FaS_inv h
  exact ⟨0 + 2, (b107 0 n N rt).trans (by rw [hv, okP_self .skip rt (.inl rfl)]; rfl)⟩
theorem KwS (N n : Nat) : SysOk Try.prog (LwS N n) := (KvS N n).tell 107 _ (told107 N n)
theorem told63 (N n : Nat) (args : List AV) (st : List AObj) (r : Res) (h : lvB sortV n args st = some (true, r)) : ∃ k, ev (LwS N n) k 63 args st = some r := by
  obtain ⟨v, rfl, rfl, hv, rfl⟩ := FVb_inv h
  cases n with
  | zero => rw [isV_zero] at hv; cases hv
  | succ n =>
    obtain ⟨a, b, s, rows, rfl, hl, hr⟩ := isV_some hv
    refine ⟨0 + 3, (b63 a b s 0 (n + 1) N rows).trans ?_⟩
    have e : okA (lo63b false .skip) ⟨a, b, s, rows⟩ = true := by unfold okA; rw [eqC_self, eqC_self, eqC_self]; rfl
    rw [hv, e]
    cases sortV (n + 1) (.agg (VV a b s rows)) <;> rfl
theorem K63 (N n : Nat) : SysOk Try.prog ((LwS N n).tell 63 (lvB sortV n)) := (KwS N n).tell 63 _ (told63 N n)
end
end Go.Proofs.Ytciighngjnjmlaa.W
namespace Go.Proofs.Ytciighngjnjmlaa.W
open Go.Fw
set_option maxRecDepth 100000
noncomputable section
noncomputable def visR (step : Int → List AV → Int) : Nat → Int → List AV → Int
  | 0, c, _ => c
  | n + 1, c, r => (kids r).foldl (fun c x => visR step n c x) (step c r)
noncomputable def step18 (c : Int) (r : List AV) : Int := w64 (c + 1)
noncomputable def step22 (c : Int) (r : List AV) : Int :=
  bif kd r == 4 then (bif decide ((((kids r).length : Nat) : Int) > 0) then w64 (c + w64 (1 + ((kids r).length : Nat))) else c)
  else bif kd r == 5 || (kd r == 6 || kd r == 7) then w64 (c + w64 (1 + ((kids r).length : Nat)))
  else bif kd r == 3 then w64 (c + w64 (1 + w64 (Int.tdiv ((tx r).size : Nat) 8))) else c
theorem w64_def (n : Int) : w64 n = (n + 9223372036854775808) % 18446744073709551616 - 9223372036854775808 := by
  simp only [w64, IntKind.wrap, IntKind.signed, IntKind.bits]
  simp
  omega
theorem w64_l (a b : Int) : w64 (w64 a + b) = w64 (a + b) := by simp only [w64_def]; omega
theorem w64_r (a b : Int) : w64 (a + w64 b) = w64 (a + b) := by simp only [w64_def]; omega
theorem w64_w (a : Int) : w64 (w64 a) = w64 a := by simp only [w64_def]; omega
theorem foldl_mem {α β : Type} {f g : α → β → α} : ∀ (l : List β), (∀ x ∈ l, ∀ c, f c x = g c x) → ∀ c, l.foldl f c = l.foldl g c
  | [], _, c => rfl
  | x :: xs, h, c => by
    simp only [List.foldl_cons]
    rw [h x List.mem_cons_self c]
    exact foldl_mem xs (fun y hy => h y (List.mem_cons_of_mem _ hy)) _
theorem foldw (f : List AV → Int) : ∀ (l : List (List AV)) (c d : Int), l.foldl (fun c x => w64 (c + f x)) (w64 (c + d)) = w64 (c + l.foldl (fun c x => w64 (c + f x)) d)
  | [], c, d => rfl
  | x :: xs, c, d => by
    simp only [List.foldl_cons]
    have e : w64 (w64 (c + d) + f x) = w64 (c + w64 (d + f x)) := by rw [w64_l, w64_r, Int.add_assoc]
    rw [e]
    exact foldw f xs c _
theorem fold_w (f : List AV → Int) : ∀ (l : List (List AV)) (c : Int), w64 c = c → w64 (l.foldl (fun c x => w64 (c + f x)) c) = l.foldl (fun c x => w64 (c + f x)) c
  | [], c, h => h
  | x :: xs, c, h => by simp only [List.foldl_cons]; exact fold_w f xs _ (w64_w _)
theorem vis_fold (step : Int → List AV → Int) (base : List AV → Int) (f : Nat → List AV → Int) (hs : ∀ c r, w64 c = c → step c r = w64 (c + base r)) (hf : ∀ n r, f (n + 1) r = (kids r).foldl (fun c x => w64 (c + f n x)) (base r)) :
    ∀ (n : Nat) (r : List AV) (c : Int), isVr n r = true → w64 c = c → visR step n c r = w64 (c + f n r)
  | 0, r, c, h, _ => by rw [isVr_zero] at h; cases h
  | n + 1, r, c, h, hc => by
    obtain ⟨a, b, s, rows, rfl, _, hr⟩ := isVr_succ h
    rw [hf, ← foldw (f n), ← hs c _ hc]
    have hk : kids (VV a b s rows) = rows := rfl
    simp only [visR, hk]
    have key : ∀ (l : List (List AV)) (d : Int), (∀ x ∈ l, isVr n x = true) → w64 d = d → l.foldl (fun c x => visR step n c x) d = l.foldl (fun c x => w64 (c + f n x)) d := by
      intro l
      induction l with
      | nil => intro d _ _; rfl
      | cons x xs ih =>
        intro d hl hd
        simp only [List.foldl_cons]
        rw [vis_fold step base f hs hf n x d (hl x List.mem_cons_self) hd]
        exact ih _ (fun y hy => hl y (List.mem_cons_of_mem _ hy)) (w64_w _)
    exact key rows _ hr (by rw [hs c _ hc, w64_w])
theorem size_w (n : Nat) (r : List AV) : w64 (sizeR n r) = sizeR n r := by
  cases n with
  | zero => rfl
  | succ n => exact fold_w _ _ _ rfl
theorem cell0_w (r : List AV) : w64 (cell0 r) = cell0 r := by
  unfold cell0
  cases kd r == 4 <;> cases decide ((((kids r).length : Nat) : Int) > 0) <;> cases kd r == 5 || (kd r == 6 || kd r == 7) <;> cases kd r == 3 <;> first | exact w64_w _ | rfl
theorem cell_w (n : Nat) (r : List AV) : w64 (cellR n r) = cellR n r := by
  cases n with
  | zero => rfl
  | succ n => exact fold_w _ _ _ (cell0_w r)
theorem vis_sizeV {n : Nat} {v : AV} (h : isV n v = true) : onV (visR step18 n 0) v = sizeV n v := by
  cases v with
  | agg r =>
    change visR step18 n 0 r = sizeR n r
    rw [vis_fold step18 (fun _ => 1) sizeR (fun c r _ => rfl) (fun n r => rfl) n r 0 h rfl, Int.zero_add, size_w]
  | _ => cases h
theorem vis_cellV {n : Nat} {v : AV} (h : isV n v = true) : onV (visR step22 n 0) v = cellV n v := by
  cases v with
  | agg r =>
    change visR step22 n 0 r = cellR n r
    rw [vis_fold step22 cell0 cellR (fun c r hc => by
      unfold step22 cell0
      cases kd r == 4 <;> cases decide ((((kids r).length : Nat) : Int) > 0) <;> cases kd r == 5 || (kd r == 6 || kd r == 7) <;> cases kd r == 3 <;> first | rfl | (simp only [cond_true, cond_false, Int.add_zero]; exact hc.symm)) (fun n r => rfl) n r 0 h rfl, Int.zero_add, cell_w]
  | _ => cases h
end
end Go.Proofs.Ytciighngjnjmlaa.W
