/- The framework, part Zg: answers at given arguments, told one by one. -/
import Derived.Test.YtgcdiccbehiijaaFwZb
set_option linter.all false
set_option linter.unusedSimpArgs false
set_option linter.unusedVariables false
namespace Go.Fw
noncomputable section
def valSame : Value → Value → Bool
  | .bool a, .bool b => a == b
  | .int j a, .int k b => decide (j = k) && decide (a = b)
  | .string a, .string b => decide (a.data.toList = b.data.toList)
  | .nilFunc, .nilFunc => true
  | .nilIface, .nilIface => true
  | .pointer none, .pointer none => true
  | .map none, .map none => true
  | .tuple ⟨[]⟩, .tuple ⟨[]⟩ => true
  | _, _ => false
theorem valSame_eq {a b : Value} (h : valSame a b = true) : a = b := by
  unfold valSame at h
  split at h <;> simp_all
  exact ByteArray.ext h
mutual
def AV.same : AV → AV → Bool
  | .undef, .undef => true
  | .k v, .k w => valSame v w
  | .sl t kd r, .sl u ke s => Nat.beq t u && (decide (kd = ke) && AV.sameR r s)
  | .sr i, .sr j => Nat.beq i j
  | .ss i a b, .ss j c d => Nat.beq i j && (Nat.beq a c && Nat.beq b d)
  | .ptr i a, .ptr j b => Nat.beq i j && Nat.beq a b
  | .ap i a b, .ap j c d => Nat.beq i j && (Nat.beq a c && Nat.beq b d)
  | .ep t r o, .ep u s p => Nat.beq t u && (AV.sameL r s && Nat.beq o p)
  | .agg a, .agg b => AV.sameL a b
  | .tup a, .tup b => AV.sameL a b
  | .fn (.func f) a b, .fn (.func g) c d => Nat.beq f g && (AV.sameL a c && AV.sameL b d)
  | .iface t v, .iface u w => Nat.beq t u && AV.same v w
  | _, _ => false
def AV.sameL : List AV → List AV → Bool
  | [], [] => true
  | a :: l, b :: m => AV.same a b && AV.sameL l m
  | _, _ => false
def AV.sameR : List (List AV) → List (List AV) → Bool
  | [], [] => true
  | a :: l, b :: m => AV.sameL a b && AV.sameR l m
  | _, _ => false
end
mutual
theorem AV.same_eq : ∀ (a b : AV), AV.same a b = true → a = b
  | .undef, b, h => by cases b <;> simp [AV.same] at h <;> rfl
  | .k v, b, h => by
    cases b <;> simp [AV.same] at h
    rw [valSame_eq h]
  | .sl t kd r, b, h => by
    cases b <;> simp [AV.same] at h
    rw [h.1, h.2.1, AV.sameR_eq _ _ h.2.2]
  | .sr i, b, h => by
    cases b <;> simp [AV.same] at h
    rw [h]
  | .ss i x y, b, h => by
    cases b <;> simp [AV.same] at h
    rw [h.1, h.2.1, h.2.2]
  | .ptr i x, b, h => by
    cases b <;> simp [AV.same] at h
    rw [h.1, h.2]
  | .ap i x y, b, h => by
    cases b <;> simp [AV.same] at h
    rw [h.1, h.2.1, h.2.2]
  | .ep t r o, b, h => by
    cases b <;> simp [AV.same] at h
    rw [h.1, AV.sameL_eq _ _ h.2.1, h.2.2]
  | .agg a, b, h => by
    cases b <;> simp [AV.same] at h
    rw [AV.sameL_eq _ _ h]
  | .tup a, b, h => by
    cases b <;> simp [AV.same] at h
    rw [AV.sameL_eq _ _ h]
  | .fn f x y, b, h => by
    cases b with
    | fn g c d =>
      cases f <;> cases g <;> simp [AV.same] at h
      rw [h.1, AV.sameL_eq _ _ h.2.1, AV.sameL_eq _ _ h.2.2]
    | _ => cases f <;> simp [AV.same] at h
  | .iface t v, b, h => by
    cases b <;> simp [AV.same] at h
    rw [h.1, AV.same_eq _ _ h.2]
theorem AV.sameL_eq : ∀ (a b : List AV), AV.sameL a b = true → a = b
  | [], b, h => by cases b <;> simp [AV.sameL] at h <;> rfl
  | x :: l, b, h => by
    cases b <;> simp [AV.sameL] at h
    rw [AV.same_eq _ _ h.1, AV.sameL_eq _ _ h.2]
theorem AV.sameR_eq : ∀ (a b : List (List AV)), AV.sameR a b = true → a = b
  | [], b, h => by cases b <;> simp [AV.sameR] at h <;> rfl
  | x :: l, b, h => by
    cases b <;> simp [AV.sameR] at h
    rw [AV.sameL_eq _ _ h.1, AV.sameR_eq _ _ h.2]
end
def AObj.same : AObj → AObj → Bool
  | .box t cs, .box u ds => Nat.beq t u && AV.sameL cs ds
  | .arr t kd r, .arr u ke s => Nat.beq t u && (decide (kd = ke) && AV.sameR r s)
  | .arx t r, .arx u s => Nat.beq t u && AV.sameR r s
  | .dead, .dead => true
  | _, _ => false
def AObj.sameL : List AObj → List AObj → Bool
  | [], [] => true
  | a :: l, b :: m => AObj.same a b && AObj.sameL l m
  | _, _ => false
theorem AObj.same_eq {a b : AObj} (h : AObj.same a b = true) : a = b := by
  cases a <;> cases b <;> simp only [AObj.same] at h <;> first | cases h | skip
  · simp only [Bool.and_eq_true] at h
    rw [Nat.eq_of_beq_eq_true h.1, AV.sameL_eq _ _ h.2]
  · simp only [Bool.and_eq_true, decide_eq_true_eq] at h
    rw [Nat.eq_of_beq_eq_true h.1, h.2.1, AV.sameR_eq _ _ h.2.2]
  · simp only [Bool.and_eq_true] at h
    rw [Nat.eq_of_beq_eq_true h.1, AV.sameR_eq _ _ h.2]
  · rfl
theorem AObj.sameL_eq : ∀ {a b : List AObj}, AObj.sameL a b = true → a = b
  | [], b, h => by cases b <;> simp_all [AObj.sameL]
  | x :: l, b, h => by
    cases b <;> simp only [AObj.sameL] at h <;> first | cases h | skip
    simp only [Bool.and_eq_true] at h
    rw [AObj.same_eq h.1, AObj.sameL_eq h.2]
def memoF (A : List AV) (S : List AObj) (R : Res) : List AV → List AObj → Ab Res := fun a s => bif AV.sameL a A && AObj.sameL s S then some (true, R) else none
theorem told_memo {S : FSys} {g : FuncId} {k : Nat} {A : List AV} {O : List AObj} {R : Res} (h : ev S k g A O = some R) (args : List AV) (st : List AObj) (r : Res) (hF : memoF A O R args st = some (true, r)) : ∃ k, ev S k g args st = some r := by
  unfold memoF at hF
  cases hs : AV.sameL args A && AObj.sameL st O with
  | false => rw [hs] at hF; cases hF
  | true =>
    rw [hs] at hF
    cases hF
    rw [Bool.and_eq_true] at hs
    rw [AV.sameL_eq _ _ hs.1, AObj.sameL_eq hs.2]
    exact ⟨k, h⟩
end
end Go.Fw
set_option linter.unusedSimpArgs false
set_option linter.unusedVariables false
namespace Go.Fw
noncomputable section
def evTop (S : FSys) (k : Nat) (f : FuncId) (args : List AV) (st : List AObj) : Option Res :=
  match S.body f with
  | none => none
  | some fn =>
    match fn.body with
    | none => none
    | some c =>
      let C : Ctx := { T := S.T, ann := S.ann f, m := st.length, fuel := k, call := callOf S (ev S k), sig := fun g => ((S.ann g).res, (S.ann g).objs, (S.ann g).mvs), fid := f, ent := S.ent, round := evR S k }
      bif (S.ann f).dfr.isEmpty then
        evC C 0 c { tmps := args ++ List.replicate (fn.ntmps - args.length) (.k undef), st := st } fun
          | .norm σ => finish S.T (S.ann f) st.length fn.results.toList σ
          | .ret σ => finish S.T (S.ann f) st.length fn.results.toList σ
          | _ => none
      else
        evB C c { tmps := args ++ List.replicate (fn.ntmps - args.length) (.k undef), st := st } none fun o D =>
          bif S.okD D then
            (match o with
            | .norm σ => finish S.T (S.ann f) st.length fn.results.toList σ
            | .ret σ => finish S.T (S.ann f) st.length fn.results.toList σ
            | _ => none)
          else none
section
variable {P : Program}
theorem evTop_ok {S : FSys} (hS : SysOk P S) (k : Nat) (f : FuncId) (args : List AV) (st : List AObj) (r : AV) (st' : List AObj) (h : evTop S k f args st = some (r, st')) :
    CF P S.T f args st (S.ann f).mvs r st' ∧ (S.ann f).res.ok r = true ∧ OS.okL (S.ann f).objs st' = true ∧ st.length ≤ st'.length := by
  simp only [evTop] at h
  split at h
  · cases h
  · rename_i fn hb
    split at h
    · cases h
    · rename_i c hc
      obtain ⟨hfn, hnm, hcode⟩ := hS.body f fn hb
      have hC : CallOk P { T := S.T, ann := S.ann f, m := st.length, fuel := k, call := callOf S (ev S k), sig := fun g => ((S.ann g).res, (S.ann g).objs, (S.ann g).mvs), fid := f, ent := S.ent, round := evR S k } :=
        fun g args st r st' h => by
          simp only [callOf] at h
          have hcf : ∀ {mvs r st'}, CF P S.T g (coArgs S.T (S.ann g).par args) st mvs r st' → CF P S.T g args st mvs r st' := fun hc E Z w vals hs hv => hc E Z w vals hs (coArgs_ok hv)
          split at h
          · rename_i x hx
            obtain ⟨q1, q2⟩ := hS.prim g _ st r st' (by rw [hx, h])
            exact ⟨hcf q1, q2⟩
          · split at h
            · rename_i x hx
              cases h
              obtain ⟨q1, q2⟩ := ev_ok hS k g _ st r st' hx
              exact ⟨hcf q1, q2⟩
            · cases h
      have hR : RoundOk P { T := S.T, ann := S.ann f, m := st.length, fuel := k, call := callOf S (ev S k), sig := fun g => ((S.ann g).res, (S.ann g).objs, (S.ann g).mvs), fid := f, ent := S.ent, round := evR S k } :=
        fun f m c σ K res h B a w hm hg hA => evR_ok hS k f m c σ K res h B a w hm hg hA
      have hE : EntOk P { T := S.T, ann := S.ann f, m := st.length, fuel := k, call := callOf S (ev S k), sig := fun g => ((S.ann g).res, (S.ann g).objs, (S.ann g).mvs), fid := f, ent := S.ent, round := evR S k } :=
        fun f h args w => entOk hS h args w
      have hends : REnds { T := S.T, ann := S.ann f, m := st.length, fuel := k, call := callOf S (ev S k), sig := fun g => ((S.ann g).res, (S.ann g).objs, (S.ann g).mvs), fid := f, ent := S.ent, round := evR S k } :=
        fun f m c σ K res h => evR_ends k f m c σ K res h
      have hrep : ∀ (E : Env) (Z : Nat → Prop) (w : World) (vals : List Value), SR S.T E Z w st → VRs S.T E Z w args vals →
          StR S.T E Z w { tmps := args ++ List.replicate (fn.ntmps - args.length) (.k undef), st := st } (vals.toArray ++ Array.replicate (fn.ntmps - vals.toArray.size) undef).toList := fun E Z w vals hsr hv => by
        refine ⟨hsr, ?_⟩
        have hrep : VRs S.T E Z w (List.replicate (fn.ntmps - args.length) (AV.k undef)) (List.replicate (fn.ntmps - args.length) undef) := ⟨by simp, fun j av v hj hv => by
          rw [List.getElem?_replicate] at hj hv
          split at hj
          · rw [if_pos (by assumption)] at hv; cases hj; cases hv; exact .ku
          · cases hj⟩
        have := hv.append hrep
        simpa [hv.1] using this
      have hnm' : ¬ fn.name = "runtime.NumGoroutine" := by simpa using hnm
      have hlen : (S.ann f).res.ok r = true ∧ OS.okL (S.ann f).objs st' = true ∧ st.length ≤ st'.length := by
        cases hdf : (S.ann f).dfr.isEmpty with
        | true =>
          rw [hdf] at h
          simp only [cond_true] at h
          obtain ⟨o, ho⟩ := evC_ends hends _ _ _ _ h
          cases o with
          | norm σ => obtain ⟨_, _, _, _, _, _, c1, c2, c3, _⟩ := finish_inv ho; exact ⟨c1, c2, c3⟩
          | ret σ => obtain ⟨_, _, _, _, _, _, c1, c2, c3, _⟩ := finish_inv ho; exact ⟨c1, c2, c3⟩
          | exit id σ => cases ho
        | false =>
          rw [hdf] at h
          simp only [cond_false] at h
          obtain ⟨o, D, ho⟩ := evB_ends hends _ _ _ _ h
          cases hb : S.okD D <;> rw [hb] at ho
          · cases ho
          · cases o with
            | norm σ => obtain ⟨_, _, _, _, _, _, c1, c2, c3, _⟩ := finish_inv ho; exact ⟨c1, c2, c3⟩
            | ret σ => obtain ⟨_, _, _, _, _, _, c1, c2, c3, _⟩ := finish_inv ho; exact ⟨c1, c2, c3⟩
            | exit id σ => cases ho
      refine ⟨fun E Z w vals hsr hv => .inl ⟨by simp [callFunc, hfn, hnm', hc], (callsIn_FR (ro := none) (n := 0)).1 (callsIn_of_wp_marks hfn hc trivial ?_)⟩, hlen⟩
      have fin : ∀ (σ : St) (D : List Deferred) (a : Act) (w' : World), (∀ d ∈ D, ∃ g n cap, Harm P g n ∧ Array.size cap = n ∧ d = { target := .fn (.func g) cap, args := #[] }) → finish S.T (S.ann f) st.length fn.results.toList σ = some (r, st') →
          At S.T { E0 := E, O0 := Owned E st, Z0 := Z, w0 := w, m := st.length, D := D } σ a w' →
          LeavesInM (FR none) 0 P fn a.tmps (fun e w' => ∃ v, e = .returned v ∧ Post S.T E Z w st (S.ann f).mvs r st' v w') a.defers .returning w' := fun σ D a w' hD hf hA => by
        obtain ⟨⟨rs, hM⟩, hA⟩ := hA
        refine leaves_marked (T := S.T) (B := { E0 := E, O0 := Owned E st, Z0 := Z, w0 := w, m := st.length, D := D }) (σ := σ) (fun w'' hA'' => ?_) hM hD hA
        obtain ⟨⟨v, hrun, E', Z', p1, p2, p3, p4⟩, q1, q2, q3⟩ := finish_ok (P := P) (B := { E0 := E, O0 := Owned E st, Z0 := Z, w0 := w, m := st.length, D := D }) hS.tab hf hA''
        exact ⟨v, hrun, v, rfl, E', Z', p1, p2, p3, q3, p4⟩
      cases hdf : (S.ann f).dfr.isEmpty with
      | true =>
        rw [hdf] at h
        simp only [cond_true] at h
        refine wpIn_mono (evC_ok (B := { E0 := E, O0 := Owned E st, Z0 := Z, w0 := w, m := st.length }) hS.mixed hS.tab hC hR hE (good_none rfl) rfl c 0 _ _ _ w (hcode c hc) h ⟨⟨[], .nil⟩, E, Z, hrep E Z w vals hsr hv, Ext.refl _ _ _, fun i _ _ => ⟨rfl, rfl⟩, Nat.le_refl _⟩) fun e a w' hq => ?_
        cases e with
        | normal =>
          obtain ⟨σ, h1, h2⟩ := hq
          exact fin σ [] a w' (fun d hd => by cases hd) h1 h2
        | ret =>
          obtain ⟨σ, h1, h2⟩ := hq
          exact fin σ [] a w' (fun d hd => by cases hd) h1 h2
        | exit id =>
          obtain ⟨σ, h1, _⟩ := hq
          cases h1
        | goto l => exact hq.elim
        | panic ch => exact hq.elim
        | outgrown => exact hq.elim
      | false =>
        rw [hdf] at h
        simp only [cond_false] at h
        have hend : ∀ (o : Out) (σ : St) (D : Option (FuncId × Nat)) (a : Act) (w' : World), (o = .norm σ ∨ o = .ret σ) → (bif S.okD D then
            (match o with
            | .norm σ => finish S.T (S.ann f) st.length fn.results.toList σ
            | .ret σ => finish S.T (S.ann f) st.length fn.results.toList σ
            | _ => none)
          else none) = some (r, st') → AtD S.T { E0 := E, O0 := Owned E st, Z0 := Z, w0 := w, m := st.length } D σ a w' →
            LeavesInM (FR none) 0 P fn a.tmps (fun e w' => ∃ v, e = .returned v ∧ Post S.T E Z w st (S.ann f).mvs r st' v w') a.defers .returning w' := fun o σ D a w' ho hK ⟨ds, hds, hA⟩ => by
          have hharm : S.okD D = true ∧ finish S.T (S.ann f) st.length fn.results.toList σ = some (r, st') := by
            cases hb : S.okD D with
            | false => rw [hb] at hK; cases hK
            | true =>
              rw [hb] at hK
              rcases ho with rfl | rfl <;> exact ⟨rfl, hK⟩
          obtain ⟨k1, k2⟩ := hharm
          refine fin σ ds a w' (fun d hd => ?_) k2 hA
          cases D with
          | none =>
            have : ds = [] := hds
            subst this; cases hd
          | some p =>
            obtain ⟨g, n⟩ := p
            obtain ⟨cap, hc1, hc2⟩ := hds
            subst hc2
            simp only [List.mem_singleton] at hd
            exact ⟨g, n, cap, hS.harm g n k1, hc1, hd⟩
        refine wpIn_mono (evB_ok (B := { E0 := E, O0 := Owned E st, Z0 := Z, w0 := w, m := st.length }) hS.mixed hS.tab hC hR hE rfl rfl c _ none _ _ w (hcode c hc) h ⟨[], rfl, ⟨[], .nil⟩, E, Z, hrep E Z w vals hsr hv, Ext.refl _ _ _, fun i _ _ => ⟨rfl, rfl⟩, Nat.le_refl _⟩) fun e a w' hq => ?_
        cases e with
        | normal =>
          obtain ⟨σ, D, hK, hA⟩ := hq
          exact hend _ σ D a w' (.inl rfl) hK hA
        | ret =>
          obtain ⟨σ, D, hK, hA⟩ := hq
          exact hend _ σ D a w' (.inr rfl) hK hA
        | exit id =>
          obtain ⟨σ, D, hK, _⟩ := hq
          simp only at hK
          cases hb : S.okD D <;> rw [hb] at hK <;> cases hK
        | goto l => exact hq.elim
        | panic ch => exact hq.elim
        | outgrown => exact hq.elim
theorem SysOk.tellRec {S : FSys} (hS : SysOk P S) (g : FuncId) (F : Nat → List AV → List AObj → Ab Res)
    (h : ∀ n, SysOk P (S.tell g (F n)) → ∀ args st r st', F (n + 1) args st = some (true, (r, st')) → CF P S.T g args st (S.ann g).mvs r st' ∧ (S.ann g).res.ok r = true ∧ OS.okL (S.ann g).objs st' = true ∧ st.length ≤ st'.length)
    (h0 : ∀ args st r, F 0 args st ≠ some (true, r)) : ∀ n, SysOk P (S.tell g (F n))
  | 0 => hS.tellCF g (F 0) fun args st r st' hF => absurd hF (h0 _ _ _)
  | n + 1 => hS.tellCF g (F (n + 1)) fun args st r st' hF => h n (SysOk.tellRec hS g F h h0 n) args st r st' hF
theorem SysOk.tellAll {S : FSys} (hS : SysOk P S) (g : FuncId) (F : Nat → List AV → List AObj → Ab Res) (G : List AV → List AObj → Ab Res) (h : ∀ n, SysOk P (S.tell g (F n)))
    (hG : ∀ args st r, G args st = some (true, r) → ∃ n, F n args st = some (true, r)) : SysOk P (S.tell g G) :=
  hS.tellCF g G fun args st r st' hg => by
    obtain ⟨n, hn⟩ := hG args st _ hg
    exact (h n).prim g args st r st' (by simp [FSys.tell, hn])
theorem SysOk.tellFrom {S S' : FSys} (hS' : SysOk P S') (hS : SysOk P S) (hT : S'.T = S.T) (ha : S'.ann = S.ann) (g : FuncId) (F : List AV → List AObj → Ab Res)
    (h : ∀ args st r, F args st = some (true, r) → ∃ k, ev S k g args st = some r) : SysOk P (S'.tell g F) :=
  hS'.tellCF g F fun args st r st' hF => by
    obtain ⟨k, hk⟩ := h args st _ hF
    rw [hT, ha]
    exact ev_ok hS k g args st r st' hk
theorem VR_any0 {T : Tab} {E : Env} {Z : Nat → Prop} {w : World} {t : Nat} {v : Value} (h : VR T E Z w (.sl t .any []) v) : VR T E Z w (.sl t .wide []) v ∨ VR T E Z w (.sl t .nil []) v := by
  cases h with
  | slnil _ _ hk => exact .inr (.slnil t .nil (.inl rfl))
  | sl _ _ _ A c cv hn hf hc hsp hz hok hcell hrep => exact .inl (.sl t .wide [] A c cv (by simp) (by simp) hc hsp hz hok hcell hrep)
theorem VRs.one {T : Tab} {E : Env} {Z : Nat → Prop} {w : World} {x : AV} {v : Value} (h : VR T E Z w x v) : VRs T E Z w [x] [v] :=
  ⟨rfl, fun j av u hj hu => by cases j <;> simp at hj hu; subst hj; subst hu; exact h⟩
theorem CF.any1 {T : Tab} {f : FuncId} {t : Nat} {st : List AObj} {mvs : List Nat} {r : AV} {st' : List AObj} (h1 : CF P T f [.sl t .wide []] st mvs r st') (h2 : CF P T f [.sl t .nil []] st mvs r st') :
    CF P T f [.sl t .any []] st mvs r st' := fun E Z w vals hs hv => by
  obtain ⟨hl, hr⟩ := hv
  match vals, hl with
  | [v], _ =>
    rcases VR_any0 (hr 0 _ v rfl rfl) with h | h
    · exact h1 E Z w [v] hs (.one h)
    · exact h2 E Z w [v] hs (.one h)
def told1 (u : Nat) (c : List (List AV) → Bool) (F : List (List AV) → Res) : List AV → List AObj → Ab Res := fun args st => match args, st with
  | [.sl t .any rows], [] => some (Nat.beq t u && c rows, F rows)
  | _, _ => none
theorem SysOk.tellAny1 {S : FSys} (hS : SysOk P S) (g : FuncId) (u : Nat) (c : List (List AV) → Bool) (F : List (List AV) → Res)
    (h1 : ∀ r rs, c (r :: rs) = true → ∃ k, ev S k g [.sl u .any (r :: rs)] [] = some (F (r :: rs))) (h2 : ∃ k, ev S k g [.sl u .wide []] [] = some (F [])) (h3 : ∃ k, ev S k g [.sl u .nil []] [] = some (F [])) :
    SysOk P (S.tell g (told1 u c F)) :=
  hS.tellCF g _ fun args st r st' hF => by
    unfold told1 at hF
    split at hF
    · rename_i t rows
      simp only [Option.some.injEq, Prod.mk.injEq, Bool.and_eq_true] at hF
      obtain ⟨⟨ht, hc⟩, hf⟩ := hF
      obtain rfl := Nat.eq_of_beq_eq_true ht
      cases rows with
      | nil =>
        obtain ⟨k, hk⟩ := h2
        obtain ⟨l, hl⟩ := h3
        rw [hf] at hk hl
        have a := ev_ok hS k g _ _ r st' hk
        have b := ev_ok hS l g _ _ r st' hl
        exact ⟨.any1 a.1 b.1, a.2⟩
      | cons x xs =>
        obtain ⟨k, hk⟩ := h1 x xs hc
        rw [hf] at hk
        exact ev_ok hS k g _ _ r st' hk
    · cases hF
end
end
end Go.Fw
set_option linter.unusedSimpArgs false
set_option linter.unusedVariables false
namespace Go.Fw
noncomputable section
open Go.ChangeShapes Go.RowKit
def deep (T : Tab) : Nat → List AV → Bool
  | 0, _ => false
  | n + 1, row => row.all fun v => match v with
    | .sl t .any rows => Nat.ble (rows.length * bytesT T t) 140737488351232 && rows.all fun r => rowOk (cts T t) r && deep T n r
    | .k _ => true
    | _ => false
def isRow (T : Tab) (t n : Nat) (row : List AV) : Bool := rowOk (cts T t) row && deep T n row
def isVal (T : Tab) (t n : Nat) : AV → Bool
  | .agg row => isRow T t n row
  | _ => false
theorem deep_mono {T : Tab} : ∀ {n : Nat} {row : List AV}, deep T n row = true → deep T (n + 1) row = true
  | 0, row, h => by simp [deep] at h
  | n + 1, row, h => by
    rw [deep, List.all_eq_true] at h ⊢
    intro v hv
    have := h v hv
    split at this
    · rename_i t rows
      simp only [Bool.and_eq_true, List.all_eq_true] at this ⊢
      exact ⟨this.1, fun r hr => ⟨(this.2 r hr).1, deep_mono (this.2 r hr).2⟩⟩
    · rfl
    · cases this
theorem deep_le {T : Tab} {n m : Nat} {row : List AV} (h : deep T n row = true) (hm : n ≤ m) : deep T m row = true := by
  induction hm with
  | refl => exact h
  | step _ ih => exact deep_mono ih
theorem isRow_le {T : Tab} {t n m : Nat} {row : List AV} (h : isRow T t n row = true) (hm : n ≤ m) : isRow T t m row = true := by
  unfold isRow at h ⊢
  simp only [Bool.and_eq_true] at h ⊢
  exact ⟨h.1, deep_le h.2 hm⟩
theorem isVal_le {T : Tab} {t n m : Nat} {v : AV} (h : isVal T t n v = true) (hm : n ≤ m) : isVal T t m v = true := by
  cases v <;> simp only [isVal] at h ⊢ <;> first | exact isRow_le h hm | exact h
theorem deep_cells {T : Tab} {n : Nat} : ∀ {row : List AV}, (∀ v ∈ row, deep T (n + 1) [v] = true) → deep T (n + 1) row = true := fun {row} h => by
  rw [deep, List.all_eq_true]
  intro v hv
  have := h v hv
  rw [deep, List.all_cons, List.all_nil, Bool.and_true] at this
  exact this
theorem list_bound {α : Type} (Q : Nat → α → Prop) (mono : ∀ n m a, n ≤ m → Q n a → Q m a) : ∀ l : List α, (∀ a ∈ l, ∃ n, Q n a) → ∃ n, ∀ a ∈ l, Q n a
  | [], _ => ⟨0, fun a h => by cases h⟩
  | a :: l, h => by
    obtain ⟨n, hn⟩ := h a List.mem_cons_self
    obtain ⟨m, hm⟩ := list_bound Q mono l fun b hb => h b (List.mem_cons_of_mem _ hb)
    exact ⟨max n m, fun b hb => by
      rcases List.mem_cons.1 hb with rfl | hb
      · exact mono _ _ _ (Nat.le_max_left _ _) hn
      · exact mono _ _ _ (Nat.le_max_right _ _) (hm b hb)⟩
theorem fine_deep {T : Tab} {v : AV} (h : Fine T v) : ∃ n, deep T n [v] = true := by
  induction h with
  | int k n h => exact ⟨1, rfl⟩
  | bool b => exact ⟨1, rfl⟩
  | str s h => exact ⟨1, rfl⟩
  | sl t rows h hm hok hr ih =>
    have h1 : ∀ row ∈ rows, ∃ n, deep T n row = true := fun row hrow => by
      obtain ⟨n, hn⟩ := list_bound (fun n v => deep T (n + 1) [v] = true) (fun n m a hnm h => deep_le h (by omega)) row (fun v hv => by
        obtain ⟨n, hn⟩ := ih row hrow v hv
        exact ⟨n, deep_mono hn⟩)
      exact ⟨n + 1, deep_cells hn⟩
    obtain ⟨n, hn⟩ := list_bound (fun n row => deep T n row = true) (fun n m a hnm h => deep_le h hnm) rows h1
    refine ⟨n + 1, ?_⟩
    rw [deep, List.all_cons, List.all_nil, Bool.and_true]
    simp only [Bool.and_eq_true, List.all_eq_true]
    exact ⟨Nat.ble_eq_true_of_le h, fun r hr => ⟨hok r hr, hn r hr⟩⟩
theorem ArgOf_isVal {T : Tab} {t : Nat} {av : AV} (h : ArgOf T t av) {ti : TI} (ht : T t = some ti) (hagg : ti.isAgg = true) : ∃ n, isVal T t n av = true := by
  unfold ArgOf at h
  rw [ht] at h
  simp only [hagg] at h
  obtain ⟨avs, rfl, hr, hf⟩ := h
  obtain ⟨n, hn⟩ := list_bound (fun n v => deep T (n + 1) [v] = true) (fun n m a hnm h => deep_le h (by omega)) avs (fun v hv => by
    obtain ⟨n, hn⟩ := fine_deep (hf v hv)
    exact ⟨n, deep_mono hn⟩)
  exact ⟨n + 1, by simp only [isVal, isRow]; rw [hr, deep_cells hn]; rfl⟩
theorem ArgOf_sl {T : Tab} {t : Nat} {av : AV} (h : ArgOf T t av) {ti : TI} {e : Nat} (ht : T t = some ti) (hagg : ti.isAgg = false) (hc : ti.cells = [.sl e]) :
    ∃ rows n, av = .sl e .any rows ∧ rows.length * bytesT T e ≤ 140737488351232 ∧ ∀ r ∈ rows, isRow T e n r = true := by
  unfold ArgOf at h
  rw [ht] at h
  simp only [hagg] at h
  obtain ⟨hr, hf⟩ := h
  have hcts : cts T t = [.sl e] := by unfold cts; rw [ht]; exact hc
  rw [hcts] at hr
  simp only [rowOk, Bool.and_true] at hr
  obtain ⟨n, hn⟩ := fine_deep hf
  cases hf with
  | sl u rows h hm hok hr' =>
    simp only [CT.ok, Bool.and_eq_true] at hr
    obtain rfl := Nat.eq_of_beq_eq_true hr.1
    cases n with
    | zero => simp [deep] at hn
    | succ n =>
      rw [deep, List.all_cons, List.all_nil, Bool.and_true] at hn
      simp only [Bool.and_eq_true, List.all_eq_true] at hn
      exact ⟨rows, n, rfl, Nat.le_of_ble_eq_true hn.1, fun r hr => by unfold isRow; rw [(hn.2 r hr).1, (hn.2 r hr).2]; rfl⟩
  | _ => simp [CT.ok] at hr
theorem deep_sl {T : Tab} {n t : Nat} {rows : List (List AV)} {row : List AV} (h : deep T (n + 1) row = true) (hm : .sl t .any rows ∈ row) :
    rows.length * bytesT T t ≤ 140737488351232 ∧ ∀ r ∈ rows, isRow T t n r = true := by
  rw [deep, List.all_eq_true] at h
  have := h _ hm
  simp only [Bool.and_eq_true, List.all_eq_true] at this
  exact ⟨Nat.le_of_ble_eq_true this.1, fun r hr => by unfold isRow; rw [(this.2 r hr).1, (this.2 r hr).2]; rfl⟩
theorem CT_int {k : IntKind} {v : AV} (h : CT.ok (.int k) v = true) : ∃ n, v = .k (.int k n) := by
  unfold CT.ok at h
  split at h <;> simp_all
theorem CT_bool {v : AV} (h : CT.ok .bool v = true) : ∃ b, v = .k (.bool b) := by
  unfold CT.ok at h
  split at h <;> simp_all
theorem CT_str {v : AV} (h : CT.ok .str v = true) : ∃ s, v = .k (.string s) := by
  unfold CT.ok at h
  split at h <;> simp_all
theorem CT_sl {t : Nat} {v : AV} (h : CT.ok (.sl t) v = true) : ∃ rows, v = .sl t .any rows := by
  unfold CT.ok at h
  split at h
  all_goals try (simp_all; done)
  rename_i e u kd rows e1
  simp only [CT.sl.injEq] at e1
  subst e1
  simp only [Bool.and_eq_true] at h
  obtain rfl := Nat.eq_of_beq_eq_true h.1
  cases kd <;> simp [SK.isAny] at h
  exact ⟨rows, rfl⟩
theorem rowOk_cons {c : CT} {cs : List CT} {row : List AV} (h : rowOk (c :: cs) row = true) : ∃ v vs, row = v :: vs ∧ c.ok v = true ∧ rowOk cs vs = true := by
  cases row with
  | nil => cases h
  | cons v vs =>
    simp only [rowOk, Bool.and_eq_true] at h
    exact ⟨v, vs, rfl, h.1, h.2⟩
theorem rowOk_nil {row : List AV} (h : rowOk [] row = true) : row = [] := by
  cases row with
  | nil => rfl
  | cons v vs => cases h
theorem ba_beq (a b : ByteArray) : (a == b) = decide (a = b) := by
  obtain ⟨a⟩ := a
  obtain ⟨b⟩ := b
  have h : ((⟨a⟩ : ByteArray) == ⟨b⟩) = (a == b) := rfl
  rw [h, Bool.eq_iff_iff, beq_iff_eq]
  simp
theorem getD_at {α : Type} {l : List α} {i : Nat} {d : α} (h : i < l.length) : l.getD i d = l[i] := by simp [List.getD_eq_getElem?_getD, h]
theorem take_next {α : Type} {l : List α} {i : Nat} (h : i < l.length) : l.take (i + 1) = l.take i ++ [l[i]] := by simp
theorem copy_loop {S : FSys} {f : FuncId} {fn : Func} {m k : Nat} {p ms : List Nat} {rows : List (List AV)} {good : List AV → Bool} {g : List AV → List AV} {b : Nat}
    (σ : Int → St) (τ : List (List AV) → Int → St) (fin : List (List AV) → Option Res)
    (h1 : ∀ (R : St → Option Res) (i : Int), roundAt S f fn m k p ms R (σ i) = bif decide (i < (rows.length : Nat)) then (bif decide (0 ≤ i) && decide (i < (rows.length : Nat)) then (bif good (rows.getD i.toNat []) then
      R (τ [g (rows.getD i.toNat [])] (IntKind.i64.wrap (i + 1))) else none) else none) else fin [])
    (h2 : ∀ (R : St → Option Res) (out : List (List AV)) (i : Int), roundAt S f fn m k p ms R (τ out i) = bif decide (i < (rows.length : Nat)) then (bif decide (0 ≤ i) && decide (i < (rows.length : Nat)) then (bif good (rows.getD i.toNat []) then
      (bif Nat.ble ((out.length + [g (rows.getD i.toNat [])].length) * b) 140737488355328 then R (τ (out ++ [g (rows.getD i.toNat [])]) (IntKind.i64.wrap (i + 1))) else none) else none) else none) else fin out)
    (hgood : ∀ x ∈ rows, good x = true) (hb : rows.length * b ≤ 140737488351232) (hb0 : 0 < b) (n : Nat) (hn : rows.length < n) : loopAt S f fn m k p ms n (σ 0) = fin (rows.map g) := by
  have hlen : rows.length ≤ 140737488351232 := Nat.le_trans (Nat.le_mul_of_pos_right _ hb0) hb
  have key := loop_up (S := S) (f := f) (fn := fn) (m := m) (k := k) (p := p) (ms := ms) (fun i => match i with | 0 => σ 0 | i + 1 => τ ((rows.take (i + 1)).map g) ((i + 1 : Nat) : Int)) rows.length (fun _ => fin (rows.map g))
    (fun i hi R hR => by
      have d1 : decide ((i : Int) < (rows.length : Nat)) = true := by simpa using hi
      have d2 : decide (0 ≤ (i : Int)) = true := by simp
      have hw : IntKind.i64.wrap ((i : Int) + 1) = ((i + 1 : Nat) : Int) := by rw [wrap64] <;> omega
      have hg := hgood rows[i] (List.getElem_mem hi)
      have hat : rows.getD i [] = rows[i] := getD_at hi
      have hta := take_next hi
      match i, hi, hR, d1, d2, hw, hg, hat, hta with
      | 0, hi, hR, d1, d2, hw, hg, hat, hta =>
        have h0 := h1 R ((0 : Nat) : Int)
        rw [d1, d2, Int.toNat_natCast, hat, hg, hw] at h0
        simp only [cond_true, Bool.and_self] at h0
        simp only at hR ⊢
        rw [hta] at hR
        simp only [List.take_zero, List.nil_append, List.map_cons, List.map_nil] at hR
        exact h0.trans hR
      | i + 1, hi, hR, d1, d2, hw, hg, hat, hta =>
        have h0 := h2 R ((rows.take (i + 1)).map g) ((i + 1 : Nat) : Int)
        rw [d1, d2, Int.toNat_natCast, hat, hg, hw] at h0
        have hle : Nat.ble ((((rows.take (i + 1)).map g).length + [g rows[i + 1]].length) * b) 140737488355328 = true := by
          apply Nat.ble_eq_true_of_le
          have e1 : ((rows.take (i + 1)).map g).length + [g rows[i + 1]].length = i + 1 + 1 := by simp; omega
          rw [e1]
          exact Nat.le_trans (Nat.mul_le_mul_right b (by omega : i + 1 + 1 ≤ rows.length)) (by omega)
        rw [hle] at h0
        simp only [cond_true, Bool.and_self] at h0
        simp only at hR ⊢
        rw [hta] at hR
        simp only [List.map_append, List.map_cons, List.map_nil] at hR
        exact h0.trans hR)
    (fun R => by
      have d1 : decide (((rows.length : Nat) : Int) < (rows.length : Nat)) = false := by simp
      cases hl : rows.length with
      | zero =>
        have hnil : rows = [] := List.length_eq_zero_iff.1 hl
        have h0 := h1 R 0
        subst hnil
        simpa using h0
      | succ j =>
        have h0 := h2 R ((rows.take (j + 1)).map g) ((j + 1 : Nat) : Int)
        rw [← hl, d1, hl] at h0
        simp only [cond_false] at h0
        have ht : rows.take (j + 1) = rows := by rw [← hl]; exact List.take_length
        simp only
        rw [ht] at h0 ⊢
        exact h0)
    n 0 (Nat.zero_le _) (by omega)
  exact key
def foldS {A : Type} (stop : A → List AV → Bool) (out : A → List AV → Option Res) (upd : A → List AV → A) (fin : A → Option Res) : List (List AV) → A → Option Res
  | [], c => fin c
  | x :: xs, c => bif stop c x then out c x else foldS stop out upd fin xs (upd c x)
theorem loop_fold {S : FSys} {f : FuncId} {fn : Func} {m k : Nat} {p ms : List Nat} {rows : List (List AV)} {A : Type} {good : List AV → Bool}
    (σ : A → Int → St) (stop : A → List AV → Bool) (out : A → List AV → Option Res) (upd : A → List AV → A) (fin : A → Option Res)
    (h : ∀ (R : St → Option Res) (c : A) (i : Int), roundAt S f fn m k p ms R (σ c i) = bif decide (i < (rows.length : Nat)) then (bif decide (0 ≤ i) && decide (i < (rows.length : Nat)) then (bif good (rows.getD i.toNat []) then
      (bif stop c (rows.getD i.toNat []) then out c (rows.getD i.toNat []) else R (σ (upd c (rows.getD i.toNat [])) (IntKind.i64.wrap (i + 1)))) else none) else none) else fin c)
    (hgood : ∀ x ∈ rows, good x = true) (hlen : rows.length ≤ 140737488351232) : ∀ (n i : Nat) (c : A), i ≤ rows.length → rows.length - i < n → loopAt S f fn m k p ms n (σ c i) = foldS stop out upd fin (rows.drop i) c
  | 0, i, c, _, h => by omega
  | n + 1, i, c, hi, hn => by
    rw [loopAt_succ, h]
    rcases Nat.lt_or_eq_of_le hi with h1 | h1
    · have d1 : decide ((i : Int) < (rows.length : Nat)) = true := by simpa using h1
      have d2 : decide (0 ≤ (i : Int)) = true := by simp
      have hw : IntKind.i64.wrap ((i : Int) + 1) = ((i + 1 : Nat) : Int) := by rw [wrap64] <;> omega
      rw [d1, d2, Int.toNat_natCast, getD_at h1, hgood _ (List.getElem_mem h1), hw, List.drop_eq_getElem_cons h1]
      simp only [cond_true, Bool.and_self]
      rw [loop_fold σ stop out upd fin h hgood hlen n (i + 1) _ h1 (by omega)]
      rfl
    · subst h1
      have d1 : decide (((rows.length : Nat) : Int) < (rows.length : Nat)) = false := by simp
      rw [d1, List.drop_length]
      rfl
def foldP {A : Type} (stop : A → List AV → List AV → Bool) (out : A → List AV → List AV → Option Res) (upd : A → List AV → List AV → A) (fin : A → Bool → Bool → Option Res) : List (List AV) → List (List AV) → A → Option Res
  | x :: xs, y :: ys, c => bif stop c x y then out c x y else foldP stop out upd fin xs ys (upd c x y)
  | xs, ys, c => fin c xs.isEmpty ys.isEmpty
theorem loop_pair {S : FSys} {f : FuncId} {fn : Func} {m k : Nat} {p ms : List Nat} {rows rows2 : List (List AV)} {A : Type}
    (σ : A → Int → St) (stop : A → List AV → List AV → Bool) (out : A → List AV → List AV → Option Res) (upd : A → List AV → List AV → A) (fin : A → Bool → Bool → Option Res)
    (h : ∀ (R : St → Option Res) (c : A) (i : Nat) (h1 : i < rows.length) (h2 : i < rows2.length), roundAt S f fn m k p ms R (σ c i) = bif stop c rows[i] rows2[i] then out c rows[i] rows2[i] else R (σ (upd c rows[i] rows2[i]) ((i + 1 : Nat) : Int)))
    (he : ∀ (R : St → Option Res) (c : A) (i : Nat), i ≤ rows.length → i ≤ rows2.length → (i = rows.length ∨ i = rows2.length) → roundAt S f fn m k p ms R (σ c i) = fin c (decide (i = rows.length)) (decide (i = rows2.length))) :
    ∀ (n i : Nat) (c : A), i ≤ rows.length → i ≤ rows2.length → rows.length - i < n → loopAt S f fn m k p ms n (σ c i) = foldP stop out upd fin (rows.drop i) (rows2.drop i) c
  | 0, i, c, _, _, h => by omega
  | n + 1, i, c, hi, hj, hn => by
    rw [loopAt_succ]
    by_cases h1 : i < rows.length
    · by_cases h2 : i < rows2.length
      · rw [h _ c i h1 h2, List.drop_eq_getElem_cons h1, List.drop_eq_getElem_cons h2, loop_pair σ stop out upd fin h he n (i + 1) _ h1 h2 (by omega)]
        rfl
      · have e2 : i = rows2.length := by omega
        rw [he _ c i hi hj (.inr e2), List.drop_eq_getElem_cons h1]
        have d1 : decide (i = rows.length) = false := by simp; omega
        have d2 : decide (i = rows2.length) = true := by simpa using e2
        have hd : rows2.drop i = [] := by rw [e2, List.drop_length]
        rw [d1, d2, hd]
        rfl
    · have e1 : i = rows.length := by omega
      rw [he _ c i hi hj (.inl e1)]
      have d1 : decide (i = rows.length) = true := by simpa using e1
      have hd : rows.drop i = [] := by rw [e1, List.drop_length]
      rw [d1, hd]
      have d2 : (rows2.drop i).isEmpty = decide (i = rows2.length) := by
        rw [Bool.eq_iff_iff]; simp; omega
      cases hr : rows2.drop i with
      | nil => rw [hr] at d2; simp only [foldP]; rw [← d2]; rfl
      | cons y ys => rw [hr] at d2; simp only [foldP]; rw [← d2]; rfl
section
variable {P : Program}
theorem SysOk.tellLv {S : FSys} (hS : SysOk P S) (g : FuncId) (F : Nat → List AV → List AObj → Ab Res)
    (h0 : ∀ args st r, F 0 args st ≠ some (true, r))
    (h : ∀ n args st r, F (n + 1) args st = some (true, r) → ∃ k, evTop (S.tell g (F n)) k g args st = some r) : ∀ n, SysOk P (S.tell g (F n)) :=
  hS.tellRec g F (fun n hn args st r st' hF => by
    obtain ⟨k, hk⟩ := h n args st _ hF
    exact evTop_ok hn k g args st r st' hk) h0
end
end
end Go.Fw
set_option linter.unusedSimpArgs false
set_option linter.unusedVariables false
namespace Go.Fw
noncomputable section
theorem loop_list {S : FSys} {f : FuncId} {fn : Func} {m k : Nat} {p ms : List Nat} {rows : List (List AV)} {A : Type}
    (σ : A → Int → St) (stop : A → List AV → Bool) (out : A → List AV → Option Res) (upd : A → List AV → A) (fin : A → Option Res)
    (h : ∀ (R : St → Option Res) (c : A) (i : Nat) (h1 : i < rows.length), roundAt S f fn m k p ms R (σ c i) = bif stop c rows[i] then out c rows[i] else R (σ (upd c rows[i]) ((i + 1 : Nat) : Int)))
    (he : ∀ (R : St → Option Res) (c : A), roundAt S f fn m k p ms R (σ c (rows.length : Nat)) = fin c) :
    ∀ (n i : Nat) (c : A), i ≤ rows.length → rows.length - i < n → loopAt S f fn m k p ms n (σ c i) = foldS stop out upd fin (rows.drop i) c
  | 0, i, c, _, h => by omega
  | n + 1, i, c, hi, hn => by
    rw [loopAt_succ]
    rcases Nat.lt_or_eq_of_le hi with h1 | h1
    · rw [h _ c i h1, List.drop_eq_getElem_cons h1, loop_list σ stop out upd fin h he n (i + 1) _ h1 (by omega)]
      rfl
    · subst h1
      rw [he, List.drop_length]
      rfl
theorem foldS_all {A : Type} (p : List AV → Bool) (u : A) : ∀ (l : List (List AV)), foldS (fun _ x => !(p x)) (fun _ _ => some (.k (.bool false), [])) (fun c _ => c) (fun _ => some (.k (.bool true), [])) l u = some (.k (.bool (l.all p)), [])
  | [] => rfl
  | x :: xs => by
    simp only [foldS, List.all_cons]
    cases hp : p x with
    | true => simp [foldS_all p u xs]
    | false => rfl
theorem foldS_sum {A : Type} (g : A → List AV → A) (fin : A → Option Res) (out : A → List AV → Option Res) : ∀ (l : List (List AV)) (c : A), foldS (fun _ _ => false) out g fin l c = fin (l.foldl g c)
  | [], c => rfl
  | x :: xs, c => by simp only [foldS, cond_false, List.foldl_cons]; exact foldS_sum g fin out xs _
theorem SysOk.tellMore {P : Program} {S S' : FSys} (hS' : SysOk P S') {g : FuncId} {F : List AV → List AObj → Ab Res} (hg : SysOk P (S.tell g F)) (hT : S'.T = S.T) (ha : S'.ann = S.ann) : SysOk P (S'.tell g F) :=
  hS'.tellCF g F fun args st r st' hF => by
    have := hg.prim g args st r st' (by simp [FSys.tell, hF])
    rw [hT, ha]
    exact this
theorem SysOk.lvRec {P : Program} {S : FSys} (hS : SysOk P S) (g : FuncId) (F : Nat → List AV → List AObj → Ab Res) (X : Nat → FSys)
    (h0 : ∀ args st r, F 0 args st ≠ some (true, r)) (hX : ∀ n, SysOk P (S.tell g (F n)) → SysOk P (X n)) (hT : ∀ n, (X n).T = S.T) (ha : ∀ n, (X n).ann = S.ann)
    (h : ∀ n args st r, F (n + 1) args st = some (true, r) → ∃ k, evTop (X n) k g args st = some r) : ∀ n, SysOk P (S.tell g (F n)) :=
  hS.tellRec g F (fun n hn args st r st' hF => by
    obtain ⟨k, hk⟩ := h n args st _ hF
    have := evTop_ok (hX n hn) k g args st r st' hk
    rw [hT, ha] at this
    exact this) h0
def all2 (p : List AV → List AV → Bool) : List (List AV) → List (List AV) → Bool
  | x :: xs, y :: ys => p x y && all2 p xs ys
  | [], [] => true
  | _, _ => false
theorem all2_len {p : List AV → List AV → Bool} : ∀ {l m : List (List AV)}, l.length ≠ m.length → all2 p l m = false
  | [], [], h => absurd rfl h
  | [], _ :: _, _ => rfl
  | _ :: _, [], _ => rfl
  | x :: xs, y :: ys, h => by
    simp only [List.length_cons, ne_eq, Nat.add_right_cancel_iff] at h
    simp only [all2, all2_len h, Bool.and_false]
theorem foldP_all2 {A : Type} (p : List AV → List AV → Bool) (u : A) : ∀ (l m : List (List AV)), l.length = m.length →
    foldP (fun _ x y => !(p x y)) (fun _ _ _ => some (.k (.bool false), [])) (fun c _ _ => c) (fun _ _ _ => some (.k (.bool true), [])) l m u = some (.k (.bool (all2 p l m)), [])
  | [], [], _ => rfl
  | [], _ :: _, h => by simp at h
  | _ :: _, [], h => by simp at h
  | x :: xs, y :: ys, h => by
    simp only [foldP, all2]
    cases hp : p x y with
    | true => simp [foldP_all2 p u xs ys (by simpa using h)]
    | false => rfl
def lexR (f : List AV → List AV → Int) : List (List AV) → List (List AV) → Int
  | x :: xs, y :: ys => bif f x y == 0 then lexR f xs ys else f x y
  | [], [] => 0
  | [], _ :: _ => -1
  | _ :: _, [] => 1
def rfC : Code → Option (Code × Code)
  | .rangeFunc _ _ a b => some (a, b)
  | .seq a b => match rfC a with
    | some x => some x
    | none => rfC b
  | .block _ b => rfC b
  | .loop b => rfC b
  | .cond _ a b => match rfC a with
    | some x => some x
    | none => rfC b
  | _ => none
def lob (fn : Nat) (f : Func) (fin : Bool) (pd : Code) (tm : List AV) (ps : List Nat) : AObj :=
  match f.body with
  | none => .dead
  | some c => match rfC c with
    | some (a, b) => .loop fin pd fn tm ps a b
    | none => .dead
section
variable {P : Program} {T : Tab}
theorem SR.pend0 {E : Env} {Z : Nat → Prop} {w : World} {st : List AObj} {p p' : Code} {fn : FuncId} {tm : List AV} {ps : List Nat} {a b : Code} (h : SR T E Z w (.loop false p fn tm ps a b :: st)) :
    SR T E Z w (.loop false p' fn tm ps a b :: st) ∧ ∀ B, Owned E (.loop false p' fn tm ps a b :: st) B → Owned E (.loop false p fn tm ps a b :: st) B := by
  have hst : (AObj.loop false p fn tm ps a b :: st)[0]? = some (.loop false p fn tm ps a b) := rfl
  have hor := h.obj 0 _ hst
  have hor' : OR T E Z w 0 (.loop false p' fn tm ps a b) := by
    cases hor with
    | loop _ _ _ _ _ _ _ l D fn' vs h1 hb hr => exact .loop false p' fn tm ps a b l D fn' vs h1 hb hr
  exact h.update (w' := w) (id := 0) (o' := .loop false p' fn tm ps a b) (by simp) (fun _ _ _ _ => rfl) (fun _ _ _ => rfl) (Nat.le_refl _) hor' (fun B hB => (owns_some hst).2 hB)
theorem CF.pend {f : FuncId} {args : List AV} {st : List AObj} {mvs : List Nat} {r : AV} {st' : List AObj} {p : Code} (p' : Code) {fn : FuncId} {tm : List AV} {ps : List Nat} {a b : Code}
    (h : CF P T f args st mvs r (.loop false p fn tm ps a b :: st')) : CF P T f args st mvs r (.loop false p' fn tm ps a b :: st') := fun E Z w vals hs hv => by
  have key : ∀ v w', Post T E Z w st mvs r (.loop false p fn tm ps a b :: st') v w' → Post T E Z w st mvs r (.loop false p' fn tm ps a b :: st') v w' := fun v w' ⟨E', Z', h1, h2, h3, h4, h5⟩ => by
    obtain ⟨k1, k2⟩ := h1.pend0 (p' := p')
    exact ⟨E', Z', k1, h2, h3.trans ⟨rfl, rfl, rfl, Nat.le_refl _, fun _ _ _ => rfl, fun _ hz => hz, fun _ hz => .inl hz, fun b hb => .inl (k2 b hb)⟩, h4, h5⟩
  rcases h E Z w vals hs hv with ⟨h1, h2⟩ | ⟨v, w', h1, h2⟩ | ⟨row, as, h1, h2⟩
  · exact .inl ⟨h1, h2.mono fun e w' ⟨v, he, hp⟩ => ⟨v, he, key v w' hp⟩⟩
  · exact .inr (.inl ⟨v, w', h1, key v w' h2⟩)
  · exact .inr (.inr ⟨row, as, h1, h2.mono fun v w' hp => key v w' hp⟩)
end
end
end Go.Fw
