/- A part of the proofs over these laws: what its functions come to. No conditions. -/
import Derived.Test.YtgcdiccbehiijaaGm
import Derived.WalkKit
import Derived.RecoverIn
import Derived.Test.YtgcdiccbehiijaaRows
set_option linter.all false
namespace Go.Proofs.Ytgcdiccbehiijaa.W
open Go.Fw
set_option maxRecDepth 100000
section
open Go Go.RowKit Go.Extern.Stop Go.Stop Go.Extern
theorem harm34 : Harm Try.prog 34 3 := fun vals w hv => by
  obtain ⟨l⟩ := vals
  match l, hv with
  | [p, q, r], _ =>
    have hnil : ∀ w : World, (Go.binOp BinOp.neq 20 .nilIface .nilIface).run Try.prog w = .ok (.bool false) w := fun _ => by kernel_rfl
    refine ⟨by kernel_rfl, ?_⟩
    refine callsDIn_of_wpSIn (fn := Try.f34) Try.func34 rfl (by trivial) fun c₀ cs hu => ?_
    apply wpSIn_seq
    apply wpSIn_region
    simp [wpOpsSIn, go_sem, recoverD, hu, Exit.thenS, FR]
    apply wpSIn_seq
    apply wpSIn_region
    simp [wpOpsSIn, go_sem, Exit.thenS, hnil, FR]
    refine wpSIn_cond (t := false) (by simp [Act.eval, Array.replicate]) ?_
    simp only [Bool.false_eq_true, if_false]
    refine wpSIn_of_wpIn rfl (wpIn_skip ?_)
    cases c₀
    simp_all [bodyPostS, results, Exit.thenS]
end
end Go.Proofs.Ytgcdiccbehiijaa.W
namespace Go.Proofs.Ytgcdiccbehiijaa.W
open Go.Fw
set_option maxRecDepth 100000
theorem bodyOk : fns.all (bodyB Try.prog ann) = true := by kernel_rfl
theorem sysOk : SysOk Try.prog sys where
  mixed := by kernel_rfl
  tab := tabOk
  body := fun f fn h => body_ok bodyOk f fn h
  prim := fun f args st r st' h => by change prim f args st = _ at h; unfold prim at h; cases h
  cok := fun f c h => h
  harm := fun g n h => by
    change harm g n = true at h
    unfold harm at h
    rw [Bool.and_eq_true] at h
    obtain ⟨h1, h2⟩ := h
    obtain rfl := Nat.eq_of_beq_eq_true h1
    obtain rfl := Nat.eq_of_beq_eq_true h2
    exact harm34
theorem tellFrom {P : Program} {S S' : FSys} (hS' : SysOk P S') (hS : SysOk P S) (hT : S'.T = S.T) (ha : S'.ann = S.ann) (g : FuncId) (F : List AV → List AObj → Ab Res)
    (h : ∀ args st r, F args st = some (true, r) → ∃ k, ev S k g args st = some r) : SysOk P (S'.tell g F) :=
  hS'.tellCF g F fun args st r st' hF => by
    obtain ⟨k, hk⟩ := h args st _ hF
    rw [hT, ha]
    exact ev_ok hS k g args st r st' hk
theorem sysAOk : SysOk Try.prog sysA := by
  have h76 : ∀ (args : List AV) (st : List AObj) (r : AV) (st' : List AObj), FAdd args st = some (true, (r, st')) → CF Try.prog sys.T 76 args st (sys.ann 76).mvs r st' ∧ (sys.ann 76).res.ok r = true ∧ OS.okL (sys.ann 76).objs st' = true ∧ st.length ≤ st'.length := fun args st r st' h => by
    unfold FAdd at h
    split at h
    · rename_i x y c
      simp only [Option.some.injEq, Prod.mk.injEq, Bool.and_eq_true, decide_eq_true_eq] at h
      obtain ⟨⟨h1, h2, h3, h4⟩, rfl, rfl⟩ := h
      exact ⟨cf76 x y c h1 h2 h3 h4, by kernel_rfl, by kernel_rfl, Nat.le_refl _⟩
    · cases h
  have h78 : ∀ (args : List AV) (st : List AObj) (r : AV) (st' : List AObj), FSub args st = some (true, (r, st')) → CF Try.prog sys.T 78 args st (sys.ann 78).mvs r st' ∧ (sys.ann 78).res.ok r = true ∧ OS.okL (sys.ann 78).objs st' = true ∧ st.length ≤ st'.length := fun args st r st' h => by
    unfold FSub at h
    split at h
    · rename_i x y c
      simp only [Option.some.injEq, Prod.mk.injEq, Bool.and_eq_true, decide_eq_true_eq] at h
      obtain ⟨⟨h1, h2, h2', h3, h4⟩, rfl, rfl⟩ := h
      exact ⟨cf78 x y c h1 h2 h2' h3 h4, by kernel_rfl, by kernel_rfl, Nat.le_refl _⟩
    · cases h
  exact SysOk.tellCF (S := sys.tell 76 FAdd) (sysOk.tellCF 76 FAdd h76) 78 FSub h78
theorem sysB1Ok : SysOk Try.prog sysB1 := sysAOk.tell 51 _ told51
theorem sysB2Ok : SysOk Try.prog sysB2 := tellFrom (sysB1Ok.tell 57 _ told57) sysB1Ok rfl rfl 58 _ told58
theorem sysB3Ok : SysOk Try.prog sysB3 := sysB2Ok.tell 55 _ told55
theorem sysB4Ok : SysOk Try.prog sysB4 := sysB3Ok.tell 92 _ told92
theorem sysB5Ok : SysOk Try.prog sysB5 := sysB4Ok.tell 89 _ told89
theorem sysB6Ok : SysOk Try.prog sysB6 := sysB5Ok.tell 79 _ told79
theorem sysB7Ok : SysOk Try.prog sysB7 :=
  tellFrom (tellFrom (tellFrom (tellFrom (tellFrom (sysB6Ok.tell 52 _ told52) sysB6Ok rfl rfl 77 _ told77) sysB6Ok rfl rfl 56 _ told56) sysB6Ok rfl rfl 69 _ told69) sysB6Ok rfl rfl 54 _ told54) sysB6Ok rfl rfl 63 _ told63
theorem sysB8Ok : SysOk Try.prog sysB8 := tellFrom (sysB7Ok.tell 53 _ told53) sysB7Ok rfl rfl 50 _ told50
theorem sysC1Ok : SysOk Try.prog sysC1 := sysB8Ok.tell 20 _ told20
theorem sysC2Ok : SysOk Try.prog sysC2 := sysC1Ok.tell 19 _ told19
theorem sysC3Ok : SysOk Try.prog sysC3 := tellFrom (tellFrom (tellFrom (sysC2Ok.tell 21 _ (toldRR told21)) sysC2Ok rfl rfl 22 _ (toldRR told22)) sysC2Ok rfl rfl 23 _ told23) sysC2Ok rfl rfl 30 _ told30
theorem mm5Ok : SysOk Try.prog mm5 := (((((sysC3Ok.tell 12 _ (told_memo mm1_ev)).tell 35 _ (told_memo mm2_ev)).tell 36 _ (told_memo mm3_ev)).tell 40 _ (told_memo mm4_ev)).tell 18 _ (told_memo mm5_ev))
theorem own : ownKnob Try.prog.godebug = none := by kernel_rfl
theorem laidOut : laidOutB Try.prog = true := by kernel_rfl
theorem int_cell {av : AV} (h : CT.ok (.int .i64) av = true) (hf : Fine tab av) : ∃ n, av = i64 n ∧ isI n = true := by
  cases hf with
  | int k n hw =>
    have : k = .i64 := of_decide_eq_true h
    subst this
    refine ⟨n, rfl, ?_⟩
    simp [Lit.wf, IntKind.min, IntKind.max, IntKind.signed, IntKind.bits] at hw
    rw [isI_iff]; omega
  | _ => cases h
theorem row_two {c d : CT} {row : List AV} (h : rowOk [c, d] row = true) : ∃ a b, row = [a, b] ∧ c.ok a = true ∧ d.ok b = true := by
  match row, h with
  | [a, b], h =>
    simp only [rowOk, Bool.and_eq_true] at h
    exact ⟨a, b, rfl, h.1, h.2.1⟩
  | [], h => cases h
  | [_], h => simp [rowOk] at h
  | _ :: _ :: _ :: _, h => simp [rowOk] at h
end Go.Proofs.Ytgcdiccbehiijaa.W
