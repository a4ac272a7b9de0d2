/- A part of the proof: Y3, Y4, Y5, Y6 -/
import Derived.Test.YtfdmdcpopmcmcaaGreatDoorPartHB
set_option linter.all false
set_option linter.unusedSectionVars false
set_option linter.unusedVariables false
set_option linter.unusedSimpArgs false
section
namespace Go.Proofs.YtfdmdcpopmcmcaaGreatDoor
open Go.Fw
variable [Gl]
theorem isGo18 : isGo Tryz.prog 18 = true := by kernel_rfl
theorem isGo19 : isGo Tryz.prog 19 = true := by kernel_rfl
theorem isGo20 : isGo Tryz.prog 20 = true := by kernel_rfl
theorem isGo55 : isGo Tryz.prog 55 = true := by kernel_rfl
theorem tagg36 : tagg Tryz.prog 36 = some true := by kernel_rfl
theorem tfld36_0 : tfld Tryz.prog 36 0 = some (0, 3) := by kernel_rfl
theorem tfld36_1 : tfld Tryz.prog 36 1 = some (1, 22) := by kernel_rfl
theorem tfld36_2 : tfld Tryz.prog 36 2 = some (2, 9) := by kernel_rfl
theorem tfld36_3 : tfld Tryz.prog 36 3 = some (3, 22) := by kernel_rfl
theorem tfld36_4 : tfld Tryz.prog 36 4 = some (4, 3) := by kernel_rfl
theorem tsz36 : tsz Tryz.prog 36 = some 5 := by kernel_rfl
set_option maxRecDepth 20000
def env (e : En) : V := .agg [.int .i64 e.1, lsl e.2.1, .str e.2.2.1, lsl e.2.2.2.1, .int .i64 e.2.2.2.2]
/-- Its lists are not too long for a count. -/
def fitE (e : En) : Prop := e.2.1.length ≤ 4294967295 ∧ e.2.2.1.length ≤ 4294967295 ∧ e.2.2.2.1.length ≤ 4294967295
def greatE (e : En) : Bool := decide (1100 < e.2.2.1.length) || (greatL e.2.1 || greatL e.2.2.2.1)
theorem greatE_tri (e : En) (h : fitE e) : PTri Tryz.prog 18 [env e] (.bool (greatE e)) := by
  obtain ⟨t, ls, ln, fs, tr⟩ := e
  obtain ⟨h1, h2, h3⟩ := h
  unfold env
  simp only at h1 h2 h3 ⊢
  refine PTri.any (Tri.of_wc Tryz.func18 rfl Tryz.results18 Tryz.ntmps18 (by simp) ?_)
  refine WC.seq_k fun K1 hK2 => ?_
  refine WC.region ?_
  refine wU (gBox rfl fun b3 hb3 => ?_)
  refine wU (gE rfl ?_)
  refine wOps.done ?_
  refine hK2 _ _ _ ?_
  clear hK2 K1
  refine WC.seq_k fun K4 hK5 => ?_
  refine WC.region ?_
  refine wU (gField tfld36_2 tsz9 rfl ?_)
  refine wU (gLoad tagg9 rfl (by simp only [hget, ↓reduceIte] <;> rfl) rfl ?_)
  refine wU (gLen rfl rfl tisstr9 ?_)
  refine wU (gE rfl ?_)
  refine wU (gE rfl ?_)
  refine wG rfl rfl rfl rfl (by decide) (fun c6 => ?_) (fun c6 => ?_)
  · skip
    refine gField tfld36_1 tsz22 rfl ?_
    refine wY rfl (gLoad tagg22 rfl (by simp only [hget, ↓reduceIte] <;> rfl) rfl ?_)
    refine wY rfl (gPure rfl isGo8 (great_tri ls h1) ?_)
    refine wU (gE rfl ?_)
    refine wU (gE rfl ?_)
    refine wG rfl rfl rfl rfl (by decide) (fun c7 => ?_) (fun c7 => ?_)
    · skip
      refine gField tfld36_3 tsz22 rfl ?_
      refine wY rfl (gLoad tagg22 rfl (by simp only [hget, ↓reduceIte] <;> rfl) rfl ?_)
      refine wY rfl (gPure rfl isGo8 (great_tri fs h3) ?_)
      refine wU (gE rfl ?_)
      refine wU (gE rfl ?_)
      refine wOps.done ?_
      refine hK5 _ _ _ ?_
      clear hK5 K4
      refine WC.ret ?_
      exact ⟨_, rfl, congrArg V.bool (by simp_all [greatE] <;> omega)⟩
    · skip
      refine wN rfl ?_
      refine wN rfl ?_
      refine wU (gE rfl ?_)
      refine wU (gE rfl ?_)
      refine wOps.done ?_
      refine hK5 _ _ _ ?_
      clear hK5 K4
      refine WC.ret ?_
      exact ⟨_, rfl, congrArg V.bool (by simp_all [greatE] <;> omega)⟩
  · skip
    refine wN rfl ?_
    refine wN rfl ?_
    refine wU (gE rfl ?_)
    refine wU (gE rfl ?_)
    refine wN rfl ?_
    refine wN rfl ?_
    refine wN rfl ?_
    refine wU (gE rfl ?_)
    refine wU (gE rfl ?_)
    refine wOps.done ?_
    refine hK5 _ _ _ ?_
    clear hK5 K4
    refine WC.ret ?_
    exact ⟨_, rfl, congrArg V.bool (by simp_all [greatE] <;> omega)⟩
theorem cmpE_tri (a b : En) (ha : fitE a) : PTri Tryz.prog 19 [env a, env b] (.int .i64 (cmpE a b)) := by
  obtain ⟨t, ls, ln, fs, tr⟩ := a
  obtain ⟨t', ls', ln', fs', tr'⟩ := b
  obtain ⟨h1, h2, h3⟩ := ha
  unfold env
  simp only at h1 h2 h3 ⊢
  refine PTri.any (Tri.of_wc Tryz.func19 rfl Tryz.results19 Tryz.ntmps19 (by simp) ?_)
  refine WC.seq_k fun K1 hK2 => ?_
  refine WC.region ?_
  refine wU (gBox rfl fun b3 hb3 => ?_)
  refine wU (gBox rfl fun b4 hb4 => ?_)
  simp only [Hp.ns_cons, Hp.ns_nil, List.mem_cons, List.not_mem_nil, or_false, not_or] at hb4
  refine wU (gE rfl ?_)
  refine wOps.done ?_
  refine hK2 _ _ _ ?_
  clear hK2 K1
  refine WC.seq_k fun K5 hK6 => ?_
  refine WC.seq_k fun K7 hK8 => ?_
  refine WC.region ?_
  refine wU (gField tfld36_0 tsz3 rfl ?_)
  refine wU (gLoad tagg3 rfl (by simp only [hget, hb4, ↓reduceIte] <;> rfl) rfl ?_)
  refine wU (gField tfld36_0 tsz3 rfl ?_)
  refine wU (gLoad tagg3 rfl (by simp only [hget, hb4, ↓reduceIte] <;> rfl) rfl ?_)
  refine wU (gPure rfl isGo55 (cmpI_tri _ _) ?_)
  refine wU (gE rfl ?_)
  refine wOps.done ?_
  refine hK8 _ _ _ ?_
  clear hK8 K7
  refine WC.seq_k fun K9 hK10 => ?_
  refine WC.region ?_
  refine wU (gE rfl ?_)
  refine wU (gE rfl ?_)
  refine wOps.done ?_
  refine hK10 _ _ _ ?_
  clear hK10 K9
  refine WC.cond rfl (fun c11 => ?_) (fun c11 => ?_)
  · skip
    refine WC.seq_k fun K12 hK13 => ?_
    refine WC.region ?_
    refine wU (gE rfl ?_)
    refine wU (gE rfl ?_)
    refine wOps.done ?_
    refine hK13 _ _ _ ?_
    clear hK13 K12
    refine WC.ret ?_
    exact ⟨_, rfl, congrArg (V.int .i64) (by unfold cmpE; simp only; rw [lexI_pos (by simpa using c11)])⟩
  · skip
    refine WC.skip ?_
    refine hK6 _ _ _ ?_
    clear hK6 K5
    refine WC.seq_k fun K14 hK15 => ?_
    refine WC.seq_k fun K16 hK17 => ?_
    refine WC.region ?_
    refine wU (gField tfld36_1 tsz22 rfl ?_)
    refine wU (gLoad tagg22 rfl (by simp only [hget, hb4, ↓reduceIte] <;> rfl) rfl ?_)
    refine wU (gField tfld36_1 tsz22 rfl ?_)
    refine wU (gLoad tagg22 rfl (by simp only [hget, hb4, ↓reduceIte] <;> rfl) rfl ?_)
    refine wU (gPure rfl isGo56 (cmpLs_tri ls ls' h1) ?_)
    refine wU (gE rfl ?_)
    refine wOps.done ?_
    refine hK17 _ _ _ ?_
    clear hK17 K16
    refine WC.seq_k fun K18 hK19 => ?_
    refine WC.region ?_
    refine wU (gE rfl ?_)
    refine wU (gE rfl ?_)
    refine wOps.done ?_
    refine hK19 _ _ _ ?_
    clear hK19 K18
    refine WC.cond rfl (fun c20 => ?_) (fun c20 => ?_)
    · skip
      refine WC.seq_k fun K21 hK22 => ?_
      refine WC.region ?_
      refine wU (gE rfl ?_)
      refine wU (gE rfl ?_)
      refine wOps.done ?_
      refine hK22 _ _ _ ?_
      clear hK22 K21
      refine WC.ret ?_
      exact ⟨_, rfl, congrArg (V.int .i64) (by unfold cmpE; simp only; rw [lexI_zero (by simpa using c11), lexI_pos (by simpa using c20)])⟩
    · skip
      refine WC.skip ?_
      refine hK15 _ _ _ ?_
      clear hK15 K14
      refine WC.seq_k fun K23 hK24 => ?_
      refine WC.seq_k fun K25 hK26 => ?_
      refine WC.region ?_
      refine wU (gField tfld36_2 tsz9 rfl ?_)
      refine wU (gLoad tagg9 rfl (by simp only [hget, hb4, ↓reduceIte] <;> rfl) rfl ?_)
      refine wU (gField tfld36_2 tsz9 rfl ?_)
      refine wU (gLoad tagg9 rfl (by simp only [hget, hb4, ↓reduceIte] <;> rfl) rfl ?_)
      refine wU (gPure rfl isGo36 (cmpB_tri _ _) ?_)
      refine wU (gE rfl ?_)
      refine wOps.done ?_
      refine hK26 _ _ _ ?_
      clear hK26 K25
      refine WC.seq_k fun K27 hK28 => ?_
      refine WC.region ?_
      refine wU (gE rfl ?_)
      refine wU (gE rfl ?_)
      refine wOps.done ?_
      refine hK28 _ _ _ ?_
      clear hK28 K27
      refine WC.cond rfl (fun c29 => ?_) (fun c29 => ?_)
      · skip
        refine WC.seq_k fun K30 hK31 => ?_
        refine WC.region ?_
        refine wU (gE rfl ?_)
        refine wU (gE rfl ?_)
        refine wOps.done ?_
        refine hK31 _ _ _ ?_
        clear hK31 K30
        refine WC.ret ?_
        exact ⟨_, rfl, congrArg (V.int .i64) (by unfold cmpE; simp only; rw [lexI_zero (by simpa using c11), lexI_zero (by simpa using c20), lexI_pos (by simpa using c29)])⟩
      · skip
        refine WC.skip ?_
        refine hK24 _ _ _ ?_
        clear hK24 K23
        refine WC.seq_k fun K32 hK33 => ?_
        refine WC.seq_k fun K34 hK35 => ?_
        refine WC.region ?_
        refine wU (gField tfld36_3 tsz22 rfl ?_)
        refine wU (gLoad tagg22 rfl (by simp only [hget, hb4, ↓reduceIte] <;> rfl) rfl ?_)
        refine wU (gField tfld36_3 tsz22 rfl ?_)
        refine wU (gLoad tagg22 rfl (by simp only [hget, hb4, ↓reduceIte] <;> rfl) rfl ?_)
        refine wU (gPure rfl isGo56 (cmpLs_tri fs fs' h3) ?_)
        refine wU (gE rfl ?_)
        refine wOps.done ?_
        refine hK35 _ _ _ ?_
        clear hK35 K34
        refine WC.seq_k fun K36 hK37 => ?_
        refine WC.region ?_
        refine wU (gE rfl ?_)
        refine wU (gE rfl ?_)
        refine wOps.done ?_
        refine hK37 _ _ _ ?_
        clear hK37 K36
        refine WC.cond rfl (fun c38 => ?_) (fun c38 => ?_)
        · skip
          refine WC.seq_k fun K39 hK40 => ?_
          refine WC.region ?_
          refine wU (gE rfl ?_)
          refine wU (gE rfl ?_)
          refine wOps.done ?_
          refine hK40 _ _ _ ?_
          clear hK40 K39
          refine WC.ret ?_
          exact ⟨_, rfl, congrArg (V.int .i64) (by unfold cmpE; simp only; rw [lexI_zero (by simpa using c11), lexI_zero (by simpa using c20), lexI_zero (by simpa using c29), lexI_pos (by simpa using c38)])⟩
        · skip
          refine WC.skip ?_
          refine hK33 _ _ _ ?_
          clear hK33 K32
          refine WC.seq_k fun K41 hK42 => ?_
          skip
          refine WC.region ?_
          refine wU (gField tfld36_4 tsz3 rfl ?_)
          refine wU (gLoad tagg3 rfl (by simp only [hget, hb4, ↓reduceIte] <;> rfl) rfl ?_)
          refine wU (gField tfld36_4 tsz3 rfl ?_)
          refine wU (gLoad tagg3 rfl (by simp only [hget, hb4, ↓reduceIte] <;> rfl) rfl ?_)
          refine wU (gPure rfl isGo55 (cmpI_tri _ _) ?_)
          refine wU (gE rfl ?_)
          refine wOps.done ?_
          refine hK42 _ _ _ ?_
          clear hK42 K41
          refine WC.ret ?_
          exact ⟨_, rfl, congrArg (V.int .i64) (by unfold cmpE; simp only; rw [lexI_zero (by simpa using c11), lexI_zero (by simpa using c20), lexI_zero (by simpa using c29), lexI_zero (by simpa using c38)])⟩
def eqE (a b : En) : Bool := (a.1 == b.1) && (a.2.1 == b.2.1 && (a.2.2.1 == b.2.2.1 && (a.2.2.2.1 == b.2.2.2.1 && (a.2.2.2.2 == b.2.2.2.2))))
theorem eqE_iff (a b : En) : eqE a b = true ↔ a = b := by
  obtain ⟨t, ls, ln, fs, tr⟩ := a
  obtain ⟨t', ls', ln', fs', tr'⟩ := b
  simp [eqE]
theorem eqE_tri (a b : En) (ha : fitE a) : PTri Tryz.prog 20 [env a, env b] (.bool (eqE a b)) := by
  obtain ⟨t, ls, ln, fs, tr⟩ := a
  obtain ⟨t', ls', ln', fs', tr'⟩ := b
  obtain ⟨h1, h2, h3⟩ := ha
  unfold env
  simp only at h1 h2 h3 ⊢
  refine PTri.any (Tri.of_wc Tryz.func20 rfl Tryz.results20 Tryz.ntmps20 (by simp) ?_)
  refine WC.seq_k fun K1 hK2 => ?_
  refine WC.region ?_
  refine wU (gBox rfl fun b3 hb3 => ?_)
  refine wU (gBox rfl fun b4 hb4 => ?_)
  simp only [Hp.ns_cons, Hp.ns_nil, List.mem_cons, List.not_mem_nil, or_false, not_or] at hb4
  refine wU (gE rfl ?_)
  refine wOps.done ?_
  refine hK2 _ _ _ ?_
  clear hK2 K1
  refine WC.seq_k fun K5 hK6 => ?_
  refine WC.region ?_
  refine wU (gField tfld36_0 tsz3 rfl ?_)
  refine wU (gLoad tagg3 rfl (by simp only [hget, hb4, ↓reduceIte] <;> rfl) rfl ?_)
  refine wU (gField tfld36_0 tsz3 rfl ?_)
  refine wU (gLoad tagg3 rfl (by simp only [hget, hb4, ↓reduceIte] <;> rfl) rfl ?_)
  refine wU (gE rfl ?_)
  refine wU (gE rfl ?_)
  refine wG rfl rfl rfl rfl (by decide) (fun c7 => ?_) (fun c7 => ?_)
  · skip
    refine gField tfld36_1 tsz22 rfl ?_
    refine wY rfl (gLoad tagg22 rfl (by simp only [hget, hb4, ↓reduceIte] <;> rfl) rfl ?_)
    refine wY rfl (gField tfld36_1 tsz22 rfl ?_)
    refine wY rfl (gLoad tagg22 rfl (by simp only [hget, hb4, ↓reduceIte] <;> rfl) rfl ?_)
    refine wY rfl (gPure rfl isGo57 (eqLs_tri ls ls' h1) ?_)
    refine wU (gE rfl ?_)
    refine wU (gE rfl ?_)
    refine wG rfl rfl rfl rfl (by decide) (fun c8 => ?_) (fun c8 => ?_)
    · skip
      refine gField tfld36_2 tsz9 rfl ?_
      refine wY rfl (gLoad tagg9 rfl (by simp only [hget, hb4, ↓reduceIte] <;> rfl) rfl ?_)
      refine wY rfl (gField tfld36_2 tsz9 rfl ?_)
      refine wY rfl (gLoad tagg9 rfl (by simp only [hget, hb4, ↓reduceIte] <;> rfl) rfl ?_)
      refine wY rfl (gE rfl ?_)
      refine wU (gE rfl ?_)
      refine wU (gE rfl ?_)
      refine wG rfl rfl rfl rfl (by decide) (fun c9 => ?_) (fun c9 => ?_)
      · skip
        refine gField tfld36_3 tsz22 rfl ?_
        refine wY rfl (gLoad tagg22 rfl (by simp only [hget, hb4, ↓reduceIte] <;> rfl) rfl ?_)
        refine wY rfl (gField tfld36_3 tsz22 rfl ?_)
        refine wY rfl (gLoad tagg22 rfl (by simp only [hget, hb4, ↓reduceIte] <;> rfl) rfl ?_)
        refine wY rfl (gPure rfl isGo57 (eqLs_tri fs fs' h3) ?_)
        refine wU (gE rfl ?_)
        refine wU (gE rfl ?_)
        refine wG rfl rfl rfl rfl (by decide) (fun c10 => ?_) (fun c10 => ?_)
        · skip
          refine gField tfld36_4 tsz3 rfl ?_
          refine wY rfl (gLoad tagg3 rfl (by simp only [hget, hb4, ↓reduceIte] <;> rfl) rfl ?_)
          refine wY rfl (gField tfld36_4 tsz3 rfl ?_)
          refine wY rfl (gLoad tagg3 rfl (by simp only [hget, hb4, ↓reduceIte] <;> rfl) rfl ?_)
          refine wY rfl (gE rfl ?_)
          refine wU (gE rfl ?_)
          refine wU (gE rfl ?_)
          refine wOps.done ?_
          refine hK6 _ _ _ ?_
          clear hK6 K5
          refine WC.ret ?_
          exact ⟨_, rfl, congrArg V.bool (by simp_all [eqE])⟩
        · skip
          refine wN rfl ?_
          refine wN rfl ?_
          refine wN rfl ?_
          refine wN rfl ?_
          refine wU (gE rfl ?_)
          refine wU (gE rfl ?_)
          refine wOps.done ?_
          refine hK6 _ _ _ ?_
          clear hK6 K5
          refine WC.ret ?_
          exact ⟨_, rfl, congrArg V.bool (by simp_all [eqE])⟩
      · skip
        refine wN rfl ?_
        refine wN rfl ?_
        refine wN rfl ?_
        refine wN rfl ?_
        refine wU (gE rfl ?_)
        refine wU (gE rfl ?_)
        refine wN rfl ?_
        refine wN rfl ?_
        refine wN rfl ?_
        refine wN rfl ?_
        refine wN rfl ?_
        refine wU (gE rfl ?_)
        refine wU (gE rfl ?_)
        refine wOps.done ?_
        refine hK6 _ _ _ ?_
        clear hK6 K5
        refine WC.ret ?_
        exact ⟨_, rfl, congrArg V.bool (by simp_all [eqE])⟩
    · skip
      refine wN rfl ?_
      refine wN rfl ?_
      refine wN rfl ?_
      refine wN rfl ?_
      refine wU (gE rfl ?_)
      refine wU (gE rfl ?_)
      refine wN rfl ?_
      refine wN rfl ?_
      refine wN rfl ?_
      refine wN rfl ?_
      refine wN rfl ?_
      refine wU (gE rfl ?_)
      refine wU (gE rfl ?_)
      refine wN rfl ?_
      refine wN rfl ?_
      refine wN rfl ?_
      refine wN rfl ?_
      refine wN rfl ?_
      refine wU (gE rfl ?_)
      refine wU (gE rfl ?_)
      refine wOps.done ?_
      refine hK6 _ _ _ ?_
      clear hK6 K5
      refine WC.ret ?_
      exact ⟨_, rfl, congrArg V.bool (by simp_all [eqE])⟩
  · skip
    refine wN rfl ?_
    refine wN rfl ?_
    refine wN rfl ?_
    refine wN rfl ?_
    refine wU (gE rfl ?_)
    refine wU (gE rfl ?_)
    refine wN rfl ?_
    refine wN rfl ?_
    refine wN rfl ?_
    refine wN rfl ?_
    refine wN rfl ?_
    refine wU (gE rfl ?_)
    refine wU (gE rfl ?_)
    refine wN rfl ?_
    refine wN rfl ?_
    refine wN rfl ?_
    refine wN rfl ?_
    refine wN rfl ?_
    refine wU (gE rfl ?_)
    refine wU (gE rfl ?_)
    refine wN rfl ?_
    refine wN rfl ?_
    refine wN rfl ?_
    refine wN rfl ?_
    refine wN rfl ?_
    refine wU (gE rfl ?_)
    refine wU (gE rfl ?_)
    refine wOps.done ?_
    refine hK6 _ _ _ ?_
    clear hK6 K5
    refine WC.ret ?_
    exact ⟨_, rfl, congrArg V.bool (by simp_all [eqE])⟩
theorem negI {x : Int} (h : -1 ≤ x ∧ x ≤ 1) : evUn .neg (.int .i64 x) = some (.int .i64 (-x)) := by
  have e : x = -1 ∨ x = 0 ∨ x = 1 := by omega
  rcases e with rfl | rfl | rfl <;> rfl
theorem lawOrder_tri (hG : GInt) (a b c : En) (ha : fitE a) (hb : fitE b) (hc : fitE c) : PTri Tryz.prog 4 [env a, env b, env c] (.bool true) := by
  have hga := greatE_tri a ha
  have hgb := greatE_tri b hb
  have hgc := greatE_tri c hc
  have hab := cmpE_tri a b ha
  have hbc := cmpE_tri b c hb
  have hac := cmpE_tri a c ha
  have hba := cmpE_tri b a hb
  have heq := eqE_tri a b ha
  rw [ordE.anti a b] at hba
  have hrg := ordE.range a b
  have hz : (cmpE a b == 0) = eqE a b := by rw [Bool.eq_iff_iff, eqE_iff, beq_iff_eq]; exact ordE.zero a b
  have hq : decide (cmpE a b = 0) = eqE a b := by rw [← hz, Bool.eq_iff_iff]; simp
  have htr := ordE.tr a b c
  have hst := fun h1 h2 => ordE.strict (a := a) (b := b) (d := c) h1 h2
  have htm := fun h => cmpE_time (a := a) (b := b) h
  generalize cmpE a b = x at *
  generalize cmpE b c = y at *
  generalize cmpE a c = z at *
  generalize eqE a b = q at *
  obtain ⟨t, ls, ln, fs, tr⟩ := a
  obtain ⟨t', ls', ln', fs', tr'⟩ := b
  obtain ⟨t2, ls2, ln2, fs2, tr2⟩ := c
  unfold env at *
  simp only at *
  refine PTri.any (Tri.of_wc Tryz.func4 rfl Tryz.results4 Tryz.ntmps4 (by simp) ?_)
  refine WC.seq_k fun K1 hK2 => ?_
  refine WC.region ?_
  refine wU (gBox rfl fun b3 hb3 => ?_)
  refine wU (gBox rfl fun b4 hb4 => ?_)
  simp only [Hp.ns_cons, Hp.ns_nil, List.mem_cons, List.not_mem_nil, or_false, not_or] at hb4
  refine wU (gBox rfl fun b5 hb5 => ?_)
  simp only [Hp.ns_cons, Hp.ns_nil, List.mem_cons, List.not_mem_nil, or_false, not_or] at hb5
  refine wU (gE rfl ?_)
  refine wOps.done ?_
  refine hK2 _ _ _ ?_
  clear hK2 K1
  refine WC.seq_k fun K6 hK7 => ?_
  refine WC.seq_k fun K8 hK9 => ?_
  simp only [vcells, List.length_cons, List.length_nil]
  refine WC.region ?_
  refine wU (gLoadA tagg36 tsz36 rfl (by simp only [hget, hb4, hb5, ↓reduceIte] <;> rfl) (by simp [putL]) rfl ?_)
  refine wU (gPure rfl isGo18 hga ?_)
  refine wU (gE rfl ?_)
  refine wG rfl rfl rfl rfl (by decide) (fun c10 => ?_) (fun c10 => ?_)
  · skip
    refine gLoadA tagg36 tsz36 rfl (by simp only [hget, hb4, hb5, ↓reduceIte] <;> rfl) (by simp [putL]) rfl ?_
    refine wY rfl (gPure rfl isGo18 hgb ?_)
    refine wU (gE rfl ?_)
    refine wU (gE rfl ?_)
    refine wG rfl rfl rfl rfl (by decide) (fun c11 => ?_) (fun c11 => ?_)
    · skip
      refine gLoadA tagg36 tsz36 rfl (by simp only [hget, hb4, hb5, ↓reduceIte] <;> rfl) (by simp [putL]) rfl ?_
      refine wY rfl (gPure rfl isGo18 hgc ?_)
      refine wU (gE rfl ?_)
      refine wOps.done ?_
      refine hK9 _ _ _ ?_
      clear hK9 K8
      refine WC.cond rfl (fun c12 => ?_) (fun c12 => ?_)
      · skip
        refine WC.seq_k fun K13 hK14 => ?_
        refine WC.region ?_
        refine wU (gPure rfl isGo9 (awake_tri hG) ?_)
        refine wU (gE rfl ?_)
        refine wOps.done ?_
        refine hK14 _ _ _ ?_
        clear hK14 K13
        refine WC.ret ?_
        exact ⟨_, rfl, rfl⟩
      · skip
        refine WC.skip ?_
        refine hK7 _ _ _ ?_
        clear hK7 K6
        refine WC.seq_k fun K15 hK16 => ?_
        refine WC.region_draw mixed ?_
        refine wA.ld 0 rfl rfl rfl (fun _ hle _ hK => gLoadA tagg36 tsz36 rfl (hle _ _ (by simp only [hget, hb4, hb5, ↓reduceIte] <;> rfl)) (by simp [putL]) rfl hK) (by kernel_rfl) ?_
        refine wA.ld 1 rfl rfl rfl (fun _ hle _ hK => gLoadA tagg36 tsz36 rfl (hle _ _ (by simp only [hget, hb4, hb5, ↓reduceIte] <;> rfl)) (by simp [putL]) rfl hK) (by kernel_rfl) ?_
        refine wA.val 2 rfl rfl rfl (fun _ _ hK => by refine gPure rfl isGo19 hab ?_; exact hK) (by kernel_rfl) ?_
        refine wA.ld 3 rfl rfl rfl (fun _ hle _ hK => gLoadA tagg36 tsz36 rfl (hle _ _ (by simp only [hget, hb4, hb5, ↓reduceIte] <;> rfl)) (by simp [putL]) rfl hK) (by kernel_rfl) ?_
        refine wA.ld 4 rfl rfl rfl (fun _ hle _ hK => gLoadA tagg36 tsz36 rfl (hle _ _ (by simp only [hget, hb4, hb5, ↓reduceIte] <;> rfl)) (by simp [putL]) rfl hK) (by kernel_rfl) ?_
        refine wA.val 5 rfl rfl rfl (fun _ _ hK => by refine gPure rfl isGo19 hbc ?_; exact hK) (by kernel_rfl) ?_
        refine wA.ld 6 rfl rfl rfl (fun _ hle _ hK => gLoadA tagg36 tsz36 rfl (hle _ _ (by simp only [hget, hb4, hb5, ↓reduceIte] <;> rfl)) (by simp [putL]) rfl hK) (by kernel_rfl) ?_
        refine wA.ld 7 rfl rfl rfl (fun _ hle _ hK => gLoadA tagg36 tsz36 rfl (hle _ _ (by simp only [hget, hb4, hb5, ↓reduceIte] <;> rfl)) (by simp [putL]) rfl hK) (by kernel_rfl) ?_
        refine wA.val 8 rfl rfl rfl (fun _ _ hK => by refine gPure rfl isGo19 hac ?_; exact hK) (by kernel_rfl) ?_
        refine wA.val 9 rfl rfl rfl (fun _ _ hK => gE rfl hK) (by kernel_rfl) ?_
        refine wA.val 10 rfl rfl rfl (fun _ _ hK => gE rfl hK) (by kernel_rfl) ?_
        refine wA.val 11 rfl rfl rfl (fun _ _ hK => gE rfl hK) (by kernel_rfl) ?_
        refine wA.done (by kernel_rfl) ?_
        refine hK16 _ _ _ ?_
        clear hK16 K15
        refine WC.seq_k fun K17 hK18 => ?_
        refine WC.seq_k fun K19 hK20 => ?_
        refine WC.region ?_
        refine wU (gE rfl ?_)
        refine wU (gE (v := .bool false) (show some (V.bool (decide (x < -1))) = some (V.bool false) by simp; omega) ?_)
        refine wU (gE rfl ?_)
        refine wY rfl (gE rfl ?_)
        refine wY rfl (gE (v := .bool false) (show some (V.bool (decide (1 < x))) = some (V.bool false) by simp; omega) ?_)
        refine wU (gE rfl ?_)
        refine wU (gE rfl ?_)
        refine wY rfl (gLoadA tagg36 tsz36 rfl (by simp only [hget, hb4, hb5, ↓reduceIte] <;> rfl) (by simp [putL]) rfl ?_)
        refine wY rfl (gLoadA tagg36 tsz36 rfl (by simp only [hget, hb4, hb5, ↓reduceIte] <;> rfl) (by simp [putL]) rfl ?_)
        refine wY rfl (gPure rfl isGo19 hba ?_)
        refine wY rfl (gE rfl ?_)
        refine wY rfl (gE (negI hrg) ?_)
        refine wY rfl (gE (v := .bool false) (show some (V.bool (!decide (-x = -x))) = some (V.bool false) by simp) ?_)
        refine wU (gE rfl ?_)
        refine wU (gE rfl ?_)
        refine wY rfl (gE rfl ?_)
        refine wY rfl (gE rfl ?_)
        refine wY rfl (gLoadA tagg36 tsz36 rfl (by simp only [hget, hb4, hb5, ↓reduceIte] <;> rfl) (by simp [putL]) rfl ?_)
        refine wY rfl (gLoadA tagg36 tsz36 rfl (by simp only [hget, hb4, hb5, ↓reduceIte] <;> rfl) (by simp [putL]) rfl ?_)
        refine wY rfl (gPure rfl isGo20 heq ?_)
        refine wY rfl (gE (v := .bool false) (show some (V.bool (!(decide (x = 0) == q))) = some (V.bool false) by rw [hq]; simp) ?_)
        refine wU (gE rfl ?_)
        refine wOps.done ?_
        refine hK20 _ _ _ ?_
        clear hK20 K19
        first | refine WC.cond (b := false) rfl (fun hh => by simp at hh) (fun _ => ?_) | refine WC.cond rfl (fun hh => by simp_all) (fun _ => ?_)
        refine WC.skip ?_
        refine hK18 _ _ _ ?_
        clear hK18 K17
        refine WC.seq_k fun K21 hK22 => ?_
        refine WC.region ?_
        refine wU (gE rfl ?_)
        refine wU (gE rfl ?_)
        refine wU (gE rfl ?_)
        refine wG rfl rfl rfl rfl (by decide) (fun c23 => ?_) (fun c23 => ?_)
        · skip
          refine gE rfl ?_
          refine wY rfl (gE rfl ?_)
          refine wU (gE rfl ?_)
          refine wU (gE rfl ?_)
          refine wG rfl rfl rfl rfl (by decide) (fun c24 => ?_) (fun c24 => ?_)
          · skip
            refine gE rfl ?_
            have hx0 : x ≤ 0 := by have := of_decide_eq_false c23; omega
            have hy0 : y ≤ 0 := by have := of_decide_eq_false c24; omega
            refine wY rfl (gE (v := .bool true) (show some (V.bool (decide (z ≤ 0))) = some (V.bool true) by simp; exact htr hx0 hy0) ?_)
            refine wU (gE rfl ?_)
            refine wU (gE rfl ?_)
            refine wY rfl (gE rfl ?_)
            refine wY rfl (gE rfl ?_)
            refine wY rfl (gE rfl ?_)
            refine wG rfl rfl rfl rfl (by decide) (fun c25 => ?_) (fun c25 => ?_)
            · skip
              refine gE rfl ?_
              refine wY rfl (gE rfl ?_)
              refine wY rfl (gE rfl ?_)
              refine wY rfl (gE rfl ?_)
              refine wG rfl rfl rfl rfl (by decide) (fun c26 => ?_) (fun c26 => ?_)
              · skip
                refine gE rfl ?_
                have hx1 : x < 0 := by have := of_decide_eq_false c25; omega
                have hy1 : y ≤ 0 := by have := of_decide_eq_false c26; omega
                refine wY rfl (gE (v := .bool true) (show some (V.bool (decide (z < 0))) = some (V.bool true) by simp; exact hst (by omega) hy1 (.inl hx1)) ?_)
                refine wY rfl (gE rfl ?_)
                refine wU (gE rfl ?_)
                refine wU (gE rfl ?_)
                refine wY rfl (gField tfld36_0 tsz3 rfl ?_)
                refine wY rfl (gLoad tagg3 rfl (by simp only [hget, hb4, hb5, ↓reduceIte] <;> rfl) rfl ?_)
                refine wY rfl (gField tfld36_0 tsz3 rfl ?_)
                refine wY rfl (gLoad tagg3 rfl (by simp only [hget, hb4, hb5, ↓reduceIte] <;> rfl) rfl ?_)
                refine wY rfl (gE rfl ?_)
                refine wY rfl (gE rfl ?_)
                refine wG rfl rfl rfl rfl (by decide) (fun c27 => ?_) (fun c27 => ?_)
                · skip
                  refine gE rfl ?_
                  have ht : t < t' := by have := of_decide_eq_false c27; omega
                  refine wY rfl (gE (v := .bool true) (show some (V.bool (decide (x < 0))) = some (V.bool true) by simp; exact htm ht) ?_)
                  refine wY rfl (gE rfl ?_)
                  refine wU (gE rfl ?_)
                  refine wU (gE rfl ?_)
                  refine wY rfl (gPure rfl isGo9 (awake_tri hG) ?_)
                  refine wU (gE rfl ?_)
                  refine wU (gE rfl ?_)
                  refine wOps.done ?_
                  refine hK22 _ _ _ ?_
                  clear hK22 K21
                  refine WC.ret ?_
                  exact ⟨_, rfl, rfl⟩
                · skip
                  refine wN rfl ?_
                  refine wY rfl (gE rfl ?_)
                  refine wU (gE rfl ?_)
                  refine wU (gE rfl ?_)
                  refine wY rfl (gPure rfl isGo9 (awake_tri hG) ?_)
                  refine wU (gE rfl ?_)
                  refine wU (gE rfl ?_)
                  refine wOps.done ?_
                  refine hK22 _ _ _ ?_
                  clear hK22 K21
                  refine WC.ret ?_
                  exact ⟨_, rfl, rfl⟩
              · skip
                refine wN rfl ?_
                refine wY rfl (gE rfl ?_)
                refine wU (gE rfl ?_)
                refine wU (gE rfl ?_)
                refine wY rfl (gField tfld36_0 tsz3 rfl ?_)
                refine wY rfl (gLoad tagg3 rfl (by simp only [hget, hb4, hb5, ↓reduceIte] <;> rfl) rfl ?_)
                refine wY rfl (gField tfld36_0 tsz3 rfl ?_)
                refine wY rfl (gLoad tagg3 rfl (by simp only [hget, hb4, hb5, ↓reduceIte] <;> rfl) rfl ?_)
                refine wY rfl (gE rfl ?_)
                refine wY rfl (gE rfl ?_)
                refine wG rfl rfl rfl rfl (by decide) (fun c28 => ?_) (fun c28 => ?_)
                · skip
                  refine gE rfl ?_
                  have ht : t < t' := by have := of_decide_eq_false c28; omega
                  refine wY rfl (gE (v := .bool true) (show some (V.bool (decide (x < 0))) = some (V.bool true) by simp; exact htm ht) ?_)
                  refine wY rfl (gE rfl ?_)
                  refine wU (gE rfl ?_)
                  refine wU (gE rfl ?_)
                  refine wY rfl (gPure rfl isGo9 (awake_tri hG) ?_)
                  refine wU (gE rfl ?_)
                  refine wU (gE rfl ?_)
                  refine wOps.done ?_
                  refine hK22 _ _ _ ?_
                  clear hK22 K21
                  refine WC.ret ?_
                  exact ⟨_, rfl, rfl⟩
                · skip
                  refine wN rfl ?_
                  refine wY rfl (gE rfl ?_)
                  refine wU (gE rfl ?_)
                  refine wU (gE rfl ?_)
                  refine wY rfl (gPure rfl isGo9 (awake_tri hG) ?_)
                  refine wU (gE rfl ?_)
                  refine wU (gE rfl ?_)
                  refine wOps.done ?_
                  refine hK22 _ _ _ ?_
                  clear hK22 K21
                  refine WC.ret ?_
                  exact ⟨_, rfl, rfl⟩
            · skip
              refine wN rfl ?_
              refine wY rfl (gE rfl ?_)
              refine wY rfl (gE rfl ?_)
              refine wN rfl ?_
              refine wN rfl ?_
              refine wY rfl (gE rfl ?_)
              refine wU (gE rfl ?_)
              refine wU (gE rfl ?_)
              refine wY rfl (gField tfld36_0 tsz3 rfl ?_)
              refine wY rfl (gLoad tagg3 rfl (by simp only [hget, hb4, hb5, ↓reduceIte] <;> rfl) rfl ?_)
              refine wY rfl (gField tfld36_0 tsz3 rfl ?_)
              refine wY rfl (gLoad tagg3 rfl (by simp only [hget, hb4, hb5, ↓reduceIte] <;> rfl) rfl ?_)
              refine wY rfl (gE rfl ?_)
              refine wY rfl (gE rfl ?_)
              refine wG rfl rfl rfl rfl (by decide) (fun c29 => ?_) (fun c29 => ?_)
              · skip
                refine gE rfl ?_
                have ht : t < t' := by have := of_decide_eq_false c29; omega
                refine wY rfl (gE (v := .bool true) (show some (V.bool (decide (x < 0))) = some (V.bool true) by simp; exact htm ht) ?_)
                refine wY rfl (gE rfl ?_)
                refine wU (gE rfl ?_)
                refine wU (gE rfl ?_)
                refine wY rfl (gPure rfl isGo9 (awake_tri hG) ?_)
                refine wU (gE rfl ?_)
                refine wU (gE rfl ?_)
                refine wOps.done ?_
                refine hK22 _ _ _ ?_
                clear hK22 K21
                refine WC.ret ?_
                exact ⟨_, rfl, rfl⟩
              · skip
                refine wN rfl ?_
                refine wY rfl (gE rfl ?_)
                refine wU (gE rfl ?_)
                refine wU (gE rfl ?_)
                refine wY rfl (gPure rfl isGo9 (awake_tri hG) ?_)
                refine wU (gE rfl ?_)
                refine wU (gE rfl ?_)
                refine wOps.done ?_
                refine hK22 _ _ _ ?_
                clear hK22 K21
                refine WC.ret ?_
                exact ⟨_, rfl, rfl⟩
          · skip
            refine wN rfl ?_
            refine wU (gE rfl ?_)
            refine wU (gE rfl ?_)
            refine wY rfl (gE rfl ?_)
            refine wY rfl (gE rfl ?_)
            refine wY rfl (gE rfl ?_)
            refine wG rfl rfl rfl rfl (by decide) (fun c30 => ?_) (fun c30 => ?_)
            · skip
              refine gE rfl ?_
              refine wY rfl (gE rfl ?_)
              refine wY rfl (gE rfl ?_)
              refine wY rfl (gE rfl ?_)
              refine wG rfl rfl rfl rfl (by decide) (fun c31 => ?_) (fun c31 => ?_)
              · skip
                refine gE rfl ?_
                have hx1 : x < 0 := by have := of_decide_eq_false c30; omega
                have hy1 : y ≤ 0 := by have := of_decide_eq_false c31; omega
                refine wY rfl (gE (v := .bool true) (show some (V.bool (decide (z < 0))) = some (V.bool true) by simp; exact hst (by omega) hy1 (.inl hx1)) ?_)
                refine wY rfl (gE rfl ?_)
                refine wU (gE rfl ?_)
                refine wU (gE rfl ?_)
                refine wY rfl (gField tfld36_0 tsz3 rfl ?_)
                refine wY rfl (gLoad tagg3 rfl (by simp only [hget, hb4, hb5, ↓reduceIte] <;> rfl) rfl ?_)
                refine wY rfl (gField tfld36_0 tsz3 rfl ?_)
                refine wY rfl (gLoad tagg3 rfl (by simp only [hget, hb4, hb5, ↓reduceIte] <;> rfl) rfl ?_)
                refine wY rfl (gE rfl ?_)
                refine wY rfl (gE rfl ?_)
                refine wG rfl rfl rfl rfl (by decide) (fun c32 => ?_) (fun c32 => ?_)
                · skip
                  refine gE rfl ?_
                  have ht : t < t' := by have := of_decide_eq_false c32; omega
                  refine wY rfl (gE (v := .bool true) (show some (V.bool (decide (x < 0))) = some (V.bool true) by simp; exact htm ht) ?_)
                  refine wY rfl (gE rfl ?_)
                  refine wU (gE rfl ?_)
                  refine wU (gE rfl ?_)
                  refine wY rfl (gPure rfl isGo9 (awake_tri hG) ?_)
                  refine wU (gE rfl ?_)
                  refine wU (gE rfl ?_)
                  refine wOps.done ?_
                  refine hK22 _ _ _ ?_
                  clear hK22 K21
                  refine WC.ret ?_
                  exact ⟨_, rfl, rfl⟩
                · skip
                  refine wN rfl ?_
                  refine wY rfl (gE rfl ?_)
                  refine wU (gE rfl ?_)
                  refine wU (gE rfl ?_)
                  refine wY rfl (gPure rfl isGo9 (awake_tri hG) ?_)
                  refine wU (gE rfl ?_)
                  refine wU (gE rfl ?_)
                  refine wOps.done ?_
                  refine hK22 _ _ _ ?_
                  clear hK22 K21
                  refine WC.ret ?_
                  exact ⟨_, rfl, rfl⟩
              · skip
                refine wN rfl ?_
                refine wY rfl (gE rfl ?_)
                refine wU (gE rfl ?_)
                refine wU (gE rfl ?_)
                refine wY rfl (gField tfld36_0 tsz3 rfl ?_)
                refine wY rfl (gLoad tagg3 rfl (by simp only [hget, hb4, hb5, ↓reduceIte] <;> rfl) rfl ?_)
                refine wY rfl (gField tfld36_0 tsz3 rfl ?_)
                refine wY rfl (gLoad tagg3 rfl (by simp only [hget, hb4, hb5, ↓reduceIte] <;> rfl) rfl ?_)
                refine wY rfl (gE rfl ?_)
                refine wY rfl (gE rfl ?_)
                refine wG rfl rfl rfl rfl (by decide) (fun c33 => ?_) (fun c33 => ?_)
                · skip
                  refine gE rfl ?_
                  have ht : t < t' := by have := of_decide_eq_false c33; omega
                  refine wY rfl (gE (v := .bool true) (show some (V.bool (decide (x < 0))) = some (V.bool true) by simp; exact htm ht) ?_)
                  refine wY rfl (gE rfl ?_)
                  refine wU (gE rfl ?_)
                  refine wU (gE rfl ?_)
                  refine wY rfl (gPure rfl isGo9 (awake_tri hG) ?_)
                  refine wU (gE rfl ?_)
                  refine wU (gE rfl ?_)
                  refine wOps.done ?_
                  refine hK22 _ _ _ ?_
                  clear hK22 K21
                  refine WC.ret ?_
                  exact ⟨_, rfl, rfl⟩
                · skip
                  refine wN rfl ?_
                  refine wY rfl (gE rfl ?_)
                  refine wU (gE rfl ?_)
                  refine wU (gE rfl ?_)
                  refine wY rfl (gPure rfl isGo9 (awake_tri hG) ?_)
                  refine wU (gE rfl ?_)
                  refine wU (gE rfl ?_)
                  refine wOps.done ?_
                  refine hK22 _ _ _ ?_
                  clear hK22 K21
                  refine WC.ret ?_
                  exact ⟨_, rfl, rfl⟩
            · skip
              refine wN rfl ?_
              refine wY rfl (gE rfl ?_)
              refine wY rfl (gE rfl ?_)
              refine wN rfl ?_
              refine wN rfl ?_
              refine wY rfl (gE rfl ?_)
              refine wU (gE rfl ?_)
              refine wU (gE rfl ?_)
              refine wY rfl (gField tfld36_0 tsz3 rfl ?_)
              refine wY rfl (gLoad tagg3 rfl (by simp only [hget, hb4, hb5, ↓reduceIte] <;> rfl) rfl ?_)
              refine wY rfl (gField tfld36_0 tsz3 rfl ?_)
              refine wY rfl (gLoad tagg3 rfl (by simp only [hget, hb4, hb5, ↓reduceIte] <;> rfl) rfl ?_)
              refine wY rfl (gE rfl ?_)
              refine wY rfl (gE rfl ?_)
              refine wG rfl rfl rfl rfl (by decide) (fun c34 => ?_) (fun c34 => ?_)
              · skip
                refine gE rfl ?_
                have ht : t < t' := by have := of_decide_eq_false c34; omega
                refine wY rfl (gE (v := .bool true) (show some (V.bool (decide (x < 0))) = some (V.bool true) by simp; exact htm ht) ?_)
                refine wY rfl (gE rfl ?_)
                refine wU (gE rfl ?_)
                refine wU (gE rfl ?_)
                refine wY rfl (gPure rfl isGo9 (awake_tri hG) ?_)
                refine wU (gE rfl ?_)
                refine wU (gE rfl ?_)
                refine wOps.done ?_
                refine hK22 _ _ _ ?_
                clear hK22 K21
                refine WC.ret ?_
                exact ⟨_, rfl, rfl⟩
              · skip
                refine wN rfl ?_
                refine wY rfl (gE rfl ?_)
                refine wU (gE rfl ?_)
                refine wU (gE rfl ?_)
                refine wY rfl (gPure rfl isGo9 (awake_tri hG) ?_)
                refine wU (gE rfl ?_)
                refine wU (gE rfl ?_)
                refine wOps.done ?_
                refine hK22 _ _ _ ?_
                clear hK22 K21
                refine WC.ret ?_
                exact ⟨_, rfl, rfl⟩
        · skip
          refine wN rfl ?_
          refine wU (gE rfl ?_)
          refine wU (gE rfl ?_)
          refine wN rfl ?_
          refine wN rfl ?_
          refine wU (gE rfl ?_)
          refine wU (gE rfl ?_)
          refine wY rfl (gE rfl ?_)
          refine wY rfl (gE rfl ?_)
          refine wY rfl (gE rfl ?_)
          refine wG rfl rfl rfl rfl (by decide) (fun c35 => ?_) (fun c35 => ?_)
          · skip
            refine gE rfl ?_
            refine wY rfl (gE rfl ?_)
            refine wY rfl (gE rfl ?_)
            refine wY rfl (gE rfl ?_)
            refine wG rfl rfl rfl rfl (by decide) (fun c36 => ?_) (fun c36 => ?_)
            · skip
              refine gE rfl ?_
              have hx1 : x < 0 := by have := of_decide_eq_false c35; omega
              have hy1 : y ≤ 0 := by have := of_decide_eq_false c36; omega
              refine wY rfl (gE (v := .bool true) (show some (V.bool (decide (z < 0))) = some (V.bool true) by simp; exact hst (by omega) hy1 (.inl hx1)) ?_)
              refine wY rfl (gE rfl ?_)
              refine wU (gE rfl ?_)
              refine wU (gE rfl ?_)
              refine wY rfl (gField tfld36_0 tsz3 rfl ?_)
              refine wY rfl (gLoad tagg3 rfl (by simp only [hget, hb4, hb5, ↓reduceIte] <;> rfl) rfl ?_)
              refine wY rfl (gField tfld36_0 tsz3 rfl ?_)
              refine wY rfl (gLoad tagg3 rfl (by simp only [hget, hb4, hb5, ↓reduceIte] <;> rfl) rfl ?_)
              refine wY rfl (gE rfl ?_)
              refine wY rfl (gE rfl ?_)
              refine wG rfl rfl rfl rfl (by decide) (fun c37 => ?_) (fun c37 => ?_)
              · skip
                refine gE rfl ?_
                have ht : t < t' := by have := of_decide_eq_false c37; omega
                refine wY rfl (gE (v := .bool true) (show some (V.bool (decide (x < 0))) = some (V.bool true) by simp; exact htm ht) ?_)
                refine wY rfl (gE rfl ?_)
                refine wU (gE rfl ?_)
                refine wU (gE rfl ?_)
                refine wY rfl (gPure rfl isGo9 (awake_tri hG) ?_)
                refine wU (gE rfl ?_)
                refine wU (gE rfl ?_)
                refine wOps.done ?_
                refine hK22 _ _ _ ?_
                clear hK22 K21
                refine WC.ret ?_
                exact ⟨_, rfl, rfl⟩
              · skip
                refine wN rfl ?_
                refine wY rfl (gE rfl ?_)
                refine wU (gE rfl ?_)
                refine wU (gE rfl ?_)
                refine wY rfl (gPure rfl isGo9 (awake_tri hG) ?_)
                refine wU (gE rfl ?_)
                refine wU (gE rfl ?_)
                refine wOps.done ?_
                refine hK22 _ _ _ ?_
                clear hK22 K21
                refine WC.ret ?_
                exact ⟨_, rfl, rfl⟩
            · skip
              refine wN rfl ?_
              refine wY rfl (gE rfl ?_)
              refine wU (gE rfl ?_)
              refine wU (gE rfl ?_)
              refine wY rfl (gField tfld36_0 tsz3 rfl ?_)
              refine wY rfl (gLoad tagg3 rfl (by simp only [hget, hb4, hb5, ↓reduceIte] <;> rfl) rfl ?_)
              refine wY rfl (gField tfld36_0 tsz3 rfl ?_)
              refine wY rfl (gLoad tagg3 rfl (by simp only [hget, hb4, hb5, ↓reduceIte] <;> rfl) rfl ?_)
              refine wY rfl (gE rfl ?_)
              refine wY rfl (gE rfl ?_)
              refine wG rfl rfl rfl rfl (by decide) (fun c38 => ?_) (fun c38 => ?_)
              · skip
                refine gE rfl ?_
                have ht : t < t' := by have := of_decide_eq_false c38; omega
                refine wY rfl (gE (v := .bool true) (show some (V.bool (decide (x < 0))) = some (V.bool true) by simp; exact htm ht) ?_)
                refine wY rfl (gE rfl ?_)
                refine wU (gE rfl ?_)
                refine wU (gE rfl ?_)
                refine wY rfl (gPure rfl isGo9 (awake_tri hG) ?_)
                refine wU (gE rfl ?_)
                refine wU (gE rfl ?_)
                refine wOps.done ?_
                refine hK22 _ _ _ ?_
                clear hK22 K21
                refine WC.ret ?_
                exact ⟨_, rfl, rfl⟩
              · skip
                refine wN rfl ?_
                refine wY rfl (gE rfl ?_)
                refine wU (gE rfl ?_)
                refine wU (gE rfl ?_)
                refine wY rfl (gPure rfl isGo9 (awake_tri hG) ?_)
                refine wU (gE rfl ?_)
                refine wU (gE rfl ?_)
                refine wOps.done ?_
                refine hK22 _ _ _ ?_
                clear hK22 K21
                refine WC.ret ?_
                exact ⟨_, rfl, rfl⟩
          · skip
            refine wN rfl ?_
            refine wY rfl (gE rfl ?_)
            refine wY rfl (gE rfl ?_)
            refine wN rfl ?_
            refine wN rfl ?_
            refine wY rfl (gE rfl ?_)
            refine wU (gE rfl ?_)
            refine wU (gE rfl ?_)
            refine wY rfl (gField tfld36_0 tsz3 rfl ?_)
            refine wY rfl (gLoad tagg3 rfl (by simp only [hget, hb4, hb5, ↓reduceIte] <;> rfl) rfl ?_)
            refine wY rfl (gField tfld36_0 tsz3 rfl ?_)
            refine wY rfl (gLoad tagg3 rfl (by simp only [hget, hb4, hb5, ↓reduceIte] <;> rfl) rfl ?_)
            refine wY rfl (gE rfl ?_)
            refine wY rfl (gE rfl ?_)
            refine wG rfl rfl rfl rfl (by decide) (fun c39 => ?_) (fun c39 => ?_)
            · skip
              refine gE rfl ?_
              have ht : t < t' := by have := of_decide_eq_false c39; omega
              refine wY rfl (gE (v := .bool true) (show some (V.bool (decide (x < 0))) = some (V.bool true) by simp; exact htm ht) ?_)
              refine wY rfl (gE rfl ?_)
              refine wU (gE rfl ?_)
              refine wU (gE rfl ?_)
              refine wY rfl (gPure rfl isGo9 (awake_tri hG) ?_)
              refine wU (gE rfl ?_)
              refine wU (gE rfl ?_)
              refine wOps.done ?_
              refine hK22 _ _ _ ?_
              clear hK22 K21
              refine WC.ret ?_
              exact ⟨_, rfl, rfl⟩
            · skip
              refine wN rfl ?_
              refine wY rfl (gE rfl ?_)
              refine wU (gE rfl ?_)
              refine wU (gE rfl ?_)
              refine wY rfl (gPure rfl isGo9 (awake_tri hG) ?_)
              refine wU (gE rfl ?_)
              refine wU (gE rfl ?_)
              refine wOps.done ?_
              refine hK22 _ _ _ ?_
              clear hK22 K21
              refine WC.ret ?_
              exact ⟨_, rfl, rfl⟩
    · skip
      refine wN rfl ?_
      refine wU (gE rfl ?_)
      refine wOps.done ?_
      refine hK9 _ _ _ ?_
      clear hK9 K8
      first | refine WC.cond (b := true) rfl (fun _ => ?_) (fun hh => by simp at hh) | refine WC.cond rfl (fun _ => ?_) (fun hh => by simp_all)
      refine WC.seq_k fun K40 hK41 => ?_
      refine WC.region ?_
      refine wU (gPure rfl isGo9 (awake_tri hG) ?_)
      refine wU (gE rfl ?_)
      refine wOps.done ?_
      refine hK41 _ _ _ ?_
      clear hK41 K40
      refine WC.ret ?_
      exact ⟨_, rfl, rfl⟩
  · skip
    refine wN rfl ?_
    refine wU (gE rfl ?_)
    refine wU (gE rfl ?_)
    refine wN rfl ?_
    refine wN rfl ?_
    refine wU (gE rfl ?_)
    refine wOps.done ?_
    refine hK9 _ _ _ ?_
    clear hK9 K8
    first | refine WC.cond (b := true) rfl (fun _ => ?_) (fun hh => by simp at hh) | refine WC.cond rfl (fun _ => ?_) (fun hh => by simp_all)
    refine WC.seq_k fun K42 hK43 => ?_
    refine WC.region ?_
    refine wU (gPure rfl isGo9 (awake_tri hG) ?_)
    refine wU (gE rfl ?_)
    refine wOps.done ?_
    refine hK43 _ _ _ ?_
    clear hK43 K42
    refine WC.ret ?_
    exact ⟨_, rfl, rfl⟩
end Go.Proofs.YtfdmdcpopmcmcaaGreatDoor
end

section
namespace Go.Proofs.YtfdmdcpopmcmcaaGreatDoor
open Go.Fw
variable [Gl]
theorem isGo106 : isGo Tryz.prog 106 = true := by kernel_rfl
theorem isGo21 : isGo Tryz.prog 21 = true := by kernel_rfl
theorem isGo22 : isGo Tryz.prog 22 = true := by kernel_rfl
theorem isGo23 : isGo Tryz.prog 23 = true := by kernel_rfl
theorem isGo44 : isGo Tryz.prog 44 = true := by kernel_rfl
theorem isGo45 : isGo Tryz.prog 45 = true := by kernel_rfl
theorem isGo58 : isGo Tryz.prog 58 = true := by kernel_rfl
theorem isGo59 : isGo Tryz.prog 59 = true := by kernel_rfl
theorem isGo73 : isGo Tryz.prog 73 = true := by kernel_rfl
set_option maxRecDepth 20000
theorem letter_tri (c : Int) : PTri Tryz.prog 106 [.int .u8 c] (.bool (isNB c)) := by
  refine Tri.of_wc Tryz.func106 rfl Tryz.results106 Tryz.ntmps106 (by simp) ?_
  refine WC.seq_k fun K1 hK2 => ?_
  refine WC.region ?_
  refine wU (gE rfl ?_)
  refine wOps.done ?_
  refine hK2 _ _ _ ?_
  clear hK2 K1
  refine WC.seq_k fun K3 hK4 => ?_
  refine WC.region ?_
  refine wU (gE rfl ?_)
  refine wU (gE rfl ?_)
  refine wU (gE rfl ?_)
  refine wG rfl rfl rfl rfl (by decide) (fun c5 => ?_) (fun c5 => ?_)
  · skip
    refine gE rfl ?_
    refine wY rfl (gE rfl ?_)
    refine wU (gE rfl ?_)
    refine wU (gE rfl ?_)
    refine wG rfl rfl rfl rfl (by decide) (fun c6 => ?_) (fun c6 => ?_)
    · skip
      refine gE rfl ?_
      refine wY rfl (gE rfl ?_)
      refine wY rfl (gE rfl ?_)
      refine wG rfl rfl rfl rfl (by decide) (fun c7 => ?_) (fun c7 => ?_)
      · skip
        refine gE rfl ?_
        refine wY rfl (gE rfl ?_)
        refine wY rfl (gE rfl ?_)
        refine wU (gE rfl ?_)
        refine wU (gE rfl ?_)
        refine wG rfl rfl rfl rfl (by decide) (fun c8 => ?_) (fun c8 => ?_)
        · skip
          refine gE rfl ?_
          refine wY rfl (gE rfl ?_)
          refine wY rfl (gE rfl ?_)
          refine wG rfl rfl rfl rfl (by decide) (fun c9 => ?_) (fun c9 => ?_)
          · skip
            refine gE rfl ?_
            refine wY rfl (gE rfl ?_)
            refine wY rfl (gE rfl ?_)
            refine wU (gE rfl ?_)
            refine wU (gE rfl ?_)
            refine wG rfl rfl rfl rfl (by decide) (fun c10 => ?_) (fun c10 => ?_)
            · skip
              refine gE rfl ?_
              refine wY rfl (gE rfl ?_)
              refine wU (gE rfl ?_)
              refine wU (gE rfl ?_)
              refine wOps.done ?_
              refine hK4 _ _ _ ?_
              clear hK4 K3
              refine WC.ret ?_
              exact ⟨_, rfl, by simp_all [isNB] <;> omega, rfl⟩
            · skip
              refine wN rfl ?_
              refine wU (gE rfl ?_)
              refine wU (gE rfl ?_)
              refine wOps.done ?_
              refine hK4 _ _ _ ?_
              clear hK4 K3
              refine WC.ret ?_
              exact ⟨_, rfl, by simp_all [isNB] <;> omega, rfl⟩
          · skip
            refine wN rfl ?_
            refine wY rfl (gE rfl ?_)
            refine wU (gE rfl ?_)
            refine wU (gE rfl ?_)
            refine wY rfl (gE rfl ?_)
            refine wY rfl (gE rfl ?_)
            refine wU (gE rfl ?_)
            refine wU (gE rfl ?_)
            refine wOps.done ?_
            refine hK4 _ _ _ ?_
            clear hK4 K3
            refine WC.ret ?_
            exact ⟨_, rfl, by simp_all [isNB] <;> omega, rfl⟩
        · skip
          refine wN rfl ?_
          refine wN rfl ?_
          refine wZ rfl ?_
          refine wZ rfl ?_
          refine wN rfl ?_
          refine wU (gE rfl ?_)
          refine wU (gE rfl ?_)
          refine wN rfl ?_
          refine wN rfl ?_
          refine wU (gE rfl ?_)
          refine wU (gE rfl ?_)
          refine wOps.done ?_
          refine hK4 _ _ _ ?_
          clear hK4 K3
          refine WC.ret ?_
          exact ⟨_, rfl, by simp_all [isNB] <;> omega, rfl⟩
      · skip
        refine wN rfl ?_
        refine wY rfl (gE rfl ?_)
        refine wU (gE rfl ?_)
        refine wU (gE rfl ?_)
        refine wY rfl (gE rfl ?_)
        refine wY rfl (gE rfl ?_)
        refine wY rfl (gE rfl ?_)
        refine wG rfl rfl rfl rfl (by decide) (fun c11 => ?_) (fun c11 => ?_)
        · skip
          refine gE rfl ?_
          refine wY rfl (gE rfl ?_)
          refine wY rfl (gE rfl ?_)
          refine wU (gE rfl ?_)
          refine wU (gE rfl ?_)
          refine wG rfl rfl rfl rfl (by decide) (fun c12 => ?_) (fun c12 => ?_)
          · skip
            refine gE rfl ?_
            refine wY rfl (gE rfl ?_)
            refine wU (gE rfl ?_)
            refine wU (gE rfl ?_)
            refine wOps.done ?_
            refine hK4 _ _ _ ?_
            clear hK4 K3
            refine WC.ret ?_
            exact ⟨_, rfl, by simp_all [isNB] <;> omega, rfl⟩
          · skip
            refine wN rfl ?_
            refine wU (gE rfl ?_)
            refine wU (gE rfl ?_)
            refine wOps.done ?_
            refine hK4 _ _ _ ?_
            clear hK4 K3
            refine WC.ret ?_
            exact ⟨_, rfl, by simp_all [isNB] <;> omega, rfl⟩
        · skip
          refine wN rfl ?_
          refine wY rfl (gE rfl ?_)
          refine wU (gE rfl ?_)
          refine wU (gE rfl ?_)
          refine wY rfl (gE rfl ?_)
          refine wY rfl (gE rfl ?_)
          refine wU (gE rfl ?_)
          refine wU (gE rfl ?_)
          refine wOps.done ?_
          refine hK4 _ _ _ ?_
          clear hK4 K3
          refine WC.ret ?_
          exact ⟨_, rfl, by simp_all [isNB] <;> omega, rfl⟩
    · skip
      refine wN rfl ?_
      refine wN rfl ?_
      refine wZ rfl ?_
      refine wZ rfl ?_
      refine wN rfl ?_
      refine wU (gE rfl ?_)
      refine wU (gE rfl ?_)
      refine wN rfl ?_
      refine wN rfl ?_
      refine wN rfl ?_
      refine wZ rfl ?_
      refine wZ rfl ?_
      refine wN rfl ?_
      refine wU (gE rfl ?_)
      refine wU (gE rfl ?_)
      refine wN rfl ?_
      refine wN rfl ?_
      refine wU (gE rfl ?_)
      refine wU (gE rfl ?_)
      refine wOps.done ?_
      refine hK4 _ _ _ ?_
      clear hK4 K3
      refine WC.ret ?_
      exact ⟨_, rfl, by simp_all [isNB] <;> omega, rfl⟩
  · skip
    refine wN rfl ?_
    refine wU (gE rfl ?_)
    refine wU (gE rfl ?_)
    refine wY rfl (gE rfl ?_)
    refine wY rfl (gE rfl ?_)
    refine wY rfl (gE rfl ?_)
    refine wG rfl rfl rfl rfl (by decide) (fun c13 => ?_) (fun c13 => ?_)
    · skip
      refine gE rfl ?_
      refine wY rfl (gE rfl ?_)
      refine wY rfl (gE rfl ?_)
      refine wU (gE rfl ?_)
      refine wU (gE rfl ?_)
      refine wG rfl rfl rfl rfl (by decide) (fun c14 => ?_) (fun c14 => ?_)
      · skip
        refine gE rfl ?_
        refine wY rfl (gE rfl ?_)
        refine wY rfl (gE rfl ?_)
        refine wG rfl rfl rfl rfl (by decide) (fun c15 => ?_) (fun c15 => ?_)
        · skip
          refine gE rfl ?_
          refine wY rfl (gE rfl ?_)
          refine wY rfl (gE rfl ?_)
          refine wU (gE rfl ?_)
          refine wU (gE rfl ?_)
          refine wG rfl rfl rfl rfl (by decide) (fun c16 => ?_) (fun c16 => ?_)
          · skip
            refine gE rfl ?_
            refine wY rfl (gE rfl ?_)
            refine wU (gE rfl ?_)
            refine wU (gE rfl ?_)
            refine wOps.done ?_
            refine hK4 _ _ _ ?_
            clear hK4 K3
            refine WC.ret ?_
            exact ⟨_, rfl, by simp_all [isNB] <;> omega, rfl⟩
          · skip
            refine wN rfl ?_
            refine wU (gE rfl ?_)
            refine wU (gE rfl ?_)
            refine wOps.done ?_
            refine hK4 _ _ _ ?_
            clear hK4 K3
            refine WC.ret ?_
            exact ⟨_, rfl, by simp_all [isNB] <;> omega, rfl⟩
        · skip
          refine wN rfl ?_
          refine wY rfl (gE rfl ?_)
          refine wU (gE rfl ?_)
          refine wU (gE rfl ?_)
          refine wY rfl (gE rfl ?_)
          refine wY rfl (gE rfl ?_)
          refine wU (gE rfl ?_)
          refine wU (gE rfl ?_)
          refine wOps.done ?_
          refine hK4 _ _ _ ?_
          clear hK4 K3
          refine WC.ret ?_
          exact ⟨_, rfl, by simp_all [isNB] <;> omega, rfl⟩
      · skip
        refine wN rfl ?_
        refine wN rfl ?_
        refine wZ rfl ?_
        refine wZ rfl ?_
        refine wN rfl ?_
        refine wU (gE rfl ?_)
        refine wU (gE rfl ?_)
        refine wN rfl ?_
        refine wN rfl ?_
        refine wU (gE rfl ?_)
        refine wU (gE rfl ?_)
        refine wOps.done ?_
        refine hK4 _ _ _ ?_
        clear hK4 K3
        refine WC.ret ?_
        exact ⟨_, rfl, by simp_all [isNB] <;> omega, rfl⟩
    · skip
      refine wN rfl ?_
      refine wY rfl (gE rfl ?_)
      refine wU (gE rfl ?_)
      refine wU (gE rfl ?_)
      refine wY rfl (gE rfl ?_)
      refine wY rfl (gE rfl ?_)
      refine wY rfl (gE rfl ?_)
      refine wG rfl rfl rfl rfl (by decide) (fun c17 => ?_) (fun c17 => ?_)
      · skip
        refine gE rfl ?_
        refine wY rfl (gE rfl ?_)
        refine wY rfl (gE rfl ?_)
        refine wU (gE rfl ?_)
        refine wU (gE rfl ?_)
        refine wG rfl rfl rfl rfl (by decide) (fun c18 => ?_) (fun c18 => ?_)
        · skip
          refine gE rfl ?_
          refine wY rfl (gE rfl ?_)
          refine wU (gE rfl ?_)
          refine wU (gE rfl ?_)
          refine wOps.done ?_
          refine hK4 _ _ _ ?_
          clear hK4 K3
          refine WC.ret ?_
          exact ⟨_, rfl, by simp_all [isNB] <;> omega, rfl⟩
        · skip
          refine wN rfl ?_
          refine wU (gE rfl ?_)
          refine wU (gE rfl ?_)
          refine wOps.done ?_
          refine hK4 _ _ _ ?_
          clear hK4 K3
          refine WC.ret ?_
          exact ⟨_, rfl, by simp_all [isNB] <;> omega, rfl⟩
      · skip
        refine wN rfl ?_
        refine wY rfl (gE rfl ?_)
        refine wU (gE rfl ?_)
        refine wU (gE rfl ?_)
        refine wY rfl (gE rfl ?_)
        refine wY rfl (gE rfl ?_)
        refine wU (gE rfl ?_)
        refine wU (gE rfl ?_)
        refine wOps.done ?_
        refine hK4 _ _ _ ?_
        clear hK4 K3
        refine WC.ret ?_
        exact ⟨_, rfl, by simp_all [isNB] <;> omega, rfl⟩
theorem isNm_bad {s : By} {k : Nat} (h : k < s.length) (hb : isNB (s[k].toNat : Int) = false) : isNm s = false := by
  simp only [isNm, Bool.and_eq_false_iff]; right; rw [List.all_eq_false]; exact ⟨s[k], List.getElem_mem _, by simpa using hb⟩
theorem name_tri (s : By) (hs : s.length ≤ 4294967295) : PTri Tryz.prog 73 [.str s] (.bool (isNm s)) := by
  refine Tri.of_wc Tryz.func73 rfl Tryz.results73 Tryz.ntmps73 (by simp) ?_
  refine WC.seq_k fun K1 hK2 => ?_
  refine WC.region ?_
  refine wU (gE rfl ?_)
  refine wOps.done ?_
  refine hK2 _ _ _ ?_
  clear hK2 K1
  refine WC.seq_k fun K3 hK4 => ?_
  refine WC.seq_k fun K5 hK6 => ?_
  refine WC.region ?_
  refine wU (gE rfl ?_)
  refine wOps.done ?_
  refine hK6 _ _ _ ?_
  clear hK6 K5
  refine WC.block ?_
  refine WC.loopI (fun k : Nat => [(0, .str s), (3, .int .i64 k)]) (fun _ => []) (fun k => s.length - k) (fun k => k ≤ s.length ∧ (s.take k).all (fun c => isNB c.toNat) = true) 0 ?_ ?_ ?_ ?_
  · exact sub_cons rfl (sub_cons rfl (sub_nil _))
  · exact Ent.refl _ _
  · exact ⟨Nat.zero_le _, by simp⟩
  rintro k ⟨hk1, hk4⟩
  refine WC.seq_k fun K7 hK8 => ?_
  refine WC.seq_k fun K9 hK10 => ?_
  refine WC.region ?_
  refine wU (gE rfl ?_)
  refine wU (gE rfl ?_)
  refine wU (gLen rfl rfl tisstr9 ?_)
  refine wU (gE rfl ?_)
  refine wOps.done ?_
  refine hK10 _ _ _ ?_
  clear hK10 K9
  refine WC.cond rfl (fun c11 => ?_) (fun c11 => ?_)
  · skip
    refine WC.skip ?_
    refine hK8 _ _ _ ?_
    clear hK8 K7
    refine WC.seq_k fun K12 hK13 => ?_
    refine WC.block ?_
    refine WC.seq_k fun K14 hK15 => ?_
    refine WC.region ?_
    refine wU (gE rfl ?_)
    refine wU (gE rfl ?_)
    have hk : k < s.length := by simpa using c11
    refine wU (gIdxStr tisstr9 rfl rfl (by omega) (str_at hk) ?_)
    refine wU (gPure rfl isGo106 (letter_tri _) ?_)
    refine wU (gE rfl ?_)
    refine wOps.done ?_
    refine hK15 _ _ _ ?_
    clear hK15 K14
    refine WC.cond rfl (fun c16 => ?_) (fun c16 => ?_)
    · skip
      refine WC.seq_k fun K17 hK18 => ?_
      refine WC.region ?_
      refine wU (gE rfl ?_)
      refine wOps.done ?_
      refine hK18 _ _ _ ?_
      clear hK18 K17
      refine WC.ret ?_
      refine ⟨_, rfl, congrArg V.bool ?_, rfl⟩
      rw [isNm_bad hk (by simpa using c16)]
    · skip
      refine WC.skip ?_
      refine hK13 _ _ _ ?_
      clear hK13 K12
      refine WC.region ?_
      refine wU (gE rfl ?_)
      refine wU (gE rfl ?_)
      refine wU (gE rfl ?_)
      refine wOps.done ?_
      have hx : isNB (s[k].toNat) = true := by simpa using c16
      exact ⟨k + 1, rfl, by omega, ⟨by omega, by rw [List.take_succ_eq_append_getElem hk, List.all_append, hk4]; simpa using hx⟩, Ent.sub (sub_cons rfl (sub_cons (int_fit (by omega) (by omega) (by omega)) (sub_nil _)))⟩
  · skip
    refine WC.exit ?_
    refine hK4 _ _ _ ?_
    clear hK8 K7 hK4 K3
    refine WC.seq_k fun K19 hK20 => ?_
    refine WC.region ?_
    refine wU (gE rfl ?_)
    refine wU (gLen rfl rfl tisstr9 ?_)
    refine wU (gE rfl ?_)
    refine wU (gE rfl ?_)
    refine wG rfl rfl rfl rfl (by decide) (fun c21 => ?_) (fun c21 => ?_)
    · skip
      refine gE rfl ?_
      refine wY rfl (gLen rfl rfl tisstr9 ?_)
      refine wY rfl (gE rfl ?_)
      refine wU (gE rfl ?_)
      refine wU (gE rfl ?_)
      refine wG rfl rfl rfl rfl (by decide) (fun c22 => ?_) (fun c22 => ?_)
      · skip
        refine gE rfl ?_
        obtain ⟨c, r, hcr⟩ : ∃ c r, s = c :: r := by cases s with | nil => simp at * | cons c r => exact ⟨c, r, rfl⟩
        have h0c : s[((0 : Int)).toNat]? = some c := by rw [hcr]; rfl
        refine wY rfl (gIdxStr tisstr9 rfl rfl (by omega) h0c ?_)
        refine wY rfl (gE rfl ?_)
        refine wY rfl (gE rfl ?_)
        refine wG rfl rfl rfl rfl (by decide) (fun c23 => ?_) (fun c23 => ?_)
        · skip
          refine gE rfl ?_
          refine wY rfl (gIdxStr tisstr9 rfl rfl (by omega) h0c ?_)
          refine wY rfl (gE rfl ?_)
          refine wY rfl (gE rfl ?_)
          refine wU (gE rfl ?_)
          refine wU (gE rfl ?_)
          refine wOps.done ?_
          refine hK20 _ _ _ ?_
          clear hK20 K19
          refine WC.ret ?_
          have hx : k = s.length := by have := of_decide_eq_false c11; omega
          rw [hx, List.take_length] at hk4
          refine ⟨_, rfl, congrArg V.bool ?_, rfl⟩
          unfold isNm
          rw [hk4]
          rw [hcr] at *
          simp_all
          first | done | omega | (rw [Bool.eq_iff_iff]; simp; omega)
        · skip
          refine wN rfl ?_
          refine wN rfl ?_
          refine wY rfl (gE rfl ?_)
          refine wU (gE rfl ?_)
          refine wU (gE rfl ?_)
          refine wOps.done ?_
          refine hK20 _ _ _ ?_
          clear hK20 K19
          refine WC.ret ?_
          have hx : k = s.length := by have := of_decide_eq_false c11; omega
          rw [hx, List.take_length] at hk4
          refine ⟨_, rfl, congrArg V.bool ?_, rfl⟩
          unfold isNm
          rw [hk4]
          rw [hcr] at *
          simp_all
          first | done | omega | (rw [Bool.eq_iff_iff]; simp; omega)
      · skip
        refine wN rfl ?_
        refine wN rfl ?_
        refine wN rfl ?_
        refine wZ rfl ?_
        refine wZ rfl ?_
        refine wZ rfl ?_
        refine wN rfl ?_
        refine wU (gE rfl ?_)
        refine wU (gE rfl ?_)
        refine wOps.done ?_
        refine hK20 _ _ _ ?_
        clear hK20 K19
        refine WC.ret ?_
        have hx : k = s.length := by have := of_decide_eq_false c11; omega
        rw [hx, List.take_length] at hk4
        refine ⟨_, rfl, congrArg V.bool ?_, rfl⟩
        unfold isNm
        rw [hk4]
        simp_all
        try omega
    · skip
      refine wN rfl ?_
      refine wN rfl ?_
      refine wU (gE rfl ?_)
      refine wU (gE rfl ?_)
      refine wN rfl ?_
      refine wN rfl ?_
      refine wN rfl ?_
      refine wN rfl ?_
      refine wZ rfl ?_
      refine wZ rfl ?_
      refine wZ rfl ?_
      refine wN rfl ?_
      refine wU (gE rfl ?_)
      refine wU (gE rfl ?_)
      refine wOps.done ?_
      refine hK20 _ _ _ ?_
      clear hK20 K19
      refine WC.ret ?_
      have hx : k = s.length := by have := of_decide_eq_false c11; omega
      rw [hx, List.take_length] at hk4
      refine ⟨_, rfl, congrArg V.bool ?_, rfl⟩
      unfold isNm
      rw [hk4]
      simp_all
      try omega
theorem chk5_tri (l : List Lb) (hl : l.length ≤ 4294967295) (hn : ∀ p ∈ l, p.1.length ≤ 4294967295) : PTri Tryz.prog 44 [lsl l] (.int .i64 (chkL l)) := by
  unfold lsl
  refine PTri.any (Tri.of_wc Tryz.func44 rfl Tryz.results44 Tryz.ntmps44 (by simp) ?_)
  refine WC.seq_k fun K1 hK2 => ?_
  refine WC.region ?_
  refine wU (gE rfl ?_)
  refine wOps.done ?_
  refine hK2 _ _ _ ?_
  clear hK2 K1
  refine WC.seq_k fun K3 hK4 => ?_
  refine WC.seq_k fun K5 hK6 => ?_
  refine WC.region ?_
  refine wU (gE rfl ?_)
  refine wU (gLen rfl rfl (by rw [lenFits, tslice22]; rfl) ?_)
  refine wU (gE rfl ?_)
  refine wOps.done ?_
  refine hK6 _ _ _ ?_
  clear hK6 K5
  refine WC.cond rfl (fun c7 => ?_) (fun c7 => ?_)
  · skip
    refine WC.seq_k fun K8 hK9 => ?_
    refine WC.region ?_
    refine wU (gE rfl ?_)
    refine wOps.done ?_
    refine hK9 _ _ _ ?_
    clear hK9 K8
    refine WC.ret ?_
    refine ⟨_, rfl, congrArg (V.int .i64) ?_⟩
    simp only [chkL]; rw [if_pos (by have := of_decide_eq_true c7; omega)]
  · skip
    refine WC.skip ?_
    refine hK4 _ _ _ ?_
    clear hK4 K3
    refine WC.seq_k fun K10 hK11 => ?_
    refine WC.seq_k fun K12 hK13 => ?_
    refine WC.region ?_
    refine wU (gE rfl ?_)
    refine wOps.done ?_
    refine hK13 _ _ _ ?_
    clear hK13 K12
    refine WC.block ?_
    have h16 : ¬ 16 < l.length := by have := of_decide_eq_false c7; omega
    refine WC.loopI (α := Nat) (fun i => [(0, .fslice (lcs l) l.length), (3, .int .i64 i)]) (fun _ => []) (fun i => l.length - i) (fun i => i ≤ l.length ∧ chkG none l = chkG (prv l i) (l.drop i)) 0 ?_ ?_ ?_ ?_
    · exact sub_cons rfl (sub_cons rfl (sub_nil _))
    · exact Ent.refl _ _
    · exact ⟨by simp, by simp [prv]⟩
    rintro i ⟨hil, hc⟩
    refine WC.seq_k fun K14 hK15 => ?_
    refine WC.seq_k fun K16 hK17 => ?_
    refine WC.region ?_
    refine wU (gE rfl ?_)
    refine wU (gE rfl ?_)
    refine wU (gLen rfl rfl (by rw [lenFits, tslice22]; rfl) ?_)
    refine wU (gE rfl ?_)
    refine wOps.done ?_
    refine hK17 _ _ _ ?_
    clear hK17 K16
    refine WC.cond rfl (fun c18 => ?_) (fun c18 => ?_)
    · skip
      refine WC.skip ?_
      refine hK15 _ _ _ ?_
      clear hK15 K14
      refine WC.seq_k fun K19 hK20 => ?_
      refine WC.block ?_
      refine WC.seq_k fun K21 hK22 => ?_
      refine WC.seq_k fun K23 hK24 => ?_
      refine WC.region ?_
      refine wU (gE rfl ?_)
      refine wU (gE rfl ?_)
      have hi : i < l.length := by simpa using c18
      refine wU (gIdxF tslice22 tsz51 rfl rfl (by omega) (by omega) ?_)
      refine wU (gFieldF tfld51_0 tsz9 rfl ?_)
      refine wU (gLoadF tagg9 rfl (lcs_fst hi) ?_)
      refine wU (gPure rfl isGo73 (name_tri l[i].1 (hn _ (List.getElem_mem hi))) ?_)
      refine wU (gE rfl ?_)
      refine wOps.done ?_
      refine hK24 _ _ _ ?_
      clear hK24 K23
      refine WC.cond rfl (fun c25 => ?_) (fun c25 => ?_)
      · skip
        refine WC.seq_k fun K26 hK27 => ?_
        refine WC.region ?_
        refine wU (gE rfl ?_)
        refine wOps.done ?_
        refine hK27 _ _ _ ?_
        clear hK27 K26
        refine WC.ret ?_
        refine ⟨_, rfl, congrArg (V.int .i64) ?_⟩
        simp only [chkL]; rw [if_neg h16, hc]
        rw [chkG_step hi]; simp_all <;> omega
      · skip
        refine WC.skip ?_
        refine hK22 _ _ _ ?_
        clear hK22 K21
        refine WC.seq_k fun K28 hK29 => ?_
        refine WC.seq_k fun K30 hK31 => ?_
        refine WC.region ?_
        refine wU (gE rfl ?_)
        refine wU (gE rfl ?_)
        refine wU (gIdxF tslice22 tsz51 rfl rfl (by omega) (by omega) ?_)
        refine wU (gFieldF tfld51_1 tsz9 rfl ?_)
        refine wU (gLoadF tagg9 rfl (lcs_snd hi) ?_)
        refine wU (gE rfl ?_)
        refine wOps.done ?_
        refine hK31 _ _ _ ?_
        clear hK31 K30
        refine WC.cond rfl (fun c32 => ?_) (fun c32 => ?_)
        · skip
          refine WC.seq_k fun K33 hK34 => ?_
          refine WC.region ?_
          refine wU (gE rfl ?_)
          refine wOps.done ?_
          refine hK34 _ _ _ ?_
          clear hK34 K33
          refine WC.ret ?_
          refine ⟨_, rfl, congrArg (V.int .i64) ?_⟩
          simp only [chkL]; rw [if_neg h16, hc]
          rw [chkG_step hi]; simp_all <;> omega
        · skip
          refine WC.skip ?_
          refine hK29 _ _ _ ?_
          clear hK29 K28
          refine WC.seq_k fun K35 hK36 => ?_
          refine WC.seq_k fun K37 hK38 => ?_
          refine WC.region ?_
          refine wU (gE rfl ?_)
          refine wU (gE rfl ?_)
          refine wU (gIdxF tslice22 tsz51 rfl rfl (by omega) (by omega) ?_)
          refine wU (gFieldF tfld51_1 tsz9 rfl ?_)
          refine wU (gLoadF tagg9 rfl (lcs_snd hi) ?_)
          refine wU (gLen rfl rfl tisstr9 ?_)
          refine wU (gE rfl ?_)
          refine wOps.done ?_
          refine hK38 _ _ _ ?_
          clear hK38 K37
          refine WC.cond rfl (fun c39 => ?_) (fun c39 => ?_)
          · skip
            refine WC.seq_k fun K40 hK41 => ?_
            refine WC.region ?_
            refine wU (gE rfl ?_)
            refine wOps.done ?_
            refine hK41 _ _ _ ?_
            clear hK41 K40
            refine WC.ret ?_
            refine ⟨_, rfl, congrArg (V.int .i64) ?_⟩
            simp only [chkL]; rw [if_neg h16, hc]
            rw [chkG_step hi]; simp_all <;> omega
          · skip
            refine WC.skip ?_
            refine hK36 _ _ _ ?_
            clear hK36 K35
            refine WC.seq_k fun K42 hK43 => ?_
            refine WC.region_draw mixed ?_
            refine wA.val 0 rfl rfl rfl (fun _ _ hK => gE rfl hK) (by kernel_rfl) ?_
            refine wA.val 1 rfl rfl rfl (fun _ _ hK => gE rfl hK) (by kernel_rfl) ?_
            refine wA.val 2 rfl rfl rfl (fun _ _ hK => gE rfl hK) (by kernel_rfl) ?_
            refine wA.split (e := 35) true rfl (fun c44 => ?_) (fun c44 => ?_)
            · skip
              refine wA.val 3 rfl rfl rfl (fun _ _ hK => gE rfl hK) (by kernel_rfl) ?_
              refine wA.val 4 rfl rfl rfl (fun _ _ hK => gE rfl hK) (by kernel_rfl) ?_
              refine wA.val 5 rfl rfl rfl (fun _ _ hK => gIdxF tslice22 tsz51 rfl rfl (by omega) (by omega) hK) (by kernel_rfl) ?_
              refine wA.val 6 rfl rfl rfl (fun _ _ hK => gFieldF tfld51_0 tsz9 rfl hK) (by kernel_rfl) ?_
              refine wA.val 7 rfl rfl rfl (fun _ _ hK => gLoadF tagg9 rfl (lcs_fst hi) hK) (by kernel_rfl) ?_
              refine wA.val 8 rfl rfl rfl (fun _ _ hK => gE rfl hK) (by kernel_rfl) ?_
              refine wA.val 9 rfl rfl rfl (fun _ _ hK => gE rfl hK) (by kernel_rfl) ?_
              have h0 : 0 < i := by have := of_decide_eq_true c44; omega
              have hj : i - 1 < l.length := by omega
              refine wA.val 10 rfl rfl rfl (fun _ _ hK => gE (int_fit (b := ((i - 1 : Nat) : Int)) (by omega) (by omega) (by omega)) hK) (by kernel_rfl) ?_
              refine wA.val 11 rfl rfl rfl (fun _ _ hK => gIdxF tslice22 tsz51 rfl rfl (by omega) (by omega) hK) (by kernel_rfl) ?_
              refine wA.val 12 rfl rfl rfl (fun _ _ hK => gFieldF tfld51_0 tsz9 rfl hK) (by kernel_rfl) ?_
              refine wA.val 13 rfl rfl rfl (fun _ _ hK => gLoadF tagg9 rfl (lcs_fst hj) hK) (by kernel_rfl) ?_
              refine wA.val 14 rfl rfl rfl (fun _ _ hK => gE rfl hK) (by kernel_rfl) ?_
              refine wA.val 15 rfl rfl rfl (fun _ _ hK => gE rfl hK) (by kernel_rfl) ?_
              refine wA.done (by kernel_rfl) ?_
              refine hK43 _ _ _ ?_
              clear hK43 K42
              refine WC.cond rfl (fun c45 => ?_) (fun c45 => ?_)
              · skip
                refine WC.seq_k fun K46 hK47 => ?_
                refine WC.region ?_
                refine wU (gE rfl ?_)
                refine wOps.done ?_
                refine hK47 _ _ _ ?_
                clear hK47 K46
                refine WC.ret ?_
                refine ⟨_, rfl, congrArg (V.int .i64) ?_⟩
                simp only [chkL]; rw [if_neg h16, hc]
                have hp : prv l i = some l[i - 1].1 := by simp [prv, Nat.ne_of_gt h0, hj]
                rw [chkG_step hi]; simp_all [lateB] <;> omega
              · skip
                refine WC.skip ?_
                refine hK20 _ _ _ ?_
                clear hK20 K19
                refine WC.region ?_
                refine wU (gE rfl ?_)
                refine wU (gE rfl ?_)
                refine wU (gE rfl ?_)
                refine wOps.done ?_
                have hp : lateB (prv l i) l[i].1 = false := by simp [prv, Nat.ne_of_gt h0, hj, lateB]; simp_all
                exact ⟨i + 1, rfl, by omega, ⟨by omega, by rw [hc, chkG_step hi]; simp_all <;> (intro hh; omega)⟩, (Ent.sub (sub_cons rfl (sub_cons (int_fit (by omega) (by omega) (by omega)) (sub_nil _)))).trans (Ent.drop (List.nil_sublist _))⟩
            · skip
              refine wA.skip 3 rfl rfl rfl (by kernel_rfl) ?_
              refine wA.skip 4 rfl rfl rfl (by kernel_rfl) ?_
              refine wA.skip 5 rfl rfl rfl (by kernel_rfl) ?_
              refine wA.skip 6 rfl rfl rfl (by kernel_rfl) ?_
              refine wA.skip 7 rfl rfl rfl (by kernel_rfl) ?_
              refine wA.skip 8 rfl rfl rfl (by kernel_rfl) ?_
              refine wA.skip 9 rfl rfl rfl (by kernel_rfl) ?_
              refine wA.skip 10 rfl rfl rfl (by kernel_rfl) ?_
              refine wA.skip 11 rfl rfl rfl (by kernel_rfl) ?_
              refine wA.skip 12 rfl rfl rfl (by kernel_rfl) ?_
              refine wA.skip 13 rfl rfl rfl (by kernel_rfl) ?_
              refine wA.skip 14 rfl rfl rfl (by kernel_rfl) ?_
              refine wA.val 15 rfl rfl rfl (fun _ _ hK => gE rfl hK) (by kernel_rfl) ?_
              refine wA.done (by kernel_rfl) ?_
              refine hK43 _ _ _ ?_
              clear hK43 K42
              first | refine WC.cond (b := false) rfl (fun hh => by simp at hh) (fun _ => ?_) | refine WC.cond rfl (fun hh => by simp_all) (fun _ => ?_)
              refine WC.skip ?_
              refine hK20 _ _ _ ?_
              clear hK20 K19
              refine WC.region ?_
              refine wU (gE rfl ?_)
              refine wU (gE rfl ?_)
              refine wU (gE rfl ?_)
              refine wOps.done ?_
              have hp : lateB (prv l i) l[i].1 = false := by have h0 : i = 0 := (by simp at c44; omega); simp [prv, h0, lateB]
              exact ⟨i + 1, rfl, by omega, ⟨by omega, by rw [hc, chkG_step hi]; simp_all <;> (intro hh; omega)⟩, (Ent.sub (sub_cons rfl (sub_cons (int_fit (by omega) (by omega) (by omega)) (sub_nil _)))).trans (Ent.drop (List.nil_sublist _))⟩
    · skip
      refine WC.exit ?_
      refine hK11 _ _ _ ?_
      clear hK15 K14 hK11 K10
      refine WC.seq_k fun K48 hK49 => ?_
      refine WC.region ?_
      refine wU (gE rfl ?_)
      refine wOps.done ?_
      refine hK49 _ _ _ ?_
      clear hK49 K48
      refine WC.ret ?_
      refine ⟨_, rfl, congrArg (V.int .i64) ?_⟩
      simp only [chkL]; rw [if_neg h16, hc]
      rw [List.drop_of_length_le (by have := of_decide_eq_false c18; omega)]; simp [chkG]
theorem ord_tri (a b : Int) : PTri Tryz.prog 59 [.int .i64 a, .int .i64 b] (.int .i64 (cmpI a b)) := by
  refine Tri.of_wc Tryz.func59 rfl Tryz.results59 Tryz.ntmps59 (by simp) ?_
  refine WC.seq_k fun K1 hK2 => ?_
  refine WC.region ?_
  refine wU (gE rfl ?_)
  refine wOps.done ?_
  refine hK2 _ _ _ ?_
  clear hK2 K1
  refine WC.seq_k fun K3 hK4 => ?_
  refine WC.seq_k fun K5 hK6 => ?_
  refine WC.region ?_
  refine wU (gE rfl ?_)
  refine wU (gE rfl ?_)
  refine wU (gE rfl ?_)
  refine wOps.done ?_
  refine hK6 _ _ _ ?_
  clear hK6 K5
  refine WC.cond rfl (fun c7 => ?_) (fun c7 => ?_)
  · skip
    refine WC.seq_k fun K8 hK9 => ?_
    refine WC.region ?_
    refine wU (gE rfl ?_)
    refine wOps.done ?_
    refine hK9 _ _ _ ?_
    clear hK9 K8
    refine WC.ret ?_
    exact ⟨_, rfl, by simp_all [cmpI] <;> omega, rfl⟩
  · skip
    refine WC.skip ?_
    refine hK4 _ _ _ ?_
    clear hK4 K3
    refine WC.seq_k fun K10 hK11 => ?_
    refine WC.seq_k fun K12 hK13 => ?_
    refine WC.region ?_
    refine wU (gE rfl ?_)
    refine wU (gE rfl ?_)
    refine wU (gE rfl ?_)
    refine wOps.done ?_
    refine hK13 _ _ _ ?_
    clear hK13 K12
    refine WC.cond rfl (fun c14 => ?_) (fun c14 => ?_)
    · skip
      refine WC.seq_k fun K15 hK16 => ?_
      refine WC.region ?_
      refine wU (gE rfl ?_)
      refine wOps.done ?_
      refine hK16 _ _ _ ?_
      clear hK16 K15
      refine WC.ret ?_
      exact ⟨_, rfl, by simp_all [cmpI] <;> omega, rfl⟩
    · skip
      refine WC.skip ?_
      refine hK11 _ _ _ ?_
      clear hK11 K10
      refine WC.seq_k fun K17 hK18 => ?_
      refine WC.region ?_
      refine wU (gE rfl ?_)
      refine wOps.done ?_
      refine hK18 _ _ _ ?_
      clear hK18 K17
      refine WC.ret ?_
      exact ⟨_, rfl, by simp_all [cmpI] <;> omega, rfl⟩
theorem cont_tri (s : By) (hs : s.length ≤ 4294967295) : PTri Tryz.prog 45 [.str s, .int .u8 10] (.bool (s.contains 10)) := by
  refine Tri.of_wc Tryz.func45 rfl Tryz.results45 Tryz.ntmps45 (by simp) ?_
  refine WC.seq_k fun K1 hK2 => ?_
  refine WC.region ?_
  refine wU (gE rfl ?_)
  refine wOps.done ?_
  refine hK2 _ _ _ ?_
  clear hK2 K1
  refine WC.seq_k fun K3 hK4 => ?_
  refine WC.seq_k fun K5 hK6 => ?_
  refine WC.region ?_
  refine wU (gE rfl ?_)
  refine wOps.done ?_
  refine hK6 _ _ _ ?_
  clear hK6 K5
  refine WC.block ?_
  refine WC.loopI (fun k : Nat => [(0, .str s), (1, .int .u8 10), (5, .int .i64 k)]) (fun _ => []) (fun k => s.length - k) (fun k => k ≤ s.length ∧ (s.take k).contains 10 = false) 0 ?_ ?_ ?_ ?_
  · exact sub_cons rfl (sub_cons rfl (sub_cons rfl (sub_nil _)))
  · exact Ent.refl _ _
  · exact ⟨Nat.zero_le _, by simp⟩
  rintro k ⟨hk1, hk4⟩
  refine WC.seq_k fun K7 hK8 => ?_
  refine WC.seq_k fun K9 hK10 => ?_
  refine WC.region ?_
  refine wU (gE rfl ?_)
  refine wU (gE rfl ?_)
  refine wU (gLen rfl rfl tisstr9 ?_)
  refine wU (gE rfl ?_)
  refine wOps.done ?_
  refine hK10 _ _ _ ?_
  clear hK10 K9
  refine WC.cond rfl (fun c11 => ?_) (fun c11 => ?_)
  · skip
    refine WC.skip ?_
    refine hK8 _ _ _ ?_
    clear hK8 K7
    refine WC.seq_k fun K12 hK13 => ?_
    refine WC.block ?_
    refine WC.seq_k fun K14 hK15 => ?_
    refine WC.region ?_
    refine wU (gE rfl ?_)
    refine wU (gE rfl ?_)
    have hk : k < s.length := by simpa using c11
    refine wU (gIdxStr tisstr9 rfl rfl (by omega) (str_at hk) ?_)
    refine wU (gE rfl ?_)
    refine wU (gE rfl ?_)
    refine wOps.done ?_
    refine hK15 _ _ _ ?_
    clear hK15 K14
    refine WC.cond rfl (fun c16 => ?_) (fun c16 => ?_)
    · skip
      refine WC.seq_k fun K17 hK18 => ?_
      refine WC.region ?_
      refine wU (gE rfl ?_)
      refine wOps.done ?_
      refine hK18 _ _ _ ?_
      clear hK18 K17
      refine WC.ret ?_
      refine ⟨_, rfl, congrArg V.bool ?_, rfl⟩
      have hx : s[k] = 10 := by simpa [u8_10] using c16
      symm; rw [List.contains_iff_mem]; exact hx ▸ List.getElem_mem hk
    · skip
      refine WC.skip ?_
      refine hK13 _ _ _ ?_
      clear hK13 K12
      refine WC.region ?_
      refine wU (gE rfl ?_)
      refine wU (gE rfl ?_)
      refine wU (gE rfl ?_)
      refine wOps.done ?_
      have hx : s[k] ≠ 10 := by simpa [u8_10] using c16
      exact ⟨k + 1, rfl, by omega, ⟨by omega, by rw [List.take_succ_eq_append_getElem hk]; simp only [List.contains_eq_mem, decide_eq_false_iff_not, List.mem_append, List.mem_singleton, not_or] at hk4 ⊢; exact ⟨hk4, fun e => hx e.symm⟩⟩, Ent.sub (sub_cons rfl (sub_cons rfl (sub_cons (int_fit (by omega) (by omega) (by omega)) (sub_nil _))))⟩
  · skip
    refine WC.exit ?_
    refine hK4 _ _ _ ?_
    clear hK8 K7 hK4 K3
    refine WC.seq_k fun K19 hK20 => ?_
    refine WC.region ?_
    refine wU (gE rfl ?_)
    refine wOps.done ?_
    refine hK20 _ _ _ ?_
    clear hK20 K19
    refine WC.ret ?_
    have hx : k = s.length := by have := of_decide_eq_false c11; omega
    rw [hx, List.take_length] at hk4
    exact ⟨_, rfl, by rw [hk4], rfl⟩
theorem idxB_ge (c : UInt8) : ∀ s : By, -1 ≤ Lib.indexByte s c
  | [] => by simp [Lib.indexByte]
  | b :: s => by
    have ih := idxB_ge c s
    simp only [Lib.indexByte]
    split
    · omega
    · split <;> omega
theorem idxB_has (c : UInt8) : ∀ s : By, decide (0 ≤ Lib.indexByte s c) = s.contains c
  | [] => by simp [Lib.indexByte]
  | b :: s => by
    have ih := idxB_has c s
    have hg := idxB_ge c s
    have e : Lib.indexByte (b :: s) c = if b == c then 0 else if Lib.indexByte s c == -1 then -1 else Lib.indexByte s c + 1 := rfl
    rw [Bool.eq_iff_iff, decide_eq_true_eq] at ih ⊢
    rw [e]
    by_cases h : b = c
    · subst h; simp
    · have h1 : (b == c) = false := by simpa using h
      have h2 : (b :: s).contains c = s.contains c := by simp [List.contains_cons, Ne.symm h]
      rw [h1, h2, ← ih]
      simp only [Bool.false_eq_true, if_false]
      split
      · rename_i h3; have h3 : Lib.indexByte s c = -1 := by simpa using h3
        omega
      · rename_i h3; have h3 : ¬ Lib.indexByte s c = -1 := by simpa using h3
        omega
theorem nl_tri (s : By) : PTri Tryz.prog 58 [.str s, .str [10]] (.bool (s.contains 10)) :=
  PTri.of_same _ _ vrs_str2 (fun w => Tryz.strings_Contains_one ⟨s.toArray⟩ 10 w) fun F => by
    have := idxB_has 10 s
    simp only [this]
    exact VR.bool _
def chkE (e : En) : Int := if e.1 < 1 ∨ 1099511627776 < e.1 then 2 else if chkL e.2.1 ≠ 0 then chkL e.2.1 else if 1000 < e.2.2.1.length then 4 else if e.2.2.1.contains 10 = true then 3 else if chkL e.2.2.2.1 ≠ 0 then chkL e.2.2.2.1 else if e.2.2.2.2 < 0 ∨ 1152921504606846976 < e.2.2.2.2 then 2 else 0
/-- Its names are not too long for a count, too. -/
def fitN (e : En) : Prop := (∀ p ∈ e.2.1, p.1.length ≤ 4294967295) ∧ ∀ p ∈ e.2.2.2.1, p.1.length ≤ 4294967295
theorem chkE_tri (e : En) (h : fitE e) : PTri Tryz.prog 21 [env e] (.int .i64 (chkE e)) := by
  obtain ⟨t, ls, ln, fs, tr⟩ := e
  obtain ⟨h1, h2, h3⟩ := h
  unfold env
  simp only at h1 h2 h3 ⊢
  refine PTri.any (Tri.of_wc Tryz.func21 rfl Tryz.results21 Tryz.ntmps21 (by simp) ?_)
  refine WC.seq_k fun K1 hK2 => ?_
  refine WC.region ?_
  refine wU (gBox rfl fun b3 hb3 => ?_)
  refine wU (gE rfl ?_)
  refine wOps.done ?_
  refine hK2 _ _ _ ?_
  clear hK2 K1
  refine WC.seq_cut (α := Unit) (fun _ => [(1, .ptr b3 0)]) (fun _ => [(b3, .cells 36 [.int .i64 t, lsl ls, .str ln, lsl fs, .int .i64 tr] 5)]) (fun _ => ¬ (t < 1 ∨ 1099511627776 < t)) ?_ ?_
  · skip
    refine WC.seq_k fun K4 hK5 => ?_
    refine WC.region ?_
    refine wU (gField tfld36_0 tsz3 rfl ?_)
    refine wU (gLoad tagg3 rfl (by simp only [hget, ↓reduceIte] <;> rfl) rfl ?_)
    refine wU (gE rfl ?_)
    refine wU (gE rfl ?_)
    refine wG rfl rfl rfl rfl (by decide) (fun c6 => ?_) (fun c6 => ?_)
    · skip
      refine gField tfld36_0 tsz3 rfl ?_
      refine wY rfl (gLoad tagg3 rfl (by simp only [hget, ↓reduceIte] <;> rfl) rfl ?_)
      refine wY rfl (gE rfl ?_)
      refine wU (gE rfl ?_)
      refine wOps.done ?_
      refine hK5 _ _ _ ?_
      clear hK5 K4
      refine WC.cond rfl (fun c7 => ?_) (fun c7 => ?_)
      · skip
        refine WC.seq_k fun K8 hK9 => ?_
        refine WC.region ?_
        refine wU (gE rfl ?_)
        refine wOps.done ?_
        refine hK9 _ _ _ ?_
        clear hK9 K8
        refine WC.ret ?_
        refine ⟨_, rfl, congrArg (V.int .i64) ?_⟩
        simp only [chkE]
        simp_all <;> omega
      · skip
        refine WC.skip ?_
        exact ⟨(), rfl, by simp_all <;> omega, Ent.sub (sub_cons rfl (sub_nil _))⟩
    · skip
      refine wN rfl ?_
      refine wN rfl ?_
      refine wU (gE rfl ?_)
      refine wOps.done ?_
      refine hK5 _ _ _ ?_
      clear hK5 K4
      first | refine WC.cond (b := true) rfl (fun _ => ?_) (fun hh => by simp at hh) | refine WC.cond rfl (fun _ => ?_) (fun hh => by simp_all)
      refine WC.seq_k fun K10 hK11 => ?_
      refine WC.region ?_
      refine wU (gE rfl ?_)
      refine wOps.done ?_
      refine hK11 _ _ _ ?_
      clear hK11 K10
      refine WC.ret ?_
      refine ⟨_, rfl, congrArg (V.int .i64) ?_⟩
      simp only [chkE]
      simp_all <;> omega
  rintro ⟨⟩ ht1
  refine WC.seq_k fun K12 hK13 => ?_
  refine WC.seq_k fun K14 hK15 => ?_
  refine WC.region ?_
  refine wU (gField tfld36_1 tsz22 rfl ?_)
  refine wU (gLoad tagg22 rfl (by simp only [hget, ↓reduceIte] <;> rfl) rfl ?_)
  refine wU (gPure rfl isGo42 (chk_tri ls h1) ?_)
  refine wU (gE rfl ?_)
  refine wOps.done ?_
  refine hK15 _ _ _ ?_
  clear hK15 K14
  refine WC.seq_k fun K16 hK17 => ?_
  refine WC.region ?_
  refine wU (gE rfl ?_)
  refine wU (gE rfl ?_)
  refine wOps.done ?_
  refine hK17 _ _ _ ?_
  clear hK17 K16
  refine WC.cond rfl (fun c18 => ?_) (fun c18 => ?_)
  · skip
    refine WC.seq_k fun K19 hK20 => ?_
    refine WC.region ?_
    refine wU (gE rfl ?_)
    refine wU (gE rfl ?_)
    refine wOps.done ?_
    refine hK20 _ _ _ ?_
    clear hK20 K19
    refine WC.ret ?_
    refine ⟨_, rfl, congrArg (V.int .i64) ?_⟩
    simp only [chkE]
    simp_all <;> omega
  · skip
    refine WC.skip ?_
    refine hK13 _ _ _ ?_
    clear hK13 K12
    refine WC.seq_k fun K21 hK22 => ?_
    refine WC.seq_k fun K23 hK24 => ?_
    refine WC.region ?_
    refine wU (gField tfld36_2 tsz9 rfl ?_)
    refine wU (gLoad tagg9 rfl (by simp only [hget, ↓reduceIte] <;> rfl) rfl ?_)
    refine wU (gLen rfl rfl tisstr9 ?_)
    refine wU (gE rfl ?_)
    refine wOps.done ?_
    refine hK24 _ _ _ ?_
    clear hK24 K23
    refine WC.cond rfl (fun c25 => ?_) (fun c25 => ?_)
    · skip
      refine WC.seq_k fun K26 hK27 => ?_
      refine WC.region ?_
      refine wU (gE rfl ?_)
      refine wOps.done ?_
      refine hK27 _ _ _ ?_
      clear hK27 K26
      refine WC.ret ?_
      refine ⟨_, rfl, congrArg (V.int .i64) ?_⟩
      simp only [chkE]
      simp_all <;> omega
    · skip
      refine WC.skip ?_
      refine hK22 _ _ _ ?_
      clear hK22 K21
      refine WC.seq_k fun K28 hK29 => ?_
      refine WC.seq_k fun K30 hK31 => ?_
      refine WC.region ?_
      refine wU (gField tfld36_2 tsz9 rfl ?_)
      refine wU (gLoad tagg9 rfl (by simp only [hget, ↓reduceIte] <;> rfl) rfl ?_)
      refine wU (gPure rfl isGo58 (nl_tri ln) ?_)
      refine wOps.done ?_
      refine hK31 _ _ _ ?_
      clear hK31 K30
      refine WC.cond rfl (fun c32 => ?_) (fun c32 => ?_)
      · skip
        refine WC.seq_k fun K33 hK34 => ?_
        refine WC.region ?_
        refine wU (gE rfl ?_)
        refine wOps.done ?_
        refine hK34 _ _ _ ?_
        clear hK34 K33
        refine WC.ret ?_
        refine ⟨_, rfl, congrArg (V.int .i64) ?_⟩
        simp only [chkE]
        simp_all <;> omega
      · skip
        refine WC.skip ?_
        refine hK29 _ _ _ ?_
        clear hK29 K28
        refine WC.seq_k fun K35 hK36 => ?_
        refine WC.seq_k fun K37 hK38 => ?_
        refine WC.region ?_
        refine wU (gField tfld36_3 tsz22 rfl ?_)
        refine wU (gLoad tagg22 rfl (by simp only [hget, ↓reduceIte] <;> rfl) rfl ?_)
        refine wU (gPure rfl isGo42 (chk_tri fs h3) ?_)
        refine wU (gE rfl ?_)
        refine wOps.done ?_
        refine hK38 _ _ _ ?_
        clear hK38 K37
        refine WC.seq_k fun K39 hK40 => ?_
        refine WC.region ?_
        refine wU (gE rfl ?_)
        refine wU (gE rfl ?_)
        refine wOps.done ?_
        refine hK40 _ _ _ ?_
        clear hK40 K39
        refine WC.cond rfl (fun c41 => ?_) (fun c41 => ?_)
        · skip
          refine WC.seq_k fun K42 hK43 => ?_
          refine WC.region ?_
          refine wU (gE rfl ?_)
          refine wU (gE rfl ?_)
          refine wOps.done ?_
          refine hK43 _ _ _ ?_
          clear hK43 K42
          refine WC.ret ?_
          refine ⟨_, rfl, congrArg (V.int .i64) ?_⟩
          simp only [chkE]
          simp_all <;> omega
        · skip
          refine WC.skip ?_
          refine hK36 _ _ _ ?_
          clear hK36 K35
          refine WC.seq_k fun K44 hK45 => ?_
          refine WC.seq_k fun K46 hK47 => ?_
          refine WC.region ?_
          refine wU (gField tfld36_4 tsz3 rfl ?_)
          refine wU (gLoad tagg3 rfl (by simp only [hget, ↓reduceIte] <;> rfl) rfl ?_)
          refine wU (gE rfl ?_)
          refine wU (gE rfl ?_)
          refine wG rfl rfl rfl rfl (by decide) (fun c48 => ?_) (fun c48 => ?_)
          · skip
            refine gField tfld36_4 tsz3 rfl ?_
            refine wY rfl (gLoad tagg3 rfl (by simp only [hget, ↓reduceIte] <;> rfl) rfl ?_)
            refine wY rfl (gE rfl ?_)
            refine wU (gE rfl ?_)
            refine wOps.done ?_
            refine hK47 _ _ _ ?_
            clear hK47 K46
            refine WC.cond rfl (fun c49 => ?_) (fun c49 => ?_)
            · skip
              refine WC.seq_k fun K50 hK51 => ?_
              refine WC.region ?_
              refine wU (gE rfl ?_)
              refine wOps.done ?_
              refine hK51 _ _ _ ?_
              clear hK51 K50
              refine WC.ret ?_
              refine ⟨_, rfl, congrArg (V.int .i64) ?_⟩
              simp only [chkE]
              simp_all <;> omega
            · skip
              refine WC.skip ?_
              refine hK45 _ _ _ ?_
              clear hK45 K44
              refine WC.seq_k fun K52 hK53 => ?_
              refine WC.region ?_
              refine wU (gE rfl ?_)
              refine wOps.done ?_
              refine hK53 _ _ _ ?_
              clear hK53 K52
              refine WC.ret ?_
              refine ⟨_, rfl, congrArg (V.int .i64) ?_⟩
              simp only [chkE]
              simp_all <;> omega
          · skip
            refine wN rfl ?_
            refine wN rfl ?_
            refine wU (gE rfl ?_)
            refine wOps.done ?_
            refine hK47 _ _ _ ?_
            clear hK47 K46
            first | refine WC.cond (b := true) rfl (fun _ => ?_) (fun hh => by simp at hh) | refine WC.cond rfl (fun _ => ?_) (fun hh => by simp_all)
            refine WC.seq_k fun K54 hK55 => ?_
            refine WC.region ?_
            refine wU (gE rfl ?_)
            refine wOps.done ?_
            refine hK55 _ _ _ ?_
            clear hK55 K54
            refine WC.ret ?_
            refine ⟨_, rfl, congrArg (V.int .i64) ?_⟩
            simp only [chkE]
            simp_all <;> omega
theorem chkE5_tri (e : En) (h : fitE e) (hn : fitN e) : PTri Tryz.prog 22 [env e] (.int .i64 (chkE e)) := by
  obtain ⟨t, ls, ln, fs, tr⟩ := e
  obtain ⟨h1, h2, h3⟩ := h
  obtain ⟨n1, n2⟩ := hn
  unfold env
  simp only at h1 h2 h3 n1 n2 ⊢
  refine PTri.any (Tri.of_wc Tryz.func22 rfl Tryz.results22 Tryz.ntmps22 (by simp) ?_)
  refine WC.seq_k fun K1 hK2 => ?_
  refine WC.region ?_
  refine wU (gBox rfl fun b3 hb3 => ?_)
  refine wU (gE rfl ?_)
  refine wOps.done ?_
  refine hK2 _ _ _ ?_
  clear hK2 K1
  refine WC.seq_cut (α := Unit) (fun _ => [(1, .ptr b3 0)]) (fun _ => [(b3, .cells 36 [.int .i64 t, lsl ls, .str ln, lsl fs, .int .i64 tr] 5)]) (fun _ => ¬ (t < 1 ∨ 1099511627776 < t)) ?_ ?_
  · skip
    refine WC.seq_k fun K4 hK5 => ?_
    refine WC.region ?_
    refine wU (gField tfld36_0 tsz3 rfl ?_)
    refine wU (gLoad tagg3 rfl (by simp only [hget, ↓reduceIte] <;> rfl) rfl ?_)
    refine wU (gE rfl ?_)
    refine wU (gE rfl ?_)
    refine wG rfl rfl rfl rfl (by decide) (fun c6 => ?_) (fun c6 => ?_)
    · skip
      refine gField tfld36_0 tsz3 rfl ?_
      refine wY rfl (gLoad tagg3 rfl (by simp only [hget, ↓reduceIte] <;> rfl) rfl ?_)
      refine wY rfl (gE rfl ?_)
      refine wU (gE rfl ?_)
      refine wOps.done ?_
      refine hK5 _ _ _ ?_
      clear hK5 K4
      refine WC.cond rfl (fun c7 => ?_) (fun c7 => ?_)
      · skip
        refine WC.seq_k fun K8 hK9 => ?_
        refine WC.region ?_
        refine wU (gE rfl ?_)
        refine wOps.done ?_
        refine hK9 _ _ _ ?_
        clear hK9 K8
        refine WC.ret ?_
        refine ⟨_, rfl, congrArg (V.int .i64) ?_⟩
        simp only [chkE]
        simp_all <;> omega
      · skip
        refine WC.skip ?_
        exact ⟨(), rfl, by simp_all <;> omega, Ent.sub (sub_cons rfl (sub_nil _))⟩
    · skip
      refine wN rfl ?_
      refine wN rfl ?_
      refine wU (gE rfl ?_)
      refine wOps.done ?_
      refine hK5 _ _ _ ?_
      clear hK5 K4
      first | refine WC.cond (b := true) rfl (fun _ => ?_) (fun hh => by simp at hh) | refine WC.cond rfl (fun _ => ?_) (fun hh => by simp_all)
      refine WC.seq_k fun K10 hK11 => ?_
      refine WC.region ?_
      refine wU (gE rfl ?_)
      refine wOps.done ?_
      refine hK11 _ _ _ ?_
      clear hK11 K10
      refine WC.ret ?_
      refine ⟨_, rfl, congrArg (V.int .i64) ?_⟩
      simp only [chkE]
      simp_all <;> omega
  rintro ⟨⟩ ht1
  refine WC.seq_k fun K12 hK13 => ?_
  refine WC.seq_k fun K14 hK15 => ?_
  refine WC.region ?_
  refine wU (gField tfld36_1 tsz22 rfl ?_)
  refine wU (gLoad tagg22 rfl (by simp only [hget, ↓reduceIte] <;> rfl) rfl ?_)
  refine wU (gPure rfl isGo44 (chk5_tri ls h1 n1) ?_)
  refine wU (gE rfl ?_)
  refine wOps.done ?_
  refine hK15 _ _ _ ?_
  clear hK15 K14
  refine WC.seq_k fun K16 hK17 => ?_
  refine WC.region ?_
  refine wU (gE rfl ?_)
  refine wU (gE rfl ?_)
  refine wOps.done ?_
  refine hK17 _ _ _ ?_
  clear hK17 K16
  refine WC.cond rfl (fun c18 => ?_) (fun c18 => ?_)
  · skip
    refine WC.seq_k fun K19 hK20 => ?_
    refine WC.region ?_
    refine wU (gE rfl ?_)
    refine wU (gE rfl ?_)
    refine wOps.done ?_
    refine hK20 _ _ _ ?_
    clear hK20 K19
    refine WC.ret ?_
    refine ⟨_, rfl, congrArg (V.int .i64) ?_⟩
    simp only [chkE]
    simp_all <;> omega
  · skip
    refine WC.skip ?_
    refine hK13 _ _ _ ?_
    clear hK13 K12
    refine WC.seq_k fun K21 hK22 => ?_
    refine WC.seq_k fun K23 hK24 => ?_
    refine WC.region ?_
    refine wU (gField tfld36_2 tsz9 rfl ?_)
    refine wU (gLoad tagg9 rfl (by simp only [hget, ↓reduceIte] <;> rfl) rfl ?_)
    refine wU (gLen rfl rfl tisstr9 ?_)
    refine wU (gE rfl ?_)
    refine wOps.done ?_
    refine hK24 _ _ _ ?_
    clear hK24 K23
    refine WC.cond rfl (fun c25 => ?_) (fun c25 => ?_)
    · skip
      refine WC.seq_k fun K26 hK27 => ?_
      refine WC.region ?_
      refine wU (gE rfl ?_)
      refine wOps.done ?_
      refine hK27 _ _ _ ?_
      clear hK27 K26
      refine WC.ret ?_
      refine ⟨_, rfl, congrArg (V.int .i64) ?_⟩
      simp only [chkE]
      simp_all <;> omega
    · skip
      refine WC.skip ?_
      refine hK22 _ _ _ ?_
      clear hK22 K21
      refine WC.seq_k fun K28 hK29 => ?_
      refine WC.seq_k fun K30 hK31 => ?_
      refine WC.region ?_
      refine wU (gField tfld36_2 tsz9 rfl ?_)
      refine wU (gLoad tagg9 rfl (by simp only [hget, ↓reduceIte] <;> rfl) rfl ?_)
      refine wU (gPure rfl isGo45 (cont_tri ln h2) ?_)
      refine wOps.done ?_
      refine hK31 _ _ _ ?_
      clear hK31 K30
      refine WC.cond rfl (fun c32 => ?_) (fun c32 => ?_)
      · skip
        refine WC.seq_k fun K33 hK34 => ?_
        refine WC.region ?_
        refine wU (gE rfl ?_)
        refine wOps.done ?_
        refine hK34 _ _ _ ?_
        clear hK34 K33
        refine WC.ret ?_
        refine ⟨_, rfl, congrArg (V.int .i64) ?_⟩
        simp only [chkE]
        simp_all <;> omega
      · skip
        refine WC.skip ?_
        refine hK29 _ _ _ ?_
        clear hK29 K28
        refine WC.seq_k fun K35 hK36 => ?_
        refine WC.seq_k fun K37 hK38 => ?_
        refine WC.region ?_
        refine wU (gField tfld36_3 tsz22 rfl ?_)
        refine wU (gLoad tagg22 rfl (by simp only [hget, ↓reduceIte] <;> rfl) rfl ?_)
        refine wU (gPure rfl isGo44 (chk5_tri fs h3 n2) ?_)
        refine wU (gE rfl ?_)
        refine wOps.done ?_
        refine hK38 _ _ _ ?_
        clear hK38 K37
        refine WC.seq_k fun K39 hK40 => ?_
        refine WC.region ?_
        refine wU (gE rfl ?_)
        refine wU (gE rfl ?_)
        refine wOps.done ?_
        refine hK40 _ _ _ ?_
        clear hK40 K39
        refine WC.cond rfl (fun c41 => ?_) (fun c41 => ?_)
        · skip
          refine WC.seq_k fun K42 hK43 => ?_
          refine WC.region ?_
          refine wU (gE rfl ?_)
          refine wU (gE rfl ?_)
          refine wOps.done ?_
          refine hK43 _ _ _ ?_
          clear hK43 K42
          refine WC.ret ?_
          refine ⟨_, rfl, congrArg (V.int .i64) ?_⟩
          simp only [chkE]
          simp_all <;> omega
        · skip
          refine WC.skip ?_
          refine hK36 _ _ _ ?_
          clear hK36 K35
          refine WC.seq_k fun K44 hK45 => ?_
          refine WC.seq_k fun K46 hK47 => ?_
          refine WC.region ?_
          refine wU (gField tfld36_4 tsz3 rfl ?_)
          refine wU (gLoad tagg3 rfl (by simp only [hget, ↓reduceIte] <;> rfl) rfl ?_)
          refine wU (gE rfl ?_)
          refine wU (gE rfl ?_)
          refine wG rfl rfl rfl rfl (by decide) (fun c48 => ?_) (fun c48 => ?_)
          · skip
            refine gField tfld36_4 tsz3 rfl ?_
            refine wY rfl (gLoad tagg3 rfl (by simp only [hget, ↓reduceIte] <;> rfl) rfl ?_)
            refine wY rfl (gE rfl ?_)
            refine wU (gE rfl ?_)
            refine wOps.done ?_
            refine hK47 _ _ _ ?_
            clear hK47 K46
            refine WC.cond rfl (fun c49 => ?_) (fun c49 => ?_)
            · skip
              refine WC.seq_k fun K50 hK51 => ?_
              refine WC.region ?_
              refine wU (gE rfl ?_)
              refine wOps.done ?_
              refine hK51 _ _ _ ?_
              clear hK51 K50
              refine WC.ret ?_
              refine ⟨_, rfl, congrArg (V.int .i64) ?_⟩
              simp only [chkE]
              simp_all <;> omega
            · skip
              refine WC.skip ?_
              refine hK45 _ _ _ ?_
              clear hK45 K44
              refine WC.seq_k fun K52 hK53 => ?_
              refine WC.region ?_
              refine wU (gE rfl ?_)
              refine wOps.done ?_
              refine hK53 _ _ _ ?_
              clear hK53 K52
              refine WC.ret ?_
              refine ⟨_, rfl, congrArg (V.int .i64) ?_⟩
              simp only [chkE]
              simp_all <;> omega
          · skip
            refine wN rfl ?_
            refine wN rfl ?_
            refine wU (gE rfl ?_)
            refine wOps.done ?_
            refine hK47 _ _ _ ?_
            clear hK47 K46
            first | refine WC.cond (b := true) rfl (fun _ => ?_) (fun hh => by simp at hh) | refine WC.cond rfl (fun _ => ?_) (fun hh => by simp_all)
            refine WC.seq_k fun K54 hK55 => ?_
            refine WC.region ?_
            refine wU (gE rfl ?_)
            refine wOps.done ?_
            refine hK55 _ _ _ ?_
            clear hK55 K54
            refine WC.ret ?_
            refine ⟨_, rfl, congrArg (V.int .i64) ?_⟩
            simp only [chkE]
            simp_all <;> omega
end Go.Proofs.YtfdmdcpopmcmcaaGreatDoor
end

section
namespace Go.Proofs.YtfdmdcpopmcmcaaGreatDoor
open Go.Fw
variable [Gl]
set_option maxRecDepth 20000
def fnz : List Int → Int
  | [] => 0
  | x :: r => lexI x (fnz r)
theorem fnz_step {l : List Int} {i : Nat} (h : i < l.length) : fnz (l.drop i) = lexI l[i] (fnz (l.drop (i + 1))) := by
  rw [List.drop_eq_getElem_cons h]; rfl
theorem cmpE_fnz (a b : En) : cmpE a b = fnz [cmpI a.1 b.1, cmpL a.2.1 b.2.1, cmpB a.2.2.1 b.2.2.1, cmpL a.2.2.2.1 b.2.2.2.1, cmpI a.2.2.2.2 b.2.2.2.2] := by
  have e : ∀ x : Int, lexI x 0 = x := fun x => by unfold lexI; split <;> simp_all
  simp only [fnz, e, cmpE]
theorem cmpE5_tri (a b : En) (ha : fitE a) : PTri Tryz.prog 23 [env a, env b] (.int .i64 (cmpE a b)) := by
  rw [cmpE_fnz]
  obtain ⟨t, ls, ln, fs, tr⟩ := a
  obtain ⟨t', ls', ln', fs', tr'⟩ := b
  obtain ⟨h1, h2, h3⟩ := ha
  unfold env
  simp only at h1 h2 h3 ⊢
  have c1 := ord_tri t t'
  have c2 := cmpL_tri ls ls' h1
  have c3 := text_tri ln ln'
  have c4 := cmpL_tri fs fs' h3
  have c5 := ord_tri tr tr'
  generalize cmpI t t' = x0 at *
  generalize cmpL ls ls' = x1 at *
  generalize cmpB ln ln' = x2 at *
  generalize cmpL fs fs' = x3 at *
  generalize cmpI tr tr' = x4 at *
  refine PTri.any (Tri.of_wc Tryz.func23 rfl Tryz.results23 Tryz.ntmps23 (by simp) ?_)
  refine WC.seq_k fun K1 hK2 => ?_
  refine WC.region ?_
  refine wU (gBox rfl fun b3 hb3 => ?_)
  refine wU (gBox rfl fun b4 hb4 => ?_)
  simp only [Hp.ns_cons, Hp.ns_nil, List.mem_cons, List.not_mem_nil, or_false, not_or] at hb4
  refine wU (gE rfl ?_)
  refine wOps.done ?_
  refine hK2 _ _ _ ?_
  clear hK2 K1
  refine WC.seq_k fun K5 hK6 => ?_
  refine WC.region_draw mixed ?_
  refine wA.val 0 rfl rfl rfl (fun _ _ hK => gField tfld36_0 tsz3 rfl hK) (by kernel_rfl) ?_
  refine wA.val 2 rfl rfl rfl (fun _ _ hK => gField tfld36_0 tsz3 rfl hK) (by kernel_rfl) ?_
  refine wA.val 5 rfl rfl rfl (fun _ _ hK => gField tfld36_1 tsz22 rfl hK) (by kernel_rfl) ?_
  refine wA.val 7 rfl rfl rfl (fun _ _ hK => gField tfld36_1 tsz22 rfl hK) (by kernel_rfl) ?_
  refine wA.val 10 rfl rfl rfl (fun _ _ hK => gField tfld36_2 tsz9 rfl hK) (by kernel_rfl) ?_
  refine wA.val 12 rfl rfl rfl (fun _ _ hK => gField tfld36_2 tsz9 rfl hK) (by kernel_rfl) ?_
  refine wA.val 15 rfl rfl rfl (fun _ _ hK => gField tfld36_3 tsz22 rfl hK) (by kernel_rfl) ?_
  refine wA.val 17 rfl rfl rfl (fun _ _ hK => gField tfld36_3 tsz22 rfl hK) (by kernel_rfl) ?_
  refine wA.val 20 rfl rfl rfl (fun _ _ hK => gField tfld36_4 tsz3 rfl hK) (by kernel_rfl) ?_
  refine wA.val 22 rfl rfl rfl (fun _ _ hK => gField tfld36_4 tsz3 rfl hK) (by kernel_rfl) ?_
  refine wA.ld 1 rfl rfl rfl (fun _ hle _ hK => gLoad tagg3 rfl (hle _ _ (by simp only [hget, hb4, ↓reduceIte] <;> rfl)) rfl hK) (by kernel_rfl) ?_
  refine wA.ld 3 rfl rfl rfl (fun _ hle _ hK => gLoad tagg3 rfl (hle _ _ (by simp only [hget, hb4, ↓reduceIte] <;> rfl)) rfl hK) (by kernel_rfl) ?_
  refine wA.val 4 rfl rfl rfl (fun _ _ hK => by refine gPure rfl isGo59 c1 ?_; exact hK) (by kernel_rfl) ?_
  refine wA.ld 6 rfl rfl rfl (fun _ hle _ hK => gLoad tagg22 rfl (hle _ _ (by simp only [hget, hb4, ↓reduceIte] <;> rfl)) rfl hK) (by kernel_rfl) ?_
  refine wA.ld 8 rfl rfl rfl (fun _ hle _ hK => gLoad tagg22 rfl (hle _ _ (by simp only [hget, hb4, ↓reduceIte] <;> rfl)) rfl hK) (by kernel_rfl) ?_
  refine wA.val 9 rfl rfl rfl (fun _ _ hK => by refine gPure rfl isGo54 c2 ?_; exact hK) (by kernel_rfl) ?_
  refine wA.ld 11 rfl rfl rfl (fun _ hle _ hK => gLoad tagg9 rfl (hle _ _ (by simp only [hget, hb4, ↓reduceIte] <;> rfl)) rfl hK) (by kernel_rfl) ?_
  refine wA.ld 13 rfl rfl rfl (fun _ hle _ hK => gLoad tagg9 rfl (hle _ _ (by simp only [hget, hb4, ↓reduceIte] <;> rfl)) rfl hK) (by kernel_rfl) ?_
  refine wA.val 14 rfl rfl rfl (fun _ _ hK => by refine gPure rfl isGo60 c3 ?_; exact hK) (by kernel_rfl) ?_
  refine wA.ld 16 rfl rfl rfl (fun _ hle _ hK => gLoad tagg22 rfl (hle _ _ (by simp only [hget, hb4, ↓reduceIte] <;> rfl)) rfl hK) (by kernel_rfl) ?_
  refine wA.ld 18 rfl rfl rfl (fun _ hle _ hK => gLoad tagg22 rfl (hle _ _ (by simp only [hget, hb4, ↓reduceIte] <;> rfl)) rfl hK) (by kernel_rfl) ?_
  refine wA.val 19 rfl rfl rfl (fun _ _ hK => by refine gPure rfl isGo54 c4 ?_; exact hK) (by kernel_rfl) ?_
  refine wA.ld 21 rfl rfl rfl (fun _ hle _ hK => gLoad tagg3 rfl (hle _ _ (by simp only [hget, hb4, ↓reduceIte] <;> rfl)) rfl hK) (by kernel_rfl) ?_
  refine wA.ld 23 rfl rfl rfl (fun _ hle _ hK => gLoad tagg3 rfl (hle _ _ (by simp only [hget, hb4, ↓reduceIte] <;> rfl)) rfl hK) (by kernel_rfl) ?_
  refine wA.val 24 rfl rfl rfl (fun _ _ hK => by refine gPure rfl isGo59 c5 ?_; exact hK) (by kernel_rfl) ?_
  refine wA.eff 25 rfl (by kernel_rfl) rfl ?_
  refine gBuildSlice (cs := [.int .i64 x0, .int .i64 x1, .int .i64 x2, .int .i64 x3, .int .i64 x4]) tslice82 tsz3 tzero3 rfl (by simp [evFill, putL, zcells, vcells]) (by decide) (by decide) fun q hq => ?_
  refine wA.back ?_
  refine wA.val 26 rfl rfl rfl (fun _ _ hK => gE rfl hK) (by kernel_rfl) ?_
  refine wA.done (by kernel_rfl) ?_
  refine hK6 _ _ _ ?_
  clear hK6 K5
  refine WC.seq_k fun K7 hK8 => ?_
  refine WC.seq_k fun K9 hK10 => ?_
  refine WC.region ?_
  refine wU (gE rfl ?_)
  refine wOps.done ?_
  refine hK10 _ _ _ ?_
  clear hK10 K9
  refine WC.block ?_
  refine WC.loopI (α := Nat) (fun i => [(5, .slice q 0 5 5), (6, .int .i64 i)]) (fun _ => [(q, .cells 3 [.int .i64 x0, .int .i64 x1, .int .i64 x2, .int .i64 x3, .int .i64 x4] 5)]) (fun i => 5 - i) (fun i => i ≤ 5 ∧ fnz [x0, x1, x2, x3, x4] = fnz ([x0, x1, x2, x3, x4].drop i)) 0 ?_ ?_ ?_ ?_
  · exact sub_cons rfl (sub_cons rfl (sub_nil _))
  · exact Ent.drop (.cons_cons _ (List.nil_sublist _))
  · exact ⟨by simp, rfl⟩
  rintro i ⟨hil, hc⟩
  refine WC.seq_k fun K11 hK12 => ?_
  refine WC.seq_k fun K13 hK14 => ?_
  refine WC.region ?_
  refine wU (gE rfl ?_)
  refine wU (gE rfl ?_)
  refine wU (gLen rfl rfl (by rw [lenFits, tslice82]; rfl) ?_)
  refine wU (gE rfl ?_)
  refine wOps.done ?_
  refine hK14 _ _ _ ?_
  clear hK14 K13
  refine WC.cond rfl (fun c15 => ?_) (fun c15 => ?_)
  · skip
    refine WC.skip ?_
    refine hK12 _ _ _ ?_
    clear hK12 K11
    refine WC.seq_k fun K16 hK17 => ?_
    refine WC.block ?_
    refine WC.seq_k fun K18 hK19 => ?_
    refine WC.region ?_
    refine wU (gE rfl ?_)
    refine wU (gE rfl ?_)
    have hi : i < [x0, x1, x2, x3, x4].length := by have := of_decide_eq_true c15; simp; omega
    have hi5 : i < 5 := hi
    have hget5 : ([V.int .i64 x0, V.int .i64 x1, V.int .i64 x2, V.int .i64 x3, V.int .i64 x4] : List V)[0 + ((i : Nat) : Int).toNat * 1]? = some (V.int .i64 ([x0, x1, x2, x3, x4][i])) := by match i, hi5 with | 0, _ => rfl | 1, _ => rfl | 2, _ => rfl | 3, _ => rfl | 4, _ => rfl
    refine wU (gIdxS tslice82 tsz3 rfl rfl (by omega) (by omega) ?_)
    refine wU (gLoad tagg3 rfl (by simp only [hget, ↓reduceIte] <;> rfl) hget5 ?_)
    refine wU (gE rfl ?_)
    refine wOps.done ?_
    refine hK19 _ _ _ ?_
    clear hK19 K18
    refine WC.cond rfl (fun c20 => ?_) (fun c20 => ?_)
    · skip
      refine WC.seq_k fun K21 hK22 => ?_
      refine WC.region ?_
      refine wU (gE rfl ?_)
      refine wU (gE rfl ?_)
      refine wU (gIdxS tslice82 tsz3 rfl rfl (by omega) (by omega) ?_)
      refine wU (gLoad tagg3 rfl (by simp only [hget, ↓reduceIte] <;> rfl) hget5 ?_)
      refine wU (gE rfl ?_)
      refine wOps.done ?_
      refine hK22 _ _ _ ?_
      clear hK22 K21
      refine WC.ret ?_
      exact ⟨_, rfl, by rw [hc, fnz_step hi, lexI_pos (by simpa using c20)]⟩
    · skip
      refine WC.skip ?_
      refine hK17 _ _ _ ?_
      clear hK17 K16
      refine WC.region ?_
      refine wU (gE rfl ?_)
      refine wU (gE rfl ?_)
      refine wU (gE rfl ?_)
      refine wOps.done ?_
      exact ⟨i + 1, rfl, by omega, ⟨by omega, by rw [hc, fnz_step hi, lexI_zero (by simpa using c20)]⟩, Ent.sub (sub_cons rfl (sub_cons (int_fit (by omega) (by omega) (by omega)) (sub_nil _)))⟩
  · skip
    refine WC.exit ?_
    refine hK8 _ _ _ ?_
    clear hK12 K11 hK8 K7
    refine WC.seq_k fun K23 hK24 => ?_
    refine WC.region ?_
    refine wU (gE rfl ?_)
    refine wOps.done ?_
    refine hK24 _ _ _ ?_
    clear hK24 K23
    refine WC.ret ?_
    exact ⟨_, rfl, by rw [hc, List.drop_of_length_le (by have := of_decide_eq_false c15; simp; omega)]; rfl⟩
theorem lawEntries_tri (hG : GInt) (a b : En) (ha : fitE a) (hb : fitE b) (na : fitN a) : PTri Tryz.prog 5 [env a, env b] (.bool true) := by
  have hga := greatE_tri a ha
  have hgb := greatE_tri b hb
  have hc1 := chkE_tri a ha
  have hc2 := chkE5_tri a ha na
  have hm1 := cmpE_tri a b ha
  have hm2 := cmpE5_tri a b ha
  generalize chkE a = x at *
  generalize cmpE a b = y at *
  obtain ⟨t, ls, ln, fs, tr⟩ := a
  obtain ⟨t', ls', ln', fs', tr'⟩ := b
  unfold env at *
  simp only at *
  refine PTri.any (Tri.of_wc Tryz.func5 rfl Tryz.results5 Tryz.ntmps5 (by simp) ?_)
  refine WC.seq_k fun K1 hK2 => ?_
  refine WC.region ?_
  refine wU (gBox rfl fun b3 hb3 => ?_)
  refine wU (gBox rfl fun b4 hb4 => ?_)
  simp only [Hp.ns_cons, Hp.ns_nil, List.mem_cons, List.not_mem_nil, or_false, not_or] at hb4
  refine wU (gE rfl ?_)
  refine wOps.done ?_
  refine hK2 _ _ _ ?_
  clear hK2 K1
  refine WC.seq_k fun K5 hK6 => ?_
  refine WC.seq_k fun K7 hK8 => ?_
  simp only [vcells, List.length_cons, List.length_nil]
  refine WC.region ?_
  refine wU (gLoadA tagg36 tsz36 rfl (by simp only [hget, hb4, ↓reduceIte] <;> rfl) (by simp [putL]) rfl ?_)
  refine wU (gPure rfl isGo18 hga ?_)
  refine wU (gE rfl ?_)
  refine wG rfl rfl rfl rfl (by decide) (fun c9 => ?_) (fun c9 => ?_)
  · skip
    refine gLoadA tagg36 tsz36 rfl (by simp only [hget, hb4, ↓reduceIte] <;> rfl) (by simp [putL]) rfl ?_
    refine wY rfl (gPure rfl isGo18 hgb ?_)
    refine wU (gE rfl ?_)
    refine wOps.done ?_
    refine hK8 _ _ _ ?_
    clear hK8 K7
    refine WC.cond rfl (fun c10 => ?_) (fun c10 => ?_)
    · skip
      refine WC.seq_k fun K11 hK12 => ?_
      refine WC.region ?_
      refine wU (gPure rfl isGo9 (awake_tri hG) ?_)
      refine wU (gE rfl ?_)
      refine wOps.done ?_
      refine hK12 _ _ _ ?_
      clear hK12 K11
      refine WC.ret ?_
      exact ⟨_, rfl, rfl⟩
    · skip
      refine WC.skip ?_
      refine hK6 _ _ _ ?_
      clear hK6 K5
      refine WC.seq_k fun K13 hK14 => ?_
      refine WC.region_draw mixed ?_
      refine wA.ld 0 rfl rfl rfl (fun _ hle _ hK => gLoadA tagg36 tsz36 rfl (hle _ _ (by simp only [hget, hb4, ↓reduceIte] <;> rfl)) (by simp [putL]) rfl hK) (by kernel_rfl) ?_
      refine wA.val 1 rfl rfl rfl (fun _ _ hK => by refine gPure rfl isGo21 hc1 ?_; exact hK) (by kernel_rfl) ?_
      refine wA.ld 2 rfl rfl rfl (fun _ hle _ hK => gLoadA tagg36 tsz36 rfl (hle _ _ (by simp only [hget, hb4, ↓reduceIte] <;> rfl)) (by simp [putL]) rfl hK) (by kernel_rfl) ?_
      refine wA.val 3 rfl rfl rfl (fun _ _ hK => by refine gPure rfl isGo22 hc2 ?_; exact hK) (by kernel_rfl) ?_
      refine wA.val 4 rfl rfl rfl (fun _ _ hK => gE (v := .bool true) (show some (V.bool (decide (x = x))) = some (V.bool true) by simp) hK) (by kernel_rfl) ?_
      refine wA.val 5 rfl rfl rfl (fun _ _ hK => gE rfl hK) (by kernel_rfl) ?_
      refine wA.ld 6 rfl rfl rfl (fun _ hle _ hK => gLoadA tagg36 tsz36 rfl (hle _ _ (by simp only [hget, hb4, ↓reduceIte] <;> rfl)) (by simp [putL]) rfl hK) (by kernel_rfl) ?_
      refine wA.ld 7 rfl rfl rfl (fun _ hle _ hK => gLoadA tagg36 tsz36 rfl (hle _ _ (by simp only [hget, hb4, ↓reduceIte] <;> rfl)) (by simp [putL]) rfl hK) (by kernel_rfl) ?_
      refine wA.val 8 rfl rfl rfl (fun _ _ hK => by refine gPure rfl isGo19 hm1 ?_; exact hK) (by kernel_rfl) ?_
      refine wA.ld 9 rfl rfl rfl (fun _ hle _ hK => gLoadA tagg36 tsz36 rfl (hle _ _ (by simp only [hget, hb4, ↓reduceIte] <;> rfl)) (by simp [putL]) rfl hK) (by kernel_rfl) ?_
      refine wA.ld 10 rfl rfl rfl (fun _ hle _ hK => gLoadA tagg36 tsz36 rfl (hle _ _ (by simp only [hget, hb4, ↓reduceIte] <;> rfl)) (by simp [putL]) rfl hK) (by kernel_rfl) ?_
      refine wA.val 11 rfl rfl rfl (fun _ _ hK => by refine gPure rfl isGo23 hm2 ?_; exact hK) (by kernel_rfl) ?_
      refine wA.val 12 rfl rfl rfl (fun _ _ hK => gE (v := .bool true) (show some (V.bool (decide (y = y))) = some (V.bool true) by simp) hK) (by kernel_rfl) ?_
      refine wA.val 13 rfl rfl rfl (fun _ _ hK => gE rfl hK) (by kernel_rfl) ?_
      refine wA.val 14 rfl rfl rfl (fun _ _ hK => gE rfl hK) (by kernel_rfl) ?_
      refine wA.val 15 rfl rfl rfl (fun _ _ hK => by refine gPure rfl isGo9 (awake_tri hG) ?_; exact hK) (by kernel_rfl) ?_
      refine wA.val 16 rfl rfl rfl (fun _ _ hK => gE rfl hK) (by kernel_rfl) ?_
      refine wA.val 17 rfl rfl rfl (fun _ _ hK => gE rfl hK) (by kernel_rfl) ?_
      refine wA.done (by kernel_rfl) ?_
      refine hK14 _ _ _ ?_
      clear hK14 K13
      refine WC.ret ?_
      exact ⟨_, rfl, rfl⟩
  · skip
    refine wN rfl ?_
    refine wU (gE rfl ?_)
    refine wOps.done ?_
    refine hK8 _ _ _ ?_
    clear hK8 K7
    first | refine WC.cond (b := true) rfl (fun _ => ?_) (fun hh => by simp at hh) | refine WC.cond rfl (fun _ => ?_) (fun hh => by simp_all)
    refine WC.seq_k fun K15 hK16 => ?_
    refine WC.region ?_
    refine wU (gPure rfl isGo9 (awake_tri hG) ?_)
    refine wU (gE rfl ?_)
    refine wOps.done ?_
    refine hK16 _ _ _ ?_
    clear hK16 K15
    refine WC.ret ?_
    exact ⟨_, rfl, rfl⟩
end Go.Proofs.YtfdmdcpopmcmcaaGreatDoor
end

section
namespace Go.Proofs.YtfdmdcpopmcmcaaGreatDoor
open Go.Fw
variable [Gl]
theorem isGo52 : isGo Tryz.prog 52 = true := by kernel_rfl
theorem isGo53 : isGo Tryz.prog 53 = true := by kernel_rfl
theorem tint3 : tint Tryz.prog 3 = some .i64 := by kernel_rfl
set_option maxRecDepth 20000
theorem wrap_low {c : UInt8} (h1 : 65 ≤ (c.toNat : Int)) (h2 : (c.toNat : Int) ≤ 90) : IntKind.u8.wrap ((c.toNat : Int) + 32) = ((lowB c).toNat : Int) := by
  have e : lowB c = c + 32 := by unfold lowB; rw [if_pos (by omega)]
  have e2 : (c + 32).toNat = c.toNat + 32 := by rw [UInt8.toNat_add]; simp; omega
  rw [e, e2]
  simp only [IntKind.wrap, IntKind.bits, IntKind.signed]
  simp; omega
theorem letter2_tri (c : UInt8) : PTri Tryz.prog 52 [.int .u8 c.toNat] (.tup [.int .u8 (lowB c).toNat, .bool (tbB c)]) := by
  refine Tri.of_wc Tryz.func52 rfl Tryz.results52 Tryz.ntmps52 (by simp) ?_
  refine WC.seq_k fun K1 hK2 => ?_
  refine WC.region ?_
  refine wU (gE rfl ?_)
  refine wU (gE rfl ?_)
  refine wOps.done ?_
  refine hK2 _ _ _ ?_
  clear hK2 K1
  refine WC.seq_k fun K3 hK4 => ?_
  refine WC.seq_k fun K5 hK6 => ?_
  refine WC.region ?_
  refine wU (gE rfl ?_)
  refine wU (gE rfl ?_)
  refine wU (gE rfl ?_)
  refine wG rfl rfl rfl rfl (by decide) (fun c7 => ?_) (fun c7 => ?_)
  · skip
    refine gE rfl ?_
    refine wY rfl (gE rfl ?_)
    refine wU (gE rfl ?_)
    refine wOps.done ?_
    refine hK6 _ _ _ ?_
    clear hK6 K5
    refine WC.cond rfl (fun c8 => ?_) (fun c8 => ?_)
    · skip
      refine WC.seq_k fun K9 hK10 => ?_
      refine WC.region ?_
      refine wU (gE rfl ?_)
      refine wU (gE rfl ?_)
      refine wU (gE rfl ?_)
      refine wU (gE rfl ?_)
      refine wOps.done ?_
      refine hK10 _ _ _ ?_
      clear hK10 K9
      refine WC.ret ?_
      have h1 : (65 : Int) ≤ c.toNat := by simpa using c7
      have h2 : (c.toNat : Int) ≤ 90 := by simpa using c8
      exact ⟨_, rfl, by rw [wrap_low h1 h2]; simp [tbB, isTB, h1, h2], rfl⟩
    · skip
      refine WC.skip ?_
      refine hK4 _ _ _ ?_
      clear hK4 K3
      refine WC.seq_k fun K11 hK12 => ?_
      refine WC.region ?_
      refine wU (gE rfl ?_)
      refine wU (gE rfl ?_)
      refine wU (gE rfl ?_)
      refine wU (gE rfl ?_)
      refine wG rfl rfl rfl rfl (by decide) (fun c13 => ?_) (fun c13 => ?_)
      · skip
        refine gE rfl ?_
        refine wY rfl (gE rfl ?_)
        refine wU (gE rfl ?_)
        refine wU (gE rfl ?_)
        refine wG rfl rfl rfl rfl (by decide) (fun c14 => ?_) (fun c14 => ?_)
        · skip
          refine gE rfl ?_
          refine wY rfl (gE rfl ?_)
          refine wY rfl (gE rfl ?_)
          refine wG rfl rfl rfl rfl (by decide) (fun c15 => ?_) (fun c15 => ?_)
          · skip
            refine gE rfl ?_
            refine wY rfl (gE rfl ?_)
            refine wY rfl (gE rfl ?_)
            refine wU (gE rfl ?_)
            refine wU (gE rfl ?_)
            refine wG rfl rfl rfl rfl (by decide) (fun c16 => ?_) (fun c16 => ?_)
            · skip
              refine gE rfl ?_
              refine wY rfl (gE rfl ?_)
              refine wU (gE rfl ?_)
              refine wU (gE rfl ?_)
              refine wU (gE rfl ?_)
              refine wOps.done ?_
              refine hK12 _ _ _ ?_
              clear hK12 K11
              refine WC.ret ?_
              have hn : ¬ (65 ≤ (c.toNat : Int) ∧ (c.toNat : Int) ≤ 90) := by simp_all <;> omega
              refine ⟨_, rfl, ?_, rfl⟩
              rw [lowB_no hn]
              congr 3
              simp_all [tbB, isTB] <;> omega
            · skip
              refine wN rfl ?_
              refine wU (gE rfl ?_)
              refine wU (gE rfl ?_)
              refine wU (gE rfl ?_)
              refine wOps.done ?_
              refine hK12 _ _ _ ?_
              clear hK12 K11
              refine WC.ret ?_
              have hn : ¬ (65 ≤ (c.toNat : Int) ∧ (c.toNat : Int) ≤ 90) := by simp_all <;> omega
              refine ⟨_, rfl, ?_, rfl⟩
              rw [lowB_no hn]
              congr 3
              simp_all [tbB, isTB] <;> omega
          · skip
            refine wN rfl ?_
            refine wY rfl (gE rfl ?_)
            refine wU (gE rfl ?_)
            refine wU (gE rfl ?_)
            refine wY rfl (gE rfl ?_)
            refine wY rfl (gE rfl ?_)
            refine wU (gE rfl ?_)
            refine wU (gE rfl ?_)
            refine wU (gE rfl ?_)
            refine wOps.done ?_
            refine hK12 _ _ _ ?_
            clear hK12 K11
            refine WC.ret ?_
            have hn : ¬ (65 ≤ (c.toNat : Int) ∧ (c.toNat : Int) ≤ 90) := by simp_all <;> omega
            refine ⟨_, rfl, ?_, rfl⟩
            rw [lowB_no hn]
            congr 3
            simp_all [tbB, isTB] <;> omega
        · skip
          refine wN rfl ?_
          refine wN rfl ?_
          refine wZ rfl ?_
          refine wZ rfl ?_
          refine wN rfl ?_
          refine wU (gE rfl ?_)
          refine wU (gE rfl ?_)
          refine wN rfl ?_
          refine wN rfl ?_
          refine wU (gE rfl ?_)
          refine wU (gE rfl ?_)
          refine wU (gE rfl ?_)
          refine wOps.done ?_
          refine hK12 _ _ _ ?_
          clear hK12 K11
          refine WC.ret ?_
          have hn : ¬ (65 ≤ (c.toNat : Int) ∧ (c.toNat : Int) ≤ 90) := by simp_all <;> omega
          refine ⟨_, rfl, ?_, rfl⟩
          rw [lowB_no hn]
          congr 3
          simp_all [tbB, isTB] <;> omega
      · skip
        refine wN rfl ?_
        refine wU (gE rfl ?_)
        refine wU (gE rfl ?_)
        refine wY rfl (gE rfl ?_)
        refine wY rfl (gE rfl ?_)
        refine wY rfl (gE rfl ?_)
        refine wG rfl rfl rfl rfl (by decide) (fun c17 => ?_) (fun c17 => ?_)
        · skip
          refine gE rfl ?_
          refine wY rfl (gE rfl ?_)
          refine wY rfl (gE rfl ?_)
          refine wU (gE rfl ?_)
          refine wU (gE rfl ?_)
          refine wG rfl rfl rfl rfl (by decide) (fun c18 => ?_) (fun c18 => ?_)
          · skip
            refine gE rfl ?_
            refine wY rfl (gE rfl ?_)
            refine wU (gE rfl ?_)
            refine wU (gE rfl ?_)
            refine wU (gE rfl ?_)
            refine wOps.done ?_
            refine hK12 _ _ _ ?_
            clear hK12 K11
            refine WC.ret ?_
            have hn : ¬ (65 ≤ (c.toNat : Int) ∧ (c.toNat : Int) ≤ 90) := by simp_all <;> omega
            refine ⟨_, rfl, ?_, rfl⟩
            rw [lowB_no hn]
            congr 3
            simp_all [tbB, isTB] <;> omega
          · skip
            refine wN rfl ?_
            refine wU (gE rfl ?_)
            refine wU (gE rfl ?_)
            refine wU (gE rfl ?_)
            refine wOps.done ?_
            refine hK12 _ _ _ ?_
            clear hK12 K11
            refine WC.ret ?_
            have hn : ¬ (65 ≤ (c.toNat : Int) ∧ (c.toNat : Int) ≤ 90) := by simp_all <;> omega
            refine ⟨_, rfl, ?_, rfl⟩
            rw [lowB_no hn]
            congr 3
            simp_all [tbB, isTB] <;> omega
        · skip
          refine wN rfl ?_
          refine wY rfl (gE rfl ?_)
          refine wU (gE rfl ?_)
          refine wU (gE rfl ?_)
          refine wY rfl (gE rfl ?_)
          refine wY rfl (gE rfl ?_)
          refine wU (gE rfl ?_)
          refine wU (gE rfl ?_)
          refine wU (gE rfl ?_)
          refine wOps.done ?_
          refine hK12 _ _ _ ?_
          clear hK12 K11
          refine WC.ret ?_
          have hn : ¬ (65 ≤ (c.toNat : Int) ∧ (c.toNat : Int) ≤ 90) := by simp_all <;> omega
          refine ⟨_, rfl, ?_, rfl⟩
          rw [lowB_no hn]
          congr 3
          simp_all [tbB, isTB] <;> omega
  · skip
    refine wN rfl ?_
    refine wU (gE rfl ?_)
    refine wOps.done ?_
    refine hK6 _ _ _ ?_
    clear hK6 K5
    first | refine WC.cond (b := false) rfl (fun hh => by simp at hh) (fun _ => ?_) | refine WC.cond rfl (fun hh => by simp_all) (fun _ => ?_)
    refine WC.skip ?_
    refine hK4 _ _ _ ?_
    clear hK4 K3
    refine WC.seq_k fun K19 hK20 => ?_
    refine WC.region ?_
    refine wU (gE rfl ?_)
    refine wU (gE rfl ?_)
    refine wU (gE rfl ?_)
    refine wU (gE rfl ?_)
    refine wG rfl rfl rfl rfl (by decide) (fun c21 => ?_) (fun c21 => ?_)
    · skip
      refine gE rfl ?_
      refine wY rfl (gE rfl ?_)
      refine wU (gE rfl ?_)
      refine wU (gE rfl ?_)
      refine wG rfl rfl rfl rfl (by decide) (fun c22 => ?_) (fun c22 => ?_)
      · skip
        refine gE rfl ?_
        refine wY rfl (gE rfl ?_)
        refine wY rfl (gE rfl ?_)
        refine wG rfl rfl rfl rfl (by decide) (fun c23 => ?_) (fun c23 => ?_)
        · skip
          refine gE rfl ?_
          refine wY rfl (gE rfl ?_)
          refine wY rfl (gE rfl ?_)
          refine wU (gE rfl ?_)
          refine wU (gE rfl ?_)
          refine wG rfl rfl rfl rfl (by decide) (fun c24 => ?_) (fun c24 => ?_)
          · skip
            refine gE rfl ?_
            refine wY rfl (gE rfl ?_)
            refine wU (gE rfl ?_)
            refine wU (gE rfl ?_)
            refine wU (gE rfl ?_)
            refine wOps.done ?_
            refine hK20 _ _ _ ?_
            clear hK20 K19
            refine WC.ret ?_
            have hn : ¬ (65 ≤ (c.toNat : Int) ∧ (c.toNat : Int) ≤ 90) := by simp_all <;> omega
            refine ⟨_, rfl, ?_, rfl⟩
            rw [lowB_no hn]
            congr 3
            simp_all [tbB, isTB] <;> omega
          · skip
            refine wN rfl ?_
            refine wU (gE rfl ?_)
            refine wU (gE rfl ?_)
            refine wU (gE rfl ?_)
            refine wOps.done ?_
            refine hK20 _ _ _ ?_
            clear hK20 K19
            refine WC.ret ?_
            have hn : ¬ (65 ≤ (c.toNat : Int) ∧ (c.toNat : Int) ≤ 90) := by simp_all <;> omega
            refine ⟨_, rfl, ?_, rfl⟩
            rw [lowB_no hn]
            congr 3
            simp_all [tbB, isTB] <;> omega
        · skip
          refine wN rfl ?_
          refine wY rfl (gE rfl ?_)
          refine wU (gE rfl ?_)
          refine wU (gE rfl ?_)
          refine wY rfl (gE rfl ?_)
          refine wY rfl (gE rfl ?_)
          refine wU (gE rfl ?_)
          refine wU (gE rfl ?_)
          refine wU (gE rfl ?_)
          refine wOps.done ?_
          refine hK20 _ _ _ ?_
          clear hK20 K19
          refine WC.ret ?_
          have hn : ¬ (65 ≤ (c.toNat : Int) ∧ (c.toNat : Int) ≤ 90) := by simp_all <;> omega
          refine ⟨_, rfl, ?_, rfl⟩
          rw [lowB_no hn]
          congr 3
          simp_all [tbB, isTB] <;> omega
      · skip
        refine wN rfl ?_
        refine wN rfl ?_
        refine wZ rfl ?_
        refine wZ rfl ?_
        refine wN rfl ?_
        refine wU (gE rfl ?_)
        refine wU (gE rfl ?_)
        refine wN rfl ?_
        refine wN rfl ?_
        refine wU (gE rfl ?_)
        refine wU (gE rfl ?_)
        refine wU (gE rfl ?_)
        refine wOps.done ?_
        refine hK20 _ _ _ ?_
        clear hK20 K19
        refine WC.ret ?_
        have hn : ¬ (65 ≤ (c.toNat : Int) ∧ (c.toNat : Int) ≤ 90) := by simp_all <;> omega
        refine ⟨_, rfl, ?_, rfl⟩
        rw [lowB_no hn]
        congr 3
        simp_all [tbB, isTB] <;> omega
    · skip
      refine wN rfl ?_
      refine wU (gE rfl ?_)
      refine wU (gE rfl ?_)
      refine wY rfl (gE rfl ?_)
      refine wY rfl (gE rfl ?_)
      refine wY rfl (gE rfl ?_)
      refine wG rfl rfl rfl rfl (by decide) (fun c25 => ?_) (fun c25 => ?_)
      · skip
        refine gE rfl ?_
        refine wY rfl (gE rfl ?_)
        refine wY rfl (gE rfl ?_)
        refine wU (gE rfl ?_)
        refine wU (gE rfl ?_)
        refine wG rfl rfl rfl rfl (by decide) (fun c26 => ?_) (fun c26 => ?_)
        · skip
          refine gE rfl ?_
          refine wY rfl (gE rfl ?_)
          refine wU (gE rfl ?_)
          refine wU (gE rfl ?_)
          refine wU (gE rfl ?_)
          refine wOps.done ?_
          refine hK20 _ _ _ ?_
          clear hK20 K19
          refine WC.ret ?_
          have hn : ¬ (65 ≤ (c.toNat : Int) ∧ (c.toNat : Int) ≤ 90) := by simp_all <;> omega
          refine ⟨_, rfl, ?_, rfl⟩
          rw [lowB_no hn]
          congr 3
          simp_all [tbB, isTB] <;> omega
        · skip
          refine wN rfl ?_
          refine wU (gE rfl ?_)
          refine wU (gE rfl ?_)
          refine wU (gE rfl ?_)
          refine wOps.done ?_
          refine hK20 _ _ _ ?_
          clear hK20 K19
          refine WC.ret ?_
          have hn : ¬ (65 ≤ (c.toNat : Int) ∧ (c.toNat : Int) ≤ 90) := by simp_all <;> omega
          refine ⟨_, rfl, ?_, rfl⟩
          rw [lowB_no hn]
          congr 3
          simp_all [tbB, isTB] <;> omega
      · skip
        refine wN rfl ?_
        refine wY rfl (gE rfl ?_)
        refine wU (gE rfl ?_)
        refine wU (gE rfl ?_)
        refine wY rfl (gE rfl ?_)
        refine wY rfl (gE rfl ?_)
        refine wU (gE rfl ?_)
        refine wU (gE rfl ?_)
        refine wU (gE rfl ?_)
        refine wOps.done ?_
        refine hK20 _ _ _ ?_
        clear hK20 K19
        refine WC.ret ?_
        have hn : ¬ (65 ≤ (c.toNat : Int) ∧ (c.toNat : Int) ≤ 90) := by simp_all <;> omega
        refine ⟨_, rfl, ?_, rfl⟩
        rw [lowB_no hn]
        congr 3
        simp_all [tbB, isTB] <;> omega
def insS (s : By) : List By → List By
  | [] => [s]
  | x :: r => if s < x then s :: x :: r else x :: insS s r
def withS (l : List By) (s : By) : List By := if l.contains s then l else insS s l
theorem insS_at {s : By} {l : List By} {i : Nat} (h : i < l.length) : insS s (l.drop i) = if s < l[i] then s :: l[i] :: l.drop (i + 1) else l[i] :: insS s (l.drop (i + 1)) := by
  rw [List.drop_eq_getElem_cons h]; rfl
theorem insS_length (s : By) : ∀ l : List By, (insS s l).length = l.length + 1
  | [] => rfl
  | x :: r => by
    simp only [insS]
    split
    · simp
    · simp [insS_length s r]
theorem gtr_lt {a b : By} (h : Op.bytesLess a b = false ∧ ¬ a = b) : b < a := lt_ne ((bl_no a b).1 h.1) fun e => h.2 e.symm
theorem gtr_no {a b : By} (h : Op.bytesLess a b = false → a = b) : ¬ b < a := fun hlt => by
  have h1 := h ((bl_no a b).2 (lt_le hlt))
  exact lt_irr (h1 ▸ hlt)
theorem withS_tri0 (l : List By) (s : By) (hl : l.length ≤ 1000000) : Tri Tryz.prog 53 [ssl l, .str s] [] fun v h' => (v = ssl l ∧ l.contains s = true) ∨ ∃ o hx, (o = none → insS s l = []) ∧ v = gsV o (insS s l).length ∧ h' = gsH 9 1 o (scs (insS s l)) ++ hx ∧ l.contains s = false := by
  unfold ssl
  refine Tri.of_wc Tryz.func53 rfl Tryz.results53 Tryz.ntmps53 (by simp) ?_
  refine WC.seq_k fun K1 hK2 => ?_
  refine WC.region ?_
  refine wU (gE rfl ?_)
  refine wOps.done ?_
  refine hK2 _ _ _ ?_
  clear hK2 K1
  refine WC.seq_k fun K3 hK4 => ?_
  refine WC.region ?_
  refine wU (gBuildSlice (cs := []) tslice31 tsz9 tzero9 rfl (by simp [evFill, putL, zcells, vcells]) (by decide) (by decide) fun p0 hp0 => ?_)
  refine wU (gE rfl ?_)
  refine wOps.done ?_
  refine hK4 _ _ _ ?_
  clear hK4 K3
  refine WC.seq_k fun K5 hK6 => ?_
  refine WC.region ?_
  refine wU (gE rfl ?_)
  refine wOps.done ?_
  refine hK6 _ _ _ ?_
  clear hK6 K5
  refine WC.seq_k fun K7 hK8 => ?_
  refine WC.seq_k fun K9 hK10 => ?_
  refine WC.region ?_
  refine wU (gE rfl ?_)
  refine wOps.done ?_
  refine hK10 _ _ _ ?_
  clear hK10 K9
  refine WC.block ?_
  refine WC.loopI (α := Nat × BS × List By × Bool) (fun a => [(0, .fslice (scs l) l.length), (1, .str s), (5, gsV a.2.1 a.2.2.1.length), (6, .bool a.2.2.2), (7, .int .i64 a.1)]) (fun a => gsH 9 1 a.2.1 (scs a.2.2.1)) (fun a => l.length - a.1) (fun a => a.1 ≤ l.length ∧ insS s l = a.2.2.1 ++ (if a.2.2.2 = true then l.drop a.1 else insS s (l.drop a.1)) ∧ a.2.2.1.length ≤ a.1 + a.2.2.2.toNat ∧ (a.2.1 = none → a.2.2.1 = []) ∧ s ∉ l.take a.1) (0, some (p0, 0), [], false) ?_ ?_ ?_ ?_
  · exact sub_cons rfl (sub_cons rfl (sub_cons rfl (sub_cons rfl (sub_cons rfl (sub_nil _)))))
  · exact Ent.refl _ _
  · exact ⟨by simp, by simp, by simp, by simp, by simp⟩
  rintro ⟨i, o, X, done⟩ ⟨hil, hX, hXl, hon, hnin⟩
  simp only at hil hX hXl hon hnin ⊢
  have hdn := Bool.toNat_le done
  refine WC.seq_k fun K11 hK12 => ?_
  refine WC.seq_k fun K13 hK14 => ?_
  refine WC.region ?_
  refine wU (gE rfl ?_)
  refine wU (gE rfl ?_)
  refine wU (gLen rfl rfl (by rw [lenFits, tslice31]; rfl) ?_)
  refine wU (gE rfl ?_)
  refine wOps.done ?_
  refine hK14 _ _ _ ?_
  clear hK14 K13
  refine WC.cond rfl (fun c15 => ?_) (fun c15 => ?_)
  · skip
    refine WC.skip ?_
    refine hK12 _ _ _ ?_
    clear hK12 K11
    refine WC.seq_k fun K16 hK17 => ?_
    refine WC.block ?_
    refine WC.seq_k fun K18 hK19 => ?_
    refine WC.seq_k fun K20 hK21 => ?_
    refine WC.region ?_
    refine wU (gE rfl ?_)
    refine wU (gE rfl ?_)
    have hi : i < l.length := by simpa using c15
    refine wU (gIdxF tslice31 tsz9 rfl rfl (by omega) (by omega) ?_)
    refine wU (gLoadF tagg9 rfl (scs_get hi) ?_)
    refine wU (gE rfl ?_)
    refine wU (gE rfl ?_)
    refine wOps.done ?_
    refine hK21 _ _ _ ?_
    clear hK21 K20
    refine WC.cond rfl (fun c22 => ?_) (fun c22 => ?_)
    · skip
      refine WC.seq_k fun K23 hK24 => ?_
      refine WC.region ?_
      refine wU (gE rfl ?_)
      refine wU (gE rfl ?_)
      refine wOps.done ?_
      refine hK24 _ _ _ ?_
      clear hK24 K23
      refine WC.ret ?_
      refine ⟨_, rfl, .inl ⟨rfl, ?_⟩⟩
      rw [List.contains_iff_mem]; have hx : l[i] = s := by simpa using c22
      exact hx ▸ List.getElem_mem hi
    · skip
      refine WC.skip ?_
      refine hK19 _ _ _ ?_
      clear hK19 K18
      refine WC.seq_cut (α := BS × List By × Bool) (fun a => [(0, .fslice (scs l) l.length), (1, .str s), (5, gsV a.1 a.2.1.length), (6, .bool a.2.2), (7, .int .i64 i)]) (fun a => gsH 9 1 a.1 (scs a.2.1)) (fun a => insS s l = a.2.1 ++ l[i] :: (if a.2.2 = true then l.drop (i + 1) else insS s (l.drop (i + 1))) ∧ a.2.1.length ≤ i + a.2.2.toNat ∧ (a.1 = none → a.2.1 = []) ∧ l[i] ≠ s) ?_ ?_
      · skip
        refine WC.seq_k fun K25 hK26 => ?_
        refine WC.region ?_
        refine wU (gE rfl ?_)
        refine wU (gE rfl ?_)
        refine wU (gE rfl ?_)
        refine wG rfl rfl rfl rfl (by decide) (fun c27 => ?_) (fun c27 => ?_)
        · skip
          refine gE rfl ?_
          refine wY rfl (gE rfl ?_)
          refine wY rfl (gIdxF tslice31 tsz9 rfl rfl (by omega) (by omega) ?_)
          refine wY rfl (gLoadF tagg9 rfl (scs_get hi) ?_)
          refine wY rfl (gE rfl ?_)
          refine wY rfl (gE rfl ?_)
          refine wU (gE rfl ?_)
          refine wOps.done ?_
          refine hK26 _ _ _ ?_
          clear hK26 K25
          refine WC.cond rfl (fun c28 => ?_) (fun c28 => ?_)
          · skip
            refine WC.seq_k fun K29 hK30 => ?_
            refine WC.region ?_
            refine wU (gE rfl ?_)
            refine wU (gE rfl ?_)
            refine wU (gBuildSlice (cs := [.str s]) tslice31 tsz9 tzero9 rfl (by simp [evFill, putL, zcells, vcells]) (by decide) (by decide) fun p3 hp3 => ?_)
            refine wU (gOp (OpS.appGs (s := o) (cs := scs (X)) (us := [.str s]) (hx := [(p3, .cells 9 [.str s] 1)]) (len := (X).length) (m := 1) (k := 1) (e := 9) ⟨rfl⟩ el31 app31 rfl rfl rfl (fun q N e => by subst e; simp [gsH] at hp3; simp; exact fun e => hp3 e.symm) (fun e => by rw [hon e]; exact ⟨rfl, rfl⟩) (by rw [scs_length]; omega) (by simp [evSrc, hget]) rfl (fun h => by simp at h) (by omega) fun o3 ho3 hno3 => ?_) rfl)
            have e1_3 : scs (X) ++ [.str s] = scs (X ++ [s]) := by simp [scs]
            have e2_3 : (X).length + 1 = (X ++ [s]).length := by simp
            rw [e1_3, e2_3]
            have hmo3 : o3 = none → X ++ [s] = [] := fun e => by have := (hno3 e).2; simp at this
            refine wU (gE rfl ?_)
            refine wOps.done ?_
            refine hK30 _ _ _ ?_
            clear hK30 K29
            refine WC.region ?_
            refine wU (gE rfl ?_)
            refine wOps.done ?_
            have hne : l[i] ≠ s := by simpa using c22
            have hgt : s < l[i] := gtr_lt (by simpa using c28)
            have hd : done = false := by simpa using c27
            exact ⟨(o3, X ++ [s], true), rfl, ⟨by rw [hX, hd, insS_at hi, if_pos hgt]; simp, by rw [hd] at hXl; simp at hXl ⊢; omega, hmo3, hne⟩, (Ent.sub (sub_cons rfl (sub_cons rfl (sub_cons rfl (sub_cons rfl (sub_cons rfl (sub_nil _))))))).trans (Ent.drop (List.sublist_append_left _ _))⟩
          · skip
            refine WC.skip ?_
            have hne : l[i] ≠ s := by simpa using c22
            have hgt : ¬ s < l[i] := gtr_no (by simpa using c28)
            have hd : done = false := by simpa using c27
            exact ⟨(o, X, false), rfl, ⟨by rw [hX, hd, if_neg (by simp), insS_at hi, if_neg hgt]; simp, by rw [hd] at hXl; simpa using hXl, hon, hne⟩, Ent.sub (sub_cons rfl (sub_cons rfl (sub_cons rfl (sub_cons (by rw [← hd]; rfl) (sub_cons rfl (sub_nil _))))))⟩
        · skip
          refine wN rfl ?_
          refine wN rfl ?_
          refine wN rfl ?_
          refine wN rfl ?_
          refine wN rfl ?_
          refine wU (gE rfl ?_)
          refine wOps.done ?_
          refine hK26 _ _ _ ?_
          clear hK26 K25
          first | refine WC.cond (b := false) rfl (fun hh => by simp at hh) (fun _ => ?_) | refine WC.cond rfl (fun hh => by simp_all) (fun _ => ?_)
          refine WC.skip ?_
          have hne : l[i] ≠ s := by simpa using c22
          have hd : done = true := by simpa using c27
          exact ⟨(o, X, true), rfl, ⟨by rw [hX, hd, if_pos rfl, if_pos rfl, List.drop_eq_getElem_cons hi], by rw [hd] at hXl; simpa using hXl, hon, hne⟩, Ent.sub (sub_cons rfl (sub_cons rfl (sub_cons rfl (sub_cons (by rw [← hd]; rfl) (sub_cons rfl (sub_nil _))))))⟩
      rintro ⟨o4, Y, dn⟩ ⟨hY1, hY2, hY3, hne⟩
      simp only at hY1 hY2 hY3 ⊢
      have hdn := Bool.toNat_le dn
      refine WC.region ?_
      refine wU (gE rfl ?_)
      refine wU (gE rfl ?_)
      refine wU (gE rfl ?_)
      refine wU (gIdxF tslice31 tsz9 rfl rfl (by omega) (by omega) ?_)
      refine wU (gLoadF tagg9 rfl (scs_get hi) ?_)
      refine wU (gBuildSlice (cs := [.str l[i]]) tslice31 tsz9 tzero9 rfl (by simp [evFill, putL, zcells, vcells]) (by decide) (by decide) fun p4 hp4 => ?_)
      refine wU (gOp (OpS.appGs (s := o4) (cs := scs (Y)) (us := [.str l[i]]) (hx := [(p4, .cells 9 [.str l[i]] 1)]) (len := (Y).length) (m := 1) (k := 1) (e := 9) ⟨rfl⟩ el31 app31 rfl rfl rfl (fun q N e => by subst e; simp [gsH] at hp4; simp; exact fun e => hp4 e.symm) (fun e => by rw [hY3 e]; exact ⟨rfl, rfl⟩) (by rw [scs_length]; omega) (by simp [evSrc, hget]) rfl (fun h => by simp at h) (by omega) fun o6 ho6 hno6 => ?_) rfl)
      have e1_4 : scs (Y) ++ [.str l[i]] = scs (Y ++ [l[i]]) := by simp [scs]
      have e2_4 : (Y).length + 1 = (Y ++ [l[i]]).length := by simp
      rw [e1_4, e2_4]
      have hmo6 : o6 = none → Y ++ [l[i]] = [] := fun e => by have := (hno6 e).2; simp at this
      refine wU (gE rfl ?_)
      refine wOps.done ?_
      refine hK17 _ _ _ ?_
      clear hK17 K16
      refine WC.region ?_
      refine wU (gE rfl ?_)
      refine wU (gE rfl ?_)
      refine wU (gE rfl ?_)
      refine wOps.done ?_
      exact ⟨(i + 1, o6, Y ++ [l[i]], dn), rfl, by simp only; omega, ⟨by simp only; omega, by rw [hY1]; simp, by simp only [List.length_append, List.length_singleton]; omega, hmo6, by rw [List.take_succ_eq_append_getElem hi]; simp only [List.mem_append, List.mem_singleton, not_or]; exact ⟨hnin, fun e => hne e.symm⟩⟩, (Ent.sub (sub_cons rfl (sub_cons rfl (sub_cons rfl (sub_cons rfl (sub_cons (int_fit (by omega) (by omega) (by omega)) (sub_nil _))))))).trans (Ent.drop (List.sublist_append_left _ _))⟩
  · skip
    refine WC.exit ?_
    refine hK8 _ _ _ ?_
    clear hK12 K11 hK8 K7
    refine WC.seq_k fun K31 hK32 => ?_
    refine WC.seq_k fun K33 hK34 => ?_
    refine WC.region ?_
    refine wU (gE rfl ?_)
    refine wU (gE rfl ?_)
    refine wOps.done ?_
    refine hK34 _ _ _ ?_
    clear hK34 K33
    refine WC.cond rfl (fun c35 => ?_) (fun c35 => ?_)
    · skip
      refine WC.region ?_
      refine wU (gE rfl ?_)
      refine wU (gE rfl ?_)
      refine wU (gBuildSlice (cs := [.str s]) tslice31 tsz9 tzero9 rfl (by simp [evFill, putL, zcells, vcells]) (by decide) (by decide) fun p5 hp5 => ?_)
      refine wU (gOp (OpS.appGs (s := o) (cs := scs (X)) (us := [.str s]) (hx := [(p5, .cells 9 [.str s] 1)]) (len := (X).length) (m := 1) (k := 1) (e := 9) ⟨rfl⟩ el31 app31 rfl rfl rfl (fun q N e => by subst e; simp [gsH] at hp5; simp; exact fun e => hp5 e.symm) (fun e => by rw [hon e]; exact ⟨rfl, rfl⟩) (by rw [scs_length]; omega) (by simp [evSrc, hget]) rfl (fun h => by simp at h) (by omega) fun o5 ho5 hno5 => ?_) rfl)
      have e1_5 : scs (X) ++ [.str s] = scs (X ++ [s]) := by simp [scs]
      have e2_5 : (X).length + 1 = (X ++ [s]).length := by simp
      rw [e1_5, e2_5]
      have hmo5 : o5 = none → X ++ [s] = [] := fun e => by have := (hno5 e).2; simp at this
      refine wU (gE rfl ?_)
      refine wOps.done ?_
      refine hK32 _ _ _ ?_
      clear hK32 K31
      refine WC.seq_k fun K36 hK37 => ?_
      refine WC.region ?_
      refine wU (gE rfl ?_)
      refine wU (gE rfl ?_)
      refine wOps.done ?_
      refine hK37 _ _ _ ?_
      clear hK37 K36
      refine WC.ret ?_
      have he : i = l.length := by have := of_decide_eq_false c15; omega
      have hc : l.contains s = false := by rw [he, List.take_length] at hnin; simpa using hnin
      have hd : done = false := by simpa using c35
      rw [hd, he, List.drop_length] at hX
      have hX2 : X ++ [s] = insS s l := by simpa [insS] using hX.symm
      rw [hX2]
      exact ⟨_, rfl, .inr ⟨o5, _, hX2 ▸ hmo5, rfl, rfl, hc⟩⟩
    · skip
      refine WC.skip ?_
      refine hK32 _ _ _ ?_
      clear hK32 K31
      refine WC.seq_k fun K38 hK39 => ?_
      refine WC.region ?_
      refine wU (gE rfl ?_)
      refine wU (gE rfl ?_)
      refine wOps.done ?_
      refine hK39 _ _ _ ?_
      clear hK39 K38
      refine WC.ret ?_
      have he : i = l.length := by have := of_decide_eq_false c15; omega
      have hc : l.contains s = false := by rw [he, List.take_length] at hnin; simpa using hnin
      have hd : done = true := by simpa using c35
      rw [hd, he, List.drop_length] at hX
      have hX2 : X = insS s l := by simpa using hX.symm
      rw [hX2]
      exact ⟨_, rfl, .inr ⟨o, [], hX2 ▸ hon, rfl, by simp, hc⟩⟩
theorem withS_tri (l : List By) (s : By) (hl : l.length ≤ 1000000) : PTri Tryz.prog 53 [ssl l, .str s] (ssl (withS l s)) := by
  refine Tri.vent (withS_tri0 l s hl) ?_
  rintro v h' (⟨rfl, hc⟩ | ⟨o, hx, ho, rfl, rfl, hc⟩)
  · exact ⟨_, _, .drop (List.nil_sublist _) (.refl _ _), by unfold withS; rw [if_pos hc], rfl⟩
  · refine ⟨_, _, .drop (List.sublist_append_left _ _) (?_ : VEnt _ _ (ssl (insS s l)) []), by unfold withS; rw [hc]; simp, rfl⟩
    have := VEnt.gs (e := 9) (k := 1) (s := o) (cs := scs (insS s l)) (rest := []) (len := (insS s l).length) (fun e => by have := congrArg List.length (ho e); rw [insS_length] at this; simp at this) (fun h => by rw [insS_length] at h; omega)
    simpa [ssl] using this
end Go.Proofs.YtfdmdcpopmcmcaaGreatDoor
end
