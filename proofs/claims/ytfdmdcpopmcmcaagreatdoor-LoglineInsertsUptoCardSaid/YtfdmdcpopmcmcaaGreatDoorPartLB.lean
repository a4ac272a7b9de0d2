/- A part of the proof: Y17, PIns2, Y18, RBase, RBase2, RBase3, RBase4 -/
import Derived.Test.YtfdmdcpopmcmcaaGreatDoorPartKB
import Derived.Deep.SlicePairs
import Derived.Carry
import Derived.Test.YtfdmdcpopmcmcaaGreatDoorCards
import Derived.Test.YtfdmdcpopmcmcaaGreatDoorTie
import Derived.WalkKit
import Derived.ProofKit
import Derived.OpenShut
import Derived.Deep.DeepHandedRow
import Derived.Lib.LaidTab
import Derived.Deep.Slices
set_option linter.all false
set_option linter.unusedSectionVars false
set_option linter.unusedVariables false
set_option linter.unusedSimpArgs false
section
namespace Go.Proofs.YtfdmdcpopmcmcaaGreatDoor
open Go.Fw
variable [Gl]
set_option maxRecDepth 20000
theorem insert26_tri (l : List En) (x : En) (hl : l.length ≤ 100000) (hf : ∀ e ∈ l, fitE e) (hx : fitE x) (hxn : fitN x) : PTri Tryz.prog 26 [esl l, env x] (.tup [esl (insE l x).1, .int .i64 (insE l x).2]) := by
  refine Tri.vent (insert26_tri0 l x hl hf hx hxn) ?_
  rintro v h' (⟨p, e, rfl, he⟩ | ⟨q, N, rfl, hg, he⟩)
  · rw [he]
    exact ⟨_, _, .drop (List.nil_sublist _) (.weak (VLe.tup2 VLe.emp (VLe.refl _)) (.refl _ _)), rfl, rfl⟩
  · rw [he]
    refine ⟨_, _, .freeze q hg (.drop (List.nil_sublist _) (.refl _ _)), ?_, rfl⟩
    simp [frzV, frzL, esl, insX_length]
theorem insE_mem {l : List En} {x : En} : ∀ e ∈ (insE l x).1, e = x ∨ e ∈ l := by
  unfold insE
  split
  · simp
  · split
    · simp
    · split
      · simp
      · split
        · simp
        · intro e he
          simp only [insX, List.mem_append, List.mem_cons] at he
          rcases he with h | h | h
          · exact .inr (List.mem_of_mem_take h)
          · exact .inl h
          · exact .inr (List.mem_of_mem_drop h)
theorem insE_length (l : List En) (x : En) : (insE l x).1.length ≤ l.length + 1 := by
  unfold insE
  split
  · simp
  · split
    · simp
    · split
      · simp
      · split
        · simp
        · rw [insX_length]; exact Nat.le_refl _
instance decEn : DecidableEq En := fun a b => decidable_of_iff (eqE a b = true) (eqE_iff a b)
theorem same27_tri (a b : List En) (ha : a.length ≤ 4294967295) (hf : ∀ e ∈ a, fitE e) : PTri Tryz.prog 27 [esl a, esl b] (.bool (decide (a = b))) := by
  unfold esl
  refine PTri.any (Tri.of_wc Tryz.func27 rfl Tryz.results27 Tryz.ntmps27 (by simp) ?_)
  refine WC.seq_k fun K1 hK2 => ?_
  refine WC.region ?_
  refine wU (gE rfl ?_)
  refine wOps.done ?_
  refine hK2 _ _ _ ?_
  clear hK2 K1
  refine WC.seq_k fun K3 hK4 => ?_
  refine WC.seq_k fun K5 hK6 => ?_
  refine WC.region ?_
  refine wU (gE rfl ?_)
  refine wU (gLen rfl rfl (by rw [lenFits, tslice42]; rfl) ?_)
  refine wU (gE rfl ?_)
  refine wU (gLen rfl rfl (by rw [lenFits, tslice42]; rfl) ?_)
  refine wU (gE rfl ?_)
  refine wOps.done ?_
  refine hK6 _ _ _ ?_
  clear hK6 K5
  refine WC.cond rfl (fun c7 => ?_) (fun c7 => ?_)
  · skip
    refine WC.seq_k fun K8 hK9 => ?_
    skip
    refine WC.region ?_
    refine wU (gE rfl ?_)
    refine wOps.done ?_
    refine hK9 _ _ _ ?_
    clear hK9 K8
    refine WC.ret ?_
    have hne : ¬ a = b := fun e => by subst e; simp at c7
    exact ⟨_, rfl, by rw [decide_eq_false hne]⟩
  · skip
    refine WC.skip ?_
    refine hK4 _ _ _ ?_
    clear hK4 K3
    refine WC.seq_k fun K10 hK11 => ?_
    refine WC.seq_k fun K12 hK13 => ?_
    have hab : a.length = b.length := by (have h : (a.length : Int) = b.length := (by simpa using c7)); omega
    refine WC.region ?_
    refine wU (gE rfl ?_)
    refine wOps.done ?_
    refine hK13 _ _ _ ?_
    clear hK13 K12
    refine WC.block ?_
    refine WC.loopI (α := Nat) (fun i => [(0, .fslice (ecs a) a.length), (1, .fslice (ecs b) b.length), (5, .int .i64 i)]) (fun _ => []) (fun i => a.length - i) (fun i => i ≤ a.length ∧ a.take i = b.take i) 0 ?_ ?_ ?_ ?_
    · exact sub_cons rfl (sub_cons rfl (sub_cons rfl (sub_nil _)))
    · exact Ent.refl _ _
    · exact ⟨by simp, by simp⟩
    rintro i ⟨hil, ht⟩
    refine WC.seq_k fun K14 hK15 => ?_
    refine WC.seq_k fun K16 hK17 => ?_
    refine WC.region ?_
    refine wU (gE rfl ?_)
    refine wU (gE rfl ?_)
    refine wU (gLen rfl rfl (by rw [lenFits, tslice42]; rfl) ?_)
    refine wU (gE rfl ?_)
    refine wOps.done ?_
    refine hK17 _ _ _ ?_
    clear hK17 K16
    refine WC.cond rfl (fun c18 => ?_) (fun c18 => ?_)
    · skip
      refine WC.skip ?_
      refine hK15 _ _ _ ?_
      clear hK15 K14
      refine WC.seq_k fun K19 hK20 => ?_
      refine WC.block ?_
      refine WC.seq_k fun K21 hK22 => ?_
      refine WC.region_draw mixed ?_
      refine wA.val 0 rfl rfl rfl (fun _ _ hK => gE rfl hK) (by kernel_rfl) ?_
      refine wA.val 1 rfl rfl rfl (fun _ _ hK => gE rfl hK) (by kernel_rfl) ?_
      have hi : i < a.length := by simpa using c18
      have hib : i < b.length := by omega
      have hfi := hf _ (List.getElem_mem hi)
      refine wA.val 2 rfl rfl rfl (fun _ _ hK => gIdxF tslice42 tsz36 rfl rfl (by omega) (by omega) hK) (by kernel_rfl) ?_
      refine wA.val 3 rfl rfl rfl (fun _ _ hK => gLoadAF tagg36 tsz36 rfl (by rw [ecs_length]; omega) (ecs_part hi) hK) (by kernel_rfl) ?_
      refine wA.val 4 rfl rfl rfl (fun _ _ hK => gE rfl hK) (by kernel_rfl) ?_
      refine wA.val 5 rfl rfl rfl (fun _ _ hK => gE rfl hK) (by kernel_rfl) ?_
      refine wA.val 6 rfl rfl rfl (fun _ _ hK => gIdxF tslice42 tsz36 rfl rfl (by omega) (by omega) hK) (by kernel_rfl) ?_
      refine wA.val 7 rfl rfl rfl (fun _ _ hK => gLoadAF tagg36 tsz36 rfl (by rw [ecs_length]; omega) (ecs_part hib) hK) (by kernel_rfl) ?_
      refine wA.val 8 rfl rfl rfl (fun _ _ hK => by refine gPure rfl isGo23 (cmpE5_tri a[i] b[i] hfi) ?_; exact hK) (by kernel_rfl) ?_
      refine wA.val 9 rfl rfl rfl (fun _ _ hK => gE rfl hK) (by kernel_rfl) ?_
      refine wA.done (by kernel_rfl) ?_
      refine hK22 _ _ _ ?_
      clear hK22 K21
      refine WC.cond rfl (fun c23 => ?_) (fun c23 => ?_)
      · skip
        refine WC.seq_k fun K24 hK25 => ?_
        refine WC.region ?_
        refine wU (gE rfl ?_)
        refine wOps.done ?_
        refine hK25 _ _ _ ?_
        clear hK25 K24
        refine WC.ret ?_
        have hc : cmpE a[i] b[i] ≠ 0 := by simpa using c23
        have hne : ¬ a = b := fun e => hc ((ordE.zero _ _).2 (by subst e; rfl))
        exact ⟨_, rfl, by rw [decide_eq_false hne]⟩
      · skip
        refine WC.skip ?_
        refine hK20 _ _ _ ?_
        clear hK20 K19
        refine WC.region ?_
        refine wU (gE rfl ?_)
        refine wU (gE rfl ?_)
        refine wU (gE rfl ?_)
        refine wOps.done ?_
        have hc : cmpE a[i] b[i] = 0 := by simpa using c23
        have hx := (ordE.zero _ _).1 hc
        exact ⟨i + 1, rfl, by omega, ⟨by omega, by rw [List.take_succ_eq_append_getElem hi, List.take_succ_eq_append_getElem hib, ht, hx]⟩, Ent.sub (sub_cons rfl (sub_cons rfl (sub_cons (int_fit (by omega) (by omega) (by omega)) (sub_nil _))))⟩
    · skip
      refine WC.exit ?_
      refine hK11 _ _ _ ?_
      clear hK15 K14 hK11 K10
      refine WC.seq_k fun K26 hK27 => ?_
      refine WC.region ?_
      refine wU (gE rfl ?_)
      refine wOps.done ?_
      refine hK27 _ _ _ ?_
      clear hK27 K26
      refine WC.ret ?_
      have he : i = a.length := by have := of_decide_eq_false c18; omega
      have heq : a = b := by rw [he, List.take_length] at ht; rw [hab, List.take_length] at ht; exact ht
      exact ⟨_, rfl, by rw [decide_eq_true heq]⟩
theorem law6_tri (hG : GInt) (l : List En) (x : En) (hl : l.length ≤ 1048576) (hf : ∀ e ∈ l, fitE e) (hx : fitE x) (hxn : fitN x) : PTri Tryz.prog 6 [esl l, env x] (.bool true) := by
  have hg1 := greatEs_tri l (by omega) hf
  have hg2 := greatE_tri x hx
  refine PTri.any (Tri.of_wc Tryz.func6 rfl Tryz.results6 Tryz.ntmps6 (by simp) ?_)
  refine WC.seq_k fun K1 hK2 => ?_
  refine WC.region ?_
  refine wU (gBox rfl fun b0 hb0 => ?_)
  rw [show vcells (env x) = eCells x from rfl, eCells_length]
  refine wU (gE rfl ?_)
  refine wOps.done ?_
  refine hK2 _ _ _ ?_
  clear hK2 K1
  refine WC.seq_k fun K3 hK4 => ?_
  refine WC.seq_k fun K5 hK6 => ?_
  refine WC.region ?_
  refine wU (gE rfl ?_)
  refine wU (gPure rfl isGo24 hg1 ?_)
  refine wU (gE rfl ?_)
  refine wG rfl rfl rfl rfl (by decide) (fun c7 => ?_) (fun c7 => ?_)
  · skip
    refine gLoadA (T' := 36) (cs := eCells x) (nn := 5) tagg36 tsz36 rfl (by simp [hget]) (by simp [eCells]) rfl ?_
    refine wY rfl (gPure rfl isGo18 hg2 ?_)
    refine wU (gE rfl ?_)
    refine wOps.done ?_
    refine hK6 _ _ _ ?_
    clear hK6 K5
    refine WC.cond rfl (fun c8 => ?_) (fun c8 => ?_)
    · skip
      refine WC.seq_k fun K9 hK10 => ?_
      refine WC.region ?_
      refine wU (gPure rfl isGo9 (awake_tri hG) ?_)
      refine wU (gE rfl ?_)
      refine wOps.done ?_
      refine hK10 _ _ _ ?_
      clear hK10 K9
      refine WC.ret ?_
      exact ⟨_, rfl, rfl⟩
    · skip
      refine WC.skip ?_
      refine hK4 _ _ _ ?_
      clear hK4 K3
      refine WC.seq_k fun K11 hK12 => ?_
      have hgl : greatEs l = false := by simpa using c7
      have hl12 : l.length ≤ 12 := by unfold greatEs at hgl; simp at hgl; omega
      have h25 := insert25_tri l x (by omega) hf hx
      have h26 := insert26_tri l x (by omega) hf hx hxn
      have hsm := same27_tri (insE l x).1 (insE l x).1 (by have := insE_length l x; omega) (fun e he => by rcases insE_mem e he with rfl | h; exact hx; exact hf e h)
      rw [decide_eq_true rfl] at hsm
      generalize insE l x = p at *
      obtain ⟨pl, e1⟩ := p
      simp only at h25 h26 hsm
      refine WC.region ?_
      refine wU (gE rfl ?_)
      refine wU (gLoadA (T' := 36) (cs := eCells x) (nn := 5) tagg36 tsz36 rfl (by simp [hget]) (by simp [eCells]) rfl ?_)
      refine wU (gPure rfl isGo25 h25 ?_)
      refine wU (gE rfl ?_)
      refine wU (gE rfl ?_)
      refine wU (gE rfl ?_)
      refine wU (gE rfl ?_)
      refine wU (gE rfl ?_)
      refine wOps.done ?_
      refine hK12 _ _ _ ?_
      clear hK12 K11
      refine WC.seq_k fun K13 hK14 => ?_
      refine WC.region ?_
      refine wU (gE rfl ?_)
      refine wU (gLoadA (T' := 36) (cs := eCells x) (nn := 5) tagg36 tsz36 rfl (by simp [hget]) (by simp [eCells]) rfl ?_)
      refine wU (gPure rfl isGo26 h26 ?_)
      refine wU (gE rfl ?_)
      refine wU (gE rfl ?_)
      refine wU (gE rfl ?_)
      refine wU (gE rfl ?_)
      refine wU (gE rfl ?_)
      refine wOps.done ?_
      refine hK14 _ _ _ ?_
      clear hK14 K13
      refine WC.seq_k fun K15 hK16 => ?_
      refine WC.region ?_
      refine wU (gE rfl ?_)
      refine wU (gE rfl ?_)
      refine wU (gPure rfl isGo27 hsm ?_)
      refine wU (gE rfl ?_)
      refine wY rfl (gE rfl ?_)
      refine wY rfl (gE rfl ?_)
      refine wY rfl (gE (v := .bool true) (show some (V.bool (decide (e1 = e1))) = some (V.bool true) by simp) ?_)
      refine wU (gE rfl ?_)
      refine wU (gE rfl ?_)
      refine wY rfl (gPure rfl isGo9 (awake_tri hG) ?_)
      refine wU (gE rfl ?_)
      refine wU (gE rfl ?_)
      refine wOps.done ?_
      refine hK16 _ _ _ ?_
      clear hK16 K15
      refine WC.ret ?_
      exact ⟨_, rfl, rfl⟩
  · skip
    refine wN rfl ?_
    refine wU (gE rfl ?_)
    refine wOps.done ?_
    refine hK6 _ _ _ ?_
    clear hK6 K5
    first | refine WC.cond (b := true) rfl (fun _ => ?_) (fun hh => by simp at hh) | refine WC.cond rfl (fun _ => ?_) (fun hh => by simp_all)
    refine WC.seq_k fun K17 hK18 => ?_
    refine WC.region ?_
    refine wU (gPure rfl isGo9 (awake_tri hG) ?_)
    refine wU (gE rfl ?_)
    refine wOps.done ?_
    refine hK18 _ _ _ ?_
    clear hK18 K17
    refine WC.ret ?_
    exact ⟨_, rfl, rfl⟩
end Go.Proofs.YtfdmdcpopmcmcaaGreatDoor
end

section
namespace Go.Proofs.YtfdmdcpopmcmcaaGreatDoor
open Go.Fw
variable [Gl]
/-! ### Lists of entries with one more: what is said of them -/
theorem insX_mem {l : List En} {x e : En} : e ∈ insX l x ↔ e = x ∨ e ∈ l := by
  unfold insX
  rw [List.mem_append, List.mem_cons]
  constructor
  · rintro (h | h | h)
    · exact .inr (List.mem_of_mem_take h)
    · exact .inl h
    · exact .inr (List.mem_of_mem_drop h)
  · rintro (h | h)
    · exact .inr (.inl h)
    · rw [← List.take_append_drop (cntE l x) l, List.mem_append] at h
      rcases h with h | h
      · exact .inl h
      · exact .inr (.inr h)
theorem cmpE_self (a : En) : cmpE a a = 0 := (ordE.zero a a).2 rfl
theorem insX_asc {l : List En} {x : En} (hs : l.Pairwise fun a b => cmpE a b < 0) (hn : x ∉ l) : (insX l x).Pairwise fun a b => cmpE a b < 0 := by
  have hnz : ∀ y ∈ l, cmpE y x ≠ 0 := fun y hy h => hn ((ordE.zero y x).1 h ▸ hy)
  rw [← insR_eq x l hnz]
  clear hn
  induction l with
  | nil => simp [insR]
  | cons y r ih =>
    have hp := List.pairwise_cons.1 hs
    simp only [insR]
    split
    · rename_i h
      have hxy : cmpE x y < 0 := by have := ordE.anti y x; omega
      refine List.pairwise_cons.2 ⟨fun z hz => ?_, hs⟩
      rcases List.mem_cons.1 hz with rfl | hz
      · exact hxy
      · exact cmpE_lt_tr hxy (hp.1 z hz)
    · rename_i h
      have hyx : cmpE y x < 0 := by have := hnz y (by simp); omega
      have hr := fun z hz => hnz z (List.mem_cons_of_mem _ hz)
      refine List.pairwise_cons.2 ⟨fun z hz => ?_, ih hp.2 hr⟩
      rw [insR_eq x r hr, insX_mem] at hz
      rcases hz with rfl | hz
      · exact hyx
      · exact hp.1 z hz
theorem asc_eqE : ∀ (a b : List En), (a.Pairwise fun x y => cmpE x y < 0) → (b.Pairwise fun x y => cmpE x y < 0) → (∀ x, x ∈ a ↔ x ∈ b) → a = b
  | [], [], _, _, _ => rfl
  | [], y :: b, _, _, h => by have := (h y).2 (by simp); simp at this
  | x :: a, [], _, _, h => by have := (h x).1 (by simp); simp at this
  | x :: a, y :: b, ha, hb, h => by
    have ha := List.pairwise_cons.1 ha
    have hb := List.pairwise_cons.1 hb
    have irr : ∀ z : En, ¬ cmpE z z < 0 := fun z hz => by rw [cmpE_self] at hz; omega
    have exy : x = y := by
      rcases List.mem_cons.1 ((h x).1 (by simp)) with e | e
      · exact e
      · rcases List.mem_cons.1 ((h y).2 (by simp)) with e' | e'
        · exact e'.symm
        · exact absurd (cmpE_lt_tr (hb.1 x e) (ha.1 y e')) (irr _)
    subst exy
    rw [asc_eqE a b ha.2 hb.2 fun z => ⟨fun hz => ?_, fun hz => ?_⟩]
    · rcases List.mem_cons.1 ((h z).1 (List.mem_cons_of_mem _ hz)) with e | e
      · subst e; exact absurd (ha.1 _ hz) (irr _)
      · exact e
    · rcases List.mem_cons.1 ((h z).2 (List.mem_cons_of_mem _ hz)) with e | e
      · subst e; exact absurd (hb.1 _ hz) (irr _)
      · exact e
theorem found_mem {l : List En} {x : En} : foundE l x = true ↔ x ∈ l := by
  unfold foundE
  rw [List.any_eq_true]
  constructor
  · rintro ⟨y, hy, h⟩
    have : y = x := (ordE.zero y x).1 (by simpa using h)
    exact this ▸ hy
  · intro h
    exact ⟨x, h, by simpa using cmpE_self x⟩
theorem insE_ok {l : List En} {x : En} : (insE l x).2 = 0 ↔ ascE l = true ∧ chkE x = 0 ∧ x ∉ l ∧ l.length < 1000 := by
  unfold insE
  rw [← found_mem]
  by_cases h1 : ascE l = false
  · rw [if_pos h1, h1]; simp
  · rw [if_neg h1]
    have h1 : ascE l = true := by simpa using h1
    by_cases h2 : chkE x ≠ 0
    · rw [if_pos h2]; simp [h2]
    · rw [if_neg h2]
      have h2 : chkE x = 0 := by omega
      by_cases h3 : foundE l x = true
      · rw [if_pos h3]; simp [h3]
      · rw [if_neg h3]
        by_cases h4 : 1000 ≤ l.length
        · rw [if_pos h4]; simp; intro _ _ _; omega
        · rw [if_neg h4]; simp [h1, h2, h3]; omega
theorem insE_of {l : List En} {x : En} (h1 : ascE l = true) (h2 : chkE x = 0) (h3 : x ∉ l) (h4 : l.length < 1000) : insE l x = (insX l x, 0) := by
  unfold insE
  rw [if_neg (by rw [h1]; simp), if_neg (by omega), if_neg (by rw [found_mem]; exact h3), if_neg (by omega)]
theorem insE_bad {l : List En} {x : En} (h : (insE l x).2 ≠ 0) : (insE l x).1 = [] := by
  unfold insE at h ⊢
  split
  · rfl
  · split
    · rfl
    · split
      · rfl
      · split
        · rfl
        · rename_i h1 h2 h3 h4
          rw [if_neg h1, if_neg h2, if_neg h3, if_neg h4] at h
          simp at h
/-- What the second Insert answers where it answers an error. -/
theorem insE_two_bad {l : List En} {x y : En} (h : insE l x = (insX l x, 0)) (hl : l.length ≤ 12) (hf : (insE (insX l x) y).2 ≠ 0) : (insE l y).2 = (insE (insX l x) y).2 ∨ (insE (insX l x) y).2 = 6 ∧ x = y := by
  obtain ⟨h1, h2, h3, h4⟩ := insE_ok.1 (show (insE l x).2 = 0 by rw [h])
  have ha : ascE (insX l x) = true := (ascE_iff _).2 (insX_asc ((ascE_iff l).1 h1) h3)
  have hla := insX_length l x
  unfold insE
  rw [if_neg (show ¬ ascE l = false by rw [h1]; simp), if_neg (show ¬ ascE (insX l x) = false by rw [ha]; simp)]
  by_cases h5 : chkE y ≠ 0
  · rw [if_pos h5, if_pos h5]; exact .inl rfl
  · rw [if_neg h5, if_neg h5]
    by_cases h6 : y ∈ insX l x
    · rw [if_pos (found_mem.2 h6)]
      rcases insX_mem.1 h6 with h7 | h7
      · exact .inr ⟨rfl, h7.symm⟩
      · rw [if_pos (found_mem.2 h7)]; exact .inl rfl
    · exfalso
      exact hf (insE_ok.2 ⟨ha, by omega, h6, by omega⟩)
/-- The two in either order. -/
theorem insE_two {l : List En} {x y : En} (h : insE l x = (insX l x, 0)) (hl : l.length ≤ 12) (hf : (insE (insX l x) y).2 = 0) : insE l y = (insX l y, 0) ∧ insE (insX l y) x = insE (insX l x) y := by
  obtain ⟨h1, h2, h3, h4⟩ := insE_ok.1 (show (insE l x).2 = 0 by rw [h])
  obtain ⟨g1, g2, g3, g4⟩ := insE_ok.1 hf
  rw [insX_mem, not_or] at g3
  have e1 := insE_of h1 g2 g3.2 (by omega)
  have hs := (ascE_iff l).1 h1
  have a1 := insX_asc hs h3
  have a2 := insX_asc hs g3.2
  have x2 : x ∉ insX l y := by rw [insX_mem, not_or]; exact ⟨fun e => g3.1 e.symm, h3⟩
  have y2 : y ∉ insX l x := by rw [insX_mem, not_or]; exact g3
  have hl2 := insX_length l y
  have hl1 := insX_length l x
  refine ⟨e1, ?_⟩
  rw [insE_of ((ascE_iff _).2 a2) h2 x2 (by omega), insE_of ((ascE_iff _).2 a1) g2 y2 (by omega)]
  congr 1
  refine asc_eqE _ _ (insX_asc a2 x2) (insX_asc a1 y2) fun z => ?_
  rw [insX_mem, insX_mem, insX_mem, insX_mem]
  constructor
  · rintro (h | h | h) <;> simp [h]
  · rintro (h | h | h) <;> simp [h]
end Go.Proofs.YtfdmdcpopmcmcaaGreatDoor
end

section
namespace Go.Proofs.YtfdmdcpopmcmcaaGreatDoor
open Go.Fw
variable [Gl]
theorem isGo28 : isGo Tryz.prog 28 = true := by kernel_rfl
theorem isGo29 : isGo Tryz.prog 29 = true := by kernel_rfl
theorem isGo64 : isGo Tryz.prog 64 = true := by kernel_rfl
set_option maxRecDepth 20000
theorem tlen42 (l : List En) : lenFits Tryz.prog 42 (.fslice (ecs l) l.length) = true := by rw [lenFits, tslice42]; rfl
/-- The place of an entry, or -1. -/
def ixE (z : En) : List En → Nat → Int
  | [], _ => -1
  | y :: r, k => if eqE y z = true then (k : Int) else ixE z r (k + 1)
theorem ixE_at {z : En} {l : List En} {i k : Nat} (h : i < l.length) : ixE z (l.drop i) k = if eqE l[i] z = true then (k : Int) else ixE z (l.drop (i + 1)) (k + 1) := by
  rw [List.drop_eq_getElem_cons h]; rfl
theorem ixE_ge (z : En) : ∀ (l : List En) (k : Nat), decide (0 ≤ ixE z l k) = l.any fun y => eqE y z
  | [], k => rfl
  | y :: r, k => by
    simp only [ixE, List.any_cons]
    split
    · rename_i h; rw [h]; simp
    · rename_i h
      have h : eqE y z = false := by simpa using h
      rw [h, Bool.false_or]
      exact ixE_ge z r (k + 1)
theorem eq29_tri (w z : En) (hw : fitE w) : PTri Tryz.prog 29 [env w, .fptr (eCells z) 0] (.bool (eqE w z)) := by
  refine PTri.any (Tri.of_wc Tryz.func29 rfl Tryz.results29 Tryz.ntmps29 (by simp) ?_)
  refine WC.seq_k fun K1 hK2 => ?_
  refine WC.region ?_
  refine wU (gBox rfl fun b0 hb0 => ?_)
  rw [show vcells (env w) = eCells w from rfl, eCells_length]
  refine wU (gE rfl ?_)
  refine wOps.done ?_
  refine hK2 _ _ _ ?_
  clear hK2 K1
  refine WC.seq_k fun K3 hK4 => ?_
  refine WC.region ?_
  refine wU (gLoadA (T' := 36) (cs := eCells w) (vs := eCells w) (nn := 5) tagg36 tsz36 rfl (by simp [hget]) (by simp [eCells]) (show ((eCells w).drop 0).take 5 = eCells w from rfl) ?_)
  refine wU (gLoadAF tagg36 tsz36 rfl (by simp [eCells]) (show ((eCells z).drop 0).take 5 = eCells z from rfl) ?_)
  refine wU (gPure rfl isGo20 (eqE_tri w z hw) ?_)
  refine wU (gE rfl ?_)
  refine wOps.done ?_
  refine hK4 _ _ _ ?_
  clear hK4 K3
  refine WC.ret ?_
  exact ⟨_, rfl, rfl⟩
theorem idx64_tri (l : List En) (z : En) (hl : l.length ≤ 4294967295) (hf : ∀ e ∈ l, fitE e) : PTri Tryz.prog 64 [esl l, .clo 29 [.fptr (eCells z) 0]] (.int .i64 (ixE z l 0)) := by
  unfold esl
  refine PTri.any (Tri.of_wc Tryz.func64 rfl Tryz.results64 Tryz.ntmps64 (by simp) ?_)
  refine WC.seq_k fun K1 hK2 => ?_
  refine WC.region ?_
  refine wU (gE rfl ?_)
  refine wOps.done ?_
  refine hK2 _ _ _ ?_
  clear hK2 K1
  refine WC.seq_k fun K3 hK4 => ?_
  refine WC.seq_k fun K5 hK6 => ?_
  refine WC.region ?_
  refine wU (gE rfl ?_)
  refine wU (gLen rfl rfl (by rw [lenFits, tslice42]; rfl) ?_)
  refine wU (gE rfl ?_)
  refine wOps.done ?_
  refine hK6 _ _ _ ?_
  clear hK6 K5
  refine WC.block ?_
  refine WC.loopI (α := Nat) (fun i => [(0, .fslice (ecs l) l.length), (1, .clo 29 [.fptr (eCells z) 0]), (7, .int .i64 l.length), (8, .int .i64 i)]) (fun _ => []) (fun i => l.length - i) (fun i => i ≤ l.length ∧ ixE z l 0 = ixE z (l.drop i) i) 0 ?_ ?_ ?_ ?_
  · exact sub_cons rfl (sub_cons rfl (sub_cons rfl (sub_cons rfl (sub_nil _))))
  · exact Ent.refl _ _
  · exact ⟨by simp, by simp⟩
  rintro i ⟨hil, hc⟩
  refine WC.seq_k fun K7 hK8 => ?_
  refine WC.region ?_
  refine wU (gE rfl ?_)
  refine wOps.done ?_
  refine hK8 _ _ _ ?_
  clear hK8 K7
  refine WC.seq_k fun K9 hK10 => ?_
  refine WC.cond rfl (fun c11 => ?_) (fun c11 => ?_)
  · skip
    refine WC.skip ?_
    refine hK10 _ _ _ ?_
    clear hK10 K9
    refine WC.seq_k fun K12 hK13 => ?_
    refine WC.block ?_
    refine WC.seq_k fun K14 hK15 => ?_
    refine WC.region ?_
    refine wU (gE rfl ?_)
    refine wU (gE rfl ?_)
    refine wOps.done ?_
    refine hK15 _ _ _ ?_
    clear hK15 K14
    refine WC.seq_k fun K16 hK17 => ?_
    refine WC.region ?_
    refine wU (gE rfl ?_)
    refine wU (gE rfl ?_)
    refine wU (gE rfl ?_)
    have hi : i < l.length := by simpa using c11
    have hfi := hf _ (List.getElem_mem hi)
    refine wU (gIdxF tslice42 tsz36 rfl rfl (by omega) (by omega) ?_)
    refine wU (gLoadAF tagg36 tsz36 rfl (by rw [ecs_length]; omega) (ecs_part hi) ?_)
    refine wU (gPureV rfl rfl isGo29 (eq29_tri l[i] z hfi) ?_)
    refine wOps.done ?_
    refine hK17 _ _ _ ?_
    clear hK17 K16
    refine WC.cond rfl (fun c18 => ?_) (fun c18 => ?_)
    · skip
      refine WC.seq_k fun K19 hK20 => ?_
      refine WC.region ?_
      refine wU (gE rfl ?_)
      refine wU (gE rfl ?_)
      refine wOps.done ?_
      refine hK20 _ _ _ ?_
      clear hK20 K19
      refine WC.ret ?_
      have he : eqE l[i] z = true := by simpa using c18
      exact ⟨_, rfl, congrArg (V.int .i64) (by rw [hc, ixE_at hi, if_pos he])⟩
    · skip
      refine WC.skip ?_
      refine hK13 _ _ _ ?_
      clear hK13 K12
      refine WC.region ?_
      refine wU (gE rfl ?_)
      refine wU (gE rfl ?_)
      refine wOps.done ?_
      have he : ¬ eqE l[i] z = true := by simpa using c18
      exact ⟨i + 1, rfl, by omega, ⟨by omega, by rw [hc, ixE_at hi, if_neg he]⟩, Ent.sub (sub_cons rfl (sub_cons rfl (sub_cons rfl (sub_cons (int_fit (by omega) (by omega) (by omega)) (sub_nil _)))))⟩
  · skip
    refine WC.exit ?_
    refine hK4 _ _ _ ?_
    clear hK10 K9 hK4 K3
    refine WC.seq_k fun K21 hK22 => ?_
    refine WC.region ?_
    refine wU (gE rfl ?_)
    refine wOps.done ?_
    refine hK22 _ _ _ ?_
    clear hK22 K21
    refine WC.ret ?_
    exact ⟨_, rfl, congrArg (V.int .i64) (by rw [hc, List.drop_of_length_le (by have := of_decide_eq_false c11; omega)]; rfl)⟩
theorem cont28_tri (l : List En) (z : En) (hl : l.length ≤ 4294967295) (hf : ∀ e ∈ l, fitE e) : PTri Tryz.prog 28 [esl l, .clo 29 [.fptr (eCells z) 0]] (.bool (l.any fun y => eqE y z)) := by
  refine PTri.any (Tri.of_wc Tryz.func28 rfl Tryz.results28 Tryz.ntmps28 (by simp) ?_)
  refine WC.seq_k fun K1 hK2 => ?_
  refine WC.region ?_
  refine wU (gE rfl ?_)
  refine wOps.done ?_
  refine hK2 _ _ _ ?_
  clear hK2 K1
  refine WC.seq_k fun K3 hK4 => ?_
  refine WC.region ?_
  refine wU (gE rfl ?_)
  refine wU (gE rfl ?_)
  refine wU (gPure rfl isGo64 (idx64_tri l z hl hf) ?_)
  refine wU (gE rfl ?_)
  refine wU (gE rfl ?_)
  refine wOps.done ?_
  refine hK4 _ _ _ ?_
  clear hK4 K3
  refine WC.ret ?_
  exact ⟨_, rfl, congrArg V.bool (ixE_ge z l 0)⟩
theorem law7_tri (hG : GInt) (l : List En) (x y : En) (hl : l.length ≤ 1048576) (hf : ∀ e ∈ l, fitE e) (hx : fitE x) (hy : fitE y) : PTri Tryz.prog 7 [esl l, env x, env y] (.bool true) := by
  have hg1 := greatEs_tri l (by omega) hf
  have hg2 := greatE_tri x hx
  have hg3 := greatE_tri y hy
  refine PTri.any (Tri.of_wc Tryz.func7 rfl Tryz.results7 Tryz.ntmps7 (by simp) ?_)
  refine WC.seq_k fun K1 hK2 => ?_
  refine WC.region ?_
  refine wU (gBox rfl fun b4 hb4 => ?_)
  rw [show vcells (env x) = eCells x from rfl, eCells_length]
  refine wU (gBox rfl fun b5 hb5 => ?_)
  simp only [Hp.ns_cons, Hp.ns_nil, List.mem_cons, List.not_mem_nil, or_false, not_or] at hb5
  rw [show vcells (env y) = eCells y from rfl, eCells_length]
  refine wU (gE rfl ?_)
  refine wOps.done ?_
  refine hK2 _ _ _ ?_
  clear hK2 K1
  refine WC.seq_k fun K3 hK4 => ?_
  refine WC.seq_k fun K5 hK6 => ?_
  refine WC.region ?_
  refine wU (gE rfl ?_)
  refine wU (gPure rfl isGo24 hg1 ?_)
  refine wU (gE rfl ?_)
  refine wG rfl rfl rfl rfl (by decide) (fun c7 => ?_) (fun c7 => ?_)
  · skip
    refine gLoadA (T' := 36) (cs := eCells x) (vs := eCells x) (nn := 5) tagg36 tsz36 rfl (by simp [hget, hb5]) (by simp [eCells]) (show ((eCells x).drop 0).take 5 = eCells x from rfl) ?_
    refine wY rfl (gPure rfl isGo18 hg2 ?_)
    refine wU (gE rfl ?_)
    refine wU (gE rfl ?_)
    refine wG rfl rfl rfl rfl (by decide) (fun c8 => ?_) (fun c8 => ?_)
    · skip
      refine gLoadA (T' := 36) (cs := eCells y) (vs := eCells y) (nn := 5) tagg36 tsz36 rfl (by simp [hget, hb5]) (by simp [eCells]) (show ((eCells y).drop 0).take 5 = eCells y from rfl) ?_
      refine wY rfl (gPure rfl isGo18 hg3 ?_)
      refine wU (gE rfl ?_)
      refine wOps.done ?_
      refine hK6 _ _ _ ?_
      clear hK6 K5
      refine WC.cond rfl (fun c9 => ?_) (fun c9 => ?_)
      · skip
        refine WC.seq_k fun K10 hK11 => ?_
        refine WC.region ?_
        refine wU (gPure rfl isGo9 (awake_tri hG) ?_)
        refine wU (gE rfl ?_)
        refine wOps.done ?_
        refine hK11 _ _ _ ?_
        clear hK11 K10
        refine WC.ret ?_
        exact ⟨_, rfl, rfl⟩
      · skip
        refine WC.skip ?_
        refine hK4 _ _ _ ?_
        clear hK4 K3
        refine WC.seq_k fun K12 hK13 => ?_
        have hgl : greatEs l = false := by simpa using c7
        have hl12 : l.length ≤ 12 := by unfold greatEs at hgl; simp at hgl; omega
        have h25 := insert25_tri l x (by omega) hf hx
        refine WC.region ?_
        refine wU (gE rfl ?_)
        refine wU (gLoadA (T' := 36) (cs := eCells x) (vs := eCells x) (nn := 5) tagg36 tsz36 rfl (by simp [hget, hb5]) (by simp [eCells]) (show ((eCells x).drop 0).take 5 = eCells x from rfl) ?_)
        refine wU (gPure rfl isGo25 h25 ?_)
        refine wU (gE rfl ?_)
        refine wU (gE rfl ?_)
        refine wU (gE rfl ?_)
        refine wU (gE rfl ?_)
        refine wU (gE rfl ?_)
        refine wOps.done ?_
        refine hK13 _ _ _ ?_
        clear hK13 K12
        refine WC.seq_k fun K14 hK15 => ?_
        refine WC.seq_k fun K16 hK17 => ?_
        refine WC.region ?_
        refine wU (gE rfl ?_)
        refine wU (gE rfl ?_)
        refine wOps.done ?_
        refine hK17 _ _ _ ?_
        clear hK17 K16
        refine WC.cond rfl (fun c18 => ?_) (fun c18 => ?_)
        · skip
          refine WC.seq_k fun K19 hK20 => ?_
          have he1 : (insE l x).2 ≠ 0 := by simpa using c18
          have hnil := insE_bad he1
          refine WC.region ?_
          refine wU (gE rfl ?_)
          refine wU (gLen rfl rfl (tlen42 _) ?_)
          refine wU (gE (v := .bool true) (show some (V.bool (decide (((insE l x).1.length : Int) = 0))) = some (V.bool true) by rw [hnil]; rfl) ?_)
          refine wU (gE rfl ?_)
          refine wY rfl (gPure rfl isGo9 (awake_tri hG) ?_)
          refine wU (gE rfl ?_)
          refine wU (gE rfl ?_)
          refine wOps.done ?_
          refine hK20 _ _ _ ?_
          clear hK20 K19
          refine WC.ret ?_
          exact ⟨_, rfl, rfl⟩
        · skip
          refine WC.skip ?_
          refine hK15 _ _ _ ?_
          clear hK15 K14
          refine WC.seq_k fun K21 hK22 => ?_
          refine WC.seq_k fun K23 hK24 => ?_
          have he1 : (insE l x).2 = 0 := by simpa using c18
          obtain ⟨k1, k2, k3, k4⟩ := insE_ok.1 he1
          have hins := insE_of k1 k2 k3 k4
          have hasc := insX_asc ((ascE_iff l).1 k1) k3
          have hlen := insX_length l x
          have hfa : ∀ e ∈ insX l x, fitE e := fun e he => by rcases insX_mem.1 he with rfl | h; exact hx; exact hf e h
          rw [hins]
          have htwo := fun h => insE_two (y := y) hins hl12 h
          have htwob := fun h => insE_two_bad (y := y) hins hl12 h
          have hmem := fun e => (insX_mem (l := l) (x := x) (e := e)).1
          generalize insX l x = a at *
          simp only
          refine WC.region ?_
          refine wU (gE rfl ?_)
          refine wU (gLen rfl rfl (tlen42 _) ?_)
          refine wU (gE rfl ?_)
          refine wOps.done ?_
          refine hK24 _ _ _ ?_
          clear hK24 K23
          refine WC.block ?_
          refine WC.loopI (α := Nat) (fun i => [(0, esl l), (4, .ptr b4 0), (5, .ptr b5 0), (7, .fslice (ecs a) a.length), (42, .fslice (ecs a) a.length), (43, .int .i64 a.length), (44, .int .i64 i)]) (fun _ => [(b5, .cells 36 (eCells y) 5), (b4, .cells 36 (eCells x) 5)]) (fun i => a.length - i) (fun i => i ≤ a.length) 0 ?_ ?_ ?_ ?_
          · exact sub_cons rfl (sub_cons rfl (sub_cons rfl (sub_cons rfl (sub_cons rfl (sub_cons rfl (sub_cons rfl (sub_nil _)))))))
          · exact Ent.refl _ _
          · exact Nat.zero_le _
          rintro i hil
          refine WC.seq_k fun K25 hK26 => ?_
          refine WC.region ?_
          refine wU (gE rfl ?_)
          refine wOps.done ?_
          refine hK26 _ _ _ ?_
          clear hK26 K25
          refine WC.seq_k fun K27 hK28 => ?_
          refine WC.cond rfl (fun c29 => ?_) (fun c29 => ?_)
          · skip
            refine WC.skip ?_
            refine hK28 _ _ _ ?_
            clear hK28 K27
            refine WC.seq_k fun K30 hK31 => ?_
            refine WC.block ?_
            refine WC.seq_k fun K32 hK33 => ?_
            refine WC.region ?_
            refine wU (gE rfl ?_)
            have hi : i < a.length := by simpa using c29
            have hfi := hfa _ (List.getElem_mem hi)
            refine wU (gIdxF tslice42 tsz36 rfl rfl (by omega) (by omega) ?_)
            refine wU (gLoadAF tagg36 tsz36 rfl (by rw [ecs_length]; omega) (ecs_part hi) ?_)
            refine wU (gAlloc tzero36 fun b10 hb10 => ?_)
            simp only [Hp.ns_cons, Hp.ns_nil, List.mem_cons, List.not_mem_nil, or_false, not_or] at hb10
            refine wU (gE rfl ?_)
            refine wU (gStore rfl rfl (by simp only [hget, ↓reduceIte] <;> rfl) tsz36 (by simp [vcells, eCells]) (by exact eCells_leaf _) ?_)
            simp only [hset, ↓reduceIte]
            rw [show stL _ 0 (vcells (.agg (eCells a[i]))) = eCells a[i] from rfl]
            refine wOps.done ?_
            refine hK33 _ _ _ ?_
            clear hK33 K32
            refine WC.seq_k fun K34 hK35 => ?_
            refine WC.region_draw mixed ?_
            refine wA.val 0 rfl rfl rfl (fun _ _ hK => gE rfl hK) (by kernel_rfl) ?_
            refine wA.val 1 rfl rfl rfl (fun _ _ hK => gE rfl hK) (by kernel_rfl) ?_
            refine wA.val 2 rfl rfl rfl (fun _ _ hK => gE rfl hK) (by kernel_rfl) ?_
            refine wA.split (e := 51) true rfl (fun c36 => ?_) (fun c36 => ?_)
            · skip
              refine wA.val 3 rfl rfl rfl (fun _ _ hK => gE rfl hK) (by kernel_rfl) ?_
              refine wA.val 4 rfl rfl rfl (fun _ _ hK => gE rfl hK) (by kernel_rfl) ?_
              have hi0 : 0 < i := by have := of_decide_eq_true c36; omega
              refine wA.val 5 rfl rfl rfl (fun _ _ hK => gE (v := .int .i64 ((i - 1 : Nat) : Int)) (int_fit (by omega) (by omega) (by omega)) hK) (by kernel_rfl) ?_
              have hi1 : i - 1 < a.length := by omega
              have hfi1 := hfa _ (List.getElem_mem hi1)
              have hlt : cmpE a[i - 1] a[i] < 0 := List.pairwise_iff_getElem.1 hasc (i - 1) i hi1 hi (by omega)
              refine wA.val 6 rfl rfl rfl (fun _ _ hK => gIdxF tslice42 tsz36 rfl rfl (by omega) (by omega) hK) (by kernel_rfl) ?_
              refine wA.val 7 rfl rfl rfl (fun _ _ hK => gLoadAF tagg36 tsz36 rfl (by rw [ecs_length]; omega) (ecs_part hi1) hK) (by kernel_rfl) ?_
              refine wA.ld (v := .agg (eCells (a[i]'hi))) 8 rfl rfl rfl (fun _ hle _ hK => gLoadA (T' := 36) (cs := eCells (a[i]'hi)) (vs := eCells (a[i]'hi)) (nn := 5) tagg36 tsz36 rfl (hle _ _ (by simp [hget, hb5])) (by simp [eCells]) (show ((eCells (a[i]'hi)).drop 0).take 5 = eCells (a[i]'hi) from rfl) hK) (by kernel_rfl) ?_
              refine wA.val 9 rfl rfl rfl (fun _ _ hK => by refine gPure rfl isGo19 (cmpE_tri a[i - 1] a[i] hfi1) ?_; exact hK) (by kernel_rfl) ?_
              refine wA.val 10 rfl rfl rfl (fun _ _ hK => gE (v := .bool false) (show some (V.bool (decide (0 ≤ cmpE a[i - 1] a[i]))) = some (V.bool false) by simp; omega) hK) (by kernel_rfl) ?_
              refine wA.val 11 rfl rfl rfl (fun _ _ hK => gE rfl hK) (by kernel_rfl) ?_
              refine wA.val 12 rfl rfl rfl (fun _ _ hK => gE rfl hK) (by kernel_rfl) ?_
              refine wA.ld (v := .agg (eCells (a[i]'hi))) 13 rfl rfl rfl (fun _ hle _ hK => gLoadA (T' := 36) (cs := eCells (a[i]'hi)) (vs := eCells (a[i]'hi)) (nn := 5) tagg36 tsz36 rfl (hle _ _ (by simp [hget, hb5])) (by simp [eCells]) (show ((eCells (a[i]'hi)).drop 0).take 5 = eCells (a[i]'hi) from rfl) hK) (by kernel_rfl) ?_
              refine wA.ld 14 rfl rfl rfl (fun _ hle _ hK => gLoadA (T' := 36) (cs := eCells x) (vs := eCells x) (nn := 5) tagg36 tsz36 rfl (hle _ _ (by simp [hget, hb5, hb10])) (by simp [eCells]) (show ((eCells x).drop 0).take 5 = eCells x from rfl) hK) (by kernel_rfl) ?_
              refine wA.val 15 rfl rfl rfl (fun _ _ hK => by refine gPure rfl isGo20 (eqE_tri a[i] x hfi) ?_; exact hK) (by kernel_rfl) ?_
              refine wA.val 16 rfl rfl rfl (fun _ _ hK => gE rfl hK) (by kernel_rfl) ?_
              refine wA.val 17 rfl rfl rfl (fun _ _ hK => gE rfl hK) (by kernel_rfl) ?_
              refine wA.split (e := 66) true rfl (fun c37 => ?_) (fun c37 => ?_)
              · skip
                refine wA.val 18 rfl rfl rfl (fun _ _ hK => gE rfl hK) (by kernel_rfl) ?_
                refine wA.val 19 rfl rfl rfl (fun _ _ hK => gE rfl hK) (by kernel_rfl) ?_
                refine wA.eff 20 rfl (by kernel_rfl) rfl ?_
                have hne : eqE a[i] x = false := by simpa using c37
                have hmi : a[i] ∈ l := (hmem _ (List.getElem_mem hi)).resolve_left (fun e => by rw [(eqE_iff _ _).2 e] at hne; simp at hne)
                have hany : (l.any fun y => eqE y a[i]) = true := by rw [List.any_eq_true]; exact ⟨_, hmi, (eqE_iff _ _).2 rfl⟩
                have hc28 := cont28_tri l a[i] (by omega) hf
                rw [hany] at hc28
                have hlend := Tri.frame (Tri.lend (b := b10) (us := [esl l, .clo 29 [.ptr b10 0]]) (T := 36) (cs := eCells a[i]) (nn := 5) hc28 (by simp [frzV, frzL, esl, frzL_ecs]) rfl) [(b5, .cells 36 (eCells y) 5), (b4, .cells 36 (eCells x) 5)]
                refine gCall (by rfl) (@CallS.mono _ Tryz.prog 28 _ _ _ _ (@CallS.of_tri _ Tryz.prog 28 _ _ _ isGo28 hlend) ?_)
                rintro v1 h1 ⟨h2, rfl, ⟨rfl, rfl⟩, -⟩
                refine wA.back ?_
                refine wA.val 21 rfl rfl rfl (fun _ _ hK => gE rfl hK) (by kernel_rfl) ?_
                refine wA.val 22 rfl rfl rfl (fun _ _ hK => gE rfl hK) (by kernel_rfl) ?_
                refine wA.val 23 rfl rfl rfl (fun _ _ hK => gE rfl hK) (by kernel_rfl) ?_
                refine wA.done (by kernel_rfl) ?_
                refine hK35 _ _ _ ?_
                clear hK35 K34
                first | refine WC.cond (b := false) rfl (fun hh => by simp at hh) (fun _ => ?_) | refine WC.cond rfl (fun hh => by simp_all) (fun _ => ?_)
                refine WC.skip ?_
                refine hK31 _ _ _ ?_
                clear hK31 K30
                refine WC.region ?_
                refine wU (gE rfl ?_)
                refine wU (gE rfl ?_)
                refine wOps.done ?_
                exact ⟨i + 1, rfl, by omega, by omega, (Ent.sub (sub_cons rfl (sub_cons rfl (sub_cons rfl (sub_cons rfl (sub_cons rfl (sub_cons rfl (sub_cons (int_fit (by omega) (by omega) (by omega)) (sub_nil _))))))))).trans (Ent.drop (List.sublist_cons_self _ _))⟩
              · skip
                refine wA.skip 18 rfl rfl rfl (by kernel_rfl) ?_
                refine wA.skip 19 rfl rfl rfl (by kernel_rfl) ?_
                refine wA.skip 20 rfl rfl rfl (by kernel_rfl) ?_
                refine wA.skip 21 rfl rfl rfl (by kernel_rfl) ?_
                refine wA.val 22 rfl rfl rfl (fun _ _ hK => gE rfl hK) (by kernel_rfl) ?_
                refine wA.val 23 rfl rfl rfl (fun _ _ hK => gE rfl hK) (by kernel_rfl) ?_
                refine wA.done (by kernel_rfl) ?_
                refine hK35 _ _ _ ?_
                clear hK35 K34
                first | refine WC.cond (b := false) rfl (fun hh => by simp at hh) (fun _ => ?_) | refine WC.cond rfl (fun hh => by simp_all) (fun _ => ?_)
                refine WC.skip ?_
                refine hK31 _ _ _ ?_
                clear hK31 K30
                refine WC.region ?_
                refine wU (gE rfl ?_)
                refine wU (gE rfl ?_)
                refine wOps.done ?_
                exact ⟨i + 1, rfl, by omega, by omega, (Ent.sub (sub_cons rfl (sub_cons rfl (sub_cons rfl (sub_cons rfl (sub_cons rfl (sub_cons rfl (sub_cons (int_fit (by omega) (by omega) (by omega)) (sub_nil _))))))))).trans (Ent.drop (List.sublist_cons_self _ _))⟩
            · skip
              refine wA.skip 3 rfl rfl rfl (by kernel_rfl) ?_
              refine wA.skip 4 rfl rfl rfl (by kernel_rfl) ?_
              refine wA.skip 5 rfl rfl rfl (by kernel_rfl) ?_
              refine wA.skip 6 rfl rfl rfl (by kernel_rfl) ?_
              refine wA.skip 7 rfl rfl rfl (by kernel_rfl) ?_
              refine wA.skip 8 rfl rfl rfl (by kernel_rfl) ?_
              refine wA.skip 9 rfl rfl rfl (by kernel_rfl) ?_
              refine wA.skip 10 rfl rfl rfl (by kernel_rfl) ?_
              refine wA.val 11 rfl rfl rfl (fun _ _ hK => gE rfl hK) (by kernel_rfl) ?_
              refine wA.val 12 rfl rfl rfl (fun _ _ hK => gE rfl hK) (by kernel_rfl) ?_
              refine wA.ld (v := .agg (eCells (a[i]'hi))) 13 rfl rfl rfl (fun _ hle _ hK => gLoadA (T' := 36) (cs := eCells (a[i]'hi)) (vs := eCells (a[i]'hi)) (nn := 5) tagg36 tsz36 rfl (hle _ _ (by simp [hget, hb5])) (by simp [eCells]) (show ((eCells (a[i]'hi)).drop 0).take 5 = eCells (a[i]'hi) from rfl) hK) (by kernel_rfl) ?_
              refine wA.ld 14 rfl rfl rfl (fun _ hle _ hK => gLoadA (T' := 36) (cs := eCells x) (vs := eCells x) (nn := 5) tagg36 tsz36 rfl (hle _ _ (by simp [hget, hb5, hb10])) (by simp [eCells]) (show ((eCells x).drop 0).take 5 = eCells x from rfl) hK) (by kernel_rfl) ?_
              refine wA.val 15 rfl rfl rfl (fun _ _ hK => by refine gPure rfl isGo20 (eqE_tri a[i] x hfi) ?_; exact hK) (by kernel_rfl) ?_
              refine wA.val 16 rfl rfl rfl (fun _ _ hK => gE rfl hK) (by kernel_rfl) ?_
              refine wA.val 17 rfl rfl rfl (fun _ _ hK => gE rfl hK) (by kernel_rfl) ?_
              refine wA.split (e := 66) true rfl (fun c38 => ?_) (fun c38 => ?_)
              · skip
                refine wA.val 18 rfl rfl rfl (fun _ _ hK => gE rfl hK) (by kernel_rfl) ?_
                refine wA.val 19 rfl rfl rfl (fun _ _ hK => gE rfl hK) (by kernel_rfl) ?_
                refine wA.eff 20 rfl (by kernel_rfl) rfl ?_
                have hne : eqE a[i] x = false := by simpa using c38
                have hmi : a[i] ∈ l := (hmem _ (List.getElem_mem hi)).resolve_left (fun e => by rw [(eqE_iff _ _).2 e] at hne; simp at hne)
                have hany : (l.any fun y => eqE y a[i]) = true := by rw [List.any_eq_true]; exact ⟨_, hmi, (eqE_iff _ _).2 rfl⟩
                have hc28 := cont28_tri l a[i] (by omega) hf
                rw [hany] at hc28
                have hlend := Tri.frame (Tri.lend (b := b10) (us := [esl l, .clo 29 [.ptr b10 0]]) (T := 36) (cs := eCells a[i]) (nn := 5) hc28 (by simp [frzV, frzL, esl, frzL_ecs]) rfl) [(b5, .cells 36 (eCells y) 5), (b4, .cells 36 (eCells x) 5)]
                refine gCall (by rfl) (@CallS.mono _ Tryz.prog 28 _ _ _ _ (@CallS.of_tri _ Tryz.prog 28 _ _ _ isGo28 hlend) ?_)
                rintro v1 h1 ⟨h2, rfl, ⟨rfl, rfl⟩, -⟩
                refine wA.back ?_
                refine wA.val 21 rfl rfl rfl (fun _ _ hK => gE rfl hK) (by kernel_rfl) ?_
                refine wA.val 22 rfl rfl rfl (fun _ _ hK => gE rfl hK) (by kernel_rfl) ?_
                refine wA.val 23 rfl rfl rfl (fun _ _ hK => gE rfl hK) (by kernel_rfl) ?_
                refine wA.done (by kernel_rfl) ?_
                refine hK35 _ _ _ ?_
                clear hK35 K34
                first | refine WC.cond (b := false) rfl (fun hh => by simp at hh) (fun _ => ?_) | refine WC.cond rfl (fun hh => by simp_all) (fun _ => ?_)
                refine WC.skip ?_
                refine hK31 _ _ _ ?_
                clear hK31 K30
                refine WC.region ?_
                refine wU (gE rfl ?_)
                refine wU (gE rfl ?_)
                refine wOps.done ?_
                exact ⟨i + 1, rfl, by omega, by omega, (Ent.sub (sub_cons rfl (sub_cons rfl (sub_cons rfl (sub_cons rfl (sub_cons rfl (sub_cons rfl (sub_cons (int_fit (by omega) (by omega) (by omega)) (sub_nil _))))))))).trans (Ent.drop (List.sublist_cons_self _ _))⟩
              · skip
                refine wA.skip 18 rfl rfl rfl (by kernel_rfl) ?_
                refine wA.skip 19 rfl rfl rfl (by kernel_rfl) ?_
                refine wA.skip 20 rfl rfl rfl (by kernel_rfl) ?_
                refine wA.skip 21 rfl rfl rfl (by kernel_rfl) ?_
                refine wA.val 22 rfl rfl rfl (fun _ _ hK => gE rfl hK) (by kernel_rfl) ?_
                refine wA.val 23 rfl rfl rfl (fun _ _ hK => gE rfl hK) (by kernel_rfl) ?_
                refine wA.done (by kernel_rfl) ?_
                refine hK35 _ _ _ ?_
                clear hK35 K34
                first | refine WC.cond (b := false) rfl (fun hh => by simp at hh) (fun _ => ?_) | refine WC.cond rfl (fun hh => by simp_all) (fun _ => ?_)
                refine WC.skip ?_
                refine hK31 _ _ _ ?_
                clear hK31 K30
                refine WC.region ?_
                refine wU (gE rfl ?_)
                refine wU (gE rfl ?_)
                refine wOps.done ?_
                exact ⟨i + 1, rfl, by omega, by omega, (Ent.sub (sub_cons rfl (sub_cons rfl (sub_cons rfl (sub_cons rfl (sub_cons rfl (sub_cons rfl (sub_cons (int_fit (by omega) (by omega) (by omega)) (sub_nil _))))))))).trans (Ent.drop (List.sublist_cons_self _ _))⟩
          · skip
            refine WC.exit ?_
            refine hK22 _ _ _ ?_
            clear hK28 K27 hK22 K21
            refine WC.seq_k fun K39 hK40 => ?_
            refine WC.seq_k fun K41 hK42 => ?_
            refine WC.region ?_
            refine wU (gE rfl ?_)
            refine wU (gLen rfl rfl (tlen42 _) ?_)
            refine wU (gE rfl ?_)
            refine wU (gLen rfl rfl (tlen42 _) ?_)
            refine wU (gE (v := .int .i64 ((l.length + 1 : Nat) : Int)) (int_fit (by omega) (by omega) (by omega)) ?_)
            refine wU (gE (v := .bool false) (show some (V.bool (!decide ((a.length : Int) = ((l.length + 1 : Nat) : Int)))) = some (V.bool false) by simp; omega) ?_)
            refine wOps.done ?_
            refine hK42 _ _ _ ?_
            clear hK42 K41
            first | refine WC.cond (b := false) rfl (fun hh => by simp at hh) (fun _ => ?_) | refine WC.cond rfl (fun hh => by simp_all) (fun _ => ?_)
            refine WC.skip ?_
            refine hK40 _ _ _ ?_
            clear hK40 K39
            refine WC.seq_k fun K43 hK44 => ?_
            have h25b := insert25_tri a y (by omega) hfa hy
            have h25c := insert25_tri l y (by omega) hf hy
            have hfc : ∀ e ∈ insX l y, fitE e := fun e he => by rcases insX_mem.1 he with rfl | h; exact hy; exact hf e h
            have hlc := insX_length l y
            have h25d := insert25_tri (insX l y) x (by omega) hfc hx
            have hsm := same27_tri (insE a y).1 (insE a y).1 (by have := insE_length a y; omega) (fun e he => by rcases insE_mem e he with rfl | h; exact hy; exact hfa e h)
            rw [decide_eq_true rfl] at hsm
            refine WC.region ?_
            refine wU (gE rfl ?_)
            refine wU (gLoadA (T' := 36) (cs := eCells y) (vs := eCells y) (nn := 5) tagg36 tsz36 rfl (by simp [hget, hb5]) (by simp [eCells]) (show ((eCells y).drop 0).take 5 = eCells y from rfl) ?_)
            refine wU (gPure rfl isGo25 h25b ?_)
            refine wU (gE rfl ?_)
            refine wU (gE rfl ?_)
            refine wU (gE rfl ?_)
            refine wU (gE rfl ?_)
            refine wU (gE rfl ?_)
            refine wOps.done ?_
            refine hK44 _ _ _ ?_
            clear hK44 K43
            refine WC.seq_k fun K45 hK46 => ?_
            refine WC.region ?_
            refine wU (gE rfl ?_)
            refine wU (gLoadA (T' := 36) (cs := eCells y) (vs := eCells y) (nn := 5) tagg36 tsz36 rfl (by simp [hget, hb5]) (by simp [eCells]) (show ((eCells y).drop 0).take 5 = eCells y from rfl) ?_)
            refine wU (gPure rfl isGo25 h25c ?_)
            refine wU (gE rfl ?_)
            refine wU (gE rfl ?_)
            refine wU (gE rfl ?_)
            refine wU (gE rfl ?_)
            refine wU (gE rfl ?_)
            refine wOps.done ?_
            refine hK46 _ _ _ ?_
            clear hK46 K45
            refine WC.seq_k fun K47 hK48 => ?_
            refine WC.seq_k fun K49 hK50 => ?_
            refine WC.region ?_
            refine wU (gE rfl ?_)
            refine wU (gE rfl ?_)
            refine wOps.done ?_
            refine hK50 _ _ _ ?_
            clear hK50 K49
            refine WC.cond rfl (fun c51 => ?_) (fun c51 => ?_)
            · skip
              refine WC.seq_k fun K52 hK53 => ?_
              have hb2 : (insE a y).2 ≠ 0 := by simpa using c51
              have hor := htwob hb2
              refine WC.region ?_
              refine wU (gE rfl ?_)
              refine wU (gE rfl ?_)
              refine wU (gE rfl ?_)
              refine wU (gE rfl ?_)
              refine wG rfl rfl rfl rfl (by decide) (fun c54 => ?_) (fun c54 => ?_)
              · skip
                refine gE rfl ?_
                have h6 := hor.resolve_left (fun e => by have h := c54; simp [e] at h)
                refine wY rfl (gE (v := .bool true) (show some (V.bool (decide ((insE a y).2 = 6))) = some (V.bool true) by simp [h6.1]) ?_)
                refine wY rfl (gE rfl ?_)
                refine wY rfl (gLoadA (T' := 36) (cs := eCells x) (vs := eCells x) (nn := 5) tagg36 tsz36 rfl (by simp [hget, hb5]) (by simp [eCells]) (show ((eCells x).drop 0).take 5 = eCells x from rfl) ?_)
                refine wY rfl (gLoadA (T' := 36) (cs := eCells y) (vs := eCells y) (nn := 5) tagg36 tsz36 rfl (by simp [hget, hb5]) (by simp [eCells]) (show ((eCells y).drop 0).take 5 = eCells y from rfl) ?_)
                have hxy := eqE_tri x y hx
                rw [(eqE_iff x y).2 h6.2] at hxy
                refine wY rfl (gPure rfl isGo20 hxy ?_)
                refine wY rfl (gE rfl ?_)
                refine wU (gE rfl ?_)
                refine wU (gE rfl ?_)
                refine wY rfl (gPure rfl isGo9 (awake_tri hG) ?_)
                refine wU (gE rfl ?_)
                refine wU (gE rfl ?_)
                refine wOps.done ?_
                refine hK53 _ _ _ ?_
                clear hK53 K52
                refine WC.ret ?_
                exact ⟨_, rfl, rfl⟩
              · skip
                refine wN rfl ?_
                refine wN rfl ?_
                refine wZ rfl ?_
                refine wZ rfl ?_
                refine wZ rfl ?_
                refine wN rfl ?_
                refine wU (gE rfl ?_)
                refine wU (gE rfl ?_)
                refine wY rfl (gPure rfl isGo9 (awake_tri hG) ?_)
                refine wU (gE rfl ?_)
                refine wU (gE rfl ?_)
                refine wOps.done ?_
                refine hK53 _ _ _ ?_
                clear hK53 K52
                refine WC.ret ?_
                exact ⟨_, rfl, rfl⟩
            · skip
              refine WC.skip ?_
              refine hK48 _ _ _ ?_
              clear hK48 K47
              refine WC.seq_k fun K55 hK56 => ?_
              have hb2 : (insE a y).2 = 0 := by simpa using c51
              obtain ⟨hc1, hd1⟩ := htwo hb2
              rw [hc1]
              simp only
              rw [hd1] at h25d
              refine WC.region ?_
              refine wU (gE rfl ?_)
              refine wU (gLoadA (T' := 36) (cs := eCells x) (vs := eCells x) (nn := 5) tagg36 tsz36 rfl (by simp [hget, hb5]) (by simp [eCells]) (show ((eCells x).drop 0).take 5 = eCells x from rfl) ?_)
              refine wU (gPure rfl isGo25 h25d ?_)
              refine wU (gE rfl ?_)
              refine wU (gE rfl ?_)
              refine wU (gE rfl ?_)
              refine wU (gE rfl ?_)
              refine wU (gE rfl ?_)
              refine wOps.done ?_
              refine hK56 _ _ _ ?_
              clear hK56 K55
              refine WC.seq_k fun K57 hK58 => ?_
              refine WC.region ?_
              refine wU (gE rfl ?_)
              refine wU (gE (v := .bool true) rfl ?_)
              refine wU (gE rfl ?_)
              refine wY rfl (gE rfl ?_)
              refine wY rfl (gE (v := .bool true) (show some (V.bool (decide ((insE a y).2 = 0))) = some (V.bool true) by simp [hb2]) ?_)
              refine wU (gE rfl ?_)
              refine wU (gE rfl ?_)
              refine wY rfl (gE rfl ?_)
              refine wY rfl (gE rfl ?_)
              refine wY rfl (gPure rfl isGo27 hsm ?_)
              refine wU (gE rfl ?_)
              refine wU (gE rfl ?_)
              refine wY rfl (gPure rfl isGo9 (awake_tri hG) ?_)
              refine wU (gE rfl ?_)
              refine wU (gE rfl ?_)
              refine wOps.done ?_
              refine hK58 _ _ _ ?_
              clear hK58 K57
              refine WC.ret ?_
              exact ⟨_, rfl, rfl⟩
    · skip
      refine wN rfl ?_
      refine wU (gE rfl ?_)
      refine wOps.done ?_
      refine hK6 _ _ _ ?_
      clear hK6 K5
      first | refine WC.cond (b := true) rfl (fun _ => ?_) (fun hh => by simp at hh) | refine WC.cond rfl (fun _ => ?_) (fun hh => by simp_all)
      refine WC.seq_k fun K59 hK60 => ?_
      refine WC.region ?_
      refine wU (gPure rfl isGo9 (awake_tri hG) ?_)
      refine wU (gE rfl ?_)
      refine wOps.done ?_
      refine hK60 _ _ _ ?_
      clear hK60 K59
      refine WC.ret ?_
      exact ⟨_, rfl, rfl⟩
  · skip
    refine wN rfl ?_
    refine wU (gE rfl ?_)
    refine wU (gE rfl ?_)
    refine wN rfl ?_
    refine wN rfl ?_
    refine wU (gE rfl ?_)
    refine wOps.done ?_
    refine hK6 _ _ _ ?_
    clear hK6 K5
    first | refine WC.cond (b := true) rfl (fun _ => ?_) (fun hh => by simp at hh) | refine WC.cond rfl (fun _ => ?_) (fun hh => by simp_all)
    refine WC.seq_k fun K61 hK62 => ?_
    refine WC.region ?_
    refine wU (gPure rfl isGo9 (awake_tri hG) ?_)
    refine wU (gE rfl ?_)
    refine wOps.done ?_
    refine hK62 _ _ _ ?_
    clear hK62 K61
    refine WC.ret ?_
    exact ⟨_, rfl, rfl⟩
end Go.Proofs.YtfdmdcpopmcmcaaGreatDoor
end

section
namespace Go.Proofs.YtfdmdcpopmcmcaaGreatDoor
open Go.Deep Go.ChangeShapes Go.WideShapes Go.ChangeAt Go.RowKit Go.Fw Go.ChangeMaps
theorem vrs_three {F : Froz} {a b c : V} {x y z : Value} (h1 : VR F a x) (h2 : VR F b y) (h3 : VR F c z) : VRs F [a, b, c] #[x, y, z] := ⟨rfl, fun i v hv => by
  match i with
  | 0 => simp at hv; subst hv; simpa using h1
  | 1 => simp at hv; subst hv; simpa using h2
  | 2 => simp at hv; subst hv; simpa using h3
  | i + 3 => simp at hv⟩
theorem laidOut : laidOutB Tryz.prog = true := by kernel_rfl
theorem own : ownKnob Tryz.prog.godebug = none := by kernel_rfl
theorem gint_start {W : World} (h : W.ShapedOpen Tryz.prog) : @GInt (glOf W) := by
  obtain ⟨m, hm⟩ := Tryz.laysM219.s1_3 W h
  exact ⟨m, fcell_start hm rfl⟩
/-- A world for the witness: the settled one, the two tables holding what their initialisers lay. -/
noncomputable def laidWorld (os : Os) : World :=
  let w0 := World.holding Tryz.prog os ⟨#[], #[], []⟩
  let put (h : Array Obj) (g : Nat) (cs : Array Value) : Array Obj := h.modify g fun
    | .cells _ t frozen => .cells cs t frozen
    | o => o
  let h1 := put w0.heap 1 (Go.Pinned.utf8FirstZ.map fun (z : Nat) => Value.int .u8 (z : Int)).toArray
  let h2 := put h1 2 #[.int .u8 128, .int .u8 191, .int .u8 160, .int .u8 191, .int .u8 128, .int .u8 159, .int .u8 144, .int .u8 191, .int .u8 128, .int .u8 143, .int .u8 0, .int .u8 0, .int .u8 0, .int .u8 0, .int .u8 0, .int .u8 0, .int .u8 0, .int .u8 0, .int .u8 0, .int .u8 0, .int .u8 0, .int .u8 0, .int .u8 0, .int .u8 0, .int .u8 0, .int .u8 0, .int .u8 0, .int .u8 0, .int .u8 0, .int .u8 0, .int .u8 0, .int .u8 0]
  { w0 with heap := h2 }
theorem laid_met (os : Os) (args : Array Value) : laidMet Tryz.prog [("unicode/utf8.acceptRanges", Rows.laid_unicode_utf8_acceptRanges), ("unicode/utf8.first", Rows.laid_unicode_utf8_first)] ((laidWorld os).forCall (fun _ _ => 0) ⟨#[], args, []⟩).memory :=
  laidMet_of_run' 8 (by kernel_rfl) (by kernel_rfl)
/-! ### Reading the arguments -/
def strB : Value → By
  | .string s => s.data.toList
  | _ => []
theorem open_lbs {H : Type} {enc : TypeId × Value → H} {W : World} {base fuel : Nat} {sp : Nat → Bool} {held : Bool} {v : Value} {x : DataW H × List MemPlace} (h : DataW.trod enc Tryz.prog W base sp held fuel 22 [v] = some x) :
    ∃ l : List Lb, VR (fun b => W.heap[b]?) (lsl l) v ∧ l.length ≤ Rows.uptoBulk x.1 := by
  letI := glOf W
  rcases open_slice_pairs Tryz.underlying22 Tryz.underlying51 (by kernel_rfl) rfl rfl (by kernel_rfl) (by kernel_rfl) h with ⟨hcs, rfl⟩ | ⟨a, len, cap, m, n, V0, V1, D0, D1, P0, P1, hcs, hb, hl, hm, hmm, rfl, hx⟩
  · simp only [List.cons.injEq, and_true] at hcs
    subst hcs
    exact ⟨[], .fnil, by simp⟩
  · simp only [List.cons.injEq, and_true] at hcs
    subst hcs
    have hlm : len ≤ m := by rw [hmm]; split <;> omega
    have e0 : ∀ i, i < m → V0 i = .string ⟨(strB (V0 i)).toArray⟩ := fun i hi => by
      obtain ⟨s, hs, -⟩ := DataW.trod_string Tryz.underlying9 (hx i hi).2.2.1
      simp only [List.cons.injEq, and_true] at hs
      rw [hs]; simp [strB]
    have e1 : ∀ i, i < m → V1 i = .string ⟨(strB (V1 i)).toArray⟩ := fun i hi => by
      obtain ⟨s, hs, -⟩ := DataW.trod_string Tryz.underlying9 (hx i hi).2.2.2
      simp only [List.cons.injEq, and_true] at hs
      rw [hs]; simp [strB]
    let l : List Lb := (List.range len).map fun i => (strB (V0 i), strB (V1 i))
    have hll : l.length = len := by simp [l]
    have hli : ∀ k (hk : k < l.length), l[k] = (strB (V0 k), strB (V1 k)) := fun k hk => by simp [l]
    refine ⟨l, ?_, ?_⟩
    · have := VR.fslice (F := fun b => W.heap[b]?) (lcs l) len a cap (fun j => if j % 2 = 0 then V0 (j / 2) else V1 (j / 2)) hl (fun i hi => ?_) (fun i v hv => ?_)
      · unfold lsl; rw [hll]; exact this
      · rw [lcs_length, hll] at hi
        have hk : i / 2 < m := by omega
        show W.cell? (a.add i) = _
        by_cases hp : i % 2 = 0
        · rw [if_pos hp]
          have := (hx (i / 2) hk).1
          rwa [show i / 2 * 2 = i by omega] at this
        · rw [if_neg hp]
          have := (hx (i / 2) hk).2.1
          rwa [show i / 2 * 2 + 1 = i by omega] at this
      · have hi := (List.getElem?_eq_some_iff.1 hv).1
        rw [lcs_length, hll] at hi
        have hk : i / 2 < l.length := by omega
        have hkm : i / 2 < m := by omega
        have ha := lcs_at l (i / 2) hk
        rw [hli] at ha
        by_cases hp : i % 2 = 0
        · rw [if_pos hp]
          have h1 := ha.1
          rw [show i / 2 * 2 = i by omega, hv] at h1
          simp only [Option.some.injEq] at h1
          rw [h1, e0 _ hkm]
          exact .str _
        · rw [if_neg hp]
          have h1 := ha.2
          rw [show i / 2 * 2 + 1 = i by omega, hv] at h1
          simp only [Option.some.injEq] at h1
          rw [h1, e1 _ hkm]
          exact .str _
    · have h1 : ∀ ls : List (DataW H), ls.length ≤ Rows.uptoBulkAll ls := by
        intro ls
        induction ls with
        | nil => simp [Rows.uptoBulkAll]
        | cons d r ih =>
          have : 1 ≤ Rows.uptoBulk d := by cases d with
            | lit y => cases y <;> simp [Rows.uptoBulk]
            | _ => simp [Rows.uptoBulk]
          simp only [Rows.uptoBulkAll, List.length_cons]; omega
      have h2 := h1 ((List.range len).map fun i => DataW.agg [D0 i, D1 i])
      simp only [List.length_map, List.length_range] at h2
      simp only [Rows.uptoBulk, hll]
      omega
theorem bulk_part {H : Type} {d : DataW H} : ∀ {l : List (DataW H)}, d ∈ l → Rows.uptoBulk d ≤ Rows.uptoBulkAll l
  | x :: r, h => by
    simp only [Rows.uptoBulkAll]
    rcases List.mem_cons.1 h with rfl | h
    · omega
    · have := bulk_part h; omega
theorem cells36 : Tryz.prog.cellsOf 36 = 5 := by kernel_rfl
theorem cells9 : Tryz.prog.cellsOf 9 = 1 := by kernel_rfl
theorem cells22 : Tryz.prog.cellsOf 22 = 1 := by kernel_rfl
theorem cells3 : Tryz.prog.cellsOf 3 = 1 := by kernel_rfl
set_option maxRecDepth 100000 in
theorem open_entry {H : Type} {enc : TypeId × Value → H} {W : World} {base b0 : Nat} {r : Reach} {sp : Nat → Bool} {held : Bool} {v : Value} {d : DataW H} {p : List MemPlace}
    (hval : Value.okWide Tryz.prog W r b0 36 v) (hd : DataW.Trod enc Tryz.prog W base sp held 36 v d p) (hb : Rows.uptoBulk d ≤ 1048576) :
    ∃ e : En, VR (fun b => W.heap[b]?) (env e) v ∧ fitE e := by
  letI := glOf W
  obtain ⟨cs, rfl, hsz⟩ := okWide_struct Tryz.underlying36 hval
  rw [cells36] at hsz
  obtain ⟨L⟩ := cs
  match L, hsz with
  | [c0, c1, c2, c3, c4], _ =>
    obtain ⟨fuel, hf⟩ := hd
    obtain ⟨xs, n, _, hxy, _, hlen, hfl⟩ := DataW.trod_struct Tryz.underlying36 hf
    match xs, hlen with
    | [y0, y1, y2, y3, y4], _ =>
      have g0 := hfl 0 _ rfl
      have g1 := hfl 1 _ rfl
      have g2 := hfl 2 _ rfl
      have g3 := hfl 3 _ rfl
      have g4 := hfl 4 _ rfl
      simp only [Value.cells, cells3, cells9, cells22, List.drop_zero, List.drop_succ_cons, List.take_succ_cons, List.take_zero, List.getElem?_cons_zero, List.getElem?_cons_succ] at g0 g1 g2 g3 g4
      have hd1 := congrArg Prod.fst hxy
      simp only [List.map_cons, List.map_nil] at hd1
      subst hd1
      obtain ⟨t0, h0, e0, -⟩ := DataW.trod_int Tryz.underlying3 g0
      obtain ⟨l1, h1, b1⟩ := open_lbs g1
      obtain ⟨s2, h2, e2, -⟩ := DataW.trod_string Tryz.underlying9 g2
      obtain ⟨l3, h3, b3⟩ := open_lbs g3
      obtain ⟨t4, h4, e4, -⟩ := DataW.trod_int Tryz.underlying3 g4
      obtain rfl := (List.cons.inj h0).1
      obtain rfl := (List.cons.inj h2).1
      obtain rfl := (List.cons.inj h4).1
      have bb : Rows.uptoBulkAll [y0.1, y1.1, y2.1, y3.1, y4.1] + 1 ≤ 1048576 := by simpa [Rows.uptoBulk] using hb
      have m1 := bulk_part (d := y1.1) (l := [y0.1, y1.1, y2.1, y3.1, y4.1]) (by simp)
      have m2 := bulk_part (d := y2.1) (l := [y0.1, y1.1, y2.1, y3.1, y4.1]) (by simp)
      have m3 := bulk_part (d := y3.1) (l := [y0.1, y1.1, y2.1, y3.1, y4.1]) (by simp)
      have b2 : s2.data.toList.length + 1 ≤ Rows.uptoBulk y2.1 := by rw [e2]; simp [Rows.uptoBulk]
      refine ⟨(t0, l1, s2.data.toList, l3, t4), ?_, by simp only; omega, by simp only; omega, by simp only; omega⟩
      refine .agg _ _ rfl fun i v hv => ?_
      match i with
      | 0 => simp at hv; subst hv; exact .int _ _
      | 1 => simp at hv; subst hv; exact h1
      | 2 => simp at hv; subst hv; exact .str _
      | 3 => simp at hv; subst hv; exact h3
      | 4 => simp at hv; subst hv; exact .int _ _
      | i + 5 => simp at hv
end Go.Proofs.YtfdmdcpopmcmcaaGreatDoor
end

section
namespace Go.Proofs.YtfdmdcpopmcmcaaGreatDoor
open Go.Deep Go.ChangeShapes Go.WideShapes Go.ChangeAt Go.RowKit Go.Fw Go.ChangeMaps
theorem open_lbs2 {H : Type} {enc : TypeId × Value → H} {W : World} {base fuel : Nat} {sp : Nat → Bool} {held : Bool} {v : Value} {x : DataW H × List MemPlace} (h : DataW.trod enc Tryz.prog W base sp held fuel 22 [v] = some x) :
    ∃ l : List Lb, VR (fun b => W.heap[b]?) (lsl l) v ∧ l.length ≤ Rows.uptoBulk x.1 ∧ ∀ p ∈ l, p.1.length ≤ Rows.uptoBulk x.1 ∧ p.2.length ≤ Rows.uptoBulk x.1 := by
  letI := glOf W
  rcases open_slice_pairs Tryz.underlying22 Tryz.underlying51 (by kernel_rfl) rfl rfl (by kernel_rfl) (by kernel_rfl) h with ⟨hcs, rfl⟩ | ⟨a, len, cap, m, n, V0, V1, D0, D1, P0, P1, hcs, hb, hl, hm, hmm, rfl, hx⟩
  · simp only [List.cons.injEq, and_true] at hcs
    subst hcs
    exact ⟨[], .fnil, by simp, by simp⟩
  · simp only [List.cons.injEq, and_true] at hcs
    subst hcs
    have hlm : len ≤ m := by rw [hmm]; split <;> omega
    have d0 : ∀ i, i < m → Rows.uptoBulk (D0 i) = (strB (V0 i)).length + 1 ∧ Rows.uptoBulk (D1 i) = (strB (V1 i)).length + 1 := fun i hi => by
      obtain ⟨s, hs, e, -⟩ := DataW.trod_string Tryz.underlying9 (hx i hi).2.2.1
      obtain ⟨s', hs', e', -⟩ := DataW.trod_string Tryz.underlying9 (hx i hi).2.2.2
      have q := (List.cons.inj hs).1
      have q' := (List.cons.inj hs').1
      have r := congrArg Prod.fst e
      have r' := congrArg Prod.fst e'
      simp only at r r'
      rw [q, q', r, r']
      simp [strB, Rows.uptoBulk]
    have e0 : ∀ i, i < m → V0 i = .string ⟨(strB (V0 i)).toArray⟩ := fun i hi => by
      obtain ⟨s, hs, -⟩ := DataW.trod_string Tryz.underlying9 (hx i hi).2.2.1
      simp only [List.cons.injEq, and_true] at hs
      rw [hs]; simp [strB]
    have e1 : ∀ i, i < m → V1 i = .string ⟨(strB (V1 i)).toArray⟩ := fun i hi => by
      obtain ⟨s, hs, -⟩ := DataW.trod_string Tryz.underlying9 (hx i hi).2.2.2
      simp only [List.cons.injEq, and_true] at hs
      rw [hs]; simp [strB]
    let l : List Lb := (List.range len).map fun i => (strB (V0 i), strB (V1 i))
    have hll : l.length = len := by simp [l]
    have hli : ∀ k (hk : k < l.length), l[k] = (strB (V0 k), strB (V1 k)) := fun k hk => by simp [l]
    refine ⟨l, ?_, ?_, ?_⟩
    · have := VR.fslice (F := fun b => W.heap[b]?) (lcs l) len a cap (fun j => if j % 2 = 0 then V0 (j / 2) else V1 (j / 2)) hl (fun i hi => ?_) (fun i v hv => ?_)
      · unfold lsl; rw [hll]; exact this
      · rw [lcs_length, hll] at hi
        have hk : i / 2 < m := by omega
        show W.cell? (a.add i) = _
        by_cases hp : i % 2 = 0
        · rw [if_pos hp]
          have := (hx (i / 2) hk).1
          rwa [show i / 2 * 2 = i by omega] at this
        · rw [if_neg hp]
          have := (hx (i / 2) hk).2.1
          rwa [show i / 2 * 2 + 1 = i by omega] at this
      · have hi := (List.getElem?_eq_some_iff.1 hv).1
        rw [lcs_length, hll] at hi
        have hk : i / 2 < l.length := by omega
        have hkm : i / 2 < m := by omega
        have ha := lcs_at l (i / 2) hk
        rw [hli] at ha
        by_cases hp : i % 2 = 0
        · rw [if_pos hp]
          have h1 := ha.1
          rw [show i / 2 * 2 = i by omega, hv] at h1
          simp only [Option.some.injEq] at h1
          rw [h1, e0 _ hkm]
          exact .str _
        · rw [if_neg hp]
          have h1 := ha.2
          rw [show i / 2 * 2 + 1 = i by omega, hv] at h1
          simp only [Option.some.injEq] at h1
          rw [h1, e1 _ hkm]
          exact .str _
    · have h1 : ∀ ls : List (DataW H), ls.length ≤ Rows.uptoBulkAll ls := by
        intro ls
        induction ls with
        | nil => simp [Rows.uptoBulkAll]
        | cons d r ih =>
          have : 1 ≤ Rows.uptoBulk d := by cases d with
            | lit y => cases y <;> simp [Rows.uptoBulk]
            | _ => simp [Rows.uptoBulk]
          simp only [Rows.uptoBulkAll, List.length_cons]; omega
      have h2 := h1 ((List.range len).map fun i => DataW.agg [D0 i, D1 i])
      simp only [List.length_map, List.length_range] at h2
      simp only [Rows.uptoBulk, hll]
      omega
    · intro p hp
      obtain ⟨i, hi, rfl⟩ := List.mem_map.1 hp
      have hi := List.mem_range.1 hi
      have hd := d0 i (by omega)
      have hm : DataW.agg [D0 i, D1 i] ∈ (List.range len).map fun i => DataW.agg [D0 i, D1 i] := List.mem_map.2 ⟨i, List.mem_range.2 hi, rfl⟩
      have hb1 := bulk_part hm
      have hb2 : Rows.uptoBulk (DataW.agg [D0 i, D1 i]) = Rows.uptoBulk (D0 i) + (Rows.uptoBulk (D1 i) + 0) + 1 := by simp only [Rows.uptoBulk, Rows.uptoBulkAll]
      have hb3 : ∀ (u : List (DataW H)) w, Rows.uptoBulk (DataW.slice u w) = Rows.uptoBulkAll u + Rows.uptoBulkAll w + 1 := fun u w => by simp only [Rows.uptoBulk]
      simp only [hb3]
      omega
set_option maxRecDepth 100000 in
theorem open_entry2 {H : Type} {enc : TypeId × Value → H} {W : World} {base b0 : Nat} {r : Reach} {sp : Nat → Bool} {held : Bool} {v : Value} {d : DataW H} {p : List MemPlace}
    (hval : Value.okWide Tryz.prog W r b0 36 v) (hd : DataW.Trod enc Tryz.prog W base sp held 36 v d p) (hb : Rows.uptoBulk d ≤ 1048576) :
    ∃ e : En, VR (fun b => W.heap[b]?) (env e) v ∧ fitE e ∧ fitN e := by
  letI := glOf W
  obtain ⟨cs, rfl, hsz⟩ := okWide_struct Tryz.underlying36 hval
  rw [cells36] at hsz
  obtain ⟨L⟩ := cs
  match L, hsz with
  | [c0, c1, c2, c3, c4], _ =>
    obtain ⟨fuel, hf⟩ := hd
    obtain ⟨xs, n, _, hxy, _, hlen, hfl⟩ := DataW.trod_struct Tryz.underlying36 hf
    match xs, hlen with
    | [y0, y1, y2, y3, y4], _ =>
      have g0 := hfl 0 _ rfl
      have g1 := hfl 1 _ rfl
      have g2 := hfl 2 _ rfl
      have g3 := hfl 3 _ rfl
      have g4 := hfl 4 _ rfl
      simp only [Value.cells, cells3, cells9, cells22, List.drop_zero, List.drop_succ_cons, List.take_succ_cons, List.take_zero, List.getElem?_cons_zero, List.getElem?_cons_succ] at g0 g1 g2 g3 g4
      have hd1 := congrArg Prod.fst hxy
      simp only [List.map_cons, List.map_nil] at hd1
      subst hd1
      obtain ⟨t0, h0, e0, -⟩ := DataW.trod_int Tryz.underlying3 g0
      obtain ⟨l1, h1, b1, n1⟩ := open_lbs2 g1
      obtain ⟨s2, h2, e2, -⟩ := DataW.trod_string Tryz.underlying9 g2
      obtain ⟨l3, h3, b3, n3⟩ := open_lbs2 g3
      obtain ⟨t4, h4, e4, -⟩ := DataW.trod_int Tryz.underlying3 g4
      obtain rfl := (List.cons.inj h0).1
      obtain rfl := (List.cons.inj h2).1
      obtain rfl := (List.cons.inj h4).1
      have bb : Rows.uptoBulkAll [y0.1, y1.1, y2.1, y3.1, y4.1] + 1 ≤ 1048576 := by simpa [Rows.uptoBulk] using hb
      have m1 := bulk_part (d := y1.1) (l := [y0.1, y1.1, y2.1, y3.1, y4.1]) (by simp)
      have m2 := bulk_part (d := y2.1) (l := [y0.1, y1.1, y2.1, y3.1, y4.1]) (by simp)
      have m3 := bulk_part (d := y3.1) (l := [y0.1, y1.1, y2.1, y3.1, y4.1]) (by simp)
      have b2 : s2.data.toList.length + 1 ≤ Rows.uptoBulk y2.1 := by rw [e2]; simp [Rows.uptoBulk]
      refine ⟨(t0, l1, s2.data.toList, l3, t4), ?_, ⟨by simp only; omega, by simp only; omega, by simp only; omega⟩, fun p hp => by have := (n1 p hp).1; omega, fun p hp => by have := (n3 p hp).1; omega⟩
      refine .agg _ _ rfl fun i v hv => ?_
      match i with
      | 0 => simp at hv; subst hv; exact .int _ _
      | 1 => simp at hv; subst hv; exact h1
      | 2 => simp at hv; subst hv; exact .str _
      | 3 => simp at hv; subst hv; exact h3
      | 4 => simp at hv; subst hv; exact .int _ _
      | i + 5 => simp at hv
end Go.Proofs.YtfdmdcpopmcmcaaGreatDoor
end

section
namespace Go.Proofs.YtfdmdcpopmcmcaaGreatDoor
open Go.Deep Go.ChangeShapes Go.WideShapes Go.ChangeAt Go.RowKit Go.Fw Go.ChangeMaps
set_option maxRecDepth 100000 in
theorem open_labels {H : Type} {enc : TypeId × Value → H} {W : World} {base b0 : Nat} {r : Reach} {sp : Nat → Bool} {held : Bool} {v : Value} {d : DataW H} {p : List MemPlace}
    (hval : Value.okWide Tryz.prog W r b0 22 v) (hd : DataW.Trod enc Tryz.prog W base sp held 22 v d p) (hb : Rows.uptoBulk d ≤ 1048576) :
    ∃ l : List Lb, VR (fun b => W.heap[b]?) (lsl l) v ∧ l.length ≤ 1048576 := by
  obtain ⟨a, len, cap, rfl⟩ := okWide_slice Tryz.underlying22 hval
  obtain ⟨fuel, hf⟩ := hd
  obtain ⟨l, h1, h2, -⟩ := open_lbs2 (x := (d, p)) hf
  simp only at h2
  exact ⟨l, h1, by omega⟩
end Go.Proofs.YtfdmdcpopmcmcaaGreatDoor
end

section
namespace Go.Proofs.YtfdmdcpopmcmcaaGreatDoor
open Go.Deep Go.ChangeShapes Go.WideShapes Go.ChangeAt Go.RowKit Go.Fw Go.ChangeMaps
theorem ecs_at {l : List En} {j : Nat} (h : j / 5 < l.length) : (ecs l)[j]? = (eCells l[j / 5])[j % 5]? := by
  have e : j = j / 5 * 5 + j % 5 := by omega
  have e1 : (ecs l)[j]? = (ecs l)[j / 5 * 5 + j % 5]? := by rw [← e]
  rw [e1, ← List.getElem?_drop, ecs_drop, List.drop_eq_getElem_cons h, ecs_cons, List.getElem?_append_left (by rw [eCells_length]; omega)]
set_option maxRecDepth 100000 in
theorem open_cells36 {H : Type} {enc : TypeId × Value → H} {W : World} {base fuel : Nat} {sp : Nat → Bool} {held : Bool} {cs : List Value} {x : DataW H × List MemPlace} (hlen5 : cs.length = 5)
    (hf : DataW.trod enc Tryz.prog W base sp held fuel 36 cs = some x) (hb : Rows.uptoBulk x.1 ≤ 1048576) :
    ∃ e : En, (∀ (i : Nat) (v : V), (eCells e)[i]? = some v → VR (fun b => W.heap[b]?) v (cs.getD i undef)) ∧ fitE e ∧ fitN e := by
  letI := glOf W
  match cs, hlen5 with
  | [c0, c1, c2, c3, c4], _ =>
    obtain ⟨xs, n, _, hxy, _, hlen, hfl⟩ := DataW.trod_struct Tryz.underlying36 hf
    match xs, hlen with
    | [y0, y1, y2, y3, y4], _ =>
      have g0 := hfl 0 _ rfl
      have g1 := hfl 1 _ rfl
      have g2 := hfl 2 _ rfl
      have g3 := hfl 3 _ rfl
      have g4 := hfl 4 _ rfl
      simp only [cells3, cells9, cells22, List.drop_zero, List.drop_succ_cons, List.take_succ_cons, List.take_zero, List.getElem?_cons_zero, List.getElem?_cons_succ] at g0 g1 g2 g3 g4
      subst hxy
      simp only [List.map_cons, List.map_nil] at hb
      obtain ⟨t0, h0, e0, -⟩ := DataW.trod_int Tryz.underlying3 g0
      obtain ⟨l1, h1, b1, n1⟩ := open_lbs2 g1
      obtain ⟨s2, h2, e2, -⟩ := DataW.trod_string Tryz.underlying9 g2
      obtain ⟨l3, h3, b3, n3⟩ := open_lbs2 g3
      obtain ⟨t4, h4, e4, -⟩ := DataW.trod_int Tryz.underlying3 g4
      obtain rfl := (List.cons.inj h0).1
      obtain rfl := (List.cons.inj h2).1
      obtain rfl := (List.cons.inj h4).1
      have bb : Rows.uptoBulkAll [y0.1, y1.1, y2.1, y3.1, y4.1] + 1 ≤ 1048576 := by simpa [Rows.uptoBulk] using hb
      have m1 := bulk_part (d := y1.1) (l := [y0.1, y1.1, y2.1, y3.1, y4.1]) (by simp)
      have m2 := bulk_part (d := y2.1) (l := [y0.1, y1.1, y2.1, y3.1, y4.1]) (by simp)
      have m3 := bulk_part (d := y3.1) (l := [y0.1, y1.1, y2.1, y3.1, y4.1]) (by simp)
      have b2 : s2.data.toList.length + 1 ≤ Rows.uptoBulk y2.1 := by rw [e2]; simp [Rows.uptoBulk]
      refine ⟨(t0, l1, s2.data.toList, l3, t4), fun i v hv => ?_, ⟨by simp only; omega, by simp only; omega, by simp only; omega⟩, fun p hp => by have := (n1 p hp).1; omega, fun p hp => by have := (n3 p hp).1; omega⟩
      match i with
      | 0 => simp [eCells] at hv; subst hv; exact .int _ _
      | 1 => simp [eCells] at hv; subst hv; exact h1
      | 2 => simp [eCells] at hv; subst hv; exact .str _
      | 3 => simp [eCells] at hv; subst hv; exact h3
      | 4 => simp [eCells] at hv; subst hv; exact .int _ _
      | i + 5 => simp [eCells] at hv
set_option maxRecDepth 100000 in
theorem open_entries {H : Type} {enc : TypeId × Value → H} {W : World} {base b0 : Nat} {r : Reach} {sp : Nat → Bool} {held : Bool} {v : Value} {d : DataW H} {p : List MemPlace}
    (hval : Value.okWide Tryz.prog W r b0 42 v) (hd : DataW.Trod enc Tryz.prog W base sp held 42 v d p) (hb : Rows.uptoBulk d ≤ 1048576) :
    ∃ l : List En, VR (fun b => W.heap[b]?) (esl l) v ∧ l.length ≤ 1048576 ∧ ∀ e ∈ l, fitE e ∧ fitN e := by
  letI := glOf W
  obtain ⟨a, len, cap, rfl⟩ := okWide_slice Tryz.underlying42 hval
  obtain ⟨fuel, hf⟩ := hd
  have hf : DataW.trod enc Tryz.prog W base sp held fuel 42 [.slice a len cap] = some (d, p) := hf
  rcases open_slice Tryz.underlying42 hf with ⟨hcs, hx⟩ | ⟨a, len', cap', m, n, D, Pl, hcs, hbb, hl, hm, hmm, hxx, hx⟩
  · simp only [List.cons.injEq, and_true] at hcs
    rw [hcs]
    exact ⟨[], .fnil, by simp, by simp⟩
  · simp only [List.cons.injEq, and_true] at hcs
    rw [hcs]
    have hlm : len' ≤ m := by rw [hmm]; split <;> omega
    simp only [Prod.mk.injEq] at hxx
    obtain ⟨rfl, rfl⟩ := hxx
    have hb3 : ∀ (u : List (DataW H)) w, Rows.uptoBulk (DataW.slice u w) = Rows.uptoBulkAll u + Rows.uptoBulkAll w + 1 := fun u w => by simp only [Rows.uptoBulk]
    rw [hb3] at hb
    have h1 : ∀ ls : List (DataW H), ls.length ≤ Rows.uptoBulkAll ls := by
      intro ls
      induction ls with
      | nil => simp [Rows.uptoBulkAll]
      | cons d r ih =>
        have : 1 ≤ Rows.uptoBulk d := by cases d with
          | lit y => cases y <;> simp [Rows.uptoBulk]
          | _ => simp [Rows.uptoBulk]
        simp only [Rows.uptoBulkAll, List.length_cons]; omega
    have hlen := h1 ((List.range len').map D)
    rw [List.length_map, List.length_range] at hlen
    have each : ∀ i, i < len' → ∃ q : En × List Value, q.2.length = 5 ∧ (∀ j, j < 5 → W.cell? (a.add (i * 5 + j)) = some (q.2.getD j undef)) ∧ (∀ (j : Nat) (v : V), (eCells q.1)[j]? = some v → VR (fun b => W.heap[b]?) v (q.2.getD j undef)) ∧ fitE q.1 ∧ fitN q.1 := by
      intro i hi
      obtain ⟨cs', g1, g2⟩ := hx i (by omega)
      rw [cells36] at g1
      obtain ⟨_, hl5, hcell⟩ := World.cells?_some g1
      have hmem : D i ∈ (List.range len').map D := List.mem_map.2 ⟨i, List.mem_range.2 hi, rfl⟩
      have hbi := bulk_part hmem
      obtain ⟨e, hv, f1, f2⟩ := open_cells36 hl5 g2 (by simp only; omega)
      refine ⟨(e, cs'), hl5, fun j hj => ?_, hv, f1, f2⟩
      have := hcell j hj
      rw [Go.Deep.add_add] at this
      rw [this]
      simp only
      rw [List.getD_eq_getElem?_getD, List.getElem?_eq_getElem (by omega)]
      rfl
    obtain ⟨q, hq⟩ := choose_lt each
    let l : List En := (List.range len').map fun i => (q i).1
    have hll : l.length = len' := by simp [l]
    have hli : ∀ k (hk : k < l.length), l[k] = (q k).1 := fun k hk => by simp [l]
    refine ⟨l, ?_, by omega, fun e he => ?_⟩
    · have := VR.fslice (F := fun b => W.heap[b]?) (ecs l) len' a cap' (fun j => (q (j / 5)).2.getD (j % 5) undef) hl (fun i hi => ?_) (fun i v hv => ?_)
      · unfold esl; rw [hll]; exact this
      · rw [ecs_length, hll] at hi
        have hk : i / 5 < len' := by omega
        have := (hq (i / 5) hk).2.1 (i % 5) (by omega)
        rw [show i / 5 * 5 + i % 5 = i by omega] at this
        exact this
      · have hi := (List.getElem?_eq_some_iff.1 hv).1
        rw [ecs_length, hll] at hi
        have hk : i / 5 < len' := by omega
        rw [ecs_at (by omega), hli] at hv
        exact (hq (i / 5) hk).2.2.1 _ v hv
    · obtain ⟨i, hi, rfl⟩ := List.mem_map.1 he
      have := hq i (List.mem_range.1 hi)
      exact this.2.2.2
end Go.Proofs.YtfdmdcpopmcmcaaGreatDoor
end
