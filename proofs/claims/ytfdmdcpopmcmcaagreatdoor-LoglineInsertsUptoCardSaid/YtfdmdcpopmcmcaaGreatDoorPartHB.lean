/- A part of the proof: W16, PDefs2, PSort, TryzSrtf, W17a, W17, W9, W9a, W10, PTerms, W18, Y1, PEnt, Y2 -/
import Derived.Test.YtfdmdcpopmcmcaaGreatDoorPartGB
import Derived.Shelf.SlSortCmp.WholeK
import Derived.Shelf.SlSortCmp.NoneTotal
import Derived.Test.YtfdmdcpopmcmcaaGreatDoorProg
set_option linter.all false
set_option linter.unusedSectionVars false
set_option linter.unusedVariables false
set_option linter.unusedSimpArgs false
section
namespace Go.Proofs.YtfdmdcpopmcmcaaGreatDoor
open Go.Fw
variable [Gl]
set_option maxRecDepth 20000
theorem esc_len (c : UInt8) : (escB c).length ≤ 2 := by unfold escB; split; simp; split <;> simp
theorem escs_len : ∀ s : By, (s.flatMap escB).length ≤ 2 * s.length
  | [] => by simp
  | c :: s => by
    have := escs_len s
    have := esc_len c
    rw [List.flatMap_cons, List.length_append, List.length_cons]
    omega
theorem quote_len (s : By) : (quoteV s).length ≤ 2 * s.length + 2 := by
  unfold quoteV
  have := escs_len s
  split
  · omega
  · simp only [List.length_cons, List.length_append, List.length_nil]; omega
theorem fmt_step {l : List Lb} {i : Nat} (h : i < l.length) (b : Bool) : fmtG b (l.drop i) = (if b then [] else [32]) ++ (l[i].1 ++ 61 :: (quoteV l[i].2 ++ fmtG false (l.drop (i + 1)))) := by
  rw [List.drop_eq_getElem_cons h]; rfl
theorem fmt_tri (l : List Lb) (hca : chkL l = 0 → ∀ p ∈ l, CA p.2) (hl : l.length ≤ 4294967295) : PTri Tryz.prog 12 [lsl l] (.tup [.str (fmtL l).1, .int .i64 (fmtL l).2]) := by
  unfold lsl
  refine PTri.any (Tri.of_wc Tryz.func12 rfl Tryz.results12 Tryz.ntmps12 (by simp) ?_)
  refine WC.seq_k fun K1 hK2 => ?_
  refine WC.region ?_
  refine wU (gE rfl ?_)
  refine wU (gE rfl ?_)
  refine wOps.done ?_
  refine hK2 _ _ _ ?_
  clear hK2 K1
  refine WC.seq_k fun K3 hK4 => ?_
  refine WC.seq_k fun K5 hK6 => ?_
  refine WC.region ?_
  refine wU (gE rfl ?_)
  refine wU (gPure rfl isGo42 (chk_tri l (by omega)) ?_)
  refine wU (gE rfl ?_)
  refine wOps.done ?_
  refine hK6 _ _ _ ?_
  clear hK6 K5
  refine WC.seq_k fun K7 hK8 => ?_
  refine WC.region ?_
  refine wU (gE rfl ?_)
  refine wU (gE rfl ?_)
  refine wOps.done ?_
  refine hK8 _ _ _ ?_
  clear hK8 K7
  refine WC.cond rfl (fun c9 => ?_) (fun c9 => ?_)
  · skip
    refine WC.seq_k fun K10 hK11 => ?_
    refine WC.region ?_
    refine wU (gE rfl ?_)
    refine wU (gE rfl ?_)
    refine wU (gE rfl ?_)
    refine wOps.done ?_
    refine hK11 _ _ _ ?_
    clear hK11 K10
    refine WC.ret ?_
    have hne : chkL l ≠ 0 := by simpa using c9
    have e : fmtL l = ([], chkL l) := by unfold fmtL; rw [if_pos hne]
    rw [e]
    exact ⟨_, rfl, rfl⟩
  · skip
    refine WC.skip ?_
    refine hK4 _ _ _ ?_
    clear hK4 K3
    refine WC.seq_k fun K12 hK13 => ?_
    refine WC.region ?_
    refine wU (gE rfl ?_)
    refine wOps.done ?_
    refine hK13 _ _ _ ?_
    clear hK13 K12
    refine WC.seq_k fun K14 hK15 => ?_
    refine WC.seq_k fun K16 hK17 => ?_
    have h0 : chkL l = 0 := by simpa using c9
    have hgd := (chkL_iff l).1 h0
    refine WC.region ?_
    refine wU (gE rfl ?_)
    refine wU (gLen rfl rfl (by rw [lenFits, tslice22]; rfl) ?_)
    refine wU (gE rfl ?_)
    refine wOps.done ?_
    refine hK17 _ _ _ ?_
    clear hK17 K16
    refine WC.block ?_
    refine WC.loopI (α := Nat × By × BS) (fun a => [(5, bsV a.2.2 a.2.1), (13, .fslice (lcs l) l.length), (14, .int .i64 l.length), (15, .int .i64 a.1)]) (fun a => bsH 5 a.2.2 a.2.1) (fun a => l.length - a.1) (fun a => a.1 ≤ l.length ∧ a.2.1 ++ fmtG (a.1 == 0) (l.drop a.1) = fmtG true l ∧ a.2.1.length ≤ a.1 * 500 ∧ (a.2.2 = none → a.2.1 = [])) (0, [], none) ?_ ?_ ?_ ?_
    · exact sub_cons rfl (sub_cons rfl (sub_cons rfl (sub_cons rfl (sub_nil _))))
    · exact Ent.refl _ _
    · exact ⟨Nat.zero_le _, by simp, by simp, by simp⟩
    rintro ⟨i, X, o⟩ ⟨hil, hX, hXl, ho⟩
    simp only at hil hX hXl ho ⊢
    have hl16 := hgd.1
    refine WC.seq_k fun K18 hK19 => ?_
    refine WC.region ?_
    refine wU (gE rfl ?_)
    refine wOps.done ?_
    refine hK19 _ _ _ ?_
    clear hK19 K18
    refine WC.seq_k fun K20 hK21 => ?_
    refine WC.cond rfl (fun c22 => ?_) (fun c22 => ?_)
    · skip
      refine WC.skip ?_
      refine hK21 _ _ _ ?_
      clear hK21 K20
      refine WC.seq_k fun K23 hK24 => ?_
      refine WC.block ?_
      refine WC.seq_k fun K25 hK26 => ?_
      refine WC.region ?_
      refine wU (gE rfl ?_)
      have hi : i < l.length := by simpa using c22
      refine wU (gIdxF tslice22 tsz51 rfl rfl (by omega) (by omega) ?_)
      refine wU (gLoadAF tagg51 tsz51 rfl (by rw [lcs_length]; omega) (lcs_pair hi) ?_)
      refine wU (gAlloc tzero51 fun b7 hb7 => ?_)
      refine wU (gE rfl ?_)
      refine wU (gStore rfl rfl (by simp only [hget, ↓reduceIte] <;> rfl) tsz51 (by simp [vcells]) (by simp [vcells, leafV]) ?_)
      simp only [hset, stL, vcells, List.set_cons_zero, List.set_cons_succ, ↓reduceIte]
      refine wOps.done ?_
      refine hK26 _ _ _ ?_
      clear hK26 K25
      refine WC.seq_cut (α := By × BS) (fun a => [(5, bsV a.2 a.1), (7, .ptr b7 0), (13, .fslice (lcs l) l.length), (14, .int .i64 l.length), (15, .int .i64 i)]) (fun a => (b7, .cells 51 [.str l[i].1, .str l[i].2] 2) :: bsH 5 a.2 a.1) (fun a => a.1 = X ++ (if i = 0 then [] else [32]) ∧ (a.2 = none → a.1 = []) ∧ ∀ q N, a.2 = some (q, N) → ¬ q = b7) ?_ ?_
      · skip
        refine WC.seq_k fun K27 hK28 => ?_
        refine WC.region ?_
        refine wU (gE rfl ?_)
        refine wU (gE rfl ?_)
        refine wOps.done ?_
        refine hK28 _ _ _ ?_
        clear hK28 K27
        refine WC.cond rfl (fun c29 => ?_) (fun c29 => ?_)
        · skip
          refine WC.region ?_
          refine wU (gE rfl ?_)
          refine wU (gBuildSlice (cs := [.int .u8 32]) tslice66 tsz5 tzero5 rfl (by simp [evFill, putL, zcells, vcells]) (by decide) (by decide) fun b9 hb9 => ?_)
          refine wU (gOp (OpS.appBs (s := o) (acc := X) (bs := [32]) (hx := [(b9, .cells 5 [.int .u8 32] 1), (b7, .cells 51 [.str l[i].1, .str l[i].2] 2)]) ⟨rfl⟩ el66 appT66 rfl rfl rfl (fun q N e => by subst e; simp [bsH] at hb7 hb9; simp; exact ⟨fun e => hb9.2 e.symm, fun e => hb7 e.symm⟩) ho (by simp [evSrc, hget, byteCells]) (by simp only [List.length_cons, List.length_nil]; omega) fun o1 ho1 ho1n => ?_) rfl)
          refine wU (gE rfl ?_)
          refine wOps.done ?_
          refine ⟨(X ++ [32], o1), rfl, ⟨by rw [if_neg (by have := of_decide_eq_true c29; omega)], ho1n, fun q N e => by have := (ho1 q N e).1; simp at this; exact this.2⟩, ?_⟩
          exact (Ent.sub (sub_cons rfl (sub_cons rfl (sub_cons rfl (sub_cons rfl (sub_cons rfl (sub_nil _))))))).trans ((Ent.perm (h' := [(b9, .cells 5 [.int .u8 32] 1), (b7, .cells 51 [.str l[i].1, .str l[i].2] 2)] ++ bsH 5 o1 (X ++ [32])) List.perm_append_comm).trans (Ent.drop (List.sublist_cons_self _ _)))
        · skip
          refine WC.skip ?_
          exact ⟨(X, o), rfl, ⟨by rw [if_pos (by have := of_decide_eq_false c29; omega)]; simp, ho, fun q N e => by subst e; simp [bsH] at hb7; exact fun e => hb7 e.symm⟩, Ent.sub (sub_cons rfl (sub_cons rfl (sub_cons rfl (sub_cons rfl (sub_cons rfl (sub_nil _))))))⟩
      have hgi := hgd.2.1 _ (List.getElem_mem hi)
      have hni := isNm_len hgi.1
      have hqi := quote_len l[i].2
      rintro ⟨B, o1⟩ ⟨hB, ho1, hq1⟩
      simp only at hB ho1 hq1 ⊢
      have hBl : B.length ≤ X.length + 1 := by rw [hB]; split <;> simp
      refine WC.seq_k fun K30 hK31 => ?_
      refine WC.region ?_
      refine wU (gE rfl ?_)
      refine wU (gField tfld51_0 tsz9 rfl ?_)
      refine wU (gLoad tagg9 rfl (by simp only [hget, ↓reduceIte] <;> rfl) rfl ?_)
      refine wU (gOp (OpS.appBs (s := o1) (acc := B) (bs := l[i].1) (hx := [(b7, .cells 51 [.str l[i].1, .str l[i].2] 2)]) ⟨rfl⟩ el66 appT9 rfl rfl rfl (fun q N e => by simpa using hq1 q N e) ho1 rfl (by omega) fun o2 ho2 ho2n => ?_) rfl)
      refine wU (gE rfl ?_)
      refine wOps.done ?_
      refine hK31 _ _ _ ?_
      clear hK31 K30
      refine WC.seq_k fun K32 hK33 => ?_
      refine WC.ent (Ent.perm (h' := (b7, .cells 51 [.str l[i].1, .str l[i].2] 2) :: bsH 5 o2 (B ++ l[i].1)) (List.perm_append_comm (l₁ := [(b7, .cells 51 [.str l[i].1, .str l[i].2] 2)]) (l₂ := bsH 5 o2 (B ++ l[i].1)))) ?_
      refine WC.region ?_
      refine wU (gE rfl ?_)
      refine wU (gBuildSlice (cs := [.int .u8 61]) tslice66 tsz5 tzero5 rfl (by simp [evFill, putL, zcells, vcells]) (by decide) (by decide) fun b11 hb11 => ?_)
      refine wU (gOp (OpS.appBs (s := o2) (acc := B ++ l[i].1) (bs := [61]) (hx := [(b11, .cells 5 [.int .u8 61] 1), (b7, .cells 51 [.str l[i].1, .str l[i].2] 2)]) ⟨rfl⟩ el66 appT66 rfl rfl rfl (fun q N e => by have := (ho2 q N e).1; subst e; simp [bsH] at hb11 this; simp; exact ⟨fun e => hb11.2 e.symm, this⟩) ho2n (by simp [evSrc, hget, byteCells]) (by simp only [List.length_cons, List.length_nil, List.length_append]; omega) fun o3 ho3 ho3n => ?_) rfl)
      refine wU (gE rfl ?_)
      refine wOps.done ?_
      refine hK33 _ _ _ ?_
      clear hK33 K32
      refine WC.ent (Ent.perm (h' := (b11, .cells 5 [.int .u8 61] 1) :: (b7, .cells 51 [.str l[i].1, .str l[i].2] 2) :: bsH 5 o3 (B ++ l[i].1 ++ [61])) (List.perm_append_comm (l₁ := [(b11, .cells 5 [.int .u8 61] 1), (b7, .cells 51 [.str l[i].1, .str l[i].2] 2)]) (l₂ := bsH 5 o3 (B ++ l[i].1 ++ [61])))) ?_
      have hbb : ¬ b11 = b7 := by simp [Hp.ns] at hb11; exact hb11.1
      refine WC.region ?_
      refine wU (gE rfl ?_)
      refine wU (gField tfld51_1 tsz9 rfl ?_)
      refine wU (gLoad tagg9 rfl (by simp only [hget, hbb, ↓reduceIte] <;> rfl) rfl ?_)
      have hm := (appV_tri o3 (B ++ l[i].1 ++ [61]) l[i].2 (hca h0 _ (List.getElem_mem hi)) ho3n (by simp; omega) (by omega)).frame [(b11, .cells 5 [.int .u8 61] 1), (b7, .cells 51 [.str l[i].1, .str l[i].2] 2)]
      have hm1 := hm.perm (h := [(b11, .cells 5 [.int .u8 61] 1), (b7, .cells 51 [.str l[i].1, .str l[i].2] 2)] ++ bsH 5 o3 (B ++ l[i].1 ++ [61])) List.perm_append_comm
      refine wU (gCall (by rfl) (@CallS.mono _ Tryz.prog 43 _ _ _ _ (@CallS.of_tri _ Tryz.prog 43 _ _ _ isGo43 hm1) ?_))
      rintro v h1 ⟨h2, rfl, ⟨o4, rfl, rfl, ho4⟩, -⟩
      refine wU (gE rfl ?_)
      refine wOps.done ?_
      refine hK24 _ _ _ ?_
      clear hK24 K23
      refine WC.region ?_
      refine wU (gE rfl ?_)
      refine wU (gE rfl ?_)
      refine wOps.done ?_
      exact ⟨(i + 1, B ++ l[i].1 ++ [61] ++ quoteV l[i].2, o4), rfl, by simp only; omega, ⟨by simp only; omega, by rw [← hX, fmt_step hi, hB]; by_cases h00 : i = 0 <;> simp [h00], by simp; omega, ho4⟩, (Ent.sub (sub_cons rfl (sub_cons rfl (sub_cons rfl (sub_cons (int_fit (by omega) (by omega) (by omega)) (sub_nil _)))))).trans (Ent.drop (List.sublist_append_left _ _))⟩
    · skip
      refine WC.exit ?_
      refine hK15 _ _ _ ?_
      clear hK21 K20 hK15 K14
      refine WC.seq_k fun K34 hK35 => ?_
      refine WC.seq_k fun K36 hK37 => ?_
      refine WC.region ?_
      refine wU (gE rfl ?_)
      have hX2 : X = fmtG true l := by rw [← hX, List.drop_of_length_le (by have := of_decide_eq_false c22; omega)]; simp [fmtG]
      refine wU (gLen rfl (evLen_bs ho) (lenFits_bs tslice66) ?_)
      refine wU (gE rfl ?_)
      refine wOps.done ?_
      refine hK37 _ _ _ ?_
      clear hK37 K36
      refine WC.cond rfl (fun c38 => ?_) (fun c38 => ?_)
      · skip
        refine WC.seq_k fun K39 hK40 => ?_
        refine WC.region ?_
        refine wU (gE rfl ?_)
        refine wU (gE rfl ?_)
        refine wOps.done ?_
        refine hK40 _ _ _ ?_
        clear hK40 K39
        refine WC.ret ?_
        have e : fmtL l = ([], 4) := by unfold fmtL; rw [if_neg (by omega), ← hX2, if_pos (by have := of_decide_eq_true c38; omega)]
        rw [e]
        exact ⟨_, rfl, rfl⟩
      · skip
        refine WC.skip ?_
        refine hK35 _ _ _ ?_
        clear hK35 K34
        refine WC.seq_k fun K41 hK42 => ?_
        refine WC.region ?_
        refine wU (gE rfl ?_)
        refine wU (gOfBs (s := o) (acc := X) (hx := []) tslice66 tint5 tisstr9 rfl rfl (fun _ _ _ => by simp) ho ?_)
        refine wU (gE rfl ?_)
        refine wU (gE rfl ?_)
        refine wOps.done ?_
        refine hK42 _ _ _ ?_
        clear hK42 K41
        refine WC.ret ?_
        have e : fmtL l = (X, 0) := by unfold fmtL; rw [if_neg (by omega), ← hX2, if_neg (by have := of_decide_eq_false c38; omega)]
        rw [e]
        exact ⟨_, rfl, rfl⟩
end Go.Proofs.YtfdmdcpopmcmcaaGreatDoor
end

section
namespace Go.Proofs.YtfdmdcpopmcmcaaGreatDoor
open Go.Fw
def parseG : List Lb → List (Lb × Bool) → Option (List Lb)
  | acc, [] => some acc
  | acc, x :: r => if x.2 = false then none else if x.1.2 ≠ [] ∧ getL acc x.1.1 = [] then parseG (acc ++ [x.1]) r else parseG acc r
def srtN (l : List Lb) : List Lb := l.mergeSort fun x y => decide (cmpB x.1 y.1 ≤ 0)
def parseL (s : By) : List Lb × Int :=
  if 1000 < s.length then ([], 4) else
  match parseG [] (fieldsL s) with
  | none => ([], 3)
  | some l => if 16 < l.length ∨ l.any (fun x => decide (200 < x.2.length)) = true then ([], 4) else (srtN l, 0)
end Go.Proofs.YtfdmdcpopmcmcaaGreatDoor
end

section
namespace Go.Proofs.YtfdmdcpopmcmcaaGreatDoor
open Go.Fw Go.Proofs
theorem bl_no (x y : By) : Op.bytesLess x y = false ↔ y ≤ x := by
  rw [← Bool.not_eq_true, bl_iff]
  exact List.not_lt
theorem cmpB_neg (a b : By) : cmpB a b < 0 ↔ a < b := by
  unfold cmpB
  by_cases h : a < b
  · simp [(bl_iff a b).2 h, h]
  · have h1 := (bl_no a b).2 (List.not_lt.1 h)
    rw [h1]
    simp only [Bool.false_eq_true, if_false, Bool.false_or]
    constructor
    · intro h2; split at h2 <;> omega
    · intro h2; exact absurd h2 h
theorem cmpB_zero (a b : By) : cmpB a b = 0 ↔ a = b := by
  unfold cmpB
  by_cases h : a < b
  · have : a ≠ b := fun e => lt_irr (e ▸ h)
    simp [(bl_iff a b).2 h, this]
  · have h1 := (bl_no a b).2 (List.not_lt.1 h)
    rw [h1]
    simp only [Bool.false_eq_true, if_false, Bool.false_or]
    by_cases e : a = b
    · simp [e]
    · simp [e]
theorem cmpB_le (a b : By) : cmpB a b ≤ 0 ↔ a ≤ b := by
  have h1 := cmpB_neg a b
  have h2 := cmpB_zero a b
  constructor
  · intro h
    by_cases e : cmpB a b = 0
    · rw [h2.1 e]; exact List.le_refl _
    · exact lt_le (h1.1 (by omega))
  · intro h
    by_cases e : a = b
    · rw [h2.2 e]; exact Int.le_refl _
    · have := h1.2 (lt_ne h e); omega
theorem srtN_perm (l : List Lb) : (srtN l).Perm l := List.mergeSort_perm l _
theorem srtN_sorted (l : List Lb) : (srtN l).Pairwise fun x y => x.1 ≤ y.1 := by
  have := List.pairwise_mergeSort (le := fun (x y : Lb) => decide (cmpB x.1 y.1 ≤ 0)) (fun a b c h1 h2 => by simp only [decide_eq_true_eq, cmpB_le] at *; exact le_tr h1 h2) (fun a b => by simp only [Bool.or_eq_true, decide_eq_true_eq, cmpB_le]; exact List.le_total a.1 b.1) l
  refine this.imp ?_
  intro a b h
  simpa [cmpB_le] using h
/-- No two of the same name. -/
def ndup (l : List Lb) : Prop := l.Pairwise fun x y => x.1 ≠ y.1
theorem ndup_perm {l l' : List Lb} (h : l'.Perm l) (hn : ndup l) : ndup l' := (h.pairwise_iff (fun h e => h e.symm)).2 hn
theorem asc_of {l : List Lb} (hs : l.Pairwise fun x y => x.1 ≤ y.1) (hn : ndup l) : l.Pairwise fun x y => x.1 < y.1 :=
  List.Pairwise.imp (fun (h : _ ∧ _) => lt_ne h.1 h.2) (hs.and hn)
theorem asc_eqL : ∀ (a b : List Lb), a.Pairwise (fun x y => x.1 < y.1) → b.Pairwise (fun x y => x.1 < y.1) → (∀ x, x ∈ a ↔ x ∈ b) → a = b
  | [], [], _, _, _ => rfl
  | [], y :: b, _, _, h => by have := (h y).2 (by simp); simp at this
  | x :: a, [], _, _, h => by have := (h x).1 (by simp); simp at this
  | x :: a, y :: b, ha, hb, h => by
    rw [List.pairwise_cons] at ha hb
    have exy : x = y := by
      rcases List.mem_cons.1 ((h x).1 (by simp)) with e | e
      · exact e
      · rcases List.mem_cons.1 ((h y).2 (by simp)) with e' | e'
        · exact e'.symm
        · exact (lt_irr (lt_tr (hb.1 x e) (ha.1 y e'))).elim
    subst exy
    rw [asc_eqL a b ha.2 hb.2 fun z => ⟨fun hz => ?_, fun hz => ?_⟩]
    · rcases List.mem_cons.1 ((h z).1 (List.mem_cons_of_mem _ hz)) with e | e
      · subst e; exact (lt_irr (ha.1 _ hz)).elim
      · exact e
    · rcases List.mem_cons.1 ((h z).2 (List.mem_cons_of_mem _ hz)) with e | e
      · subst e; exact (lt_irr (hb.1 _ hz)).elim
      · exact e
theorem srtN_asc {l : List Lb} (hn : ndup l) : (srtN l).Pairwise fun x y => x.1 < y.1 := asc_of (srtN_sorted l) (ndup_perm (srtN_perm l) hn)
/-- What a sort by name leaves is what we say. -/
theorem srtN_of {l l' : List Lb} (hn : ndup l) (hp : l'.Perm l) (hs : ∀ i j, i < j → j < l.length → ltOf (fun x y : Lb => cmpB x.1 y.1) l'[j]! l'[i]! = false) : l' = srtN l := by
  have hl := hp.length_eq
  refine asc_eqL _ _ (asc_of ?_ (ndup_perm hp hn)) (srtN_asc hn) fun x => (hp.trans (srtN_perm l).symm).mem_iff
  rw [List.pairwise_iff_getElem]
  intro i j hi hj hij
  have := hs i j hij (by omega)
  rw [getElem!_pos l' j hj, getElem!_pos l' i hi] at this
  unfold ltOf at this
  simp only [decide_eq_false_iff_not, cmpB_neg] at this
  exact List.not_lt.1 this
/-- What reading gathers: values that are not empty, no name twice. -/
def gath (l : List Lb) : Prop := (∀ x ∈ l, x.2 ≠ []) ∧ ndup l
theorem getL_none {l : List Lb} (h : ∀ x ∈ l, x.2 ≠ []) {nm : By} (hg : getL l nm = []) : ∀ x ∈ l, x.1 ≠ nm := by
  induction l with
  | nil => simp
  | cons p l ih =>
    simp only [getL] at hg
    split at hg
    · exact absurd hg (h p (by simp))
    · rename_i hne
      intro x hx
      rcases List.mem_cons.1 hx with rfl | hx
      · simpa using hne
      · exact ih (fun y hy => h y (List.mem_cons_of_mem _ hy)) hg x hx
theorem gath_add {l : List Lb} (h : gath l) {x : Lb} (hx : x.2 ≠ []) (hg : getL l x.1 = []) : gath (l ++ [x]) := by
  refine ⟨fun y hy => ?_, List.pairwise_append.2 ⟨h.2, by simp, fun a ha b hb => ?_⟩⟩
  · rcases List.mem_append.1 hy with hy | hy
    · exact h.1 y hy
    · simp only [List.mem_singleton] at hy; subst hy; exact hx
  · simp only [List.mem_singleton] at hb; subst hb
    exact getL_none h.1 hg a ha
theorem parseG_gath : ∀ (st : List (Lb × Bool)) (acc l : List Lb), gath acc → parseG acc st = some l → gath l
  | [], acc, l, h, e => by simp [parseG] at e; exact e ▸ h
  | x :: st, acc, l, h, e => by
    simp only [parseG] at e
    split at e
    · simp at e
    · split at e
      · rename_i hc; exact parseG_gath st _ l (gath_add h hc.1 hc.2) e
      · exact parseG_gath st _ l h e
theorem parseG_step {xs : List (Lb × Bool)} {k : Nat} (h : k < xs.length) (acc : List Lb) : parseG acc (xs.drop k) = if xs[k].2 = false then none else if xs[k].1.2 ≠ [] ∧ getL acc xs[k].1.1 = [] then parseG (acc ++ [xs[k].1]) (xs.drop (k + 1)) else parseG acc (xs.drop (k + 1)) := by
  rw [List.drop_eq_getElem_cons h]; rfl
end Go.Proofs.YtfdmdcpopmcmcaaGreatDoor
end

section
namespace Go.Proofs
open Go.Shelf
def Tryz.srtf_ren : Go.Shelf.Ren := ⟨fun | 6 => 34 | 15 => 71 | 14 => 70 | 28 => 104 | 29 => 105 | 20 => 96 | 21 => 97 | 22 => 98 | 23 => 99 | 24 => 100 | 25 => 101 | 26 => 102 | 27 => 103 | 46 => 127 | 47 => 128 | 48 => 129 | 49 => 130 | 50 => 131 | 57 => 143 | n => n, fun | 22 => 22 | 24 => 51 | 25 => 60 | 3 => 3 | 39 => 96 | 0 => 0 | 53 => 122 | 55 => 124 | 4 => 4 | 46 => 116 | 45 => 115 | 50 => 83 | 5 => 5 | 9 => 9 | 66 => 134 | 70 => 138 | 76 => 146 | 77 => 147 | n => n, fun | n => n⟩
theorem Tryz.srtf : Go.Proofs.SlLaysF0.n6 Tryz.prog Tryz.srtf_ren := {
  mixed := by kernel_rfl
  f6 := ⟨Tryz.f34.name, by decide, Tryz.func34.trans (congrArg some (by kernel_rfl))⟩
  f14 := ⟨Tryz.f70.name, by decide, Tryz.func70.trans (congrArg some (by kernel_rfl))⟩
  f15 := Tryz.func71.trans (congrArg some (by kernel_rfl))
  f20 := ⟨Tryz.f96.name, by decide, Tryz.func96.trans (congrArg some (by kernel_rfl))⟩
  f21 := ⟨Tryz.f97.name, by decide, Tryz.func97.trans (congrArg some (by kernel_rfl))⟩
  f22 := ⟨Tryz.f98.name, by decide, Tryz.func98.trans (congrArg some (by kernel_rfl))⟩
  f23 := ⟨Tryz.f99.name, by decide, Tryz.func99.trans (congrArg some (by kernel_rfl))⟩
  f24 := ⟨Tryz.f100.name, by decide, Tryz.func100.trans (congrArg some (by kernel_rfl))⟩
  f25 := ⟨Tryz.f101.name, by decide, Tryz.func101.trans (congrArg some (by kernel_rfl))⟩
  f26 := ⟨Tryz.f102.name, by decide, Tryz.func102.trans (congrArg some (by kernel_rfl))⟩
  f27 := ⟨Tryz.f103.name, by decide, Tryz.func103.trans (congrArg some (by kernel_rfl))⟩
  f28 := Tryz.func104.trans (congrArg some (by kernel_rfl))
  f29 := Tryz.func105.trans (congrArg some (by kernel_rfl))
  f46 := ⟨Tryz.f127.name, by decide, Tryz.func127.trans (congrArg some (by kernel_rfl))⟩
  f47 := Tryz.func128.trans (congrArg some (by kernel_rfl))
  f48 := Tryz.func129.trans (congrArg some (by kernel_rfl))
  f49 := ⟨Tryz.f130.name, by decide, Tryz.func130.trans (congrArg some (by kernel_rfl))⟩
  f50 := ⟨Tryz.f131.name, by decide, Tryz.func131.trans (congrArg some (by kernel_rfl))⟩
  f57 := ⟨Tryz.f143.name, by decide, Tryz.func143.trans (congrArg some (by kernel_rfl))⟩
  t0 := Tryz.underlying0
  a0 := Tryz.isAgg0
  z0 := Tryz.sizeOf0
  v0 := Tryz.zeroValue0
  t3 := Tryz.underlying3
  a3 := Tryz.isAgg3
  z3 := Tryz.sizeOf3
  v3 := Tryz.zeroValue3
  t4 := Tryz.underlying4
  a4 := Tryz.isAgg4
  z4 := Tryz.sizeOf4
  v4 := Tryz.zeroValue4
  t5 := Tryz.underlying5
  a5 := Tryz.isAgg5
  z5 := Tryz.sizeOf5
  v5 := Tryz.zeroValue5
  t9 := Tryz.underlying9
  a9 := Tryz.isAgg9
  z9 := Tryz.sizeOf9
  v9 := Tryz.zeroValue9
  t22 := Tryz.underlying22
  a22 := Tryz.isAgg22
  z22 := Tryz.sizeOf22
  v22 := Tryz.zeroValue22
  t25 := Tryz.underlying60
  a25 := Tryz.isAgg60
  z25 := Tryz.sizeOf60
  v25 := Tryz.zeroValue60
  t39 := Tryz.underlying96
  a39 := Tryz.isAgg96
  z39 := Tryz.sizeOf96
  v39 := Tryz.zeroValue96
  t45 := Tryz.underlying115
  a45 := Tryz.isAgg115
  z45 := Tryz.sizeOf115
  v45 := Tryz.zeroValue115
  t46 := Tryz.underlying116
  a46 := Tryz.isAgg116
  z46 := Tryz.sizeOf116
  v46 := Tryz.zeroValue116
  t50 := Tryz.underlying83
  a50 := Tryz.isAgg83
  z50 := Tryz.sizeOf83
  v50 := Tryz.zeroValue83
  t53 := Tryz.underlying122
  a53 := Tryz.isAgg122
  z53 := Tryz.sizeOf122
  v53 := Tryz.zeroValue122
  t55 := Tryz.underlying124
  a55 := Tryz.isAgg124
  z55 := Tryz.sizeOf124
  v55 := Tryz.zeroValue124
  t66 := Tryz.underlying134
  a66 := Tryz.isAgg134
  z66 := Tryz.sizeOf134
  v66 := Tryz.zeroValue134
  t70 := Tryz.underlying138
  a70 := Tryz.isAgg138
  z70 := Tryz.sizeOf138
  v70 := Tryz.zeroValue138
  t76 := Tryz.underlying146
  a76 := Tryz.isAgg146
  z76 := Tryz.sizeOf146
  v76 := Tryz.zeroValue146
  t77 := Tryz.underlying147
  a77 := Tryz.isAgg147
  z77 := Tryz.sizeOf147
  v77 := Tryz.zeroValue147 }
end Go.Proofs
end

section
namespace Go.Proofs.YtfdmdcpopmcmcaaGreatDoor
open Go.Fw Go.Proofs Go.Sort Go.RowKit
variable [Gl]
theorem swoN : SWO (ltOf fun x y : Lb => cmpB x.1 y.1) where
  irrefl x := by
    have := (cmpB_zero x.1 x.1).2 rfl
    simp [ltOf, this]
  trans x y z h1 h2 := by
    simp only [ltOf, decide_eq_true_eq, cmpB_neg] at *
    exact lt_tr h1 h2
  ntrans x y z h1 h2 := by
    simp only [ltOf, decide_eq_false_iff_not, cmpB_neg, List.not_lt] at *
    exact le_tr h2 h1
def encL (x : Lb) : List Value := [.string ⟨x.1.toArray⟩, .string ⟨x.2.toArray⟩]
def vsL (x : Lb) : List V := [.str x.1, .str x.2]
theorem lcs_flat : ∀ l : List Lb, l.flatMap vsL = lcs l
  | [] => rfl
  | p :: l => by simp [List.flatMap_cons, vsL, lcs, lcs_flat l]
theorem isGo35 : isGo Tryz.prog 35 = true := by kernel_rfl
theorem srtF_tri {b cap nn : Nat} {T : TypeId} {l : List Lb} (hn : ndup l) (hl : l.length < 4611686018427387904) :
    Tri Tryz.prog 34 [.slice b 0 l.length cap, .clo 35 []] [(b, .cells T (lcs l) nn)] fun v h' => v = .tup [] ∧ h' = [(b, .cells T (lcs (srtN l)) nn)] := by
  have := Tri.sortFunc (P := Tryz.prog) (f := 34) (g := 35) (T := T) (b := b) (cap := cap) (nn := nn) (k := 2) encL vsL (fun _ => rfl) (fun _ => rfl)
    (fun F x i v h => by
      match i with
      | 0 => simp [vsL] at h; subst h; exact .str _
      | 1 => simp [vsL] at h; subst h; exact .str _
      | i + 2 => simp [vsL] at h)
    (fun F x i v y h hy => by
      match i with
      | 0 => simp [vsL] at h; subst h; exact hy.str_inv
      | 1 => simp [vsL] at h; subst h; exact hy.str_inv
      | i + 2 => simp [vsL] at h)
    (fun x y => cmpB x.1 y.1) (fun x y => nameCmp_tri x y)
    (fun blk off cap d w hcmp hH hblk hsz => AnyQ.slices_SortFunc Tryz.srtf 2 Tryz.isAgg51 Tryz.sizeOf51 encL (fun _ => rfl) (fun x v hv => by simp [encL] at hv; rcases hv with rfl | rfl <;> rfl) _ swoN 35 #[] blk off cap d w (enters_of Tryz.func35 (by kernel_rfl) rfl) hcmp hH hblk hsz)
    l [] hl
  simp only [List.append_nil, lcs_flat] at this
  refine this.mono ?_
  rintro v h' ⟨rfl, l', rfl, hp, hs⟩
  rw [srtN_of hn hp hs]
  exact ⟨rfl, rfl⟩
theorem srtF_nil : PTri Tryz.prog 34 [.nilslice, .clo 35 []] (.tup []) := by
  refine PTri.of_same #[.slice none 0 0, .func (.func 35) #[] #[]] (.tuple #[]) (fun F av h => ?_) (fun w => AnyF.slices_SortFunc_none Tryz.srtf none 0 _ w) fun F => .tup [] #[] rfl fun i v h => by simp at h
  have h0 := (h.2 0 _ rfl).nilslice_inv
  obtain ⟨cv, h1, hcv⟩ := (h.2 1 _ rfl).clo_inv
  have hcv0 : cv = #[] := Array.eq_empty_of_size_eq_zero hcv.1
  subst hcv0
  have hs := h.1
  simp at hs
  obtain ⟨L⟩ := av
  match L, hs with
  | [x, y], _ => simp at h0 h1; rw [h0, h1]
end Go.Proofs.YtfdmdcpopmcmcaaGreatDoor
end

section
namespace Go.Proofs.YtfdmdcpopmcmcaaGreatDoor
open Go.Fw
variable [Gl]
theorem isGo30 : isGo Tryz.prog 30 = true := by kernel_rfl
theorem isGo31 : isGo Tryz.prog 31 = true := by kernel_rfl
theorem isGo32 : isGo Tryz.prog 32 = true := by kernel_rfl
theorem isGo33 : isGo Tryz.prog 33 = true := by kernel_rfl
theorem isGo34 : isGo Tryz.prog 34 = true := by kernel_rfl
theorem isGo65 : isGo Tryz.prog 65 = true := by kernel_rfl
theorem tagg25 : tagg Tryz.prog 25 = some false := by kernel_rfl
theorem tsz22 : tsz Tryz.prog 22 = some 1 := by kernel_rfl
theorem tsz25 : tsz Tryz.prog 25 = some 1 := by kernel_rfl
theorem tzero22 : tzero Tryz.prog 22 = some [.nilslice] := by kernel_rfl
theorem tzero25 : tzero Tryz.prog 25 = some [.int .i64 0] := by kernel_rfl
set_option maxRecDepth 20000
theorem el22 : ElemOk Tryz.prog 22 51 2 32 [.str [], .str []] := ⟨tslice22, tsz51, by kernel_rfl, tzero51, rfl, by decide, by decide⟩
theorem app22 : appT Tryz.prog 22 = true := by kernel_rfl
theorem lcs_append : ∀ (l m : List Lb), lcs (l ++ m) = lcs l ++ lcs m
  | [], m => rfl
  | p :: l, m => by simp [lcs, lcs_append l m]
theorem VLe.tup2 {a b a' b' : V} (h1 : VLe a a') (h2 : VLe b b') : VLe (.tup [a, b]) (.tup [a', b']) := fun F x h => by
  obtain ⟨vs, rfl, hv⟩ := h.tup_inv
  refine .tup _ _ hv.1 fun i v hi => ?_
  match i with
  | 0 => simp at hi; subst hi; exact h1 _ _ (hv.2 0 _ rfl)
  | 1 => simp at hi; subst hi; exact h2 _ _ (hv.2 1 _ rfl)
  | i + 2 => simp at hi
theorem get_nil (nm : By) : PTri Tryz.prog 31 [.nilslice, .str nm] (.str []) :=
  Tri.weak (us' := [lsl [], .str nm]) (get_tri [] nm (by simp)) rfl fun i u u' h h' => by
    match i with
    | 0 => simp at h h'; subst h; subst h'; exact VLe.nils
    | 1 => simp at h h'; subst h; subst h'; exact VLe.refl _
    | i + 2 => simp at h
theorem hasF_nil : PTri Tryz.prog 32 [.nilslice, .clo 33 []] (.bool false) :=
  Tri.weak (us' := [lsl [], .clo 33 []]) (hasF_tri 33 (fun p => decide (200 < p.2.length)) isGo33 long_tri [] (by simp)) rfl fun i u u' h h' => by
    match i with
    | 0 => simp at h h'; subst h; subst h'; exact VLe.nils
    | 1 => simp at h h'; subst h; subst h'; exact VLe.refl _
    | i + 2 => simp at h
theorem fieldsF_len : ∀ (f : Nat) (rest : By), (fieldsF f rest).length ≤ f
  | 0, rest => by simp [fieldsF]
  | f + 1, rest => by
    simp only [fieldsF]
    split
    · simp
    · split
      · simp
      · have := fieldsF_len f (trimL (rest.drop (fieldL rest).2.1))
        rw [List.length_append]
        split <;> simp <;> omega
/-- Reading, ahead of the sort: the box holds what has been gathered. -/
def PI (ys : List (Lb × Bool)) (b4 : Nat) (hf : Hp) (k : Nat) (h : Hp) : Prop := ∃ acc : List Lb, gath acc ∧ acc.length ≤ k ∧ parseG acc (ys.drop k) = parseG [] ys ∧
  ((acc = [] ∧ h = (b4, .cells 22 [.nilslice] 1) :: hf) ∨ ∃ q N, ¬ q = b4 ∧ q ∉ hf.ns ∧ acc.length ≤ N ∧ h = (q, .cells 51 (lcs acc) (N * 2)) :: (b4, .cells 22 [.slice q 0 acc.length N] 1) :: hf)
set_option maxHeartbeats 1000000 in
theorem parse_tri0 (hG : GInt) (s : By) (hs : s.length ≤ 4294967280) : Tri Tryz.prog 10 [.str s] [] fun v h' => (∃ e, v = .tup [.nilslice, .int .i64 e] ∧ parseL s = ([], e)) ∨ ∃ q N l, v = .tup [.slice q 0 l.length N, .int .i64 0] ∧ hget h' q = some (.cells 51 (lcs l) (N * 2)) ∧ parseL s = (l, 0) := by
  have hpl : parseL s = parseL s := rfl
  conv at hpl => rhs; unfold parseL
  have hyl : (fieldsL s).length ≤ s.length := Nat.le_trans (fieldsF_len _ _) (trimL_le s)
  have hit := fields1_iter hG s hs
  generalize fieldsL s = ys at hpl hyl hit
  refine Tri.of_wc Tryz.func10 rfl Tryz.results10 Tryz.ntmps10 (by simp) ?_
  refine WC.seq_k fun K1 hK2 => ?_
  refine WC.region ?_
  refine wU (gAlloc tzero22 fun b3 hb3 => ?_)
  refine wU (gAlloc tzero25 fun b4 hb4 => ?_)
  simp only [Hp.ns_cons, Hp.ns_nil, List.mem_cons, List.not_mem_nil, or_false, not_or] at hb4
  refine wOps.done ?_
  refine hK2 _ _ _ ?_
  clear hK2 K1
  refine WC.seq_k fun K5 hK6 => ?_
  refine WC.seq_k fun K7 hK8 => ?_
  refine WC.region ?_
  refine wU (gE rfl ?_)
  refine wU (gLen rfl rfl tisstr9 ?_)
  refine wU (gE rfl ?_)
  refine wOps.done ?_
  refine hK8 _ _ _ ?_
  clear hK8 K7
  refine WC.cond rfl (fun c9 => ?_) (fun c9 => ?_)
  · skip
    refine WC.seq_k fun K10 hK11 => ?_
    refine WC.region ?_
    refine wU (gStore rfl rfl (by simp only [hget, hb4, ↓reduceIte] <;> rfl) tsz22 (by simp [vcells]) (by simp [vcells, leafV]) ?_)
    simp only [hset, stL, vcells, List.set_cons_zero, List.set_cons_succ, hb4, ↓reduceIte]
    refine wU (gStore rfl rfl (by simp only [hget, hb4, ↓reduceIte] <;> rfl) tsz25 (by simp [vcells]) (by simp [vcells, leafV]) ?_)
    simp only [hset, stL, vcells, List.set_cons_zero, List.set_cons_succ, hb4, ↓reduceIte]
    refine wOps.done ?_
    refine hK11 _ _ _ ?_
    clear hK11 K10
    refine WC.ret ?_
    rw [if_pos (by have := of_decide_eq_true c9; omega)] at hpl
    refine ⟨.tup [.nilslice, .int .i64 4], ?_, .inl ⟨4, rfl, hpl⟩⟩
    simp [resAll, resVs, resV, hdel, evLoad, hget, ldAt, tagg22, tagg25, tsz22, tsz25, frA, upd, hset, stL, putL, hb4]
  · skip
    refine WC.skip ?_
    refine hK6 _ _ _ ?_
    clear hK6 K5
    refine WC.seq_k fun K12 hK13 => ?_
    refine WC.region ?_
    refine wU (gAlloc tzero22 fun b14 hb14 => ?_)
    simp only [Hp.ns_cons, Hp.ns_nil, List.mem_cons, List.not_mem_nil, or_false, not_or] at hb14
    refine wOps.done ?_
    refine hK13 _ _ _ ?_
    clear hK13 K12
    refine WC.seq_k fun K15 hK16 => ?_
    refine WC.seq_k fun K17 hK18 => ?_
    refine WC.region ?_
    refine wU (gE rfl ?_)
    refine wU (gPure rfl isGo30 (fields_tri s) ?_)
    refine wOps.done ?_
    refine hK18 _ _ _ ?_
    clear hK18 K17
    refine WC.block ?_
    refine WC.range (f := 65) (caps := [.fptr [.str s] 0]) (xs := ys.map fyV) (PI ys b14 [(b4, .cells 25 [.int .i64 0] 1), (b3, .cells 22 [.nilslice] 1)]) (fun c h => c = .ret ∧ parseG [] ys = none ∧ h = [(b4, .cells 25 [.int .i64 3] 1), (b3, .cells 22 [.nilslice] 1)]) rfl isGo65 hit (by decide) (by intro a ha; obtain ⟨p, -, rfl⟩ := List.mem_map.1 ha; rfl) ?_ ?_ ?_ ?_
    · exact ⟨[], ⟨by simp, List.Pairwise.nil⟩, by simp, rfl, .inl ⟨rfl, rfl⟩⟩
    · intro y k hk h hI
      rw [List.length_map] at hk
      simp only [List.getElem_map]
      obtain ⟨acc, hga, hal, hpg, hI⟩ := hI
      rw [parseG_step hk] at hpg
      generalize ys[k] = x at hpg ⊢
      obtain ⟨⟨nm, v⟩, ok⟩ := x
      simp only at hpg
      show WC _ _ _ _ (upd (upd _ 12 (.agg [.str nm, .str v])) 13 (.bool ok)) _ _ _
      rcases hI with ⟨rfl, rfl⟩ | ⟨q, N, hqb, hqf, hkN, rfl⟩
      · skip
        refine WC.seq_k fun K19 hK20 => ?_
        refine WC.region ?_
        refine wU (gAlloc tzero51 fun b21 hb21 => ?_)
        simp only [Hp.ns_cons, Hp.ns_nil, List.mem_cons, List.not_mem_nil, or_false, not_or] at hb21
        refine wU (gStore rfl rfl (by simp only [hget, hb4, hb14, hb21, ↓reduceIte] <;> rfl) tsz51 (by simp [vcells]) (by simp [vcells, leafV]) ?_)
        simp only [hset, stL, vcells, List.set_cons_zero, List.set_cons_succ, hb4, hb14, hb21, ↓reduceIte]
        refine wOps.done ?_
        refine hK20 _ _ _ ?_
        clear hK20 K19
        refine WC.region ?_
        refine wU (gE rfl ?_)
        refine wOps.done ?_
        simp only [thn]
        refine WC.post ?_
        refine WC.block ?_
        refine WC.seq_k fun K22 hK23 => ?_
        refine WC.seq_k fun K24 hK25 => ?_
        refine WC.region ?_
        refine wU (gE rfl ?_)
        refine wU (gE rfl ?_)
        refine wOps.done ?_
        refine hK25 _ _ _ ?_
        clear hK25 K24
        refine WC.cond rfl (fun c26 => ?_) (fun c26 => ?_)
        · skip
          refine WC.seq_k fun K27 hK28 => ?_
          refine WC.region ?_
          refine wU (gStore rfl rfl (by simp only [hget, hb4, hb14, hb21, ↓reduceIte] <;> rfl) tsz22 (by simp [vcells]) (by simp [vcells, leafV]) ?_)
          simp only [hset, stL, vcells, List.set_cons_zero, List.set_cons_succ, hb4, hb14, hb21, ↓reduceIte]
          refine wU (gStore rfl rfl (by simp only [hget, hb4, hb14, hb21, ↓reduceIte] <;> rfl) tsz25 (by simp [vcells]) (by simp [vcells, leafV]) ?_)
          simp only [hset, stL, vcells, List.set_cons_zero, List.set_cons_succ, hb4, hb14, hb21, ↓reduceIte]
          refine wOps.done ?_
          refine hK28 _ _ _ ?_
          clear hK28 K27
          refine WC.ret ?_
          have hok : ok = false := by simpa using c26
          subst hok
          refine ⟨frL [], _, (Ent.sub (sub_nil _)).trans (Ent.drop ?_), rfl, by rw [← hpg]; simp, rfl⟩
          exact .cons _ (.cons _ (.refl _))
        · skip
          refine WC.skip ?_
          refine hK23 _ _ _ ?_
          clear hK23 K22
          refine WC.seq_k fun K29 hK30 => ?_
          refine WC.region ?_
          refine wU (gField tfld51_1 tsz9 rfl ?_)
          refine wU (gLoad tagg9 rfl (by simp only [hget, hb4, hb14, hb21, ↓reduceIte] <;> rfl) rfl ?_)
          refine wU (gE rfl ?_)
          refine wU (gE rfl ?_)
          refine wG rfl rfl rfl rfl (by decide) (fun c31 => ?_) (fun c31 => ?_)
          · skip
            refine gLoad tagg22 rfl (by simp only [hget, hb4, hb14, hb21, ↓reduceIte] <;> rfl) rfl ?_
            refine wY rfl (gField tfld51_0 tsz9 rfl ?_)
            refine wY rfl (gLoad tagg9 rfl (by simp only [hget, hb4, hb14, hb21, ↓reduceIte] <;> rfl) rfl ?_)
            refine wY rfl (gPure (by rfl) isGo31 (get_nil nm) ?_)
            refine wY rfl (gE rfl ?_)
            refine wU (gE rfl ?_)
            refine wOps.done ?_
            refine hK30 _ _ _ ?_
            clear hK30 K29
            refine WC.cond rfl (fun c32 => ?_) (fun c32 => ?_)
            · skip
              refine WC.region ?_
              refine wU (gLoad tagg22 rfl (by simp only [hget, hb4, hb14, hb21, ↓reduceIte] <;> rfl) rfl ?_)
              refine wU (gLoadA tagg51 tsz51 rfl (by simp only [hget, hb4, hb14, hb21, ↓reduceIte] <;> rfl) (by simp [putL]) rfl ?_)
              refine wU (gBuildSlice (cs := [.str nm, .str v]) tslice22 tsz51 tzero51 rfl (by simp [evFill, putL, zcells, vcells]) (by decide) (by decide) fun b33 hb33 => ?_)
              simp only [Hp.ns_cons, Hp.ns_nil, List.mem_cons, List.not_mem_nil, or_false, not_or] at hb33
              simp only [List.length_cons, List.length_nil]
              refine wU (gOp (OpS.append_nil (m := 1) (us := [.str nm, .str v]) ⟨rfl⟩ el22 app22 rfl rfl (by simp [evSrc, hget]) (by omega) (fun h => by simp at h) fun _ q N hq hN => ?_) rfl)
              simp [hdel, hb4, hb14, hb21, hb33] at hq
              refine wU (gStore rfl rfl (by simp only [hget, hb4, hb14, hb21, hb33, hq, ↓reduceIte] <;> rfl) tsz22 (by simp [vcells]) (by simp [vcells, leafV]) ?_)
              simp only [hset, stL, vcells, List.set_cons_zero, List.set_cons_succ, hb4, hb14, hb21, hb33, hq, ↓reduceIte]
              refine wOps.done ?_
              have hok : ok = true := by simpa using c26
              subst hok
              rw [if_neg (by simp)] at hpg
              have hc : v ≠ [] ∧ getL [] nm = [] := ⟨by intro e; simp [e] at c31, rfl⟩
              rw [if_pos hc] at hpg
              refine ⟨frL [], _, (Ent.sub (sub_nil _)).trans (Ent.drop (h' := (q, .cells 51 [.str nm, .str v] (N * 2)) :: (b14, .cells 22 [.slice q 0 1 N] 1) :: [(b4, .cells 25 [.int .i64 0] 1), (b3, .cells 22 [.nilslice] 1)]) ?_), [(nm, v)], gath_add hga hc.1 hc.2, by simp, hpg, .inr ⟨q, N, ?_, ?_, ?_, ?_⟩⟩
              · exact .cons_cons _ (.cons _ (.cons _ (.refl _)))
              · simp [hq]
              · simp [hq]
              · simp; omega
              · simp [lcs]
            · skip
              refine WC.skip ?_
              have hok : ok = true := by simpa using c26
              subst hok
              rw [if_neg (by simp)] at hpg
              rw [if_neg (fun hc => by simp [hc.1, hc.2] at c32)] at hpg
              exact ⟨frL [], _, (Ent.sub (sub_nil _)).trans (Ent.drop (.cons _ (.refl _))), [], hga, by simp, hpg, .inl ⟨rfl, rfl⟩⟩
          · skip
            refine wN rfl ?_
            refine wN rfl ?_
            refine wN rfl ?_
            refine wN rfl ?_
            refine wU (gE rfl ?_)
            refine wOps.done ?_
            refine hK30 _ _ _ ?_
            clear hK30 K29
            first | refine WC.cond (b := false) rfl (fun hh => by simp at hh) (fun _ => ?_) | refine WC.cond rfl (fun hh => by simp_all) (fun _ => ?_)
            refine WC.skip ?_
            have hok : ok = true := by simpa using c26
            subst hok
            rw [if_neg (by simp)] at hpg
            rw [if_neg (fun hc => by simp [hc.1, hc.2] at c31)] at hpg
            exact ⟨frL [], _, (Ent.sub (sub_nil _)).trans (Ent.drop (.cons _ (.refl _))), [], hga, by simp, hpg, .inl ⟨rfl, rfl⟩⟩
      · skip
        simp only [Hp.ns_cons, Hp.ns_nil, List.mem_cons, List.not_mem_nil, or_false, not_or] at hqf
        refine WC.seq_k fun K34 hK35 => ?_
        refine WC.region ?_
        refine wU (gAlloc tzero51 fun b36 hb36 => ?_)
        simp only [Hp.ns_cons, Hp.ns_nil, List.mem_cons, List.not_mem_nil, or_false, not_or] at hb36
        refine wU (gStore rfl rfl (by simp only [hget, hb4, hb14, hqb, hqf, hb36, ↓reduceIte] <;> rfl) tsz51 (by simp [vcells]) (by simp [vcells, leafV]) ?_)
        simp only [hset, stL, vcells, List.set_cons_zero, List.set_cons_succ, hb4, hb14, hqb, hqf, hb36, ↓reduceIte]
        refine wOps.done ?_
        refine hK35 _ _ _ ?_
        clear hK35 K34
        refine WC.region ?_
        refine wU (gE rfl ?_)
        refine wOps.done ?_
        simp only [thn]
        refine WC.post ?_
        refine WC.block ?_
        refine WC.seq_k fun K37 hK38 => ?_
        refine WC.seq_k fun K39 hK40 => ?_
        refine WC.region ?_
        refine wU (gE rfl ?_)
        refine wU (gE rfl ?_)
        refine wOps.done ?_
        refine hK40 _ _ _ ?_
        clear hK40 K39
        refine WC.cond rfl (fun c41 => ?_) (fun c41 => ?_)
        · skip
          refine WC.seq_k fun K42 hK43 => ?_
          refine WC.region ?_
          refine wU (gStore rfl rfl (by simp only [hget, hb4, hb14, hqb, hqf, hb36, ↓reduceIte] <;> rfl) tsz22 (by simp [vcells]) (by simp [vcells, leafV]) ?_)
          simp only [hset, stL, vcells, List.set_cons_zero, List.set_cons_succ, hb4, hb14, hqb, hqf, hb36, ↓reduceIte]
          refine wU (gStore rfl rfl (by simp only [hget, hb4, hb14, hqb, hqf, hb36, ↓reduceIte] <;> rfl) tsz25 (by simp [vcells]) (by simp [vcells, leafV]) ?_)
          simp only [hset, stL, vcells, List.set_cons_zero, List.set_cons_succ, hb4, hb14, hqb, hqf, hb36, ↓reduceIte]
          refine wOps.done ?_
          refine hK43 _ _ _ ?_
          clear hK43 K42
          refine WC.ret ?_
          have hok : ok = false := by simpa using c41
          subst hok
          refine ⟨frL [], _, (Ent.sub (sub_nil _)).trans (Ent.drop ?_), rfl, by rw [← hpg]; simp, rfl⟩
          exact .cons _ (.cons _ (.cons _ (.refl _)))
        · skip
          refine WC.skip ?_
          refine hK38 _ _ _ ?_
          clear hK38 K37
          refine WC.seq_k fun K44 hK45 => ?_
          refine WC.region ?_
          refine wU (gField tfld51_1 tsz9 rfl ?_)
          refine wU (gLoad tagg9 rfl (by simp only [hget, hb4, hb14, hqb, hqf, hb36, ↓reduceIte] <;> rfl) rfl ?_)
          refine wU (gE rfl ?_)
          refine wU (gE rfl ?_)
          refine wG rfl rfl rfl rfl (by decide) (fun c46 => ?_) (fun c46 => ?_)
          · skip
            refine gLoad tagg22 rfl (by simp only [hget, hb4, hb14, hqb, hqf, hb36, ↓reduceIte] <;> rfl) rfl ?_
            refine wY rfl (gField tfld51_0 tsz9 rfl ?_)
            refine wY rfl (gLoad tagg9 rfl (by simp only [hget, hb4, hb14, hqb, hqf, hb36, ↓reduceIte] <;> rfl) rfl ?_)
            have hm := (Tri.lend (b := q) (us := [.slice q 0 acc.length N, .str nm]) (T := 51) (cs := lcs acc) (nn := N * 2) (get_tri acc nm (by omega)) (by simp [lsl, frzV]) rfl).frame [(b36, .cells 51 [.str nm, .str v] 2), (b14, .cells 22 [.slice q 0 acc.length N] 1), (b4, .cells 25 [.int .i64 0] 1), (b3, .cells 22 [.nilslice] 1)]
            have hm1 := hm.perm (List.Perm.swap _ _ _)
            refine wY rfl (gCall (by rfl) (@CallS.mono _ Tryz.prog 31 _ _ _ _ (@CallS.of_tri _ Tryz.prog 31 _ _ _ isGo31 hm1) ?_))
            have hqn : ¬ q = b36 := fun e => hb36.1 e.symm
            rintro v1 h1 ⟨h2, rfl, ⟨rfl, rfl⟩, -⟩
            simp only [List.nil_append, List.cons_append]
            refine wY rfl (gE rfl ?_)
            refine wU (gE rfl ?_)
            refine wOps.done ?_
            refine hK45 _ _ _ ?_
            clear hK45 K44
            refine WC.cond rfl (fun c47 => ?_) (fun c47 => ?_)
            · skip
              refine WC.region ?_
              refine wU (gLoad tagg22 rfl (by simp only [hget, hb4, hb14, hqb, hqf, hb36, hqn, ↓reduceIte] <;> rfl) rfl ?_)
              refine wU (gLoadA tagg51 tsz51 rfl (by simp only [hget, hb4, hb14, hqb, hqf, hb36, hqn, ↓reduceIte] <;> rfl) (by simp [putL]) rfl ?_)
              refine wU (gBuildSlice (cs := [.str nm, .str v]) tslice22 tsz51 tzero51 rfl (by simp [evFill, putL, zcells, vcells]) (by decide) (by decide) fun b48 hb48 => ?_)
              simp only [Hp.ns_cons, Hp.ns_nil, List.mem_cons, List.not_mem_nil, or_false, not_or] at hb48
              simp only [List.length_cons, List.length_nil]
              refine wU (gOp (OpS.append_lin (m := 1) (us := [.str nm, .str v]) ⟨rfl⟩ el22 app22 rfl rfl (by simp [hget, hb4, hb14, hqb, hqf, hb36, hqn, hb48] <;> rfl) (by rw [lcs_length]; omega) (by simp [evSrc, hget]) rfl (by omega) fun q2 N2 hq2 hN2 => ?_) rfl)
              simp [hdel, hb4, hb14, hqb, hqf, hb36, hqn, hb48] at hq2
              simp only [hdel, ↓reduceIte, hb4, hb14, hqb, hqf, hb36, hqn, hb48, hq2]
              have et : (lcs acc).take (acc.length * 2) = lcs acc := List.take_of_length_le (by rw [lcs_length]; omega)
              rw [et]
              refine wU (gStore rfl rfl (by simp only [hget, hb4, hb14, hqb, hqf, hb36, hqn, hb48, hq2, ↓reduceIte] <;> rfl) tsz22 (by simp [vcells]) (by simp [vcells, leafV]) ?_)
              simp only [hset, stL, vcells, List.set_cons_zero, List.set_cons_succ, hb4, hb14, hqb, hqf, hb36, hqn, hb48, hq2, ↓reduceIte]
              refine wOps.done ?_
              have hok : ok = true := by simpa using c41
              subst hok
              rw [if_neg (by simp)] at hpg
              have hc : v ≠ [] ∧ getL acc nm = [] := ⟨by intro e; simp [e] at c46, by simpa using c47⟩
              rw [if_pos hc] at hpg
              refine ⟨frL [], _, (Ent.sub (sub_nil _)).trans (Ent.drop (h' := (q2, .cells 51 (lcs acc ++ [.str nm, .str v]) (N2 * 2)) :: (b14, .cells 22 [.slice q2 0 (acc.length + 1) N2] 1) :: [(b4, .cells 25 [.int .i64 0] 1), (b3, .cells 22 [.nilslice] 1)]) ?_), acc ++ [(nm, v)], gath_add hga hc.1 hc.2, by simp; omega, hpg, .inr ⟨q2, N2, ?_, ?_, ?_, ?_⟩⟩
              · exact .cons_cons _ (.cons _ (.cons _ (.refl _)))
              · simp [hq2]
              · simp [hq2]
              · simp; omega
              · simp [lcs_append, lcs]
            · skip
              refine WC.skip ?_
              have hok : ok = true := by simpa using c41
              subst hok
              rw [if_neg (by simp)] at hpg
              rw [if_neg (fun hc => by simp [hc.1, hc.2] at c47)] at hpg
              exact ⟨frL [], _, (Ent.sub (sub_nil _)).trans (Ent.drop (.cons_cons _ (.cons _ (.refl _)))), acc, hga, by omega, hpg, .inr ⟨q, N, hqb, by simp [hqf], hkN, rfl⟩⟩
          · skip
            refine wN rfl ?_
            refine wN rfl ?_
            refine wN rfl ?_
            refine wN rfl ?_
            refine wU (gE rfl ?_)
            refine wOps.done ?_
            refine hK45 _ _ _ ?_
            clear hK45 K44
            first | refine WC.cond (b := false) rfl (fun hh => by simp at hh) (fun _ => ?_) | refine WC.cond rfl (fun hh => by simp_all) (fun _ => ?_)
            refine WC.skip ?_
            have hok : ok = true := by simpa using c41
            subst hok
            rw [if_neg (by simp)] at hpg
            rw [if_neg (fun hc => by simp [hc.1, hc.2] at c46)] at hpg
            exact ⟨frL [], _, (Ent.sub (sub_nil _)).trans (Ent.drop (.cons _ (.refl _))), acc, hga, by omega, hpg, .inr ⟨q, N, hqb, by simp [hqf], hkN, rfl⟩⟩
    · rintro r h hr ⟨acc, hga, hal, hpg, hI⟩
      rw [List.length_map] at hal hpg
      rw [List.drop_length] at hpg
      rw [← hpg] at hpl
      simp only [parseG] at hpl
      clear hpg
      rcases hI with ⟨rfl, rfl⟩ | ⟨q, N, hqb, hqf, hkN, rfl⟩
      · simp only [Hp.ns_cons, Hp.ns_nil, List.mem_cons, List.not_mem_nil, or_false, not_or] at hr
        refine hK16 _ _ _ ?_
        clear hK16 K15
        refine WC.seq_k fun K49 hK50 => ?_
        refine WC.seq_k fun K51 hK52 => ?_
        refine WC.region ?_
        refine wU (gLoad tagg22 rfl (by simp only [hget, hb4, hb14, hr, ↓reduceIte] <;> rfl) rfl ?_)
        refine wU (gLen rfl rfl (by rw [lenFits, tslice22]; rfl) ?_)
        refine wU (gE rfl ?_)
        refine wU (gE rfl ?_)
        refine wG rfl rfl rfl rfl (by decide) (fun c53 => ?_) (fun c53 => ?_)
        · skip
          refine gLoad tagg22 rfl (by simp only [hget, hb4, hb14, hr, ↓reduceIte] <;> rfl) rfl ?_
          refine wY rfl (gPure (by rfl) isGo32 hasF_nil ?_)
          refine wU (gE rfl ?_)
          refine wOps.done ?_
          refine hK52 _ _ _ ?_
          clear hK52 K51
          refine WC.cond rfl (fun c54 => ?_) (fun c54 => ?_)
          · skip
            refine WC.seq_k fun K55 hK56 => ?_
            refine WC.region ?_
            refine wU (gStore rfl rfl (by simp only [hget, hb4, hb14, hr, ↓reduceIte] <;> rfl) tsz22 (by simp [vcells]) (by simp [vcells, leafV]) ?_)
            simp only [hset, stL, vcells, List.set_cons_zero, List.set_cons_succ, hb4, hb14, hr, ↓reduceIte]
            refine wU (gStore rfl rfl (by simp only [hget, hb4, hb14, hr, ↓reduceIte] <;> rfl) tsz25 (by simp [vcells]) (by simp [vcells, leafV]) ?_)
            simp only [hset, stL, vcells, List.set_cons_zero, List.set_cons_succ, hb4, hb14, hr, ↓reduceIte]
            refine wOps.done ?_
            refine hK56 _ _ _ ?_
            clear hK56 K55
            refine WC.ret ?_
            simp at c54
          · skip
            refine WC.skip ?_
            refine hK50 _ _ _ ?_
            clear hK50 K49
            refine WC.seq_k fun K57 hK58 => ?_
            refine WC.region ?_
            refine wU (gLoad tagg22 rfl (by simp only [hget, hb4, hb14, hr, ↓reduceIte] <;> rfl) rfl ?_)
            refine wU (gPure (by rfl) isGo34 srtF_nil ?_)
            refine wOps.done ?_
            refine hK58 _ _ _ ?_
            clear hK58 K57
            refine WC.seq_k fun K59 hK60 => ?_
            refine WC.region ?_
            refine wU (gLoad tagg22 rfl (by simp only [hget, hb4, hb14, hr, ↓reduceIte] <;> rfl) rfl ?_)
            refine wU (gStore rfl rfl (by simp only [hget, hb4, hb14, hr, ↓reduceIte] <;> rfl) tsz22 (by simp [vcells]) (by simp [vcells, leafV]) ?_)
            simp only [hset, stL, vcells, List.set_cons_zero, List.set_cons_succ, hb4, hb14, hr, ↓reduceIte]
            refine wU (gStore rfl rfl (by simp only [hget, hb4, hb14, hr, ↓reduceIte] <;> rfl) tsz25 (by simp [vcells]) (by simp [vcells, leafV]) ?_)
            simp only [hset, stL, vcells, List.set_cons_zero, List.set_cons_succ, hb4, hb14, hr, ↓reduceIte]
            refine wOps.done ?_
            refine hK60 _ _ _ ?_
            clear hK60 K59
            refine WC.ret ?_
            rw [if_neg (by have := of_decide_eq_false c9; omega)] at hpl
            rw [if_neg (by simp)] at hpl
            have e0 : srtN [] = [] := by unfold srtN; rw [List.mergeSort_nil]
            rw [e0] at hpl
            refine ⟨by simp [hget, hb4, hb14, hr], .tup [.nilslice, .int .i64 0], ?_, .inl ⟨0, rfl, hpl⟩⟩
            simp [resAll, resVs, resV, hdel, evLoad, hget, ldAt, tagg22, tagg25, tsz22, tsz25, frA, upd, hset, stL, putL, hb4, hb14, hr]
        · skip
          refine wN rfl ?_
          refine wU (gE rfl ?_)
          refine wOps.done ?_
          refine hK52 _ _ _ ?_
          clear hK52 K51
          first | refine WC.cond (b := true) rfl (fun _ => ?_) (fun hh => by simp at hh) | refine WC.cond rfl (fun _ => ?_) (fun hh => by simp_all)
          refine WC.seq_k fun K61 hK62 => ?_
          refine WC.region ?_
          refine wU (gStore rfl rfl (by simp only [hget, hb4, hb14, hr, ↓reduceIte] <;> rfl) tsz22 (by simp [vcells]) (by simp [vcells, leafV]) ?_)
          simp only [hset, stL, vcells, List.set_cons_zero, List.set_cons_succ, hb4, hb14, hr, ↓reduceIte]
          refine wU (gStore rfl rfl (by simp only [hget, hb4, hb14, hr, ↓reduceIte] <;> rfl) tsz25 (by simp [vcells]) (by simp [vcells, leafV]) ?_)
          simp only [hset, stL, vcells, List.set_cons_zero, List.set_cons_succ, hb4, hb14, hr, ↓reduceIte]
          refine wOps.done ?_
          refine hK62 _ _ _ ?_
          clear hK62 K61
          refine WC.ret ?_
          simp at c53
      · simp only [Hp.ns_cons, Hp.ns_nil, List.mem_cons, List.not_mem_nil, or_false, not_or] at hr hqf
        refine hK16 _ _ _ ?_
        clear hK16 K15
        refine WC.seq_k fun K63 hK64 => ?_
        refine WC.seq_k fun K65 hK66 => ?_
        refine WC.region ?_
        refine wU (gLoad tagg22 rfl (by simp only [hget, hb4, hb14, hr, hqb, hqf, ↓reduceIte] <;> rfl) rfl ?_)
        refine wU (gLen rfl rfl (by rw [lenFits, tslice22]; rfl) ?_)
        refine wU (gE rfl ?_)
        refine wU (gE rfl ?_)
        refine wG rfl rfl rfl rfl (by decide) (fun c67 => ?_) (fun c67 => ?_)
        · skip
          refine gLoad tagg22 rfl (by simp only [hget, hb4, hb14, hr, hqb, hqf, ↓reduceIte] <;> rfl) rfl ?_
          have hm := (Tri.lend (b := q) (us := [.slice q 0 acc.length N, .clo 33 []]) (T := 51) (cs := lcs acc) (nn := N * 2) (hasF_tri 33 (fun p => decide (200 < p.2.length)) isGo33 long_tri acc (by omega)) (by simp [lsl, frzV, frzL]) rfl).frame [(r, .deferred), (b14, .cells 22 [.slice q 0 acc.length N] 1), (b4, .cells 25 [.int .i64 0] 1), (b3, .cells 22 [.nilslice] 1)]
          have hm1 := hm.perm (List.Perm.swap _ _ _)
          refine wY rfl (gCall (by rfl) (@CallS.mono _ Tryz.prog 32 _ _ _ _ (@CallS.of_tri _ Tryz.prog 32 _ _ _ isGo32 hm1) ?_))
          have hqr : ¬ q = r := fun e => hr.1 e.symm
          rintro v1 h1 ⟨h2, rfl, ⟨rfl, rfl⟩, -⟩
          simp only [List.nil_append, List.cons_append]
          refine wU (gE rfl ?_)
          refine wOps.done ?_
          refine hK66 _ _ _ ?_
          clear hK66 K65
          refine WC.cond rfl (fun c68 => ?_) (fun c68 => ?_)
          · skip
            refine WC.seq_k fun K69 hK70 => ?_
            refine WC.region ?_
            refine wU (gStore rfl rfl (by simp only [hget, hb4, hb14, hr, hqb, hqf, hqr, ↓reduceIte] <;> rfl) tsz22 (by simp [vcells]) (by simp [vcells, leafV]) ?_)
            simp only [hset, stL, vcells, List.set_cons_zero, List.set_cons_succ, hb4, hb14, hr, hqb, hqf, hqr, ↓reduceIte]
            refine wU (gStore rfl rfl (by simp only [hget, hb4, hb14, hr, hqb, hqf, hqr, ↓reduceIte] <;> rfl) tsz25 (by simp [vcells]) (by simp [vcells, leafV]) ?_)
            simp only [hset, stL, vcells, List.set_cons_zero, List.set_cons_succ, hb4, hb14, hr, hqb, hqf, hqr, ↓reduceIte]
            refine wOps.done ?_
            refine hK70 _ _ _ ?_
            clear hK70 K69
            refine WC.ret ?_
            rw [if_neg (by have := of_decide_eq_false c9; omega)] at hpl
            have hc : 16 < acc.length ∨ acc.any (fun x => decide (200 < x.2.length)) = true := .inr (by simpa using c68)
            rw [if_pos hc] at hpl
            refine ⟨by simp [hget, hb4, hb14, hr, hqb, hqf, hqr], .tup [.nilslice, .int .i64 4], ?_, .inl ⟨4, rfl, hpl⟩⟩
            simp [resAll, resVs, resV, hdel, evLoad, hget, ldAt, tagg22, tagg25, tsz22, tsz25, frA, upd, hset, stL, putL, hb4, hb14, hr, hqb, hqf, hqr]
          · skip
            refine WC.skip ?_
            refine hK64 _ _ _ ?_
            clear hK64 K63
            refine WC.seq_k fun K71 hK72 => ?_
            refine WC.region ?_
            refine wU (gLoad tagg22 rfl (by simp only [hget, hb4, hb14, hr, hqb, hqf, hqr, ↓reduceIte] <;> rfl) rfl ?_)
            have hm := (srtF_tri (b := q) (cap := N) (T := 51) (nn := N * 2) hga.2 (by omega)).frame [(r, .deferred), (b14, .cells 22 [.slice q 0 acc.length N] 1), (b4, .cells 25 [.int .i64 0] 1), (b3, .cells 22 [.nilslice] 1)]
            refine wU (gCall (by rfl) (@CallS.mono _ Tryz.prog 34 _ _ _ _ (@CallS.of_tri _ Tryz.prog 34 _ _ _ isGo34 hm) ?_))
            rintro v1 h1 ⟨h2, rfl, ⟨rfl, rfl⟩, -⟩
            simp only [List.nil_append, List.cons_append]
            refine wOps.done ?_
            refine hK72 _ _ _ ?_
            clear hK72 K71
            refine WC.seq_k fun K73 hK74 => ?_
            refine WC.region ?_
            refine wU (gLoad tagg22 rfl (by simp only [hget, hb4, hb14, hr, hqb, hqf, hqr, ↓reduceIte] <;> rfl) rfl ?_)
            refine wU (gStore rfl rfl (by simp only [hget, hb4, hb14, hr, hqb, hqf, hqr, ↓reduceIte] <;> rfl) tsz22 (by simp [vcells]) (by simp [vcells, leafV]) ?_)
            simp only [hset, stL, vcells, List.set_cons_zero, List.set_cons_succ, hb4, hb14, hr, hqb, hqf, hqr, ↓reduceIte]
            refine wU (gStore rfl rfl (by simp only [hget, hb4, hb14, hr, hqb, hqf, hqr, ↓reduceIte] <;> rfl) tsz25 (by simp [vcells]) (by simp [vcells, leafV]) ?_)
            simp only [hset, stL, vcells, List.set_cons_zero, List.set_cons_succ, hb4, hb14, hr, hqb, hqf, hqr, ↓reduceIte]
            refine wOps.done ?_
            refine hK74 _ _ _ ?_
            clear hK74 K73
            refine WC.ret ?_
            rw [if_neg (by have := of_decide_eq_false c9; omega)] at hpl
            have hc : ¬ (16 < acc.length ∨ acc.any (fun x => decide (200 < x.2.length)) = true) := by rintro (hc | hc); have := of_decide_eq_false c67; omega; rw [hc] at c68; simp at c68
            rw [if_neg hc] at hpl
            have el := (srtN_perm acc).length_eq
            refine ⟨by simp [hget, hb4, hb14, hr, hqb, hqf, hqr], .tup [.slice q 0 acc.length N, .int .i64 0], ?_, .inr ⟨q, N, srtN acc, by rw [el], ?_, hpl⟩⟩
            · simp [resAll, resVs, resV, hdel, evLoad, hget, ldAt, tagg22, tagg25, tsz22, tsz25, frA, upd, hset, stL, putL, hb4, hb14, hr, hqb, hqf, hqr]
            · simp [resAll, resVs, resV, hdel, evLoad, hget, ldAt, tagg22, tagg25, tsz22, tsz25, frA, upd, hset, stL, putL, hb4, hb14, hr, hqb, hqf, hqr]
        · skip
          refine wN rfl ?_
          refine wU (gE rfl ?_)
          refine wOps.done ?_
          refine hK66 _ _ _ ?_
          clear hK66 K65
          first | refine WC.cond (b := true) rfl (fun _ => ?_) (fun hh => by simp at hh) | refine WC.cond rfl (fun _ => ?_) (fun hh => by simp_all)
          refine WC.seq_k fun K75 hK76 => ?_
          refine WC.region ?_
          refine wU (gStore rfl rfl (by simp only [hget, hb4, hb14, hr, hqb, hqf, ↓reduceIte] <;> rfl) tsz22 (by simp [vcells]) (by simp [vcells, leafV]) ?_)
          simp only [hset, stL, vcells, List.set_cons_zero, List.set_cons_succ, hb4, hb14, hr, hqb, hqf, ↓reduceIte]
          refine wU (gStore rfl rfl (by simp only [hget, hb4, hb14, hr, hqb, hqf, ↓reduceIte] <;> rfl) tsz25 (by simp [vcells]) (by simp [vcells, leafV]) ?_)
          simp only [hset, stL, vcells, List.set_cons_zero, List.set_cons_succ, hb4, hb14, hr, hqb, hqf, ↓reduceIte]
          refine wOps.done ?_
          refine hK76 _ _ _ ?_
          clear hK76 K75
          refine WC.ret ?_
          rw [if_neg (by have := of_decide_eq_false c9; omega)] at hpl
          have hc : 16 < acc.length ∨ acc.any (fun x => decide (200 < x.2.length)) = true := .inl (by have := of_decide_eq_true c67; omega)
          rw [if_pos hc] at hpl
          refine ⟨by simp [hget, hb4, hb14, hr, hqb, hqf], .tup [.nilslice, .int .i64 4], ?_, .inl ⟨4, rfl, hpl⟩⟩
          simp [resAll, resVs, resV, hdel, evLoad, hget, ldAt, tagg22, tagg25, tsz22, tsz25, frA, upd, hset, stL, putL, hb4, hb14, hr, hqb, hqf]
    · rintro r h c hr ⟨rfl, hpg, rfl⟩
      simp only [Hp.ns_cons, Hp.ns_nil, List.mem_cons, List.not_mem_nil, or_false, not_or] at hr
      refine WC.ret ?_
      rw [if_neg (by have := of_decide_eq_false c9; omega), hpg] at hpl
      refine ⟨by simp [hget, hr], .tup [.nilslice, .int .i64 3], ?_, .inl ⟨3, rfl, hpl⟩⟩
      simp [resAll, resVs, resV, hdel, evLoad, hget, ldAt, tagg22, tagg25, tsz22, tsz25, frA, upd, hset, stL, putL, hb4, hr]
theorem parse_tri (hG : GInt) (s : By) (hs : s.length ≤ 4294967280) : PTri Tryz.prog 10 [.str s] (.tup [lsl (parseL s).1, .int .i64 (parseL s).2]) := by
  refine Tri.vent (parse_tri0 hG s hs) ?_
  rintro v h' (⟨e, rfl, he⟩ | ⟨q, N, l, rfl, hg, he⟩)
  · rw [he]
    refine ⟨_, _, .drop (List.nil_sublist _) (.weak ?_ (.refl _ _)), rfl, rfl⟩
    exact VLe.tup2 VLe.nils (VLe.refl _)
  · rw [he]
    refine ⟨_, _, .freeze q hg (.drop (List.nil_sublist _) (.refl _ _)), ?_, rfl⟩
    simp [frzV, frzL, lsl]
end Go.Proofs.YtfdmdcpopmcmcaaGreatDoor
end

section
namespace Go.Proofs.YtfdmdcpopmcmcaaGreatDoor
open Go.Fw
variable [Gl]
set_option maxRecDepth 20000
theorem tkd31 : tkd Tryz.prog 31 = some 2 := by kernel_rfl
theorem el31 : ElemOk Tryz.prog 31 9 1 16 [.str []] := ⟨tslice31, tsz9, by kernel_rfl, tzero9, rfl, by decide, by decide⟩
theorem app31 : appT Tryz.prog 31 = true := by kernel_rfl
theorem scs_length (l : List By) : (scs l).length = l.length := by simp [scs]
theorem scs_leaf (l : List By) : (scs l).all leafV = true := by
  simp only [scs, List.all_map, List.all_eq_true]
  intro x _; rfl
end Go.Proofs.YtfdmdcpopmcmcaaGreatDoor
end

section
namespace Go.Proofs.YtfdmdcpopmcmcaaGreatDoor
open Go.Fw Go.Sort Go.RowKit
variable [Gl]
/-- The strings in their order. -/
def srt (l : List By) : List By := l.mergeSort fun x y => decide (x ≤ y)
theorem srt_length (l : List By) : (srt l).length = l.length := by simp [srt]
theorem sort_tri {b cap nn : Nat} {T : TypeId} {ss : List By} {rest : List V} (hl : ss.length < 4611686018427387904) (hc : ss.length ≤ cap) :
    Tri Tryz.prog 50 [.slice b 0 ss.length cap] [(b, .cells T (scs ss ++ rest) nn)] fun v h' => v = .tup [] ∧ h' = [(b, .cells T (scs (srt ss) ++ rest) nn)] :=
  Tri.rowStr (fun _ _ _ => .tuple #[]) (srt_length ss) (fun F => .tup [] #[] rfl fun i v h => by simp at h) hc (fun blk off cap w h1 h2 h3 _ => Tryz.slices_Sort_string blk off cap ss w h1 h2 h3) hl
theorem sort_nil (v : V) (hv : v = .nilslice) : PTri Tryz.prog 50 [v] (.tup []) := by
  subst hv
  refine PTri.of_same #[.slice none 0 0] (.tuple #[]) (fun F av h => ?_) (fun w => Tryz.slices_Sort_string_none none 0 w) fun F => .tup [] #[] rfl fun i v h => by simp at h
  have h0 := (h.2 0 _ rfl).nilslice_inv
  have hs := h.1
  simp at hs
  obtain ⟨L⟩ := av
  match L, hs with
  | [x], _ => simp at h0; rw [h0]
/-- Equal neighbours are one. -/
def cpt (l : List By) : List By := Lib.compact l
theorem compact_tri {b cap nn : Nat} {T : TypeId} {ss : List By} {rest : List V} (hl : ss.length < 4611686018427387904) (hc : ss.length ≤ cap) (hle : (cpt ss).length ≤ ss.length) :
    Tri Tryz.prog 51 [.slice b 0 ss.length cap] [(b, .cells T (scs ss ++ rest) nn)] fun v h' => v = .slice b 0 (cpt ss).length cap ∧ h' = [(b, .cells T (scs (cpt ss ++ List.replicate (ss.length - (cpt ss).length) []) ++ rest) nn)] :=
  Tri.rowStr (fun blk off cap => .slice (some ⟨blk, off, none⟩) (cpt ss).length cap) (by simp; omega) (fun F => .slice b 0 _ _ (by omega)) hc
    (fun blk off cap w h1 h2 h3 h4 => (Tryz.slices_Compact_string blk off cap ss w h1 (by omega) h4).mono fun e w' ⟨a, q, c⟩ => ⟨a, q, #[], by rw [c, grow_empty]; rfl⟩) hl
end Go.Proofs.YtfdmdcpopmcmcaaGreatDoor
end

section
namespace Go.Proofs.YtfdmdcpopmcmcaaGreatDoor
open Go.Fw
variable [Gl]
theorem isGo50 : isGo Tryz.prog 50 = true := by kernel_rfl
theorem isGo51 : isGo Tryz.prog 51 = true := by kernel_rfl
theorem isGo47 : isGo Tryz.prog 47 = true := by kernel_rfl
theorem isGo48 : isGo Tryz.prog 48 = true := by kernel_rfl
theorem isGo49 : isGo Tryz.prog 49 = true := by kernel_rfl
theorem isGo78 : isGo Tryz.prog 78 = true := by kernel_rfl
theorem tsz31 : tsz Tryz.prog 31 = some 1 := by kernel_rfl
theorem tzero31 : tzero Tryz.prog 31 = some [.nilslice] := by kernel_rfl
set_option maxRecDepth 20000
abbrev tbB (c : UInt8) : Bool := isTB c.toNat
def tf (w : By) : By := (w.take 40).map lowB
def rawTerms (s : By) : List By := (wordsG tbB [] s).map tf
theorem minI (n : Nat) : evMin (.int .i64 (n : Nat)) [.int .i64 40] = some (.int .i64 ((min n 40 : Nat) : Int)) := by
  simp only [evMin, if_true]
  congr 2
  split <;> omega
theorem compact_nil : PTri Tryz.prog 51 [.nilslice] .nilslice := by
  refine PTri.of_same #[.slice none 0 0] (.slice none 0 0) (fun F av h => ?_) (fun w => Tryz.slices_Compact_string_empty none 0 w) fun F => .nilslice
  have h0 := (h.2 0 _ rfl).nilslice_inv
  have hs := h.1
  simp at hs
  obtain ⟨L⟩ := av
  match L, hs with
  | [x], _ => simp at h0; rw [h0]
/-- Terms, ahead of the sort: the box holds the first k terms. -/
def TI (ws : List By) (b : Nat) (k : Nat) (h : Hp) : Prop := (k = 0 ∧ h = [(b, .cells 31 [.nilslice] 1)]) ∨ (0 < k ∧ ∃ q N, ¬ q = b ∧ k ≤ N ∧ h = [(q, .cells 9 (scs ((ws.take k).map tf)) (N * 1)), (b, .cells 31 [.slice q 0 k N] 1)])
theorem wordsG_len (p : UInt8 → Bool) : ∀ (s acc : By), (wordsG p acc s).length ≤ s.length + 1
  | [], acc => by simp only [wordsG]; split <;> simp
  | c :: s, acc => by
    simp only [wordsG]
    split
    · have := wordsG_len p s (acc ++ [c]); simp; omega
    · have := wordsG_len p s []; rw [List.length_append]; split <;> simp <;> omega
theorem terms_tri0 (s : By) (hs : s.length ≤ 4294967294) : Tri Tryz.prog 15 [.str s] [] fun v h' => (rawTerms s = [] ∧ v = .nilslice) ∨ ∃ q N rest, v = .slice q 0 (cpt (srt (rawTerms s))).length N ∧ hget h' q = some (.cells 9 (scs (cpt (srt (rawTerms s))) ++ rest) (N * 1)) := by
  have hw := wordsG_len tbB s []
  unfold rawTerms
  generalize hws : wordsG tbB [] s = ws at hw
  have hss : ws.map tf = ws.map tf := rfl
  generalize hsd : ws.map tf = ss at hss
  have hsl : ws.length = ss.length := by rw [← hsd]; simp
  refine Tri.of_wc Tryz.func15 rfl Tryz.results15 Tryz.ntmps15 (by simp) ?_
  refine WC.seq_k fun K1 hK2 => ?_
  refine WC.region ?_
  refine wU (gE rfl ?_)
  refine wOps.done ?_
  refine hK2 _ _ _ ?_
  clear hK2 K1
  refine WC.seq_k fun K3 hK4 => ?_
  refine WC.region ?_
  refine wU (gAlloc tzero31 fun b5 hb5 => ?_)
  refine wOps.done ?_
  refine hK4 _ _ _ ?_
  clear hK4 K3
  refine WC.seq_k fun K6 hK7 => ?_
  refine WC.seq_k fun K8 hK9 => ?_
  refine WC.region ?_
  refine wU (gE rfl ?_)
  refine wU (gPure rfl isGo47 (words_tri s 48) ?_)
  refine wOps.done ?_
  refine hK9 _ _ _ ?_
  clear hK9 K8
  refine WC.block ?_
  refine WC.range (f := 78) (caps := [.fptr [.str s] 0, .fptr [.clo 48 []] 0]) (xs := ws.map fun w => [.str w]) (TI ws b5) (fun c h => False) rfl isGo78 (hws ▸ words1_iter 48 tbB isGo48 (fun c => isTB_tri c.toNat) s (by omega)) (by decide) (by intro a ha; obtain ⟨p, -, rfl⟩ := List.mem_map.1 ha; rfl) ?_ ?_ ?_ ?_
  · exact .inl ⟨rfl, rfl⟩
  · intro y k hk h hI
    rw [List.length_map] at hk
    simp only [List.getElem_map]
    show WC _ _ _ _ (upd _ 7 (.str ws[k])) _ _ _
    refine WC.region ?_
    refine wU (gE rfl ?_)
    refine wOps.done ?_
    simp only [thn]
    refine WC.post ?_
    rcases hI with ⟨hk0, rfl⟩ | ⟨hk0, q, N, hqb, hkN, rfl⟩
    · skip
      refine WC.block ?_
      refine WC.region_draw mixed ?_
      refine wA.val 1 rfl rfl rfl (fun _ _ hK => gE rfl hK) (by kernel_rfl) ?_
      refine wA.val 2 rfl rfl rfl (fun _ _ hK => gE rfl hK) (by kernel_rfl) ?_
      refine wA.val 3 rfl rfl rfl (fun _ _ hK => gLen rfl rfl tisstr9 hK) (by kernel_rfl) ?_
      refine wA.val 4 rfl rfl rfl (fun _ _ hK => by refine gMin (v := .int .i64 ((min ws[k].length 40 : Nat) : Int)) rfl (minI _) ?_; exact hK) (by kernel_rfl) ?_
      refine wA.val 5 rfl rfl rfl (fun _ _ hK => by refine gSliceStr (r := some (min ws[k].length 40)) tisstr9 rfl rfl rfl (by simp) (by simp; omega) ?_; exact hK) (by kernel_rfl) ?_
      refine wA.val 6 rfl rfl rfl (fun _ _ hK => by refine gPure rfl isGo49 (low_tri _ (by simp; omega)) ?_; exact hK) (by kernel_rfl) ?_
      refine wA.ld 0 rfl rfl rfl (fun _ hle _ hK => gLoad tagg31 rfl (hle _ _ (by simp only [hget, ↓reduceIte] <;> rfl)) rfl hK) (by kernel_rfl) ?_
      refine wA.eff 7 rfl (by kernel_rfl) rfl ?_
      refine gBuildSlice (cs := [.str (tf ws[k])]) tslice31 tsz9 tzero9 rfl (by simp [evFill, putL, zcells, vcells, tf, Nat.min_comm]) (by decide) (by decide) fun b10 hb10 => ?_
      simp only [Hp.ns_cons, Hp.ns_nil, List.mem_cons, List.not_mem_nil, or_false, not_or] at hb10
      simp only [List.length_singleton]
      refine wA.back ?_
      refine wA.eff 8 rfl (by kernel_rfl) rfl ?_
      refine gOp (OpS.append_nil (m := 1) (us := [.str (tf ws[k])]) ⟨rfl⟩ el31 app31 rfl rfl (by simp [evSrc, hget]) (by omega) (fun h => by simp at h) fun _ q N hq hN => ?_) rfl
      simp [hdel, hb10] at hq
      refine wA.back ?_
      refine wA.eff 9 rfl (by kernel_rfl) rfl ?_
      refine gStore rfl rfl (by simp only [hget, hb10, hq, ↓reduceIte] <;> rfl) tsz31 (by simp [vcells]) (by simp [vcells, leafV]) ?_
      simp only [hset, stL, vcells, List.set_cons_zero, List.set_cons_succ, hb10, hq, ↓reduceIte]
      refine wA.back0 ?_
      refine wA.done (by kernel_rfl) ?_
      have e : (ws.take (k + 1)).map tf = [tf ws[k]] := by rw [List.take_succ_eq_append_getElem hk]; simp [hk0]
      refine ⟨frL [], [(q, .cells 9 [.str (tf ws[k])] (N * 1)), (b5, .cells 31 [.slice q 0 1 N] 1)], (Ent.sub (sub_nil _)).trans (Ent.drop ?_), .inr ⟨by omega, q, N, hq.2, by omega, ?_⟩⟩
      · exact List.Sublist.cons_cons _ (List.sublist_cons_self _ _)
      · rw [e]; simp [scs, hk0]
    · skip
      refine WC.block ?_
      refine WC.region_draw mixed ?_
      refine wA.val 1 rfl rfl rfl (fun _ _ hK => gE rfl hK) (by kernel_rfl) ?_
      refine wA.val 2 rfl rfl rfl (fun _ _ hK => gE rfl hK) (by kernel_rfl) ?_
      refine wA.val 3 rfl rfl rfl (fun _ _ hK => gLen rfl rfl tisstr9 hK) (by kernel_rfl) ?_
      refine wA.val 4 rfl rfl rfl (fun _ _ hK => by refine gMin (v := .int .i64 ((min ws[k].length 40 : Nat) : Int)) rfl (minI _) ?_; exact hK) (by kernel_rfl) ?_
      refine wA.val 5 rfl rfl rfl (fun _ _ hK => by refine gSliceStr (r := some (min ws[k].length 40)) tisstr9 rfl rfl rfl (by simp) (by simp; omega) ?_; exact hK) (by kernel_rfl) ?_
      refine wA.val 6 rfl rfl rfl (fun _ _ hK => by refine gPure rfl isGo49 (low_tri _ (by simp; omega)) ?_; exact hK) (by kernel_rfl) ?_
      refine wA.ld 0 rfl rfl rfl (fun _ hle _ hK => gLoad tagg31 rfl (hle _ _ (by simp only [hget, hqb, ↓reduceIte] <;> rfl)) rfl hK) (by kernel_rfl) ?_
      refine wA.eff 7 rfl (by kernel_rfl) rfl ?_
      refine gBuildSlice (cs := [.str (tf ws[k])]) tslice31 tsz9 tzero9 rfl (by simp [evFill, putL, zcells, vcells, tf, Nat.min_comm]) (by decide) (by decide) fun b11 hb11 => ?_
      simp only [Hp.ns_cons, Hp.ns_nil, List.mem_cons, List.not_mem_nil, or_false, not_or] at hb11
      simp only [List.length_singleton]
      refine wA.back ?_
      refine wA.eff 8 rfl (by kernel_rfl) rfl ?_
      refine gOp (OpS.append_lin (m := 1) (us := [.str (tf ws[k])]) ⟨rfl⟩ el31 app31 rfl rfl (by simp [hget, hqb, hb11] <;> rfl) (by simp [scs]; omega) (by simp [evSrc, hget]) rfl (by omega) fun q2 N2 hq2 hN2 => ?_) rfl
      simp [hdel, hqb, hb11] at hq2
      simp only [hdel, ↓reduceIte, hqb, hb11, hq2]
      refine wA.back ?_
      refine wA.eff 9 rfl (by kernel_rfl) rfl ?_
      refine gStore rfl rfl (by simp only [hget, hqb, hb11, hq2, ↓reduceIte] <;> rfl) tsz31 (by simp [vcells]) (by simp [vcells, leafV]) ?_
      simp only [hset, stL, vcells, List.set_cons_zero, List.set_cons_succ, hqb, hb11, hq2, ↓reduceIte]
      refine wA.back0 ?_
      refine wA.done (by kernel_rfl) ?_
      have e : (ws.take (k + 1)).map tf = (ws.take k).map tf ++ [tf ws[k]] := by rw [List.take_succ_eq_append_getElem hk, List.map_append]; rfl
      have e3 : List.take k (List.map tf ws) = (ws.take k).map tf := by simp
      try rw [e3]
      have e2 : (scs ((ws.take k).map tf)).take (k * 1) = scs ((ws.take k).map tf) := List.take_of_length_le (by simp [scs]; omega)
      rw [e2]
      refine ⟨frL [], [(q2, .cells 9 (scs ((ws.take k).map tf) ++ [.str (tf ws[k])]) (N2 * 1)), (b5, .cells 31 [.slice q2 0 (k + 1) N2] 1)], (Ent.sub (sub_nil _)).trans (Ent.drop ?_), .inr ⟨by omega, q2, N2, hq2.2, by omega, ?_⟩⟩
      · exact List.Sublist.cons_cons _ (List.sublist_cons_self _ _)
      · rw [e]; simp [scs]
  · rintro r h hr hI
    rw [List.length_map] at hI
    rcases hI with ⟨hk0, rfl⟩ | ⟨hk0, q, N, hqb, hkN, rfl⟩
    · simp only [Hp.ns_cons, Hp.ns_nil, List.mem_cons, List.not_mem_nil, or_false, not_or] at hr
      refine hK7 _ _ _ ?_
      clear hK7 K6
      refine WC.seq_k fun K12 hK13 => ?_
      refine WC.region ?_
      refine wU (gLoad tagg31 rfl (by simp only [hget, hr, ↓reduceIte] <;> rfl) rfl ?_)
      refine wU (gPure (by rfl) isGo50 (sort_nil _ rfl) ?_)
      refine wOps.done ?_
      refine hK13 _ _ _ ?_
      clear hK13 K12
      refine WC.seq_k fun K14 hK15 => ?_
      refine WC.region ?_
      refine wU (gLoad tagg31 rfl (by simp only [hget, hr, ↓reduceIte] <;> rfl) rfl ?_)
      refine wU (gPure (by rfl) isGo51 compact_nil ?_)
      refine wU (gE rfl ?_)
      refine wOps.done ?_
      refine hK15 _ _ _ ?_
      clear hK15 K14
      refine WC.ret ?_
      refine ⟨by simp [hget], .nilslice, rfl, .inl ⟨?_, rfl⟩⟩
      exact List.length_eq_zero_iff.1 (by omega)
    · simp only [Hp.ns_cons, Hp.ns_nil, List.mem_cons, List.not_mem_nil, or_false, not_or] at hr
      rw [List.take_length, hsd, hsl]
      refine hK7 _ _ _ ?_
      clear hK7 K6
      refine WC.seq_k fun K16 hK17 => ?_
      refine WC.region ?_
      refine wU (gLoad tagg31 rfl (by simp only [hget, hqb, hr.1, hr.2, Ne.symm hqb, Ne.symm hr.1, ↓reduceIte] <;> rfl) rfl ?_)
      have hm := (sort_tri (b := q) (cap := N) (nn := N * 1) (T := 9) (ss := ss) (rest := []) (by omega) (by omega)).frame [(r, .deferred), (b5, .cells 31 [.slice q 0 ss.length N] 1)]
      simp only [List.append_nil, List.singleton_append] at hm
      have hm1 := hm.perm (h := [(r, .deferred), (q, .cells 9 (scs ss) (N * 1)), (b5, .cells 31 [.slice q 0 ss.length N] 1)]) (List.Perm.swap _ _ _)
      refine wU (gCall (by rfl) (@CallS.mono _ Tryz.prog 50 _ _ _ _ (@CallS.of_tri _ Tryz.prog 50 _ _ _ isGo50 hm1) ?_))
      rintro v h1 ⟨h2, rfl, ⟨rfl, rfl⟩, -⟩
      simp only [List.nil_append, List.cons_append]
      refine wOps.done ?_
      refine hK17 _ _ _ ?_
      clear hK17 K16
      refine WC.seq_k fun K18 hK19 => ?_
      refine WC.region ?_
      refine wU (gLoad tagg31 rfl (by simp only [hget, hqb, hr.1, hr.2, Ne.symm hqb, Ne.symm hr.1, ↓reduceIte] <;> rfl) rfl ?_)
      have hm := (compact_tri (b := q) (cap := N) (nn := N * 1) (T := 9) (ss := srt ss) (rest := []) (by rw [srt_length]; omega) (by rw [srt_length]; omega) (Lib.compact_length_le _)).frame [(r, .deferred), (b5, .cells 31 [.slice q 0 ss.length N] 1)]
      rw [srt_length] at hm
      simp only [List.append_nil, List.singleton_append] at hm
      refine wU (gCall (by rfl) (@CallS.mono _ Tryz.prog 51 _ _ _ _ (@CallS.of_tri _ Tryz.prog 51 _ _ _ isGo51 hm) ?_))
      rintro v h1 ⟨h2, rfl, ⟨rfl, rfl⟩, -⟩
      simp only [List.nil_append, List.cons_append]
      refine wU (gE rfl ?_)
      refine wOps.done ?_
      refine hK19 _ _ _ ?_
      clear hK19 K18
      refine WC.ret ?_
      refine ⟨by simp [hget, hr, Ne.symm hr.1], .slice q 0 (cpt (srt ss)).length N, rfl, .inr ⟨q, N, List.replicate (ss.length - (cpt (srt ss)).length) [] |>.map .str, rfl, ?_⟩⟩
      simp [hdel, hget, hr, hqb, Ne.symm hqb, Ne.symm hr.1, scs]
  · exact fun r h c hr hf => hf.elim
theorem terms_tri (s : By) (hs : s.length ≤ 4294967294) : PTri Tryz.prog 15 [.str s] (ssl (cpt (srt (rawTerms s)))) := by
  refine Tri.vent (terms_tri0 s hs) ?_
  rintro v h' (⟨h0, rfl⟩ | ⟨q, N, rest, rfl, hg⟩)
  · rw [h0]
    have e : cpt (srt []) = [] := by unfold srt; rw [List.mergeSort_nil]; rfl
    rw [e]
    exact ⟨_, _, .drop (List.nil_sublist _) (.weak VLe.nils (.refl _ _)), rfl, rfl⟩
  · refine ⟨_, _, .freeze q hg (.drop (List.nil_sublist _) (.weak ?_ (.refl _ _))), rfl, rfl⟩
    have := VLe.cut (cs := scs (cpt (srt (rawTerms s))) ++ rest) (len := (cpt (srt (rawTerms s))).length) (cpt (srt (rawTerms s))).length (fun h => h)
    rw [List.take_append_of_le_length (by rw [scs_length]; omega), List.take_of_length_le (by rw [scs_length]; omega)] at this
    simpa [frzV, ssl] using this
end Go.Proofs.YtfdmdcpopmcmcaaGreatDoor
end

section
namespace Go.Proofs.YtfdmdcpopmcmcaaGreatDoor
open Go.Fw
/-! ### Plain facts of terms -/
theorem srt_sorted (l : List By) : (srt l).Pairwise (· ≤ ·) := by
  have := List.pairwise_mergeSort (le := fun (x y : By) => decide (x ≤ y)) (fun a b c h1 h2 => by simp at *; exact le_tr h1 h2) (fun a b => by simp; exact List.le_total a b) l
  refine this.imp ?_
  intro a b h
  simpa using h
theorem srt_mem (l : List By) (x : By) : x ∈ srt l ↔ x ∈ l := (List.mergeSort_perm l _).mem_iff
theorem cpt_inv (zs : List By) (hs : zs.Pairwise (· ≤ ·)) : ∀ m, m ≤ zs.length → (Lib.compactUpTo zs.toArray m).Pairwise (· < ·) ∧ (∀ x, x ∈ Lib.compactUpTo zs.toArray m ↔ x ∈ zs.take m) ∧ ∀ x, x ∈ Lib.compactUpTo zs.toArray m → ∀ y, zs[m - 1]? = some y → x ≤ y
  | 0, _ => by simp [Lib.compactUpTo]
  | m + 1, hm => by
    obtain ⟨h1, h2, h3⟩ := cpt_inv zs hs m (by omega)
    have hmm : m < zs.length := by omega
    have e : zs.toArray[m]! = zs[m] := by rw [getElem!_pos _ m (by simpa using hmm)]; simp
    rw [Lib.compactUpTo_succ, e]
    have et : zs.take (m + 1) = zs.take m ++ [zs[m]] := List.take_succ_eq_append_getElem hmm
    by_cases hk : Lib.keeps zs.toArray m = true
    · rw [if_pos hk]
      have hlt : ∀ x, x ∈ Lib.compactUpTo zs.toArray m → x < zs[m] := by
        intro x hx
        simp only [Lib.keeps, decide_eq_true_eq] at hk
        rcases hk with rfl | hk
        · simp [Lib.compactUpTo] at hx
        · have hm0 : m ≠ 0 := by rintro rfl; simp [Lib.compactUpTo] at hx
          have e' : zs.toArray[m - 1]! = zs[m - 1] := by rw [getElem!_pos _ (m - 1) (by simp; omega)]; simp
          rw [e, e'] at hk
          have hle : x ≤ zs[m - 1] := h3 x hx _ (by simp)
          have hle2 : zs[m - 1] ≤ zs[m] := List.pairwise_iff_getElem.1 hs (m - 1) m (by omega) hmm (by omega)
          refine lt_ne (le_tr hle hle2) fun hxe => ?_
          subst hxe
          exact hk (le_anti hle hle2)
      refine ⟨List.pairwise_append.2 ⟨h1, by simp, fun a ha b hb => ?_⟩, fun x => ?_, fun x hx y hy => ?_⟩
      · simp only [List.mem_singleton] at hb; subst hb; exact hlt a ha
      · rw [et, List.mem_append, List.mem_append, h2]
      · have hy' : y = zs[m] := by simp [hmm] at hy; exact hy.symm
        subst hy'
        rcases List.mem_append.1 hx with h | h
        · exact lt_le (hlt x h)
        · simp only [List.mem_singleton] at h; subst h; exact List.le_refl _
    · rw [if_neg hk, List.append_nil]
      have hk' : m ≠ 0 ∧ zs.toArray[m]! = zs.toArray[m - 1]! := by
        simp only [Lib.keeps, decide_eq_true_eq, not_or] at hk
        exact ⟨hk.1, Classical.byContradiction hk.2⟩
      have e' : zs.toArray[m - 1]! = zs[m - 1] := by rw [getElem!_pos _ (m - 1) (by simp; omega)]; simp
      rw [e, e'] at hk'
      have hmem : zs[m] ∈ zs.take m := by
        rw [hk'.2]
        exact List.mem_take_iff_getElem.2 ⟨m - 1, by omega, rfl⟩
      refine ⟨h1, fun x => ?_, fun x hx y hy => ?_⟩
      · rw [et, List.mem_append, h2]
        simp only [List.mem_singleton]
        exact ⟨.inl, fun h => h.elim id fun h => h ▸ hmem⟩
      · have hy' : y = zs[m] := by simp [hmm] at hy; exact hy.symm
        subst hy'
        rw [hk'.2]
        exact h3 x hx _ (by simp)
theorem cs_sorted (l : List By) : (cpt (srt l)).Pairwise (· < ·) := (cpt_inv _ (srt_sorted l) _ (Nat.le_refl _)).1
theorem cs_mem (l : List By) (x : By) : x ∈ cpt (srt l) ↔ x ∈ l := by
  have := (cpt_inv _ (srt_sorted l) _ (Nat.le_refl _)).2.1 x
  rw [List.take_length] at this
  exact this.trans (srt_mem l x)
/-- Two strictly ascending lists with the same members are one. -/
theorem asc_eq : ∀ (a b : List By), a.Pairwise (· < ·) → b.Pairwise (· < ·) → (∀ x, x ∈ a ↔ x ∈ b) → a = b
  | [], [], _, _, _ => rfl
  | [], y :: b, _, _, h => by have := (h y).2 (by simp); simp at this
  | x :: a, [], _, _, h => by have := (h x).1 (by simp); simp at this
  | x :: a, y :: b, ha, hb, h => by
    rw [List.pairwise_cons] at ha hb
    have exy : x = y := by
      rcases List.mem_cons.1 ((h x).1 (by simp)) with e | e
      · exact e
      · rcases List.mem_cons.1 ((h y).2 (by simp)) with e' | e'
        · exact e'.symm
        · exact (lt_irr (lt_tr (hb.1 x e) (ha.1 y e'))).elim
    subst exy
    rw [asc_eq a b ha.2 hb.2 fun z => ⟨fun hz => ?_, fun hz => ?_⟩]
    · rcases List.mem_cons.1 ((h z).1 (List.mem_cons_of_mem _ hz)) with e | e
      · subst e; exact (lt_irr (ha.1 _ hz)).elim
      · exact e
    · rcases List.mem_cons.1 ((h z).2 (List.mem_cons_of_mem _ hz)) with e | e
      · subst e; exact (lt_irr (hb.1 _ hz)).elim
      · exact e
theorem wordsG_append (p : UInt8 → Bool) (c : UInt8) (hc : p c = false) (t : By) : ∀ (s acc : By), wordsG p acc (s ++ c :: t) = wordsG p acc s ++ wordsG p [] t
  | [], acc => by simp [wordsG, hc]
  | d :: s, acc => by
    simp only [List.cons_append, wordsG]
    split
    · exact wordsG_append p c hc t s _
    · rw [wordsG_append p c hc t s [], List.append_assoc]
theorem wordsG_map (p : UInt8 → Bool) (g : UInt8 → UInt8) (hg : ∀ c, p (g c) = p c) : ∀ (s acc : By), wordsG p (acc.map g) (s.map g) = (wordsG p acc s).map (List.map g)
  | [], acc => by
    simp only [List.map_nil, wordsG]
    by_cases h : acc = []
    · simp [h]
    · simp [h]
  | d :: s, acc => by
    simp only [List.map_cons, wordsG, hg]
    split
    · rw [← wordsG_map p g hg s (acc ++ [d])]; simp
    · have := wordsG_map p g hg s []
      simp only [List.map_nil] at this
      rw [this]
      by_cases h : acc = []
      · simp [h]
      · simp [h]
theorem wordsG_all (p : UInt8 → Bool) : ∀ (x acc : By), x.all p = true → wordsG p acc x = if acc ++ x = [] then [] else [acc ++ x]
  | [], acc, _ => by simp [wordsG]
  | c :: x, acc, h => by
    simp only [List.all_cons, Bool.and_eq_true] at h
    simp only [wordsG, h.1, if_true]
    rw [wordsG_all p x _ h.2]
    simp
theorem wordsG_mem (p : UInt8 → Bool) (w : By) : ∀ (s acc : By), acc.all p = true → w ∈ wordsG p acc s → w ≠ [] ∧ w.all p = true
  | [], acc, ha, h => by
    simp only [wordsG] at h
    split at h
    · simp at h
    · rename_i hn
      simp only [List.mem_singleton] at h
      subst h
      exact ⟨hn, ha⟩
  | c :: s, acc, ha, h => by
    simp only [wordsG] at h
    split at h
    · rename_i hp
      exact wordsG_mem p w s _ (by simp [ha, hp]) h
    · rcases List.mem_append.1 h with h | h
      · split at h
        · simp at h
        · rename_i hn
          simp only [List.mem_singleton] at h
          subst h
          exact ⟨hn, ha⟩
      · exact wordsG_mem p w s [] (by simp) h
theorem lowB_toNat (c : UInt8) : (lowB c).toNat = if 65 ≤ c.toNat ∧ c.toNat ≤ 90 then c.toNat + 32 else c.toNat := by
  unfold lowB
  split
  · rw [UInt8.toNat_add]
    have : (32 : UInt8).toNat = 32 := rfl
    omega
  · rfl
theorem tbB_low (c : UInt8) : tbB (lowB c) = tbB c := by
  unfold tbB isTB
  rw [lowB_toNat]
  rw [Bool.eq_iff_iff]
  simp only [Bool.or_eq_true, Bool.and_eq_true, decide_eq_true_eq, beq_iff_eq]
  split <;> omega
theorem low_low (c : UInt8) : lowB (lowB c) = lowB c := by
  apply UInt8.toNat_inj.1
  rw [lowB_toNat, lowB_toNat]
  split <;> (try split) <;> omega
theorem tf_low (w : By) : tf (w.map lowB) = tf w := by
  unfold tf
  rw [← List.map_take, List.map_map]
  congr 1
  funext c
  exact low_low c
theorem tf_tf (w : By) : tf (tf w) = tf w := by
  show tf ((w.take 40).map lowB) = _
  rw [tf_low]
  unfold tf
  rw [List.take_take]
  simp
theorem tf_len (w : By) : (tf w).length ≤ 40 := by simp [tf]; omega
theorem tf_ne {w : By} (h : w ≠ []) : tf w ≠ [] := by
  cases w with
  | nil => exact absurd rfl h
  | cons c w => simp [tf]
theorem tf_all {w : By} (h : w.all tbB = true) : (tf w).all tbB = true := by
  unfold tf
  rw [List.all_map, List.all_eq_true]
  intro c hc
  rw [Function.comp_apply, tbB_low]
  exact List.all_eq_true.1 h c (List.mem_of_mem_take hc)
/-- What Terms answers. -/
def termsL (s : By) : List By := cpt (srt (rawTerms s))
theorem terms_mem (s x : By) : x ∈ termsL s ↔ x ∈ rawTerms s := cs_mem _ _
theorem terms_sorted (s : By) : (termsL s).Pairwise (· < ·) := cs_sorted _
theorem raw_mem {s x : By} (h : x ∈ rawTerms s) : x ≠ [] ∧ x.all tbB = true ∧ x.length ≤ 40 ∧ tf x = x := by
  obtain ⟨w, hw, rfl⟩ := List.mem_map.1 h
  obtain ⟨h1, h2⟩ := wordsG_mem tbB w s [] (by simp) hw
  exact ⟨tf_ne h1, tf_all h2, tf_len w, tf_tf w⟩
theorem terms_self {s x : By} (h : x ∈ termsL s) : termsL x = [x] := by
  obtain ⟨h1, h2, h3, h4⟩ := raw_mem ((terms_mem s x).1 h)
  have e : rawTerms x = [x] := by
    unfold rawTerms
    rw [wordsG_all tbB x [] h2]
    simp [h1, h4]
  refine asc_eq _ _ (terms_sorted x) (by simp) fun z => ?_
  rw [terms_mem, e]
theorem terms_both (s t : By) : termsL (s ++ 32 :: t) = cpt (srt (termsL s ++ termsL t)) := by
  refine asc_eq _ _ (terms_sorted _) (cs_sorted _) fun z => ?_
  rw [terms_mem, cs_mem, List.mem_append, terms_mem, terms_mem]
  unfold rawTerms
  rw [wordsG_append tbB 32 (by decide) t s [], List.map_append, List.mem_append]
theorem terms_small (s : By) : termsL (s.map lowB) = termsL s := by
  have e : rawTerms (s.map lowB) = rawTerms s := by
    unfold rawTerms
    have := wordsG_map tbB lowB tbB_low s []
    simp only [List.map_nil] at this
    rw [this, List.map_map]
    congr 1
    funext w
    exact tf_low w
  unfold termsL
  rw [e]
end Go.Proofs.YtfdmdcpopmcmcaaGreatDoor
end

section
namespace Go.Proofs.YtfdmdcpopmcmcaaGreatDoor
open Go.Fw
variable [Gl]
theorem isGo10 : isGo Tryz.prog 10 = true := by kernel_rfl
theorem isGo17 : isGo Tryz.prog 17 = true := by kernel_rfl
theorem isGo15 : isGo Tryz.prog 15 = true := by kernel_rfl
theorem isGo14 : isGo Tryz.prog 14 = true := by kernel_rfl
theorem isGo109 : isGo Tryz.prog 109 = true := by kernel_rfl
theorem isGo9 : isGo Tryz.prog 9 = true := by kernel_rfl
theorem isGo12 : isGo Tryz.prog 12 = true := by kernel_rfl
set_option maxRecDepth 20000
theorem idxAny_short (s : By) (h8 : s.length ≤ 8) (ha : ∀ c ∈ s, c.toNat < 128) : PTri Tryz.prog 109 [.str s, .str [32, 10]] (.int .i64 (Lib.indexAny s [32, 10])) := by
  intro F w av ho hav
  rw [vrs_str2 F av hav]
  refine callsIn_of ((Tryz.strings_IndexAny_short ⟨s.toArray⟩ ⟨#[32, 10]⟩ w (by decide) (by simpa [ByteArray.size] using h8) (fun j b hb => ha b (List.mem_of_getElem? hb))).mono ?_)
  rintro e w' ⟨rfl, pos, rfl⟩
  exact ⟨_, _, [], F, rfl, ⟨rfl, rfl⟩, (ho.push (.striter s pos)).sub (List.nil_sublist _), .int _ _, (Trans.push F [] w (.striter s pos) _).trans (Trans.sub (List.nil_sublist _))⟩
theorem idxAny_any (l : By) : ∀ s : By, decide (0 ≤ Lib.indexAny s l) = s.any fun c => l.contains c
  | [] => by simp [Lib.indexAny]
  | b :: s => by
    have ih := idxAny_any l s
    have hge := Lib.indexAny_ge l s
    simp only [Lib.indexAny, List.any_cons]
    rw [← ih]
    split
    · rename_i h; rw [h]; simp
    · rename_i h
      have h : l.contains b = false := by simpa using h
      rw [h, Bool.false_or]
      split
      · rename_i h2
        have h2 : Lib.indexAny s l = -1 := by simpa using h2
        rw [h2]
      · rename_i h2
        have h2 : ¬ Lib.indexAny s l = -1 := by simpa using h2
        congr 1
        rw [eq_iff_iff]
        omega
theorem spB_eq (c : UInt8) : ([32, 10] : By).contains c = spB c := by
  simp only [List.contains_cons, List.contains_nil, Bool.or_false]
theorem ca_of (s : By) (h : PTri Tryz.prog 109 [.str s, .str [32, 10]] (.int .i64 (Lib.indexAny s [32, 10]))) : CA s := by
  unfold CA
  have e : s.any spB = decide (0 ≤ Lib.indexAny s [32, 10]) := by
    rw [idxAny_any]
    congr 1
    funext c
    exact (spB_eq c).symm
  rw [e]
  refine PTri.any (Tri.of_wc Tryz.func76 rfl Tryz.results76 Tryz.ntmps76 (by simp) ?_)
  refine WC.seq_k fun K1 hK2 => ?_
  refine WC.region ?_
  refine wU (gE rfl ?_)
  refine wOps.done ?_
  refine hK2 _ _ _ ?_
  clear hK2 K1
  refine WC.seq_k fun K3 hK4 => ?_
  refine WC.region ?_
  refine wU (gE rfl ?_)
  refine wU (gE rfl ?_)
  refine wU (gPure rfl isGo109 h ?_)
  refine wU (gE rfl ?_)
  refine wU (gE rfl ?_)
  refine wOps.done ?_
  refine hK4 _ _ _ ?_
  clear hK4 K3
  refine WC.ret ?_
  exact ⟨_, rfl, rfl⟩
theorem ca_short (s : By) (h8 : s.length ≤ 8) (ha : ∀ c ∈ s, c.toNat < 128) : CA s := ca_of s (idxAny_short s h8 ha)
abbrev exF : By := [108, 101, 118, 101, 108, 61, 105, 110, 102, 111, 32, 109, 115, 103, 61, 34, 97, 32, 98, 34, 32, 61, 120, 32, 111, 107]
abbrev exL : List Lb := [([108, 101, 118, 101, 108], [105, 110, 102, 111]), ([109, 115, 103], [97, 32, 98])]
theorem srtN_self {l : List Lb} (h : l.Pairwise fun x y => x.1 < y.1) : srtN l = l :=
  asc_eqL _ _ (srtN_asc (List.Pairwise.imp (fun hab e => by rw [e] at hab; exact lt_irr hab) h)) h fun x => (srtN_perm l).mem_iff
theorem ex1 : parseL exF = (exL, 0) := by
  have e : parseG [] (fieldsL exF) = some exL := by decide
  unfold parseL
  rw [if_neg (by decide), e]
  simp only
  rw [if_neg (by decide), srtN_self (by decide)]
theorem ex2 : fmtL [([97], [120, 32, 121]), ([98], [122])] = ([97, 61, 34, 120, 32, 121, 34, 32, 98, 61, 122], 0) := by decide
abbrev exT : By := [71, 69, 84, 32, 47, 85, 115, 101, 114, 115, 47, 52, 50, 32, 116, 111, 111, 107, 32, 51, 109, 115]
abbrev exW : List By := [[51, 109, 115], [52, 50], [103, 101, 116], [116, 111, 111, 107], [117, 115, 101, 114, 115]]
theorem ex3 : cpt (srt (rawTerms exT)) = exW := by
  refine asc_eq _ _ (cs_sorted _) (by decide) fun x => ?_
  rw [cs_mem]
  exact List.Perm.mem_iff (by decide)
theorem awake_tri (hG : GInt) : PTri Tryz.prog 9 [] (.bool true) := by
  have h1 := parse_tri hG exF (by decide)
  rw [ex1] at h1
  have h2 := fmt_tri [([97], [120, 32, 121]), ([98], [122])] (fun _ p hp => by
    simp only [List.mem_cons, List.not_mem_nil, or_false] at hp
    rcases hp with rfl | rfl <;> exact ca_short _ (by decide) (by decide)) (by decide)
  rw [ex2] at h2
  have h3 := terms_tri exT (by decide)
  rw [ex3] at h3
  have h4 := sameS_tri exW exW (by decide)
  have h5 := same_tri exL exL (by decide)
  refine PTri.any (Tri.of_wc Tryz.func9 rfl Tryz.results9 Tryz.ntmps9 (by simp) ?_)
  refine WC.seq_k fun K1 hK2 => ?_
  refine WC.region ?_
  refine wU (gE rfl ?_)
  refine wOps.done ?_
  refine hK2 _ _ _ ?_
  clear hK2 K1
  refine WC.seq_k fun K3 hK4 => ?_
  refine WC.region ?_
  refine wU (gPure rfl isGo10 h1 ?_)
  refine wU (gE rfl ?_)
  refine wU (gE rfl ?_)
  refine wU (gE rfl ?_)
  refine wU (gE rfl ?_)
  refine wU (gE rfl ?_)
  refine wOps.done ?_
  refine hK4 _ _ _ ?_
  clear hK4 K3
  refine WC.seq_k fun K5 hK6 => ?_
  refine WC.region ?_
  refine wU (gBuild (v := .agg [.str [97], .str [120, 32, 121]]) rfl rfl ?_)
  refine wU (gBuild (v := .agg [.str [98], .str [122]]) rfl rfl ?_)
  refine wU (gBuildSlice (cs := [.str [97], .str [120, 32, 121], .str [98], .str [122]]) tslice22 tsz51 tzero51 rfl (by simp [evFill, putL, zcells, vcells]) (by decide) (by decide) fun p hp => ?_)
  have hm := (Tri.lend (b := p) (us := [.slice p 0 2 2]) (T := 51) (cs := [.str [97], .str [120, 32, 121], .str [98], .str [122]]) (nn := 4) h2 (by simp [frzV, frzL, lsl, lcs, ssl, scs]) rfl).frame []
  refine wU (gCall (by rfl) (@CallS.mono _ Tryz.prog 12 _ _ _ _ (@CallS.of_tri _ Tryz.prog 12 _ _ _ isGo12 hm) ?_))
  rintro v h1 ⟨h2, rfl, ⟨rfl, rfl⟩, -⟩
  simp only [List.nil_append, List.cons_append]
  refine wU (gE rfl ?_)
  refine wU (gE rfl ?_)
  refine wU (gE rfl ?_)
  refine wU (gE rfl ?_)
  refine wU (gE rfl ?_)
  refine wOps.done ?_
  refine hK6 _ _ _ ?_
  clear hK6 K5
  refine WC.seq_k fun K7 hK8 => ?_
  refine WC.region ?_
  refine wU (gPure rfl isGo15 h3 ?_)
  refine wU (gBuildSlice (cs := [.str [51, 109, 115], .str [52, 50], .str [103, 101, 116], .str [116, 111, 111, 107], .str [117, 115, 101, 114, 115]]) tslice31 tsz9 tzero9 rfl (by simp [evFill, putL, zcells, vcells]) (by decide) (by decide) fun q hq => ?_)
  have hm := (Tri.lend (b := q) (us := [ssl exW, .slice q 0 5 5]) (T := 9) (cs := [.str [51, 109, 115], .str [52, 50], .str [103, 101, 116], .str [116, 111, 111, 107], .str [117, 115, 101, 114, 115]]) (nn := 5) h4 (by simp [frzV, frzL, lsl, lcs, ssl, scs]) rfl).frame [(p, .cells 51 [.str [97], .str [120, 32, 121], .str [98], .str [122]] 4)]
  refine wU (gCall (by rfl) (@CallS.mono _ Tryz.prog 14 _ _ _ _ (@CallS.of_tri _ Tryz.prog 14 _ _ _ isGo14 hm) ?_))
  rintro v h1 ⟨h2, rfl, ⟨rfl, rfl⟩, -⟩
  simp only [List.nil_append, List.cons_append]
  refine wU (gE rfl ?_)
  refine wY rfl (gE rfl ?_)
  refine wY rfl (gE (v := .bool true) rfl ?_)
  refine wU (gE rfl ?_)
  refine wU (gE rfl ?_)
  refine wY rfl (gE rfl ?_)
  refine wY rfl (gBuild (v := .agg [.str [108, 101, 118, 101, 108], .str [105, 110, 102, 111]]) rfl rfl ?_)
  refine wY rfl (gBuild (v := .agg [.str [109, 115, 103], .str [97, 32, 98]]) rfl rfl ?_)
  refine wY rfl (gBuildSlice (cs := [.str [108, 101, 118, 101, 108], .str [105, 110, 102, 111], .str [109, 115, 103], .str [97, 32, 98]]) tslice22 tsz51 tzero51 rfl (by simp [evFill, putL, zcells, vcells]) (by decide) (by decide) fun u hu => ?_)
  have hm := (Tri.lend (b := u) (us := [lsl exL, .slice u 0 2 2]) (T := 51) (cs := [.str [108, 101, 118, 101, 108], .str [105, 110, 102, 111], .str [109, 115, 103], .str [97, 32, 98]]) (nn := 4) h5 (by simp [frzV, frzL, lsl, lcs, ssl, scs]) rfl).frame [(q, .cells 9 [.str [51, 109, 115], .str [52, 50], .str [103, 101, 116], .str [116, 111, 111, 107], .str [117, 115, 101, 114, 115]] 5), (p, .cells 51 [.str [97], .str [120, 32, 121], .str [98], .str [122]] 4)]
  refine wY rfl (gCall (by rfl) (@CallS.mono _ Tryz.prog 17 _ _ _ _ (@CallS.of_tri _ Tryz.prog 17 _ _ _ isGo17 hm) ?_))
  rintro v h1 ⟨h2, rfl, ⟨rfl, rfl⟩, -⟩
  simp only [List.nil_append, List.cons_append]
  refine wU (gE rfl ?_)
  refine wU (gE rfl ?_)
  refine wY rfl (gE rfl ?_)
  refine wY rfl (gE (v := .bool true) rfl ?_)
  refine wU (gE rfl ?_)
  refine wU (gE rfl ?_)
  refine wY rfl (gE rfl ?_)
  refine wY rfl (gE (v := .bool true) rfl ?_)
  refine wU (gE rfl ?_)
  refine wU (gE rfl ?_)
  refine wOps.done ?_
  refine hK8 _ _ _ ?_
  clear hK8 K7
  refine WC.ret ?_
  exact ⟨_, rfl, rfl⟩
end Go.Proofs.YtfdmdcpopmcmcaaGreatDoor
end

section
namespace Go.Proofs.YtfdmdcpopmcmcaaGreatDoor
open Go.Fw
variable [Gl]
theorem isGo80 : isGo Tryz.prog 80 = true := by kernel_rfl
theorem isGo81 : isGo Tryz.prog 81 = true := by kernel_rfl
theorem isGo82 : isGo Tryz.prog 82 = true := by kernel_rfl
theorem isGo83 : isGo Tryz.prog 83 = true := by kernel_rfl
theorem tagg3 : tagg Tryz.prog 3 = some false := by kernel_rfl
theorem tslice82 : tslice Tryz.prog 82 = some 3 := by kernel_rfl
theorem tsz3 : tsz Tryz.prog 3 = some 1 := by kernel_rfl
theorem tzero3 : tzero Tryz.prog 3 = some [.int .i64 0] := by kernel_rfl
set_option maxRecDepth 20000
theorem isNaNi_tri (a : Int) : PTri Tryz.prog 80 [.int .i64 a] (.bool false) := by
  refine Tri.of_wc Tryz.func80 rfl Tryz.results80 Tryz.ntmps80 (by simp) ?_
  refine WC.seq_k fun K1 hK2 => ?_
  refine WC.region ?_
  refine wU (gE rfl ?_)
  refine wOps.done ?_
  refine hK2 _ _ _ ?_
  clear hK2 K1
  refine WC.seq_k fun K3 hK4 => ?_
  refine WC.region ?_
  refine wU (gE rfl ?_)
  refine wU (gE rfl ?_)
  refine wU (gE rfl ?_)
  refine wU (gE rfl ?_)
  refine wOps.done ?_
  refine hK4 _ _ _ ?_
  clear hK4 K3
  refine WC.ret ?_
  exact ⟨_, rfl, by simp, rfl⟩
def cmpI (a b : Int) : Int := if a < b then -1 else if b < a then 1 else 0
theorem cmpI_tri (a b : Int) : PTri Tryz.prog 55 [.int .i64 a, .int .i64 b] (.int .i64 (cmpI a b)) := by
  refine Tri.of_wc Tryz.func55 rfl Tryz.results55 Tryz.ntmps55 (by simp) ?_
  refine WC.seq_k fun K1 hK2 => ?_
  refine WC.region ?_
  refine wU (gE rfl ?_)
  refine wOps.done ?_
  refine hK2 _ _ _ ?_
  clear hK2 K1
  refine WC.seq_k fun K3 hK4 => ?_
  refine WC.region ?_
  refine wU (gE rfl ?_)
  refine wU (gPure rfl isGo80 (isNaNi_tri _) ?_)
  refine wU (gE rfl ?_)
  refine wOps.done ?_
  refine hK4 _ _ _ ?_
  clear hK4 K3
  refine WC.seq_k fun K5 hK6 => ?_
  refine WC.region ?_
  refine wU (gE rfl ?_)
  refine wU (gPure rfl isGo80 (isNaNi_tri _) ?_)
  refine wU (gE rfl ?_)
  refine wOps.done ?_
  refine hK6 _ _ _ ?_
  clear hK6 K5
  refine WC.seq_k fun K7 hK8 => ?_
  refine WC.seq_k fun K9 hK10 => ?_
  refine WC.region ?_
  refine wU (gE rfl ?_)
  refine wOps.done ?_
  refine hK10 _ _ _ ?_
  clear hK10 K9
  refine WC.cond rfl (fun c11 => ?_) (fun c11 => ?_)
  · skip
    refine WC.seq_k fun K12 hK13 => ?_
    refine WC.seq_k fun K14 hK15 => ?_
    refine WC.region ?_
    refine wU (gE rfl ?_)
    refine wOps.done ?_
    refine hK15 _ _ _ ?_
    clear hK15 K14
    refine WC.cond rfl (fun c16 => ?_) (fun c16 => ?_)
    · skip
      refine WC.seq_k fun K17 hK18 => ?_
      refine WC.region ?_
      refine wU (gE rfl ?_)
      refine wOps.done ?_
      refine hK18 _ _ _ ?_
      clear hK18 K17
      refine WC.ret ?_
      exact ⟨_, rfl, by simp_all [cmpI] <;> omega, rfl⟩
    · skip
      refine WC.skip ?_
      refine hK13 _ _ _ ?_
      clear hK13 K12
      refine WC.seq_k fun K19 hK20 => ?_
      refine WC.region ?_
      refine wU (gE rfl ?_)
      refine wOps.done ?_
      refine hK20 _ _ _ ?_
      clear hK20 K19
      refine WC.ret ?_
      exact ⟨_, rfl, by simp_all [cmpI] <;> omega, rfl⟩
  · skip
    refine WC.skip ?_
    refine hK8 _ _ _ ?_
    clear hK8 K7
    refine WC.seq_k fun K21 hK22 => ?_
    refine WC.seq_k fun K23 hK24 => ?_
    refine WC.region ?_
    refine wU (gE rfl ?_)
    refine wOps.done ?_
    refine hK24 _ _ _ ?_
    clear hK24 K23
    refine WC.cond rfl (fun c25 => ?_) (fun c25 => ?_)
    · skip
      refine WC.seq_k fun K26 hK27 => ?_
      refine WC.region ?_
      refine wU (gE rfl ?_)
      refine wOps.done ?_
      refine hK27 _ _ _ ?_
      clear hK27 K26
      refine WC.ret ?_
      exact ⟨_, rfl, by simp_all [cmpI] <;> omega, rfl⟩
    · skip
      refine WC.skip ?_
      refine hK22 _ _ _ ?_
      clear hK22 K21
      refine WC.seq_k fun K28 hK29 => ?_
      refine WC.seq_k fun K30 hK31 => ?_
      refine WC.region ?_
      refine wU (gE rfl ?_)
      refine wU (gE rfl ?_)
      refine wU (gE rfl ?_)
      refine wOps.done ?_
      refine hK31 _ _ _ ?_
      clear hK31 K30
      refine WC.cond rfl (fun c32 => ?_) (fun c32 => ?_)
      · skip
        refine WC.seq_k fun K33 hK34 => ?_
        refine WC.region ?_
        refine wU (gE rfl ?_)
        refine wOps.done ?_
        refine hK34 _ _ _ ?_
        clear hK34 K33
        refine WC.ret ?_
        exact ⟨_, rfl, by simp_all [cmpI] <;> omega, rfl⟩
      · skip
        refine WC.skip ?_
        refine hK29 _ _ _ ?_
        clear hK29 K28
        refine WC.seq_k fun K35 hK36 => ?_
        refine WC.seq_k fun K37 hK38 => ?_
        refine WC.region ?_
        refine wU (gE rfl ?_)
        refine wU (gE rfl ?_)
        refine wU (gE rfl ?_)
        refine wOps.done ?_
        refine hK38 _ _ _ ?_
        clear hK38 K37
        refine WC.cond rfl (fun c39 => ?_) (fun c39 => ?_)
        · skip
          refine WC.seq_k fun K40 hK41 => ?_
          refine WC.region ?_
          refine wU (gE rfl ?_)
          refine wOps.done ?_
          refine hK41 _ _ _ ?_
          clear hK41 K40
          refine WC.ret ?_
          exact ⟨_, rfl, by simp_all [cmpI] <;> omega, rfl⟩
        · skip
          refine WC.skip ?_
          refine hK36 _ _ _ ?_
          clear hK36 K35
          refine WC.seq_k fun K42 hK43 => ?_
          refine WC.region ?_
          refine wU (gE rfl ?_)
          refine wOps.done ?_
          refine hK43 _ _ _ ?_
          clear hK43 K42
          refine WC.ret ?_
          exact ⟨_, rfl, by simp_all [cmpI] <;> omega, rfl⟩
abbrev isl (l : List Int) : V := .fslice (l.map (V.int .i64)) l.length
theorem or_tri (a b : Int) : PTri Tryz.prog 83 [isl [a, b]] (.int .i64 (if a ≠ 0 then a else b)) := by
  unfold isl
  refine Tri.of_wc Tryz.func83 rfl Tryz.results83 Tryz.ntmps83 (by simp) ?_
  refine WC.seq_k fun K1 hK2 => ?_
  refine WC.region ?_
  refine wU (gE rfl ?_)
  refine wOps.done ?_
  refine hK2 _ _ _ ?_
  clear hK2 K1
  refine WC.seq_k fun K3 hK4 => ?_
  refine WC.region ?_
  refine wU (gE rfl ?_)
  refine wOps.done ?_
  refine hK4 _ _ _ ?_
  clear hK4 K3
  refine WC.seq_k fun K5 hK6 => ?_
  refine WC.seq_k fun K7 hK8 => ?_
  refine WC.region ?_
  refine wU (gE rfl ?_)
  refine wU (gLen rfl rfl (by rw [lenFits, tslice82]; rfl) ?_)
  refine wU (gE rfl ?_)
  refine wOps.done ?_
  refine hK8 _ _ _ ?_
  clear hK8 K7
  refine WC.block ?_
  refine WC.loopI (α := Nat) (fun i => [(0, isl [a, b]), (3, .int .i64 0), (6, isl [a, b]), (7, .int .i64 2), (8, .int .i64 i)]) (fun _ => []) (fun i => 2 - i) (fun i => i ≤ 2 ∧ (0 < i → a = 0) ∧ (1 < i → b = 0)) 0 ?_ ?_ ?_ ?_
  · exact sub_cons rfl (sub_cons rfl (sub_cons rfl (sub_cons rfl (sub_cons rfl (sub_nil _)))))
  · exact Ent.refl _ _
  · exact ⟨by simp, by simp, by simp⟩
  rintro i ⟨hil, ha, hb⟩
  refine WC.seq_k fun K9 hK10 => ?_
  refine WC.region ?_
  refine wU (gE rfl ?_)
  refine wOps.done ?_
  refine hK10 _ _ _ ?_
  clear hK10 K9
  refine WC.seq_k fun K11 hK12 => ?_
  refine WC.cond rfl (fun c13 => ?_) (fun c13 => ?_)
  · skip
    refine WC.skip ?_
    refine hK12 _ _ _ ?_
    clear hK12 K11
    refine WC.seq_k fun K14 hK15 => ?_
    refine WC.block ?_
    refine WC.seq_k fun K16 hK17 => ?_
    refine WC.region ?_
    have hi : i < 2 := by have := of_decide_eq_true c13; omega
    refine wU (gIdxF tslice82 tsz3 rfl rfl (by omega) (by simp; omega) ?_)
    refine wU (gLoadF tagg3 rfl (show ([V.int .i64 a, V.int .i64 b] : List V)[((i : Nat) : Int).toNat * 1 + 0]? = some (V.int .i64 (if i = 0 then a else b)) by match i, hi with | 0, _ => rfl | 1, _ => rfl) ?_)
    refine wU (gE rfl ?_)
    refine wOps.done ?_
    refine hK17 _ _ _ ?_
    clear hK17 K16
    refine WC.seq_k fun K18 hK19 => ?_
    refine WC.region ?_
    refine wU (gE rfl ?_)
    refine wU (gE rfl ?_)
    refine wU (gE rfl ?_)
    refine wOps.done ?_
    refine hK19 _ _ _ ?_
    clear hK19 K18
    refine WC.cond rfl (fun c20 => ?_) (fun c20 => ?_)
    · skip
      refine WC.seq_k fun K21 hK22 => ?_
      refine WC.region ?_
      refine wU (gE rfl ?_)
      refine wU (gE rfl ?_)
      refine wOps.done ?_
      refine hK22 _ _ _ ?_
      clear hK22 K21
      refine WC.ret ?_
      refine ⟨_, rfl, congrArg (V.int .i64) ?_, rfl⟩
      rcases (show i = 0 ∨ i = 1 by omega) with rfl | rfl <;> simp_all
    · skip
      refine WC.skip ?_
      refine hK15 _ _ _ ?_
      clear hK15 K14
      refine WC.region ?_
      refine wU (gE rfl ?_)
      refine wU (gE rfl ?_)
      refine wOps.done ?_
      refine ⟨i + 1, rfl, by omega, ⟨by omega, ?_, ?_⟩, Ent.sub (sub_cons rfl (sub_cons rfl (sub_cons rfl (sub_cons rfl (sub_cons (int_fit (by omega) (by omega) (by omega)) (sub_nil _))))))⟩
      · intro _; rcases (show i = 0 ∨ i = 1 by omega) with rfl | rfl <;> simp_all
      · intro _; rcases (show i = 0 ∨ i = 1 by omega) with rfl | rfl <;> simp_all
  · skip
    refine WC.exit ?_
    refine hK6 _ _ _ ?_
    clear hK12 K11 hK6 K5
    refine WC.seq_k fun K23 hK24 => ?_
    refine WC.region ?_
    refine wU (gE rfl ?_)
    refine wU (gE rfl ?_)
    refine wOps.done ?_
    refine hK24 _ _ _ ?_
    clear hK24 K23
    refine WC.ret ?_
    have h2 : i = 2 := by have := of_decide_eq_false c13; omega
    subst h2
    exact ⟨_, rfl, by simp [ha, hb], rfl⟩
end Go.Proofs.YtfdmdcpopmcmcaaGreatDoor
end

section
namespace Go.Proofs.YtfdmdcpopmcmcaaGreatDoor
open Go.Fw
/-! ### Total orders that answer a number -/
structure Ord3 {α : Type} (c : α → α → Int) : Prop where
  range : ∀ a b, -1 ≤ c a b ∧ c a b ≤ 1
  zero : ∀ a b, c a b = 0 ↔ a = b
  anti : ∀ a b, c b a = - c a b
  tr : ∀ a b d, c a b ≤ 0 → c b d ≤ 0 → c a d ≤ 0
theorem Ord3.strict {α : Type} {c : α → α → Int} (h : Ord3 c) {a b d : α} (h1 : c a b ≤ 0) (h2 : c b d ≤ 0) (h3 : c a b < 0 ∨ c b d < 0) : c a d < 0 := by
  have h4 := h.tr a b d h1 h2
  by_cases e : c a d = 0
  · have := (h.zero a d).1 e
    subst this
    have := h.anti a b
    omega
  · omega
def lexI (x y : Int) : Int := if x ≠ 0 then x else y
theorem lexI_le {x y : Int} : lexI x y ≤ 0 ↔ x < 0 ∨ (x = 0 ∧ y ≤ 0) := by unfold lexI; split <;> omega
theorem Ord3.lex {α β : Type} {c : α → α → Int} {d : β → β → Int} (h : Ord3 c) (k : Ord3 d) : Ord3 fun (a b : α × β) => lexI (c a.1 b.1) (d a.2 b.2) where
  range a b := by
    have := h.range a.1 b.1
    have := k.range a.2 b.2
    unfold lexI; split <;> omega
  zero a b := by
    have h1 := h.zero a.1 b.1
    have h2 := k.zero a.2 b.2
    rw [Prod.ext_iff, ← h1, ← h2]
    unfold lexI
    split
    · exact ⟨fun e => absurd e ‹_›, fun e => e.1⟩
    · exact ⟨fun e => ⟨by omega, e⟩, fun e => e.2⟩
  anti a b := by
    have h1 := h.anti a.1 b.1
    have h2 := k.anti a.2 b.2
    unfold lexI
    rw [h1, h2]
    split <;> split <;> omega
  tr a b e h1 h2 := by
    rw [lexI_le] at *
    rcases h1 with h1 | ⟨h1, h1'⟩ <;> rcases h2 with h2 | ⟨h2, h2'⟩
    · exact .inl (h.strict (by omega) (by omega) (.inl h1))
    · exact .inl (h.strict (by omega) (by omega) (.inl h1))
    · exact .inl (h.strict (by omega) (by omega) (.inr h2))
    · have e1 := (h.zero _ _).1 h1
      have e2 := (h.zero _ _).1 h2
      exact .inr ⟨by rw [h.zero, e1, e2], k.tr _ _ _ h1' h2'⟩
theorem Ord3.map {α β : Type} {c : α → α → Int} (h : Ord3 c) (f : β → α) (hf : ∀ x y, f x = f y → x = y) : Ord3 fun a b => c (f a) (f b) where
  range a b := h.range _ _
  zero a b := (h.zero _ _).trans ⟨hf _ _, fun e => by rw [e]⟩
  anti a b := h.anti _ _
  tr a b d := h.tr _ _ _
theorem ordI : Ord3 cmpI where
  range a b := by unfold cmpI; split <;> (try split) <;> omega
  zero a b := by unfold cmpI; split <;> (try split) <;> omega
  anti a b := by unfold cmpI; split <;> split <;> (try split) <;> omega
  tr a b d h1 h2 := by unfold cmpI at *; split at h1 <;> split at h2 <;> split <;> (try split at h1) <;> (try split at h2) <;> (try split) <;> omega
theorem ordB : Ord3 cmpB where
  range a b := by unfold cmpB; split <;> (try split) <;> omega
  zero a b := cmpB_zero a b
  anti a b := by
    have r1 : -1 ≤ cmpB a b ∧ cmpB a b ≤ 1 := by unfold cmpB; split <;> (try split) <;> omega
    have r2 : -1 ≤ cmpB b a ∧ cmpB b a ≤ 1 := by unfold cmpB; split <;> (try split) <;> omega
    by_cases h : a = b
    · subst h; rw [(cmpB_zero a a).2 rfl]; rfl
    · have z1 : cmpB a b ≠ 0 := fun e => h ((cmpB_zero a b).1 e)
      have z2 : cmpB b a ≠ 0 := fun e => h ((cmpB_zero b a).1 e).symm
      by_cases hl : a < b
      · have n1 := (cmpB_neg a b).2 hl
        have n2 : ¬ cmpB b a < 0 := fun e => lt_irr (lt_tr hl ((cmpB_neg b a).1 e))
        omega
      · have hg : b < a := lt_ne (List.not_lt.1 hl) (fun e => h e.symm)
        have n1 := (cmpB_neg b a).2 hg
        have n2 : ¬ cmpB a b < 0 := fun e => hl ((cmpB_neg a b).1 e)
        omega
  tr a b d h1 h2 := by rw [cmpB_le] at *; exact le_tr h1 h2
theorem ordP : Ord3 fun (a b : Lb) => lexI (cmpB a.1 b.1) (cmpB a.2 b.2) := ordB.lex ordB
theorem cmpL_cons (x y : Lb) (xs ys : List Lb) : cmpL (x :: xs) (y :: ys) = lexI (lexI (cmpB x.1 y.1) (cmpB x.2 y.2)) (cmpL xs ys) := by
  simp only [cmpL, lexI]
  split
  · rename_i h; simp [h]
  · rename_i h; simp only [h, if_false]
theorem ordL : Ord3 cmpL where
  range a := by
    induction a with
    | nil => intro b; cases b <;> simp [cmpL]
    | cons x xs ih =>
      intro b
      cases b with
      | nil => simp [cmpL]
      | cons y ys =>
        rw [cmpL_cons]
        have := ordP.range x y
        have := ih ys
        unfold lexI at *
        split <;> (try split) <;> (try split at this) <;> omega
  zero a := by
    induction a with
    | nil => intro b; cases b <;> simp [cmpL]
    | cons x xs ih =>
      intro b
      cases b with
      | nil => simp [cmpL]
      | cons y ys =>
        rw [cmpL_cons]
        have h1 := ordP.zero x y
        have h2 := ih ys
        rw [List.cons.injEq, ← h1, ← h2]
        generalize lexI (cmpB x.1 y.1) (cmpB x.2 y.2) = u
        unfold lexI
        split
        · exact ⟨fun e => absurd e ‹_›, fun e => e.1⟩
        · exact ⟨fun e => ⟨by omega, e⟩, fun e => e.2⟩
  anti a := by
    induction a with
    | nil => intro b; cases b <;> simp [cmpL]
    | cons x xs ih =>
      intro b
      cases b with
      | nil => simp [cmpL]
      | cons y ys =>
        rw [cmpL_cons, cmpL_cons]
        have h1 := ordP.anti x y
        have h2 := ih ys
        rw [h1, h2]
        generalize lexI (cmpB x.1 y.1) (cmpB x.2 y.2) = u
        unfold lexI
        split <;> split <;> omega
  tr a := by
    induction a with
    | nil => intro b d h1 h2; cases d <;> simp [cmpL]
    | cons x xs ih =>
      intro b d h1 h2
      cases b with
      | nil => simp [cmpL] at h1
      | cons y ys =>
        cases d with
        | nil => simp [cmpL] at h2
        | cons z zs =>
          rw [cmpL_cons, lexI_le] at *
          rcases h1 with h1 | ⟨h1, h1'⟩ <;> rcases h2 with h2 | ⟨h2, h2'⟩
          · exact .inl (ordP.strict (a := x) (b := y) (d := z) (by omega) (by omega) (.inl h1))
          · exact .inl (ordP.strict (a := x) (b := y) (d := z) (by omega) (by omega) (.inl h1))
          · exact .inl (ordP.strict (a := x) (b := y) (d := z) (by omega) (by omega) (.inr h2))
          · have e1 := (ordP.zero x y).1 h1
            have e2 := (ordP.zero y z).1 h2
            exact .inr ⟨(ordP.zero x z).2 (e1.trans e2), ih _ _ h1' h2'⟩
/-- An entry: its time, labels, line, fields, trace. -/
abbrev En := Int × List Lb × By × List Lb × Int
def cmpE (a b : En) : Int := lexI (cmpI a.1 b.1) (lexI (cmpL a.2.1 b.2.1) (lexI (cmpB a.2.2.1 b.2.2.1) (lexI (cmpL a.2.2.2.1 b.2.2.2.1) (cmpI a.2.2.2.2 b.2.2.2.2))))
theorem ordE : Ord3 cmpE := ordI.lex (ordL.lex (ordB.lex (ordL.lex ordI)))
theorem cmpE_time {a b : En} (h : a.1 < b.1) : cmpE a b < 0 := by
  have e : cmpI a.1 b.1 = -1 := by unfold cmpI; rw [if_pos h]
  simp [cmpE, lexI, e]
end Go.Proofs.YtfdmdcpopmcmcaaGreatDoor
end

section
namespace Go.Proofs.YtfdmdcpopmcmcaaGreatDoor
open Go.Fw
variable [Gl]
theorem isGo56 : isGo Tryz.prog 56 = true := by kernel_rfl
theorem isGo57 : isGo Tryz.prog 57 = true := by kernel_rfl
theorem isGo8 : isGo Tryz.prog 8 = true := by kernel_rfl
set_option maxRecDepth 20000
theorem cmpP_tri (p q : Lb) : PTri Tryz.prog 82 [lbv p, lbv q] (.int .i64 (lexI (cmpB p.1 q.1) (cmpB p.2 q.2))) := by
  unfold lbv
  have hor := or_tri (cmpB p.1 q.1) (cmpB p.2 q.2)
  refine PTri.any (Tri.of_wc Tryz.func82 rfl Tryz.results82 Tryz.ntmps82 (by simp) ?_)
  refine WC.seq_k fun K1 hK2 => ?_
  refine WC.region ?_
  refine wU (gBox rfl fun b3 hb3 => ?_)
  refine wU (gBox rfl fun b4 hb4 => ?_)
  simp only [Hp.ns_cons, Hp.ns_nil, List.mem_cons, List.not_mem_nil, or_false, not_or] at hb4
  refine wU (gE rfl ?_)
  refine wOps.done ?_
  refine hK2 _ _ _ ?_
  clear hK2 K1
  refine WC.seq_k fun K5 hK6 => ?_
  refine WC.region_draw mixed ?_
  refine wA.val 0 rfl rfl rfl (fun _ _ hK => gField tfld51_0 tsz9 rfl hK) (by kernel_rfl) ?_
  refine wA.val 2 rfl rfl rfl (fun _ _ hK => gField tfld51_0 tsz9 rfl hK) (by kernel_rfl) ?_
  refine wA.val 5 rfl rfl rfl (fun _ _ hK => gField tfld51_1 tsz9 rfl hK) (by kernel_rfl) ?_
  refine wA.val 7 rfl rfl rfl (fun _ _ hK => gField tfld51_1 tsz9 rfl hK) (by kernel_rfl) ?_
  refine wA.ld 1 rfl rfl rfl (fun _ hle _ hK => gLoad tagg9 rfl (hle _ _ (by simp only [hget, hb4, ↓reduceIte] <;> rfl)) rfl hK) (by kernel_rfl) ?_
  refine wA.ld 3 rfl rfl rfl (fun _ hle _ hK => gLoad tagg9 rfl (hle _ _ (by simp only [hget, hb4, ↓reduceIte] <;> rfl)) rfl hK) (by kernel_rfl) ?_
  refine wA.val 4 rfl rfl rfl (fun _ _ hK => by refine gPure rfl isGo36 (cmpB_tri _ _) ?_; exact hK) (by kernel_rfl) ?_
  refine wA.ld 6 rfl rfl rfl (fun _ hle _ hK => gLoad tagg9 rfl (hle _ _ (by simp only [hget, hb4, ↓reduceIte] <;> rfl)) rfl hK) (by kernel_rfl) ?_
  refine wA.ld 8 rfl rfl rfl (fun _ hle _ hK => gLoad tagg9 rfl (hle _ _ (by simp only [hget, hb4, ↓reduceIte] <;> rfl)) rfl hK) (by kernel_rfl) ?_
  refine wA.val 9 rfl rfl rfl (fun _ _ hK => by refine gPure rfl isGo36 (cmpB_tri _ _) ?_; exact hK) (by kernel_rfl) ?_
  refine wA.eff 10 rfl (by kernel_rfl) rfl ?_
  refine gBuildSlice (cs := [.int .i64 (cmpB p.1 q.1), .int .i64 (cmpB p.2 q.2)]) tslice82 tsz3 tzero3 rfl (by simp [evFill, putL, zcells, vcells]) (by decide) (by decide) fun b7 hb7 => ?_
  simp only [Hp.ns_cons, Hp.ns_nil, List.mem_cons, List.not_mem_nil, or_false, not_or] at hb7
  refine wA.back ?_
  refine wA.eff 11 rfl (by kernel_rfl) rfl ?_
  have hm := (Tri.lend (b := b7) (us := [.slice b7 0 2 2]) (T := 3) (cs := [.int .i64 (cmpB p.1 q.1), .int .i64 (cmpB p.2 q.2)]) (nn := 2) hor (by simp [frzV, isl]) rfl).frame [(b4, .cells 51 [.str q.1, .str q.2] 2), (b3, .cells 51 [.str p.1, .str p.2] 2)]
  refine gCall (by rfl) (@CallS.mono _ Tryz.prog 83 _ _ _ _ (@CallS.of_tri _ Tryz.prog 83 _ _ _ isGo83 hm) ?_)
  rintro v h1 ⟨h2, rfl, ⟨rfl, rfl⟩, -⟩
  simp only [List.nil_append, List.cons_append]
  refine wA.back ?_
  refine wA.val 12 rfl rfl rfl (fun _ _ hK => gE rfl hK) (by kernel_rfl) ?_
  refine wA.done (by kernel_rfl) ?_
  refine hK6 _ _ _ ?_
  clear hK6 K5
  refine WC.ret ?_
  exact ⟨_, rfl, rfl⟩
theorem cmpL_step2 {a b : List Lb} {i : Nat} (h1 : i < a.length) (h2 : i < b.length) : cmpL (a.drop i) (b.drop i) = lexI (lexI (cmpB a[i].1 b[i].1) (cmpB a[i].2 b[i].2)) (cmpL (a.drop (i + 1)) (b.drop (i + 1))) := by
  rw [List.drop_eq_getElem_cons h1, List.drop_eq_getElem_cons h2, cmpL_cons]
theorem lexI_pos {x y : Int} (h : x ≠ 0) : lexI x y = x := if_pos h
theorem lexI_zero {x y : Int} (h : x = 0) : lexI x y = y := if_neg (fun e => e h)
theorem cmpF_tri (a b : List Lb) (ha : a.length ≤ 4294967295) : PTri Tryz.prog 81 [lsl a, lsl b, .clo 82 []] (.int .i64 (cmpL a b)) := by
  unfold lsl
  refine PTri.any (Tri.of_wc Tryz.func81 rfl Tryz.results81 Tryz.ntmps81 (by simp) ?_)
  refine WC.seq_k fun K1 hK2 => ?_
  refine WC.region ?_
  refine wU (gE rfl ?_)
  refine wOps.done ?_
  refine hK2 _ _ _ ?_
  clear hK2 K1
  refine WC.seq_k fun K3 hK4 => ?_
  refine WC.seq_k fun K5 hK6 => ?_
  refine WC.region ?_
  refine wU (gE rfl ?_)
  refine wU (gLen rfl rfl (by rw [lenFits, tslice22]; rfl) ?_)
  refine wU (gE rfl ?_)
  refine wOps.done ?_
  refine hK6 _ _ _ ?_
  clear hK6 K5
  refine WC.block ?_
  refine WC.loopI (α := Nat) (fun i => [(0, .fslice (lcs a) a.length), (1, .fslice (lcs b) b.length), (2, .clo 82 []), (11, .fslice (lcs a) a.length), (12, .int .i64 a.length), (13, .int .i64 i)]) (fun _ => []) (fun i => a.length - i) (fun i => i ≤ a.length ∧ i ≤ b.length ∧ cmpL a b = cmpL (a.drop i) (b.drop i)) 0 ?_ ?_ ?_ ?_
  · exact sub_cons rfl (sub_cons rfl (sub_cons rfl (sub_cons rfl (sub_cons rfl (sub_cons rfl (sub_nil _))))))
  · exact Ent.refl _ _
  · exact ⟨by simp, by simp, by simp⟩
  rintro i ⟨hia, hib, hc⟩
  refine WC.seq_k fun K7 hK8 => ?_
  refine WC.region ?_
  refine wU (gE rfl ?_)
  refine wOps.done ?_
  refine hK8 _ _ _ ?_
  clear hK8 K7
  refine WC.seq_k fun K9 hK10 => ?_
  refine WC.cond rfl (fun c11 => ?_) (fun c11 => ?_)
  · skip
    refine WC.skip ?_
    refine hK10 _ _ _ ?_
    clear hK10 K9
    refine WC.seq_k fun K12 hK13 => ?_
    refine WC.block ?_
    refine WC.seq_k fun K14 hK15 => ?_
    refine WC.region ?_
    refine wU (gE rfl ?_)
    have h1 : i < a.length := by simpa using c11
    refine wU (gIdxF tslice22 tsz51 rfl rfl (by omega) (by omega) ?_)
    refine wU (gLoadAF tagg51 tsz51 rfl (by rw [lcs_length]; omega) (lcs_pair h1) ?_)
    refine wU (gAlloc tzero51 fun b16 hb16 => ?_)
    refine wU (gE rfl ?_)
    refine wU (gStore rfl rfl (by simp only [hget, ↓reduceIte] <;> rfl) tsz51 (by simp [vcells]) (by simp [vcells, leafV]) ?_)
    simp only [hset, stL, vcells, List.set_cons_zero, List.set_cons_succ, ↓reduceIte]
    refine wOps.done ?_
    refine hK15 _ _ _ ?_
    clear hK15 K14
    refine WC.seq_k fun K17 hK18 => ?_
    refine WC.seq_k fun K19 hK20 => ?_
    refine WC.region ?_
    refine wU (gE rfl ?_)
    refine wU (gE rfl ?_)
    refine wU (gLen rfl rfl (by rw [lenFits, tslice22]; rfl) ?_)
    refine wU (gE rfl ?_)
    refine wOps.done ?_
    refine hK20 _ _ _ ?_
    clear hK20 K19
    refine WC.cond rfl (fun c21 => ?_) (fun c21 => ?_)
    · skip
      refine WC.seq_k fun K22 hK23 => ?_
      refine WC.region ?_
      refine wU (gE rfl ?_)
      refine wOps.done ?_
      refine hK23 _ _ _ ?_
      clear hK23 K22
      refine WC.ret ?_
      exact ⟨_, rfl, by rw [hc, cmpL_end (by omega) (by omega) (by have := of_decide_eq_true c21; omega), if_neg (by have := of_decide_eq_true c21; omega), if_pos (by have := of_decide_eq_true c21; omega)]⟩
    · skip
      refine WC.skip ?_
      refine hK18 _ _ _ ?_
      clear hK18 K17
      refine WC.seq_k fun K24 hK25 => ?_
      refine WC.region ?_
      refine wU (gE rfl ?_)
      refine wU (gE rfl ?_)
      have h2 : i < b.length := by have := of_decide_eq_false c21; omega
      refine wU (gIdxF tslice22 tsz51 rfl rfl (by omega) (by omega) ?_)
      refine wU (gLoadAF tagg51 tsz51 rfl (by rw [lcs_length]; omega) (lcs_pair h2) ?_)
      refine wU (gAlloc tzero51 fun b26 hb26 => ?_)
      simp only [Hp.ns_cons, Hp.ns_nil, List.mem_cons, List.not_mem_nil, or_false, not_or] at hb26
      refine wU (gStore rfl rfl (by simp only [hget, hb26, ↓reduceIte] <;> rfl) tsz51 (by simp [vcells]) (by simp [vcells, leafV]) ?_)
      simp only [hset, stL, vcells, List.set_cons_zero, List.set_cons_succ, hb26, ↓reduceIte]
      refine wOps.done ?_
      refine hK25 _ _ _ ?_
      clear hK25 K24
      refine WC.seq_k fun K27 hK28 => ?_
      refine WC.region ?_
      refine wU (gE rfl ?_)
      refine wU (gLoadA tagg51 tsz51 rfl (by simp only [hget, hb26, ↓reduceIte] <;> rfl) (by simp [putL]) rfl ?_)
      refine wU (gLoadA tagg51 tsz51 rfl (by simp only [hget, hb26, ↓reduceIte] <;> rfl) (by simp [putL]) rfl ?_)
      refine wU (gPureV rfl rfl isGo82 (cmpP_tri a[i] b[i]) ?_)
      refine wU (gE rfl ?_)
      refine wOps.done ?_
      refine hK28 _ _ _ ?_
      clear hK28 K27
      refine WC.seq_k fun K29 hK30 => ?_
      refine WC.region ?_
      refine wU (gE rfl ?_)
      refine wU (gE rfl ?_)
      refine wOps.done ?_
      refine hK30 _ _ _ ?_
      clear hK30 K29
      refine WC.cond rfl (fun c31 => ?_) (fun c31 => ?_)
      · skip
        refine WC.seq_k fun K32 hK33 => ?_
        refine WC.region ?_
        refine wU (gE rfl ?_)
        refine wU (gE rfl ?_)
        refine wOps.done ?_
        refine hK33 _ _ _ ?_
        clear hK33 K32
        refine WC.ret ?_
        exact ⟨_, rfl, by rw [hc, cmpL_step2 h1 h2, lexI_pos (by simpa using c31)]⟩
      · skip
        refine WC.skip ?_
        refine hK13 _ _ _ ?_
        clear hK13 K12
        refine WC.region ?_
        refine wU (gE rfl ?_)
        refine wU (gE rfl ?_)
        refine wOps.done ?_
        exact ⟨i + 1, rfl, by omega, ⟨by omega, by omega, by rw [hc, cmpL_step2 h1 h2, lexI_zero (by simpa using c31)]⟩, (Ent.sub (sub_cons rfl (sub_cons rfl (sub_cons rfl (sub_cons rfl (sub_cons rfl (sub_cons (int_fit (by omega) (by omega) (by omega)) (sub_nil _)))))))).trans (Ent.drop (List.nil_sublist _))⟩
  · skip
    refine WC.exit ?_
    refine hK4 _ _ _ ?_
    clear hK10 K9 hK4 K3
    refine WC.seq_k fun K34 hK35 => ?_
    refine WC.seq_k fun K36 hK37 => ?_
    skip
    refine WC.region ?_
    refine wU (gE rfl ?_)
    refine wU (gLen rfl rfl (by rw [lenFits, tslice22]; rfl) ?_)
    refine wU (gE rfl ?_)
    refine wU (gLen rfl rfl (by rw [lenFits, tslice22]; rfl) ?_)
    refine wU (gE rfl ?_)
    refine wOps.done ?_
    refine hK37 _ _ _ ?_
    clear hK37 K36
    refine WC.cond rfl (fun c38 => ?_) (fun c38 => ?_)
    · skip
      refine WC.seq_k fun K39 hK40 => ?_
      refine WC.region ?_
      refine wU (gE rfl ?_)
      refine wOps.done ?_
      refine hK40 _ _ _ ?_
      clear hK40 K39
      refine WC.ret ?_
      exact ⟨_, rfl, by rw [hc, cmpL_end (by omega) (by omega) (by have := of_decide_eq_false c11; omega), if_pos (by have := of_decide_eq_true c38; omega)]⟩
    · skip
      refine WC.skip ?_
      refine hK35 _ _ _ ?_
      clear hK35 K34
      refine WC.seq_k fun K41 hK42 => ?_
      refine WC.region ?_
      refine wU (gE rfl ?_)
      refine wOps.done ?_
      refine hK42 _ _ _ ?_
      clear hK42 K41
      refine WC.ret ?_
      exact ⟨_, rfl, by rw [hc, cmpL_end (by omega) (by omega) (by have := of_decide_eq_false c11; omega), if_neg (by have := of_decide_eq_false c38; omega), if_neg (by have := of_decide_eq_false c11; omega)]⟩
theorem cmpLs_tri (a b : List Lb) (ha : a.length ≤ 4294967295) : PTri Tryz.prog 56 [lsl a, lsl b] (.int .i64 (cmpL a b)) := by
  refine PTri.any (Tri.of_wc Tryz.func56 rfl Tryz.results56 Tryz.ntmps56 (by simp) ?_)
  refine WC.seq_k fun K1 hK2 => ?_
  refine WC.region ?_
  refine wU (gE rfl ?_)
  refine wOps.done ?_
  refine hK2 _ _ _ ?_
  clear hK2 K1
  refine WC.seq_k fun K3 hK4 => ?_
  refine WC.region ?_
  refine wU (gE rfl ?_)
  refine wU (gE rfl ?_)
  refine wU (gPure rfl isGo81 (cmpF_tri a b ha) ?_)
  refine wU (gE rfl ?_)
  refine wOps.done ?_
  refine hK4 _ _ _ ?_
  clear hK4 K3
  refine WC.ret ?_
  exact ⟨_, rfl, rfl⟩
theorem beqL_step {a b : List Lb} {i : Nat} (h1 : i < a.length) (h2 : i < b.length) : (a.drop i == b.drop i) = ((a[i].1 == b[i].1 && a[i].2 == b[i].2) && (a.drop (i + 1) == b.drop (i + 1))) := by
  rw [List.drop_eq_getElem_cons h1, List.drop_eq_getElem_cons h2]
  rfl
theorem tflds51 : tflds Tryz.prog 51 = some [(0, 9), (1, 9)] := by kernel_rfl
theorem evne (a b c d : By) : evBin Tryz.prog .neq 51 (.agg [.str a, .str b]) (.agg [.str c, .str d]) = some (.bool (!(a == c && b == d))) := by
  simp [evBin, eqFine, evEq, evEqF, tflds51, evPart, tagg9, tisstr9]
theorem eqLs_tri (a b : List Lb) (ha : a.length ≤ 4294967295) : PTri Tryz.prog 57 [lsl a, lsl b] (.bool (a == b)) := by
  unfold lsl
  refine PTri.any (Tri.of_wc Tryz.func57 rfl Tryz.results57 Tryz.ntmps57 (by simp) ?_)
  refine WC.seq_k fun K1 hK2 => ?_
  refine WC.region ?_
  refine wU (gE rfl ?_)
  refine wOps.done ?_
  refine hK2 _ _ _ ?_
  clear hK2 K1
  refine WC.seq_k fun K3 hK4 => ?_
  refine WC.seq_k fun K5 hK6 => ?_
  refine WC.region ?_
  refine wU (gE rfl ?_)
  refine wU (gLen rfl rfl (by rw [lenFits, tslice22]; rfl) ?_)
  refine wU (gE rfl ?_)
  refine wU (gLen rfl rfl (by rw [lenFits, tslice22]; rfl) ?_)
  refine wU (gE rfl ?_)
  refine wOps.done ?_
  refine hK6 _ _ _ ?_
  clear hK6 K5
  refine WC.cond rfl (fun c7 => ?_) (fun c7 => ?_)
  · skip
    refine WC.seq_k fun K8 hK9 => ?_
    refine WC.region ?_
    refine wU (gE rfl ?_)
    refine wOps.done ?_
    refine hK9 _ _ _ ?_
    clear hK9 K8
    refine WC.ret ?_
    refine ⟨_, rfl, congrArg V.bool ?_⟩
    have hne : a ≠ b := by intro e; subst e; simp at c7
    simp [hne]
  · skip
    refine WC.skip ?_
    refine hK4 _ _ _ ?_
    clear hK4 K3
    refine WC.seq_k fun K10 hK11 => ?_
    refine WC.seq_k fun K12 hK13 => ?_
    have hab : a.length = b.length := by (have h : (a.length : Int) = b.length := (by simpa using c7)); omega
    refine WC.region ?_
    refine wU (gE rfl ?_)
    refine wU (gLen rfl rfl (by rw [lenFits, tslice22]; rfl) ?_)
    refine wU (gE rfl ?_)
    refine wOps.done ?_
    refine hK13 _ _ _ ?_
    clear hK13 K12
    refine WC.block ?_
    refine WC.loopI (α := Nat) (fun i => [(0, .fslice (lcs a) a.length), (1, .fslice (lcs b) b.length), (12, .int .i64 a.length), (13, .int .i64 i)]) (fun _ => []) (fun i => a.length - i) (fun i => i ≤ a.length ∧ (a == b) = (a.drop i == b.drop i)) 0 ?_ ?_ ?_ ?_
    · exact sub_cons rfl (sub_cons rfl (sub_cons rfl (sub_cons rfl (sub_nil _))))
    · exact Ent.refl _ _
    · exact ⟨by simp, by simp⟩
    rintro i ⟨hia, hc⟩
    refine WC.seq_k fun K14 hK15 => ?_
    refine WC.region ?_
    refine wU (gE rfl ?_)
    refine wOps.done ?_
    refine hK15 _ _ _ ?_
    clear hK15 K14
    refine WC.seq_k fun K16 hK17 => ?_
    refine WC.cond rfl (fun c18 => ?_) (fun c18 => ?_)
    · skip
      refine WC.skip ?_
      refine hK17 _ _ _ ?_
      clear hK17 K16
      refine WC.seq_k fun K19 hK20 => ?_
      refine WC.block ?_
      refine WC.seq_k fun K21 hK22 => ?_
      refine WC.region ?_
      refine wU (gE rfl ?_)
      refine wU (gE rfl ?_)
      refine wOps.done ?_
      refine hK22 _ _ _ ?_
      clear hK22 K21
      refine WC.seq_k fun K23 hK24 => ?_
      refine WC.region_draw mixed ?_
      refine wA.val 0 rfl rfl rfl (fun _ _ hK => gE rfl hK) (by kernel_rfl) ?_
      refine wA.val 1 rfl rfl rfl (fun _ _ hK => gE rfl hK) (by kernel_rfl) ?_
      have h1 : i < a.length := by simpa using c18
      have h2 : i < b.length := by omega
      refine wA.val 2 rfl rfl rfl (fun _ _ hK => gIdxF tslice22 tsz51 rfl rfl (by omega) (by omega) hK) (by kernel_rfl) ?_
      refine wA.val 3 rfl rfl rfl (fun _ _ hK => gLoadAF tagg51 tsz51 rfl (by rw [lcs_length]; omega) (lcs_pair h1) hK) (by kernel_rfl) ?_
      refine wA.val 4 rfl rfl rfl (fun _ _ hK => gE rfl hK) (by kernel_rfl) ?_
      refine wA.val 5 rfl rfl rfl (fun _ _ hK => gE rfl hK) (by kernel_rfl) ?_
      refine wA.val 6 rfl rfl rfl (fun _ _ hK => gIdxF tslice22 tsz51 rfl rfl (by omega) (by omega) hK) (by kernel_rfl) ?_
      refine wA.val 7 rfl rfl rfl (fun _ _ hK => gLoadAF tagg51 tsz51 rfl (by rw [lcs_length]; omega) (lcs_pair h2) hK) (by kernel_rfl) ?_
      refine wA.val 8 rfl rfl rfl (fun _ _ hK => gE (evne _ _ _ _) hK) (by kernel_rfl) ?_
      refine wA.done (by kernel_rfl) ?_
      refine hK24 _ _ _ ?_
      clear hK24 K23
      refine WC.cond rfl (fun c25 => ?_) (fun c25 => ?_)
      · skip
        refine WC.seq_k fun K26 hK27 => ?_
        refine WC.region ?_
        refine wU (gE rfl ?_)
        refine wOps.done ?_
        refine hK27 _ _ _ ?_
        clear hK27 K26
        refine WC.ret ?_
        have hx : (a[i].1 == b[i].1 && a[i].2 == b[i].2) = false := by rw [← Bool.not_eq_true']; exact c25
        exact ⟨_, rfl, congrArg V.bool (by rw [hc, beqL_step h1 h2, hx, Bool.false_and])⟩
      · skip
        refine WC.skip ?_
        refine hK20 _ _ _ ?_
        clear hK20 K19
        refine WC.region ?_
        refine wU (gE rfl ?_)
        refine wU (gE rfl ?_)
        refine wOps.done ?_
        have hx : (a[i].1 == b[i].1 && a[i].2 == b[i].2) = true := by rw [← Bool.not_eq_false']; exact c25
        exact ⟨i + 1, rfl, by omega, ⟨by omega, by rw [hc, beqL_step h1 h2, hx, Bool.true_and]⟩, Ent.sub (sub_cons rfl (sub_cons rfl (sub_cons rfl (sub_cons (int_fit (by omega) (by omega) (by omega)) (sub_nil _)))))⟩
    · skip
      refine WC.exit ?_
      refine hK11 _ _ _ ?_
      clear hK17 K16 hK11 K10
      refine WC.seq_k fun K28 hK29 => ?_
      refine WC.region ?_
      refine wU (gE rfl ?_)
      refine wOps.done ?_
      refine hK29 _ _ _ ?_
      clear hK29 K28
      refine WC.ret ?_
      exact ⟨_, rfl, congrArg V.bool (by rw [hc, List.drop_of_length_le (by have := of_decide_eq_false c18; omega), List.drop_of_length_le (by have := of_decide_eq_false c18; omega)]; rfl)⟩
end Go.Proofs.YtfdmdcpopmcmcaaGreatDoor
end
