/- A part of the proof: Y11, PDec, W21, W22, Y12, Y13, Y14, Y15, Y16 -/
import Derived.Test.YtfdmdcpopmcmcaaGreatDoorPartJB
import Derived.Laws.RangeString
set_option linter.all false
set_option linter.unusedSectionVars false
set_option linter.unusedVariables false
set_option linter.unusedSimpArgs false
section
namespace Go.Proofs.YtfdmdcpopmcmcaaGreatDoor
open Go.Fw
variable [Gl]
theorem isGo46 : isGo Tryz.prog 46 = true := by kernel_rfl
set_option maxRecDepth 20000
theorem addS (a b : By) (h : a.length + b.length ≤ 9223372036854775807) : evStr .add a b = some (.str (a ++ b)) := if_pos h
theorem esc_le : ∀ s : By, (s.flatMap escB).length ≤ 2 * s.length
  | [] => by simp
  | c :: r => by
    have := esc_le r
    have h2 : (escB c).length ≤ 2 := by unfold escB; split; simp; split <;> simp
    simp only [List.flatMap_cons, List.length_append, List.length_cons]
    omega
theorem quote_le (s : By) : (quoteV s).length ≤ 2 * s.length + 2 := by
  have := esc_le s
  unfold quoteV
  split
  · omega
  · simp only [List.length_cons, List.length_append, List.length_nil]; omega
theorem plain_cont (s : By) : plainV s = (!(s.contains 32 || s.contains 10) && !(s.head? == some 34)) := by
  have e : (s.any fun c => c == 32 || c == 10) = (s.contains 32 || s.contains 10) := by
    rw [Bool.eq_iff_iff, List.any_eq_true, Bool.or_eq_true, List.contains_iff_mem, List.contains_iff_mem]
    constructor
    · rintro ⟨c, hc, h⟩
      rw [Bool.or_eq_true, beq_iff_eq, beq_iff_eq] at h
      rcases h with rfl | rfl
      · exact .inl hc
      · exact .inr hc
    · rintro (h | h)
      · exact ⟨32, h, by simp⟩
      · exact ⟨10, h, by simp⟩
  unfold plainV
  rw [e]
theorem cont2_tri (s : By) (c : UInt8) (hs : s.length ≤ 4294967295) : PTri Tryz.prog 45 [.str s, .int .u8 c.toNat] (.bool (s.contains c)) := by
  refine Tri.of_wc Tryz.func45 rfl Tryz.results45 Tryz.ntmps45 (by simp) ?_
  refine WC.seq_k fun K1 hK2 => ?_
  refine WC.region ?_
  refine wU (gE rfl ?_)
  refine wOps.done ?_
  refine hK2 _ _ _ ?_
  clear hK2 K1
  refine WC.seq_k fun K3 hK4 => ?_
  refine WC.seq_k fun K5 hK6 => ?_
  refine WC.region ?_
  refine wU (gE rfl ?_)
  refine wOps.done ?_
  refine hK6 _ _ _ ?_
  clear hK6 K5
  refine WC.block ?_
  refine WC.loopI (fun k : Nat => [(0, .str s), (1, .int .u8 c.toNat), (5, .int .i64 k)]) (fun _ => []) (fun k => s.length - k) (fun k => k ≤ s.length ∧ (s.take k).contains c = false) 0 ?_ ?_ ?_ ?_
  · exact sub_cons rfl (sub_cons rfl (sub_cons rfl (sub_nil _)))
  · exact Ent.refl _ _
  · exact ⟨Nat.zero_le _, by simp⟩
  rintro k ⟨hk1, hk4⟩
  refine WC.seq_k fun K7 hK8 => ?_
  refine WC.seq_k fun K9 hK10 => ?_
  refine WC.region ?_
  refine wU (gE rfl ?_)
  refine wU (gE rfl ?_)
  refine wU (gLen rfl rfl tisstr9 ?_)
  refine wU (gE rfl ?_)
  refine wOps.done ?_
  refine hK10 _ _ _ ?_
  clear hK10 K9
  refine WC.cond rfl (fun c11 => ?_) (fun c11 => ?_)
  · skip
    refine WC.skip ?_
    refine hK8 _ _ _ ?_
    clear hK8 K7
    refine WC.seq_k fun K12 hK13 => ?_
    refine WC.block ?_
    refine WC.seq_k fun K14 hK15 => ?_
    refine WC.region ?_
    refine wU (gE rfl ?_)
    refine wU (gE rfl ?_)
    have hk : k < s.length := by simpa using c11
    refine wU (gIdxStr tisstr9 rfl rfl (by omega) (str_at hk) ?_)
    refine wU (gE rfl ?_)
    refine wU (gE rfl ?_)
    refine wOps.done ?_
    refine hK15 _ _ _ ?_
    clear hK15 K14
    refine WC.cond rfl (fun c16 => ?_) (fun c16 => ?_)
    · skip
      refine WC.seq_k fun K17 hK18 => ?_
      refine WC.region ?_
      refine wU (gE rfl ?_)
      refine wOps.done ?_
      refine hK18 _ _ _ ?_
      clear hK18 K17
      refine WC.ret ?_
      refine ⟨_, rfl, congrArg V.bool ?_, rfl⟩
      have hx : s[k] = c := by have h : (s[k].toNat : Int) = c.toNat := (by simpa using c16); exact UInt8.toNat_inj.1 (by omega)
      symm; rw [List.contains_iff_mem]; exact hx ▸ List.getElem_mem hk
    · skip
      refine WC.skip ?_
      refine hK13 _ _ _ ?_
      clear hK13 K12
      refine WC.region ?_
      refine wU (gE rfl ?_)
      refine wU (gE rfl ?_)
      refine wU (gE rfl ?_)
      refine wOps.done ?_
      have hx : s[k] ≠ c := by have h : ¬ (s[k].toNat : Int) = c.toNat := (by simpa using c16); exact fun e => h (by rw [e])
      exact ⟨k + 1, rfl, by omega, ⟨by omega, by rw [List.take_succ_eq_append_getElem hk]; simp only [List.contains_eq_mem, decide_eq_false_iff_not, List.mem_append, List.mem_singleton, not_or] at hk4 ⊢; exact ⟨hk4, fun e => hx e.symm⟩⟩, Ent.sub (sub_cons rfl (sub_cons rfl (sub_cons (int_fit (by omega) (by omega) (by omega)) (sub_nil _))))⟩
  · skip
    refine WC.exit ?_
    refine hK4 _ _ _ ?_
    clear hK8 K7 hK4 K3
    refine WC.seq_k fun K19 hK20 => ?_
    refine WC.region ?_
    refine wU (gE rfl ?_)
    refine wOps.done ?_
    refine hK20 _ _ _ ?_
    clear hK20 K19
    refine WC.ret ?_
    have hx : k = s.length := by have := of_decide_eq_false c11; omega
    rw [hx, List.take_length] at hk4
    exact ⟨_, rfl, by rw [hk4], rfl⟩
theorem escaped_tri (s : By) (hs : s.length ≤ 1000000) : PTri Tryz.prog 46 [.str s] (.str (34 :: (s.flatMap escB ++ [34]))) := by
  have hesc : ∀ c : UInt8, escB c = (if c = 92 ∨ c = 34 ∨ c = 10 then [92] else []) ++ [if c = 10 then 110 else c] := fun c => by
    unfold escB
    by_cases h1 : c = 92 ∨ c = 34
    · have h2 : ¬ c = 10 := by rintro rfl; simp at h1
      have h3 : c = 92 ∨ c = 34 ∨ c = 10 := h1.elim .inl fun h => .inr (.inl h)
      rw [if_pos h1, if_pos h3, if_neg h2]; rfl
    · rw [if_neg h1]
      by_cases h2 : c = 10
      · have h3 : c = 92 ∨ c = 34 ∨ c = 10 := .inr (.inr h2)
        rw [if_pos h2, if_pos h3, if_pos h2]; rfl
      · have h3 : ¬ (c = 92 ∨ c = 34 ∨ c = 10) := by rintro (h | h | h); exact h1 (.inl h); exact h1 (.inr h); exact h2 h
        rw [if_neg h2, if_neg h3, if_neg h2]; rfl
  refine PTri.any (Tri.of_wc Tryz.func46 rfl Tryz.results46 Tryz.ntmps46 (by simp) ?_)
  refine WC.seq_k fun K1 hK2 => ?_
  refine WC.region ?_
  refine wU (gE rfl ?_)
  refine wOps.done ?_
  refine hK2 _ _ _ ?_
  clear hK2 K1
  refine WC.seq_k fun K3 hK4 => ?_
  refine WC.region ?_
  refine wU (gBuildSlice (cs := [.int .u8 34]) tslice66 tsz5 tzero5 rfl (by simp [evFill, putL, zcells, vcells]) (by decide) (by decide) fun p0 hp0 => ?_)
  refine wU (gE rfl ?_)
  refine wOps.done ?_
  refine hK4 _ _ _ ?_
  clear hK4 K3
  refine WC.seq_k fun K5 hK6 => ?_
  refine WC.seq_k fun K7 hK8 => ?_
  refine WC.region ?_
  refine wU (gE rfl ?_)
  refine wOps.done ?_
  refine hK8 _ _ _ ?_
  clear hK8 K7
  refine WC.block ?_
  refine WC.loopI (α := Nat × By × BS) (fun a => [(0, .str s), (3, bsV a.2.2 a.2.1), (4, .int .i64 a.1)]) (fun a => bsH 5 a.2.2 a.2.1) (fun a => s.length - a.1) (fun a => a.1 ≤ s.length ∧ a.2.1 = 34 :: (s.take a.1).flatMap escB ∧ a.2.1.length ≤ 1 + 2 * a.1 ∧ (a.2.2 = none → a.2.1 = [])) (0, [34], some (p0, 1)) ?_ ?_ ?_ ?_
  · exact sub_cons rfl (sub_cons rfl (sub_cons rfl (sub_nil _)))
  · exact Ent.refl _ _
  · exact ⟨Nat.zero_le _, by simp, by simp, by simp⟩
  rintro ⟨i, X, o⟩ ⟨his, hX, hXl, ho⟩
  simp only at his hX hXl ho ⊢
  refine WC.seq_k fun K9 hK10 => ?_
  refine WC.seq_k fun K11 hK12 => ?_
  refine WC.region ?_
  refine wU (gE rfl ?_)
  refine wU (gE rfl ?_)
  refine wU (gLen rfl rfl tisstr9 ?_)
  refine wU (gE rfl ?_)
  refine wOps.done ?_
  refine hK12 _ _ _ ?_
  clear hK12 K11
  refine WC.cond rfl (fun c13 => ?_) (fun c13 => ?_)
  · skip
    refine WC.skip ?_
    refine hK10 _ _ _ ?_
    clear hK10 K9
    refine WC.seq_k fun K14 hK15 => ?_
    refine WC.block ?_
    refine WC.seq_k fun K16 hK17 => ?_
    refine WC.region ?_
    refine wU (gE rfl ?_)
    refine wU (gE rfl ?_)
    have hi : i < s.length := by simpa using c13
    refine wU (gIdxStr tisstr9 rfl rfl (by omega) (str_at hi) ?_)
    refine wU (gE rfl ?_)
    refine wOps.done ?_
    refine hK17 _ _ _ ?_
    clear hK17 K16
    refine WC.seq_cut (α := BS × By) (fun a => [(0, .str s), (3, bsV a.1 a.2), (4, .int .i64 i), (5, .int .u8 s[i].toNat)]) (fun a => bsH 5 a.1 a.2) (fun a => X ++ escB s[i] = a.2 ++ [if s[i] = 10 then 110 else s[i]] ∧ a.2.length ≤ 2 + 2 * i ∧ (a.1 = none → a.2 = [])) ?_ ?_
    · skip
      refine WC.seq_k fun K18 hK19 => ?_
      refine WC.region ?_
      refine wU (gE rfl ?_)
      refine wU (gE rfl ?_)
      refine wU (gE rfl ?_)
      refine wG rfl rfl rfl rfl (by decide) (fun c20 => ?_) (fun c20 => ?_)
      · skip
        refine gE rfl ?_
        refine wY rfl (gE rfl ?_)
        refine wU (gE rfl ?_)
        refine wU (gE rfl ?_)
        refine wG rfl rfl rfl rfl (by decide) (fun c21 => ?_) (fun c21 => ?_)
        · skip
          refine gE rfl ?_
          refine wY rfl (gE rfl ?_)
          refine wU (gE rfl ?_)
          refine wOps.done ?_
          refine hK19 _ _ _ ?_
          clear hK19 K18
          refine WC.cond rfl (fun c22 => ?_) (fun c22 => ?_)
          · skip
            refine WC.region ?_
            refine wU (gE rfl ?_)
            refine wU (gBuildSlice (cs := [.int .u8 92]) tslice66 tsz5 tzero5 rfl (by simp [evFill, putL, zcells, vcells]) (by decide) (by decide) fun b23 hb23 => ?_)
            refine wU (gOp (OpS.appBs (s := o) (acc := X) (bs := [92]) (hx := [(b23, .cells 5 [.int .u8 92] 1)]) ⟨rfl⟩ el66 appT66 rfl rfl rfl (fun q N e => by subst e; simp [bsH] at hb23; simp; exact fun e => hb23 e.symm) ho (by simp [evSrc, hget, byteCells]) (by simp only [List.length_cons, List.length_nil]; omega) fun o3 ho3 ho3n => ?_) rfl)
            refine wU (gE rfl ?_)
            refine wOps.done ?_
            have h3 : s[i] = 92 ∨ s[i] = 34 ∨ s[i] = 10 := by simp_all [u8_34, u8_92, u8_10]
            exact ⟨(o3, X ++ [92]), rfl, ⟨by rw [hesc, if_pos h3]; simp, by simp; omega, ho3n⟩, (Ent.sub (sub_cons rfl (sub_cons rfl (sub_cons rfl (sub_cons rfl (sub_nil _)))))).trans (Ent.drop (List.sublist_append_left _ _))⟩
          · skip
            refine WC.skip ?_
            have h3 : ¬ (s[i] = 92 ∨ s[i] = 34 ∨ s[i] = 10) := by simp_all [u8_34, u8_92, u8_10]
            exact ⟨(o, X), rfl, ⟨by rw [hesc, if_neg h3]; simp, by simp only; omega, ho⟩, Ent.sub (sub_cons rfl (sub_cons rfl (sub_cons rfl (sub_cons rfl (sub_nil _)))))⟩
        · skip
          refine wN rfl ?_
          refine wU (gE rfl ?_)
          refine wOps.done ?_
          refine hK19 _ _ _ ?_
          clear hK19 K18
          first | refine WC.cond (b := true) rfl (fun _ => ?_) (fun hh => by simp at hh) | refine WC.cond rfl (fun _ => ?_) (fun hh => by simp_all)
          refine WC.region ?_
          refine wU (gE rfl ?_)
          refine wU (gBuildSlice (cs := [.int .u8 92]) tslice66 tsz5 tzero5 rfl (by simp [evFill, putL, zcells, vcells]) (by decide) (by decide) fun b24 hb24 => ?_)
          refine wU (gOp (OpS.appBs (s := o) (acc := X) (bs := [92]) (hx := [(b24, .cells 5 [.int .u8 92] 1)]) ⟨rfl⟩ el66 appT66 rfl rfl rfl (fun q N e => by subst e; simp [bsH] at hb24; simp; exact fun e => hb24 e.symm) ho (by simp [evSrc, hget, byteCells]) (by simp only [List.length_cons, List.length_nil]; omega) fun o3 ho3 ho3n => ?_) rfl)
          refine wU (gE rfl ?_)
          refine wOps.done ?_
          have h3 : s[i] = 92 ∨ s[i] = 34 ∨ s[i] = 10 := by simp_all [u8_34, u8_92, u8_10]
          exact ⟨(o3, X ++ [92]), rfl, ⟨by rw [hesc, if_pos h3]; simp, by simp; omega, ho3n⟩, (Ent.sub (sub_cons rfl (sub_cons rfl (sub_cons rfl (sub_cons rfl (sub_nil _)))))).trans (Ent.drop (List.sublist_append_left _ _))⟩
      · skip
        refine wN rfl ?_
        refine wU (gE rfl ?_)
        refine wU (gE rfl ?_)
        refine wN rfl ?_
        refine wN rfl ?_
        refine wU (gE rfl ?_)
        refine wOps.done ?_
        refine hK19 _ _ _ ?_
        clear hK19 K18
        first | refine WC.cond (b := true) rfl (fun _ => ?_) (fun hh => by simp at hh) | refine WC.cond rfl (fun _ => ?_) (fun hh => by simp_all)
        refine WC.region ?_
        refine wU (gE rfl ?_)
        refine wU (gBuildSlice (cs := [.int .u8 92]) tslice66 tsz5 tzero5 rfl (by simp [evFill, putL, zcells, vcells]) (by decide) (by decide) fun b25 hb25 => ?_)
        refine wU (gOp (OpS.appBs (s := o) (acc := X) (bs := [92]) (hx := [(b25, .cells 5 [.int .u8 92] 1)]) ⟨rfl⟩ el66 appT66 rfl rfl rfl (fun q N e => by subst e; simp [bsH] at hb25; simp; exact fun e => hb25 e.symm) ho (by simp [evSrc, hget, byteCells]) (by simp only [List.length_cons, List.length_nil]; omega) fun o3 ho3 ho3n => ?_) rfl)
        refine wU (gE rfl ?_)
        refine wOps.done ?_
        have h3 : s[i] = 92 ∨ s[i] = 34 ∨ s[i] = 10 := by simp_all [u8_34, u8_92, u8_10]
        exact ⟨(o3, X ++ [92]), rfl, ⟨by rw [hesc, if_pos h3]; simp, by simp; omega, ho3n⟩, (Ent.sub (sub_cons rfl (sub_cons rfl (sub_cons rfl (sub_cons rfl (sub_nil _)))))).trans (Ent.drop (List.sublist_append_left _ _))⟩
    rintro ⟨o2, Y⟩ ⟨hY, hYl, hY2⟩
    simp only at hY hYl hY2 ⊢
    refine WC.seq_cut (α := UInt8) (fun c => [(0, .str s), (3, bsV o2 Y), (4, .int .i64 i), (5, .int .u8 c.toNat)]) (fun _ => bsH 5 o2 Y) (fun c => X ++ escB s[i] = Y ++ [c]) ?_ ?_
    · skip
      refine WC.seq_k fun K26 hK27 => ?_
      refine WC.region ?_
      refine wU (gE rfl ?_)
      refine wU (gE rfl ?_)
      refine wOps.done ?_
      refine hK27 _ _ _ ?_
      clear hK27 K26
      refine WC.cond rfl (fun c28 => ?_) (fun c28 => ?_)
      · skip
        skip
        refine WC.region ?_
        refine wU (gE rfl ?_)
        refine wOps.done ?_
        have h10 : s[i] = 10 := by simpa [u8_10] using c28
        exact ⟨110, rfl, by rw [hY, if_pos h10], Ent.sub (sub_cons rfl (sub_cons rfl (sub_cons rfl (sub_cons rfl (sub_nil _)))))⟩
      · skip
        refine WC.skip ?_
        have h10 : ¬ s[i] = 10 := by simpa [u8_10] using c28
        exact ⟨s[i], rfl, by rw [hY, if_neg h10], Ent.sub (sub_cons rfl (sub_cons rfl (sub_cons rfl (sub_cons rfl (sub_nil _)))))⟩
    rintro c hYc
    refine WC.region ?_
    refine wU (gE rfl ?_)
    refine wU (gE rfl ?_)
    refine wU (gBuildSlice (cs := [.int .u8 c.toNat]) tslice66 tsz5 tzero5 rfl (by simp [evFill, putL, zcells, vcells]) (by decide) (by decide) fun b29 hb29 => ?_)
    refine wU (gOp (OpS.appBs (s := o2) (acc := Y) (bs := [c]) (hx := [(b29, .cells 5 [.int .u8 c.toNat] 1)]) ⟨rfl⟩ el66 appT66 rfl rfl rfl (fun q N e => by subst e; simp [bsH] at hb29; simp; exact fun e => hb29 e.symm) hY2 (by simp [evSrc, hget, byteCells]) (by simp only [List.length_cons, List.length_nil]; omega) fun o4 ho4 ho4n => ?_) rfl)
    refine wU (gE rfl ?_)
    refine wOps.done ?_
    refine hK15 _ _ _ ?_
    clear hK15 K14
    refine WC.region ?_
    refine wU (gE rfl ?_)
    refine wU (gE rfl ?_)
    refine wU (gE rfl ?_)
    refine wOps.done ?_
    exact ⟨(i + 1, Y ++ [c], o4), rfl, by simp only; omega, ⟨by simp only; omega, by simp only [esc_step hi, ← hYc, hX]; simp, by simp; omega, ho4n⟩, (Ent.sub (sub_cons rfl (sub_cons rfl (sub_cons (int_fit (by omega) (by omega) (by omega)) (sub_nil _))))).trans (Ent.drop (List.sublist_append_left _ _))⟩
  · skip
    refine WC.exit ?_
    refine hK6 _ _ _ ?_
    clear hK10 K9 hK6 K5
    refine WC.seq_k fun K30 hK31 => ?_
    refine WC.region ?_
    refine wU (gE rfl ?_)
    refine wU (gBuildSlice (cs := [.int .u8 34]) tslice66 tsz5 tzero5 rfl (by simp [evFill, putL, zcells, vcells]) (by decide) (by decide) fun b32 hb32 => ?_)
    refine wU (gOp (OpS.appBs (s := o) (acc := X) (bs := [34]) (hx := [(b32, .cells 5 [.int .u8 34] 1)]) ⟨rfl⟩ el66 appT66 rfl rfl rfl (fun q N e => by subst e; simp [bsH] at hb32; simp; exact fun e => hb32 e.symm) ho (by simp [evSrc, hget, byteCells]) (by simp only [List.length_cons, List.length_nil]; omega) fun o5 ho5 ho5n => ?_) rfl)
    refine wU (gOfBs2 (s := o5) (acc := X ++ [34]) (hx := [(b32, .cells 5 [.int .u8 34] 1)]) tslice66 tint5 tisstr9 rfl rfl ho5n ?_)
    refine wU (gE rfl ?_)
    refine wOps.done ?_
    refine hK31 _ _ _ ?_
    clear hK31 K30
    refine WC.ret ?_
    exact ⟨_, rfl, congrArg V.str (by rw [hX, List.take_of_length_le (by have := of_decide_eq_false c13; omega)]; simp)⟩
theorem fmtG_at {l : List Lb} {i : Nat} (h : i < l.length) (b : Bool) : fmtG b (l.drop i) = (if b then [] else [32]) ++ (l[i].1 ++ 61 :: (quoteV l[i].2 ++ fmtG false (l.drop (i + 1)))) := by
  rw [List.drop_eq_getElem_cons h]; rfl
theorem refFmt_tri (l : List Lb) (hl : l.length ≤ 4294967295) (hn : ∀ p ∈ l, p.1.length ≤ 4294967295) : PTri Tryz.prog 13 [lsl l] (.tup [.str (fmtL l).1, .int .i64 (fmtL l).2]) := by
  have hck := chk5_tri l hl hn
  unfold lsl at hck ⊢
  refine PTri.any (Tri.of_wc Tryz.func13 rfl Tryz.results13 Tryz.ntmps13 (by simp) ?_)
  refine WC.seq_k fun K1 hK2 => ?_
  refine WC.region ?_
  refine wU (gE rfl ?_)
  refine wU (gE rfl ?_)
  refine wOps.done ?_
  refine hK2 _ _ _ ?_
  clear hK2 K1
  refine WC.seq_k fun K3 hK4 => ?_
  refine WC.seq_k fun K5 hK6 => ?_
  refine WC.region ?_
  refine wU (gE rfl ?_)
  refine wU (gPure rfl isGo44 hck ?_)
  refine wU (gE rfl ?_)
  refine wOps.done ?_
  refine hK6 _ _ _ ?_
  clear hK6 K5
  refine WC.seq_k fun K7 hK8 => ?_
  refine WC.region ?_
  refine wU (gE rfl ?_)
  refine wU (gE rfl ?_)
  refine wOps.done ?_
  refine hK8 _ _ _ ?_
  clear hK8 K7
  refine WC.cond rfl (fun c9 => ?_) (fun c9 => ?_)
  · skip
    refine WC.seq_k fun K10 hK11 => ?_
    skip
    refine WC.region ?_
    refine wU (gE rfl ?_)
    refine wU (gE rfl ?_)
    refine wU (gE rfl ?_)
    refine wOps.done ?_
    refine hK11 _ _ _ ?_
    clear hK11 K10
    refine WC.ret ?_
    have hne : ¬ chkL l = 0 := by simpa using c9
    exact ⟨_, rfl, by unfold fmtL; rw [if_pos hne]⟩
  · skip
    refine WC.skip ?_
    refine hK4 _ _ _ ?_
    clear hK4 K3
    refine WC.seq_k fun K12 hK13 => ?_
    have h0 : chkL l = 0 := by simpa using c9
    have hok := (chkL_iff l).1 h0
    refine WC.region ?_
    refine wU (gE rfl ?_)
    refine wOps.done ?_
    refine hK13 _ _ _ ?_
    clear hK13 K12
    refine WC.seq_k fun K14 hK15 => ?_
    refine WC.seq_k fun K16 hK17 => ?_
    refine WC.region ?_
    refine wU (gE rfl ?_)
    refine wOps.done ?_
    refine hK17 _ _ _ ?_
    clear hK17 K16
    refine WC.block ?_
    refine WC.loopI (α := Nat × By) (fun a => [(0, .fslice (lcs l) l.length), (5, .str a.2), (6, .int .i64 a.1)]) (fun _ => []) (fun a => l.length - a.1) (fun a => a.1 ≤ l.length ∧ fmtG true l = a.2 ++ fmtG (decide (a.1 = 0)) (l.drop a.1) ∧ a.2.length ≤ 500 * a.1) (0, []) ?_ ?_ ?_ ?_
    · exact sub_cons rfl (sub_cons rfl (sub_cons rfl (sub_nil _)))
    · exact Ent.refl _ _
    · exact ⟨Nat.zero_le _, by simp, by simp⟩
    rintro ⟨i, X⟩ ⟨his, hX, hXl⟩
    simp only at his hX hXl ⊢
    refine WC.seq_k fun K18 hK19 => ?_
    refine WC.seq_k fun K20 hK21 => ?_
    refine WC.region ?_
    refine wU (gE rfl ?_)
    refine wU (gE rfl ?_)
    refine wU (gLen rfl rfl (by rw [lenFits, tslice22]; rfl) ?_)
    refine wU (gE rfl ?_)
    refine wOps.done ?_
    refine hK21 _ _ _ ?_
    clear hK21 K20
    refine WC.cond rfl (fun c22 => ?_) (fun c22 => ?_)
    · skip
      refine WC.skip ?_
      refine hK19 _ _ _ ?_
      clear hK19 K18
      refine WC.seq_k fun K23 hK24 => ?_
      refine WC.block ?_
      refine WC.seq_k fun K25 hK26 => ?_
      have hi : i < l.length := by simpa using c22
      have hall := hok.2.1 _ (List.getElem_mem hi)
      refine WC.region ?_
      refine wU (gE rfl ?_)
      refine wU (gE rfl ?_)
      refine wU (gIdxF tslice22 tsz51 rfl rfl (by omega) (by omega) ?_)
      refine wU (gFieldF tfld51_1 tsz9 rfl ?_)
      refine wU (gLoadF tagg9 rfl (lcs_snd hi) ?_)
      refine wU (gE rfl ?_)
      refine wOps.done ?_
      refine hK26 _ _ _ ?_
      clear hK26 K25
      refine WC.seq_cut (α := Unit) (fun _ => [(0, .fslice (lcs l) l.length), (5, .str X), (6, .int .i64 i), (7, .str (quoteV l[i].2))]) (fun _ => []) (fun _ => True) ?_ ?_
      · skip
        refine WC.seq_k fun K27 hK28 => ?_
        have hhd : l[i].2.head? = some (l[i].2[0]'(List.length_pos_iff.2 hall.2.1)) := by rw [List.head?_eq_getElem?]; exact List.getElem?_eq_getElem _
        refine WC.region ?_
        refine wU (gE rfl ?_)
        refine wU (gPure rfl isGo45 (cont2_tri l[i].2 32 (by omega)) ?_)
        refine wU (gE rfl ?_)
        refine wG rfl rfl rfl rfl (by decide) (fun c29 => ?_) (fun c29 => ?_)
        · skip
          refine gE rfl ?_
          refine wY rfl (gPure rfl isGo45 (cont2_tri l[i].2 10 (by omega)) ?_)
          refine wU (gE rfl ?_)
          refine wU (gE rfl ?_)
          refine wG rfl rfl rfl rfl (by decide) (fun c30 => ?_) (fun c30 => ?_)
          · skip
            refine gE rfl ?_
            have hv0 : 0 < l[i].2.length := List.length_pos_iff.2 hall.2.1
            refine wY rfl (gIdxStr tisstr9 rfl rfl (by omega) (show l[i].2[(0 : Int).toNat]? = some l[i].2[0] from List.getElem?_eq_getElem hv0) ?_)
            refine wY rfl (gE rfl ?_)
            refine wU (gE rfl ?_)
            refine wOps.done ?_
            refine hK28 _ _ _ ?_
            clear hK28 K27
            refine WC.cond rfl (fun c31 => ?_) (fun c31 => ?_)
            · skip
              skip
              refine WC.region ?_
              refine wU (gE rfl ?_)
              refine wU (gPure rfl isGo46 (escaped_tri l[i].2 (by omega)) ?_)
              refine wU (gE rfl ?_)
              refine wOps.done ?_
              have hp : plainV l[i].2 = false := by rw [plain_cont]; simp_all [u8_34]
              exact ⟨(), rfl, trivial, Ent.sub (sub_cons rfl (sub_cons rfl (sub_cons rfl (sub_cons (congrArg (fun x => some (V.str x)) (by unfold quoteV; rw [if_neg (by rw [hp]; simp)])) (sub_nil _)))))⟩
            · skip
              refine WC.skip ?_
              have hp : plainV l[i].2 = true := by rw [plain_cont]; simp_all [u8_34]
              exact ⟨(), rfl, trivial, Ent.sub (sub_cons rfl (sub_cons rfl (sub_cons rfl (sub_cons (congrArg (fun x => some (V.str x)) (by unfold quoteV; rw [if_pos hp])) (sub_nil _)))))⟩
          · skip
            refine wN rfl ?_
            refine wN rfl ?_
            refine wU (gE rfl ?_)
            refine wOps.done ?_
            refine hK28 _ _ _ ?_
            clear hK28 K27
            first | refine WC.cond (b := true) rfl (fun _ => ?_) (fun hh => by simp at hh) | refine WC.cond rfl (fun _ => ?_) (fun hh => by simp_all)
            skip
            refine WC.region ?_
            refine wU (gE rfl ?_)
            refine wU (gPure rfl isGo46 (escaped_tri l[i].2 (by omega)) ?_)
            refine wU (gE rfl ?_)
            refine wOps.done ?_
            have hp : plainV l[i].2 = false := by rw [plain_cont]; simp_all [u8_34]
            exact ⟨(), rfl, trivial, Ent.sub (sub_cons rfl (sub_cons rfl (sub_cons rfl (sub_cons (congrArg (fun x => some (V.str x)) (by unfold quoteV; rw [if_neg (by rw [hp]; simp)])) (sub_nil _)))))⟩
        · skip
          refine wN rfl ?_
          refine wU (gE rfl ?_)
          refine wU (gE rfl ?_)
          refine wN rfl ?_
          refine wN rfl ?_
          refine wN rfl ?_
          refine wU (gE rfl ?_)
          refine wOps.done ?_
          refine hK28 _ _ _ ?_
          clear hK28 K27
          first | refine WC.cond (b := true) rfl (fun _ => ?_) (fun hh => by simp at hh) | refine WC.cond rfl (fun _ => ?_) (fun hh => by simp_all)
          skip
          refine WC.region ?_
          refine wU (gE rfl ?_)
          refine wU (gPure rfl isGo46 (escaped_tri l[i].2 (by omega)) ?_)
          refine wU (gE rfl ?_)
          refine wOps.done ?_
          have hp : plainV l[i].2 = false := by rw [plain_cont]; simp_all [u8_34]
          exact ⟨(), rfl, trivial, Ent.sub (sub_cons rfl (sub_cons rfl (sub_cons rfl (sub_cons (congrArg (fun x => some (V.str x)) (by unfold quoteV; rw [if_neg (by rw [hp]; simp)])) (sub_nil _)))))⟩
      rintro ⟨⟩ -
      have hql := quote_le l[i].2
      have hnl := isNm_len hall.1
      refine WC.seq_cut (α := By) (fun Y => [(0, .fslice (lcs l) l.length), (5, .str Y), (6, .int .i64 i), (7, .str (quoteV l[i].2))]) (fun _ => []) (fun Y => Y = X ++ (if decide (i = 0) = true then [] else [32]) ∧ Y.length ≤ X.length + 1) ?_ ?_
      · skip
        refine WC.seq_k fun K32 hK33 => ?_
        refine WC.region ?_
        refine wU (gE rfl ?_)
        refine wU (gE rfl ?_)
        refine wOps.done ?_
        refine hK33 _ _ _ ?_
        clear hK33 K32
        refine WC.cond rfl (fun c34 => ?_) (fun c34 => ?_)
        · skip
          skip
          refine WC.region ?_
          refine wU (gE rfl ?_)
          refine wU (gE (v := .str (X ++ [32])) (addS X [32] (by simp; omega)) ?_)
          refine wU (gE rfl ?_)
          refine wOps.done ?_
          have h0i : 0 < i := by have := of_decide_eq_true c34; omega
          exact ⟨X ++ [32], rfl, ⟨by rw [decide_eq_false (by omega : ¬ i = 0)]; simp, by simp⟩, Ent.sub (sub_cons rfl (sub_cons rfl (sub_cons rfl (sub_cons rfl (sub_nil _)))))⟩
        · skip
          refine WC.skip ?_
          have h0i : i = 0 := by have := of_decide_eq_false c34; omega
          exact ⟨X, rfl, ⟨by rw [decide_eq_true h0i]; simp, by omega⟩, Ent.sub (sub_cons rfl (sub_cons rfl (sub_cons rfl (sub_cons rfl (sub_nil _)))))⟩
      rintro Y ⟨hY, hYl⟩
      refine WC.region ?_
      refine wU (gE rfl ?_)
      refine wU (gE rfl ?_)
      refine wU (gE rfl ?_)
      refine wU (gIdxF tslice22 tsz51 rfl rfl (by omega) (by omega) ?_)
      refine wU (gFieldF tfld51_0 tsz9 rfl ?_)
      refine wU (gLoadF tagg9 rfl (lcs_fst hi) ?_)
      refine wU (gE (v := .str (Y ++ l[i].1)) (addS Y l[i].1 (by omega)) ?_)
      refine wU (gE (v := .str (Y ++ l[i].1 ++ [61])) (addS (Y ++ l[i].1) [61] (by simp; omega)) ?_)
      refine wU (gE rfl ?_)
      refine wU (gE (v := .str (Y ++ l[i].1 ++ [61] ++ quoteV l[i].2)) (addS (Y ++ l[i].1 ++ [61]) (quoteV l[i].2) (by simp; omega)) ?_)
      refine wU (gE rfl ?_)
      refine wOps.done ?_
      refine hK24 _ _ _ ?_
      clear hK24 K23
      refine WC.region ?_
      refine wU (gE rfl ?_)
      refine wU (gE rfl ?_)
      refine wU (gE rfl ?_)
      refine wOps.done ?_
      exact ⟨(i + 1, Y ++ l[i].1 ++ [61] ++ quoteV l[i].2), rfl, by simp only; omega, ⟨by simp only; omega, by simp only [hX, fmtG_at hi, hY]; rw [decide_eq_false (by omega : ¬ i + 1 = 0)]; simp, by simp; omega⟩, Ent.sub (sub_cons rfl (sub_cons rfl (sub_cons (int_fit (by omega) (by omega) (by omega)) (sub_nil _))))⟩
    · skip
      refine WC.exit ?_
      refine hK15 _ _ _ ?_
      clear hK19 K18 hK15 K14
      refine WC.seq_k fun K35 hK36 => ?_
      refine WC.seq_k fun K37 hK38 => ?_
      refine WC.region ?_
      refine wU (gE rfl ?_)
      refine wU (gLen rfl rfl tisstr9 ?_)
      refine wU (gE rfl ?_)
      refine wOps.done ?_
      refine hK38 _ _ _ ?_
      clear hK38 K37
      refine WC.cond rfl (fun c39 => ?_) (fun c39 => ?_)
      · skip
        refine WC.seq_k fun K40 hK41 => ?_
        skip
        refine WC.region ?_
        refine wU (gE rfl ?_)
        refine wU (gE rfl ?_)
        refine wOps.done ?_
        refine hK41 _ _ _ ?_
        clear hK41 K40
        refine WC.ret ?_
        have he : i = l.length := by have := of_decide_eq_false c22; omega
        have hX2 : fmtG true l = X := by rw [hX, he, List.drop_length]; simp [fmtG]
        exact ⟨_, rfl, by unfold fmtL; rw [if_neg (by rw [h0]; simp), hX2, if_pos (by have := of_decide_eq_true c39; omega)]⟩
      · skip
        refine WC.skip ?_
        refine hK36 _ _ _ ?_
        clear hK36 K35
        refine WC.seq_k fun K42 hK43 => ?_
        refine WC.region ?_
        refine wU (gE rfl ?_)
        refine wU (gE rfl ?_)
        refine wU (gE rfl ?_)
        refine wOps.done ?_
        refine hK43 _ _ _ ?_
        clear hK43 K42
        refine WC.ret ?_
        have he : i = l.length := by have := of_decide_eq_false c22; omega
        have hX2 : fmtG true l = X := by rw [hX, he, List.drop_length]; simp [fmtG]
        exact ⟨_, rfl, by unfold fmtL; rw [if_neg (by rw [h0]; simp), hX2, if_neg (by have := of_decide_eq_false c39; omega)]⟩
end Go.Proofs.YtfdmdcpopmcmcaaGreatDoor
end

section
namespace Go.Proofs.YtfdmdcpopmcmcaaGreatDoor
open Go.Fw
theorem get_at (s : By) (k : Nat) (h : k < s.length) : ((⟨s.toArray⟩ : ByteArray).get! k) = s[k] := by
  show (s.toArray)[k]! = s[k]
  rw [getElem!_pos _ k (by simpa using h)]
  simp
/-- What decoding at a place gives: an ASCII byte itself, or a rune beyond, out of bytes that are all beyond. -/
theorem dec_facts (s : By) (pos : Nat) (h : pos < s.length) : (s[pos].toNat < 128 ∧ Utf8.decode ⟨s.toArray⟩ pos = (s[pos].toNat, 1)) ∨
    (128 ≤ (Utf8.decode ⟨s.toArray⟩ pos).1 ∧ 1 ≤ (Utf8.decode ⟨s.toArray⟩ pos).2 ∧ pos + (Utf8.decode ⟨s.toArray⟩ pos).2 ≤ s.length ∧ ∀ k (hk : k < s.length), pos ≤ k → k < pos + (Utf8.decode ⟨s.toArray⟩ pos).2 → 128 ≤ s[k].toNat) := by
  have hsz : (⟨s.toArray⟩ : ByteArray).size = s.length := by simp [ByteArray.size]
  have g0 : ((⟨s.toArray⟩ : ByteArray).get! (pos + 0)) = s[pos] := get_at s pos h
  have gk : ∀ k (hk : pos + k < s.length), ((⟨s.toArray⟩ : ByteArray).get! (pos + k)) = s[pos + k] := fun k hk => get_at s (pos + k) hk
  by_cases h0 : s[pos].toNat < 128
  · exact .inl ⟨h0, by unfold Utf8.decode; simp only [g0, h0, if_true]⟩
  · right
    have one : ∀ k (hk : k < s.length), pos ≤ k → k < pos + 1 → 128 ≤ s[k].toNat := fun k hk h1 h2 => by
      have : k = pos := by omega
      subst this; omega
    have c2 : ∀ k, (decide (pos + k < s.length) && ((⟨s.toArray⟩ : ByteArray).get! (pos + k)).toNat / 64 == 2) = true → ∃ hk : pos + k < s.length, 128 ≤ s[pos + k].toNat := fun k hc => by
      simp only [Bool.and_eq_true, decide_eq_true_eq, beq_iff_eq] at hc
      refine ⟨hc.1, ?_⟩
      have := hc.2
      rw [gk k hc.1] at this
      omega
    unfold Utf8.decode
    simp only [g0, h0, if_false, hsz]
    split
    · rename_i hc
      simp only [Bool.and_eq_true] at hc
      obtain ⟨k1, e1⟩ := c2 1 (by simpa using hc.2)
      split
      · refine ⟨by simp only; omega, by simp, by simp only; omega, fun k hk h1 h2 => ?_⟩
        simp only at h2
        rcases (show k = pos ∨ k = pos + 1 by omega) with rfl | rfl
        · omega
        · exact e1
      · exact ⟨by decide, by decide, by simp only; omega, one⟩
    · split
      · rename_i hc
        simp only [Bool.and_eq_true] at hc
        obtain ⟨k1, e1⟩ := c2 1 (by simpa using hc.1.2)
        obtain ⟨k2, e2⟩ := c2 2 (by simpa using hc.2)
        split
        · rename_i hv
          simp only [Bool.and_eq_true, decide_eq_true_eq] at hv
          refine ⟨by simp only; omega, by simp, by simp only; omega, fun k hk h1 h2 => ?_⟩
          simp only at h2
          rcases (show k = pos ∨ k = pos + 1 ∨ k = pos + 2 by omega) with rfl | rfl | rfl
          · omega
          · exact e1
          · exact e2
        · exact ⟨by decide, by decide, by simp only; omega, one⟩
      · split
        · rename_i hc
          simp only [Bool.and_eq_true] at hc
          obtain ⟨k1, e1⟩ := c2 1 (by simpa using hc.1.1.2)
          obtain ⟨k2, e2⟩ := c2 2 (by simpa using hc.1.2)
          obtain ⟨k3, e3⟩ := c2 3 (by simpa using hc.2)
          split
          · rename_i hv
            simp only [Bool.and_eq_true, decide_eq_true_eq] at hv
            refine ⟨by simp only; omega, by simp, by simp only; omega, fun k hk h1 h2 => ?_⟩
            simp only at h2
            rcases (show k = pos ∨ k = pos + 1 ∨ k = pos + 2 ∨ k = pos + 3 by omega) with rfl | rfl | rfl | rfl
            · omega
            · exact e1
            · exact e2
            · exact e3
          · exact ⟨by decide, by decide, by simp only; omega, one⟩
        · exact ⟨by decide, by decide, by simp only; omega, one⟩
end Go.Proofs.YtfdmdcpopmcmcaaGreatDoor
end

section
namespace Go.Proofs.YtfdmdcpopmcmcaaGreatDoor
open Go.Fw
variable [Gl]
theorem isGo132 : isGo Tryz.prog 132 = true := by kernel_rfl
theorem isGo133 : isGo Tryz.prog 133 = true := by kernel_rfl
theorem isGo144 : isGo Tryz.prog 144 = true := by kernel_rfl
theorem isGo145 : isGo Tryz.prog 145 = true := by kernel_rfl
theorem tint21 : tint Tryz.prog 21 = some .i32 := by kernel_rfl
set_option maxRecDepth 20000
theorem tint9n : tint Tryz.prog 9 = none := by kernel_rfl
theorem vrs_int1 {k : IntKind} {n : Int} (F : Froz) (av : Array Value) (h : VRs F [.int k n] av) : av = #[.int k n] := by
  have h0 := (h.2 0 _ rfl).int_inv
  have hs := h.1
  simp at hs
  obtain ⟨L⟩ := av
  match L, hs with
  | [x], _ => simp at h0; rw [h0]
theorem vrs_strint {s : By} {k : IntKind} {n : Int} (F : Froz) (av : Array Value) (h : VRs F [.str s, .int k n] av) : av = #[.string ⟨s.toArray⟩, .int k n] := by
  have h0 := (h.2 0 _ rfl).str_inv
  have h1 := (h.2 1 _ rfl).int_inv
  have hs := h.1
  simp at hs
  obtain ⟨L⟩ := av
  match L, hs with
  | [x, y], _ => simp at h0 h1; rw [h0, h1]
theorem validR_tri (r : Int) : PTri Tryz.prog 145 [.int .i32 r] (.bool (Lib.validRune r)) :=
  PTri.of_same _ _ vrs_int1 (fun w => Tryz.utf8_ValidRune r w) fun F => .bool _
theorem idxByte_tri (s : By) (c : Int) : PTri Tryz.prog 144 [.str s, .int .u8 c] (.int .i64 (Lib.indexByte s c.toNat.toUInt8)) :=
  PTri.of_same _ _ vrs_strint (fun w => Tryz.strings_IndexByte ⟨s.toArray⟩ c w) fun F => by simpa using VR.int _ _
theorem idxRune_asc (s : By) (r : Int) (h0 : 0 ≤ r) (h1 : r < 128) : PTri Tryz.prog 132 [.str s, .int .i32 r] (.int .i64 (Lib.indexByte s r.toNat.toUInt8)) :=
  PTri.of_same _ _ vrs_strint (fun w => Tryz.strings_IndexRune_ascii ⟨s.toArray⟩ r w h0 h1) fun F => by simpa using VR.int _ _
theorem ascii_tri (n : Nat) (h : n ≤ 8) : PTri Tryz.prog 133 [.int .i64 n] (.bool false) := by
  have : PTri Tryz.prog 133 [.int .i64 n] (.bool (decide ((8 : Int) < n))) := PTri.of_same _ _ vrs_int1 (fun w => Tryz.strings_shouldUseASCIISet n w) fun F => .bool _
  rwa [show decide ((8 : Int) < n) = false by simp; omega] at this
theorem dec0 : Utf8.decode ⟨([32, 10] : By).toArray⟩ 0 = (32, 1) := by decide
theorem dec1 : Utf8.decode ⟨([32, 10] : By).toArray⟩ 1 = (10, 1) := by decide
theorem valid_eq (r : Int) (h : Lib.validRune r = true) : Utf8.valid r = true := by
  unfold Lib.validRune at h
  unfold Utf8.valid
  simp only [decide_eq_true_eq, Bool.or_eq_true, Bool.and_eq_true] at *
  omega
theorem idxRune_err : PTri Tryz.prog 132 [.str [32, 10], .int .i32 65533] (.int .i64 (-1)) := by
  refine PTri.any (Tri.of_wc Tryz.func132 rfl Tryz.results132 Tryz.ntmps132 (by simp) ?_)
  refine WC.seq_k fun K1 hK2 => ?_
  refine WC.region ?_
  refine wU (gE rfl ?_)
  refine wOps.done ?_
  refine hK2 _ _ _ ?_
  clear hK2 K1
  refine WC.block ?_
  refine WC.seq_k fun K3 hK4 => ?_
  refine WC.region ?_
  refine wU (gE rfl ?_)
  refine wU (gE (v := .bool true) rfl ?_)
  refine wU (gE rfl ?_)
  refine wY rfl (gE rfl ?_)
  refine wY rfl (gE (v := .bool false) rfl ?_)
  refine wU (gE rfl ?_)
  refine wU (gE rfl ?_)
  refine wOps.done ?_
  refine hK4 _ _ _ ?_
  clear hK4 K3
  first | refine WC.cond (b := false) rfl (fun hh => by simp at hh) (fun _ => ?_) | refine WC.cond rfl (fun hh => by simp_all) (fun _ => ?_)
  refine WC.seq_k fun K5 hK6 => ?_
  refine WC.region ?_
  refine wU (gE rfl ?_)
  refine wU (gE (v := .bool true) rfl ?_)
  refine wU (gE rfl ?_)
  refine wOps.done ?_
  refine hK6 _ _ _ ?_
  clear hK6 K5
  first | refine WC.cond (b := true) rfl (fun _ => ?_) (fun hh => by simp at hh) | refine WC.cond rfl (fun _ => ?_) (fun hh => by simp_all)
  refine WC.seq_k fun K7 hK8 => ?_
  refine WC.seq_k fun K9 hK10 => ?_
  refine WC.region ?_
  refine wU (gE rfl ?_)
  refine wU (gOp (OpS.rangeStr rfl tisstr9 rfl fun b0 hb0 => ?_) rfl)
  refine wOps.done ?_
  refine hK10 _ _ _ ?_
  clear hK10 K9
  refine WC.block ?_
  refine WC.loopI (α := Nat) (fun _ => [(175, .ptr b0 0)]) (fun pos => [(b0, .striter [32, 10] pos)]) (fun pos => 2 - pos) (fun pos => pos ≤ 2) 0 ?_ ?_ ?_ ?_
  · exact sub_cons rfl (sub_nil _)
  · exact Ent.refl _ _
  · exact Nat.zero_le _
  intro pos hp
  refine WC.seq_k fun K11 hK12 => ?_
  obtain rfl | rfl | rfl : pos = 0 ∨ pos = 1 ∨ pos = 2 := by omega
  · skip
    refine WC.region ?_
    refine wU (gOp (OpS.nextStr (s := [32, 10]) (pos := 0) rfl rfl (by simp only [hget, ↓reduceIte]) (fun _ => ?_) (fun h => absurd (by decide) h)) rfl)
    simp only [dec0, hset, ↓reduceIte]
    refine wU (gE rfl ?_)
    refine wOps.done ?_
    refine hK12 _ _ _ ?_
    clear hK12 K11
    refine WC.seq_k fun K13 hK14 => ?_
    first | refine WC.cond (b := true) rfl (fun _ => ?_) (fun hh => by simp at hh) | refine WC.cond rfl (fun _ => ?_) (fun hh => by simp_all)
    refine WC.skip ?_
    refine hK14 _ _ _ ?_
    clear hK14 K13
    refine WC.block ?_
    refine WC.seq_k fun K15 hK16 => ?_
    refine WC.region ?_
    refine wU (gE rfl ?_)
    refine wU (gE rfl ?_)
    refine wU (gE rfl ?_)
    refine wU (gE rfl ?_)
    refine wOps.done ?_
    refine hK16 _ _ _ ?_
    clear hK16 K15
    refine WC.seq_k fun K17 hK18 => ?_
    refine WC.region ?_
    refine wU (gE rfl ?_)
    refine wU (gE (v := .bool false) rfl ?_)
    refine wOps.done ?_
    refine hK18 _ _ _ ?_
    clear hK18 K17
    first | refine WC.cond (b := false) rfl (fun hh => by simp at hh) (fun _ => ?_) | refine WC.cond rfl (fun hh => by simp_all) (fun _ => ?_)
    refine WC.skip ?_
    exact ⟨1, rfl, by decide, by decide, Ent.sub (sub_cons rfl (sub_nil _))⟩
  · skip
    refine WC.region ?_
    refine wU (gOp (OpS.nextStr (s := [32, 10]) (pos := 1) rfl rfl (by simp only [hget, ↓reduceIte]) (fun _ => ?_) (fun h => absurd (by decide) h)) rfl)
    simp only [dec1, hset, ↓reduceIte]
    refine wU (gE rfl ?_)
    refine wOps.done ?_
    refine hK12 _ _ _ ?_
    clear hK12 K11
    refine WC.seq_k fun K19 hK20 => ?_
    first | refine WC.cond (b := true) rfl (fun _ => ?_) (fun hh => by simp at hh) | refine WC.cond rfl (fun _ => ?_) (fun hh => by simp_all)
    refine WC.skip ?_
    refine hK20 _ _ _ ?_
    clear hK20 K19
    refine WC.block ?_
    refine WC.seq_k fun K21 hK22 => ?_
    refine WC.region ?_
    refine wU (gE rfl ?_)
    refine wU (gE rfl ?_)
    refine wU (gE rfl ?_)
    refine wU (gE rfl ?_)
    refine wOps.done ?_
    refine hK22 _ _ _ ?_
    clear hK22 K21
    refine WC.seq_k fun K23 hK24 => ?_
    refine WC.region ?_
    refine wU (gE rfl ?_)
    refine wU (gE (v := .bool false) rfl ?_)
    refine wOps.done ?_
    refine hK24 _ _ _ ?_
    clear hK24 K23
    first | refine WC.cond (b := false) rfl (fun hh => by simp at hh) (fun _ => ?_) | refine WC.cond rfl (fun hh => by simp_all) (fun _ => ?_)
    refine WC.skip ?_
    exact ⟨2, rfl, by decide, by decide, Ent.sub (sub_cons rfl (sub_nil _))⟩
  · skip
    refine WC.region ?_
    refine wU (gOp (OpS.nextStr (s := [32, 10]) (pos := 2) rfl rfl (by simp only [hget, ↓reduceIte]) (fun h => absurd h (by decide)) (fun _ => ?_)) rfl)
    refine wU (gE rfl ?_)
    refine wOps.done ?_
    refine hK12 _ _ _ ?_
    clear hK12 K11
    refine WC.seq_k fun K25 hK26 => ?_
    first | refine WC.cond (b := false) rfl (fun hh => by simp at hh) (fun _ => ?_) | refine WC.cond rfl (fun hh => by simp_all) (fun _ => ?_)
    refine WC.exit ?_
    refine hK8 _ _ _ ?_
    clear hK26 K25 hK8 K7
    refine WC.seq_k fun K27 hK28 => ?_
    refine WC.region ?_
    refine wU (gE rfl ?_)
    refine wOps.done ?_
    refine hK28 _ _ _ ?_
    clear hK28 K27
    refine WC.ret ?_
    exact ⟨_, rfl, rfl⟩
theorem idxRune_bad (r : Int) (h : 128 ≤ r) (h2 : r ≠ 65533) (hv : Lib.validRune r = false) : PTri Tryz.prog 132 [.str [32, 10], .int .i32 r] (.int .i64 (-1)) := by
  have hvr := validR_tri r
  rw [hv] at hvr
  refine PTri.any (Tri.of_wc Tryz.func132 rfl Tryz.results132 Tryz.ntmps132 (by simp) ?_)
  refine WC.seq_k fun K1 hK2 => ?_
  refine WC.region ?_
  refine wU (gE rfl ?_)
  refine wOps.done ?_
  refine hK2 _ _ _ ?_
  clear hK2 K1
  refine WC.block ?_
  refine WC.seq_k fun K3 hK4 => ?_
  refine WC.region ?_
  refine wU (gE rfl ?_)
  refine wU (gE (v := .bool true) (show some (V.bool (decide ((0 : Int) ≤ r))) = some (V.bool true) by simp; omega) ?_)
  refine wU (gE rfl ?_)
  refine wY rfl (gE rfl ?_)
  refine wY rfl (gE (v := .bool false) (show some (V.bool (decide (r < 128))) = some (V.bool false) by simp; omega) ?_)
  refine wU (gE rfl ?_)
  refine wU (gE rfl ?_)
  refine wOps.done ?_
  refine hK4 _ _ _ ?_
  clear hK4 K3
  first | refine WC.cond (b := false) rfl (fun hh => by simp at hh) (fun _ => ?_) | refine WC.cond rfl (fun hh => by simp_all) (fun _ => ?_)
  refine WC.seq_k fun K5 hK6 => ?_
  refine WC.region ?_
  refine wU (gE rfl ?_)
  refine wU (gE (v := .bool false) (show some (V.bool (decide (r = 65533))) = some (V.bool false) by simp [h2]) ?_)
  refine wU (gE rfl ?_)
  refine wOps.done ?_
  refine hK6 _ _ _ ?_
  clear hK6 K5
  first | refine WC.cond (b := false) rfl (fun hh => by simp at hh) (fun _ => ?_) | refine WC.cond rfl (fun hh => by simp_all) (fun _ => ?_)
  refine WC.seq_k fun K7 hK8 => ?_
  refine WC.region ?_
  refine wU (gE rfl ?_)
  refine wU (gPure rfl isGo145 hvr ?_)
  refine wU (gE rfl ?_)
  refine wU (gE rfl ?_)
  refine wOps.done ?_
  refine hK8 _ _ _ ?_
  clear hK8 K7
  first | refine WC.cond (b := true) rfl (fun _ => ?_) (fun hh => by simp at hh) | refine WC.cond rfl (fun _ => ?_) (fun hh => by simp_all)
  refine WC.seq_k fun K9 hK10 => ?_
  refine WC.region ?_
  refine wU (gE rfl ?_)
  refine wOps.done ?_
  refine hK10 _ _ _ ?_
  clear hK10 K9
  refine WC.ret ?_
  exact ⟨_, rfl, rfl⟩
theorem idxRune_long (r : Int) (h : 128 ≤ r) (h2 : r ≠ 65533) (hv : Lib.validRune r = true) (hl : (Utf8.encode r).data.toList.length ≥ 3) : PTri Tryz.prog 132 [.str [32, 10], .int .i32 r] (.int .i64 (-1)) := by
  have hvr := validR_tri r
  rw [hv] at hvr
  have hf := encode_facts r (valid_eq r hv) h
  have hcv : evConv Tryz.prog [] 21 9 (.int .i32 r) = some (.str (Utf8.encode r).data.toList) := by unfold evConv; simp only [tint21, tint9n, tisstr9, if_true]
  have hsz : (Utf8.encode r).size = (Utf8.encode r).data.toList.length := by rw [Array.length_toList]; rfl
  have h4 : (Utf8.encode r).data.toList.length ≤ 4 := by rw [← hsz]; exact hf.2.1
  have hlast : ∀ hk : (Utf8.encode r).data.toList.length - 1 < (Utf8.encode r).data.toList.length, 128 ≤ (Utf8.encode r).data.toList[(Utf8.encode r).data.toList.length - 1].toNat := fun hk => by
    have h5 := hf.2.2 (by rw [hsz]; exact hk)
    have h6 : (Utf8.encode r).data.toList[(Utf8.encode r).data.toList.length - 1] = (Utf8.encode r)[(Utf8.encode r).size - 1]'(by rw [hsz]; exact hk) := by simp only [Array.getElem_toList]; rfl
    rw [h6]; exact h5
  generalize (Utf8.encode r).data.toList = rs at *
  refine PTri.any (Tri.of_wc Tryz.func132 rfl Tryz.results132 Tryz.ntmps132 (by simp) ?_)
  refine WC.seq_k fun K1 hK2 => ?_
  refine WC.region ?_
  refine wU (gE rfl ?_)
  refine wOps.done ?_
  refine hK2 _ _ _ ?_
  clear hK2 K1
  refine WC.block ?_
  refine WC.seq_k fun K3 hK4 => ?_
  refine WC.region ?_
  refine wU (gE rfl ?_)
  refine wU (gE (v := .bool true) (show some (V.bool (decide ((0 : Int) ≤ r))) = some (V.bool true) by simp; omega) ?_)
  refine wU (gE rfl ?_)
  refine wY rfl (gE rfl ?_)
  refine wY rfl (gE (v := .bool false) (show some (V.bool (decide (r < 128))) = some (V.bool false) by simp; omega) ?_)
  refine wU (gE rfl ?_)
  refine wU (gE rfl ?_)
  refine wOps.done ?_
  refine hK4 _ _ _ ?_
  clear hK4 K3
  first | refine WC.cond (b := false) rfl (fun hh => by simp at hh) (fun _ => ?_) | refine WC.cond rfl (fun hh => by simp_all) (fun _ => ?_)
  refine WC.seq_k fun K5 hK6 => ?_
  refine WC.region ?_
  refine wU (gE rfl ?_)
  refine wU (gE (v := .bool false) (show some (V.bool (decide (r = 65533))) = some (V.bool false) by simp [h2]) ?_)
  refine wU (gE rfl ?_)
  refine wOps.done ?_
  refine hK6 _ _ _ ?_
  clear hK6 K5
  first | refine WC.cond (b := false) rfl (fun hh => by simp at hh) (fun _ => ?_) | refine WC.cond rfl (fun hh => by simp_all) (fun _ => ?_)
  refine WC.seq_k fun K7 hK8 => ?_
  refine WC.region ?_
  refine wU (gE rfl ?_)
  refine wU (gPure rfl isGo145 hvr ?_)
  refine wU (gE rfl ?_)
  refine wU (gE rfl ?_)
  refine wOps.done ?_
  refine hK8 _ _ _ ?_
  clear hK8 K7
  first | refine WC.cond (b := false) rfl (fun hh => by simp at hh) (fun _ => ?_) | refine WC.cond rfl (fun hh => by simp_all) (fun _ => ?_)
  refine WC.scope ?_
  refine WC.seq_k fun K9 hK10 => ?_
  refine WC.region ?_
  refine wU (gE rfl ?_)
  refine wU (gConv rfl (fun l => by simp) hcv ?_)
  refine wU (gE rfl ?_)
  refine wOps.done ?_
  refine hK10 _ _ _ ?_
  clear hK10 K9
  refine WC.seq_k fun K11 hK12 => ?_
  refine WC.region ?_
  refine wU (gE rfl ?_)
  refine wU (gLen rfl rfl tisstr9 ?_)
  refine wU (gE (v := .int .i64 ((rs.length - 1 : Nat) : Int)) (int_fit (by omega) (by omega) (by omega)) ?_)
  refine wU (gE rfl ?_)
  refine wOps.done ?_
  refine hK12 _ _ _ ?_
  clear hK12 K11
  refine WC.seq_k fun K13 hK14 => ?_
  refine WC.region ?_
  refine wU (gE rfl ?_)
  refine wU (gE rfl ?_)
  refine wOps.done ?_
  refine hK14 _ _ _ ?_
  clear hK14 K13
  refine WC.seq_k fun K15 hK16 => ?_
  refine WC.region ?_
  refine wU (gE rfl ?_)
  refine wOps.done ?_
  refine hK16 _ _ _ ?_
  clear hK16 K15
  refine WC.seq_k fun K17 hK18 => ?_
  refine WC.block ?_
  refine WC.loopI (α := Unit) (fun _ => [(0, .str [32, 10]), (7, .str rs), (8, .int .i64 ((rs.length - 1 : Nat) : Int)), (9, .int .i64 ((rs.length - 1 : Nat) : Int))]) (fun _ => []) (fun _ => 0) (fun _ => True) () ?_ ?_ ?_ ?_
  · exact sub_cons rfl (sub_cons rfl (sub_cons rfl (sub_cons rfl (sub_nil _))))
  · exact Ent.refl _ _
  · trivial
  rintro ⟨⟩ -
  refine WC.seq_k fun K19 hK20 => ?_
  refine WC.seq_k fun K21 hK22 => ?_
  refine WC.region ?_
  refine wU (gE rfl ?_)
  refine wU (gE rfl ?_)
  refine wU (gLen rfl rfl tisstr9 ?_)
  refine wU (gE (v := .bool false) (show some (V.bool (decide (((rs.length - 1 : Nat) : Int) < 2))) = some (V.bool false) by simp; omega) ?_)
  refine wOps.done ?_
  refine hK22 _ _ _ ?_
  clear hK22 K21
  first | refine WC.cond (b := false) rfl (fun hh => by simp at hh) (fun _ => ?_) | refine WC.cond rfl (fun hh => by simp_all) (fun _ => ?_)
  refine WC.exit ?_
  refine hK18 _ _ _ ?_
  clear hK20 K19 hK18 K17
  refine WC.seq_k fun K23 hK24 => ?_
  refine WC.seq_k fun K25 hK26 => ?_
  refine WC.region ?_
  refine wU (gE rfl ?_)
  refine wOps.done ?_
  refine hK26 _ _ _ ?_
  clear hK26 K25
  refine WC.ret ?_
  exact ⟨_, rfl, rfl⟩
theorem idxRune_two (r : Int) (h : 128 ≤ r) (h2 : r ≠ 65533) (hv : Lib.validRune r = true) (hl : (Utf8.encode r).data.toList.length = 2) : PTri Tryz.prog 132 [.str [32, 10], .int .i32 r] (.int .i64 (-1)) := by
  have hvr := validR_tri r
  rw [hv] at hvr
  have hf := encode_facts r (valid_eq r hv) h
  have hcv : evConv Tryz.prog [] 21 9 (.int .i32 r) = some (.str (Utf8.encode r).data.toList) := by unfold evConv; simp only [tint21, tint9n, tisstr9, if_true]
  have hsz : (Utf8.encode r).size = (Utf8.encode r).data.toList.length := by rw [Array.length_toList]; rfl
  have h4 : (Utf8.encode r).data.toList.length ≤ 4 := by rw [← hsz]; exact hf.2.1
  have hlast : ∀ hk : (Utf8.encode r).data.toList.length - 1 < (Utf8.encode r).data.toList.length, 128 ≤ (Utf8.encode r).data.toList[(Utf8.encode r).data.toList.length - 1].toNat := fun hk => by
    have h5 := hf.2.2 (by rw [hsz]; exact hk)
    have h6 : (Utf8.encode r).data.toList[(Utf8.encode r).data.toList.length - 1] = (Utf8.encode r)[(Utf8.encode r).size - 1]'(by rw [hsz]; exact hk) := by simp only [Array.getElem_toList]; rfl
    rw [h6]; exact h5
  generalize (Utf8.encode r).data.toList = rs at *
  refine PTri.any (Tri.of_wc Tryz.func132 rfl Tryz.results132 Tryz.ntmps132 (by simp) ?_)
  refine WC.seq_k fun K1 hK2 => ?_
  refine WC.region ?_
  refine wU (gE rfl ?_)
  refine wOps.done ?_
  refine hK2 _ _ _ ?_
  clear hK2 K1
  refine WC.block ?_
  refine WC.seq_k fun K3 hK4 => ?_
  refine WC.region ?_
  refine wU (gE rfl ?_)
  refine wU (gE (v := .bool true) (show some (V.bool (decide ((0 : Int) ≤ r))) = some (V.bool true) by simp; omega) ?_)
  refine wU (gE rfl ?_)
  refine wY rfl (gE rfl ?_)
  refine wY rfl (gE (v := .bool false) (show some (V.bool (decide (r < 128))) = some (V.bool false) by simp; omega) ?_)
  refine wU (gE rfl ?_)
  refine wU (gE rfl ?_)
  refine wOps.done ?_
  refine hK4 _ _ _ ?_
  clear hK4 K3
  first | refine WC.cond (b := false) rfl (fun hh => by simp at hh) (fun _ => ?_) | refine WC.cond rfl (fun hh => by simp_all) (fun _ => ?_)
  refine WC.seq_k fun K5 hK6 => ?_
  refine WC.region ?_
  refine wU (gE rfl ?_)
  refine wU (gE (v := .bool false) (show some (V.bool (decide (r = 65533))) = some (V.bool false) by simp [h2]) ?_)
  refine wU (gE rfl ?_)
  refine wOps.done ?_
  refine hK6 _ _ _ ?_
  clear hK6 K5
  first | refine WC.cond (b := false) rfl (fun hh => by simp at hh) (fun _ => ?_) | refine WC.cond rfl (fun hh => by simp_all) (fun _ => ?_)
  refine WC.seq_k fun K7 hK8 => ?_
  refine WC.region ?_
  refine wU (gE rfl ?_)
  refine wU (gPure rfl isGo145 hvr ?_)
  refine wU (gE rfl ?_)
  refine wU (gE rfl ?_)
  refine wOps.done ?_
  refine hK8 _ _ _ ?_
  clear hK8 K7
  first | refine WC.cond (b := false) rfl (fun hh => by simp at hh) (fun _ => ?_) | refine WC.cond rfl (fun hh => by simp_all) (fun _ => ?_)
  refine WC.scope ?_
  refine WC.seq_k fun K9 hK10 => ?_
  refine WC.region ?_
  refine wU (gE rfl ?_)
  refine wU (gConv rfl (fun l => by simp) hcv ?_)
  refine wU (gE rfl ?_)
  refine wOps.done ?_
  refine hK10 _ _ _ ?_
  clear hK10 K9
  refine WC.seq_k fun K11 hK12 => ?_
  refine WC.region ?_
  refine wU (gE rfl ?_)
  refine wU (gLen rfl rfl tisstr9 ?_)
  refine wU (gE (v := .int .i64 ((rs.length - 1 : Nat) : Int)) (int_fit (by omega) (by omega) (by omega)) ?_)
  refine wU (gE rfl ?_)
  refine wOps.done ?_
  refine hK12 _ _ _ ?_
  clear hK12 K11
  refine WC.seq_k fun K13 hK14 => ?_
  refine WC.region ?_
  refine wU (gE rfl ?_)
  refine wU (gE rfl ?_)
  refine wOps.done ?_
  refine hK14 _ _ _ ?_
  clear hK14 K13
  refine WC.seq_k fun K15 hK16 => ?_
  refine WC.region ?_
  refine wU (gE rfl ?_)
  refine wOps.done ?_
  refine hK16 _ _ _ ?_
  clear hK16 K15
  refine WC.seq_k fun K17 hK18 => ?_
  refine WC.block ?_
  refine WC.loopI (α := Unit) (fun _ => [(0, .str [32, 10]), (7, .str rs), (8, .int .i64 ((rs.length - 1 : Nat) : Int)), (9, .int .i64 ((rs.length - 1 : Nat) : Int))]) (fun _ => []) (fun _ => 0) (fun _ => True) () ?_ ?_ ?_ ?_
  · exact sub_cons rfl (sub_cons rfl (sub_cons rfl (sub_cons rfl (sub_nil _))))
  · exact Ent.refl _ _
  · trivial
  rintro ⟨⟩ -
  refine WC.seq_k fun K19 hK20 => ?_
  refine WC.seq_k fun K21 hK22 => ?_
  refine WC.region ?_
  refine wU (gE rfl ?_)
  refine wU (gE rfl ?_)
  refine wU (gLen rfl rfl tisstr9 ?_)
  refine wU (gE (v := .bool true) (show some (V.bool (decide (((rs.length - 1 : Nat) : Int) < 2))) = some (V.bool true) by simp; omega) ?_)
  refine wOps.done ?_
  refine hK22 _ _ _ ?_
  clear hK22 K21
  first | refine WC.cond (b := true) rfl (fun _ => ?_) (fun hh => by simp at hh) | refine WC.cond rfl (fun _ => ?_) (fun hh => by simp_all)
  refine WC.skip ?_
  refine hK20 _ _ _ ?_
  clear hK20 K19
  refine WC.block ?_
  refine WC.scope ?_
  refine WC.seq_k fun K23 hK24 => ?_
  refine WC.seq_k fun K25 hK26 => ?_
  refine WC.region_draw mixed ?_
  refine wA.val 0 rfl rfl rfl (fun _ _ hK => gE rfl hK) (by kernel_rfl) ?_
  refine wA.val 1 rfl rfl rfl (fun _ _ hK => gE rfl hK) (by kernel_rfl) ?_
  refine wA.val 2 rfl rfl rfl (fun _ _ hK => gIdxStr (c := 10) tisstr9 rfl rfl (by omega) (by rw [hl]; rfl) hK) (by kernel_rfl) ?_
  refine wA.val 3 rfl rfl rfl (fun _ _ hK => gE rfl hK) (by kernel_rfl) ?_
  refine wA.val 4 rfl rfl rfl (fun _ _ hK => gE rfl hK) (by kernel_rfl) ?_
  have hk : rs.length - 1 < rs.length := by omega
  have hlb := hlast hk
  refine wA.val 5 rfl rfl rfl (fun _ _ hK => gIdxStr tisstr9 rfl rfl (by omega) (str_at hk) hK) (by kernel_rfl) ?_
  refine wA.val 6 rfl rfl rfl (fun _ _ hK => gE (v := .bool true) (show some (V.bool (!decide (((10 : UInt8).toNat : Int) = (rs[rs.length - 1].toNat : Int)))) = some (V.bool true) by simp; omega) hK) (by kernel_rfl) ?_
  refine wA.done (by kernel_rfl) ?_
  refine hK26 _ _ _ ?_
  clear hK26 K25
  first | refine WC.cond (b := true) rfl (fun _ => ?_) (fun hh => by simp at hh) | refine WC.cond rfl (fun _ => ?_) (fun hh => by simp_all)
  refine WC.seq_k fun K27 hK28 => ?_
  refine WC.region_draw mixed ?_
  refine wA.val 0 rfl rfl rfl (fun _ _ hK => gE rfl hK) (by kernel_rfl) ?_
  refine wA.val 1 rfl rfl rfl (fun _ _ hK => gE rfl hK) (by kernel_rfl) ?_
  refine wA.val 2 rfl rfl rfl (fun _ _ hK => gE (v := .int .i64 ((2 : Nat) : Int)) (int_fit (by omega) (by omega) (by omega)) hK) (by kernel_rfl) ?_
  refine wA.val 3 rfl rfl rfl (fun _ _ hK => by refine gSliceStr (l := some 2) (r := none) tisstr9 rfl rfl rfl (by simp) (by simp) ?_; exact hK) (by kernel_rfl) ?_
  refine wA.val 4 rfl rfl rfl (fun _ _ hK => gE rfl hK) (by kernel_rfl) ?_
  refine wA.val 5 rfl rfl rfl (fun _ _ hK => gE rfl hK) (by kernel_rfl) ?_
  refine wA.val 6 rfl rfl rfl (fun _ _ hK => gIdxStr tisstr9 rfl rfl (by omega) (str_at hk) hK) (by kernel_rfl) ?_
  refine wA.val 7 rfl rfl rfl (fun _ _ hK => by refine gPure rfl isGo144 (idxByte_tri [] _) ?_; exact hK) (by kernel_rfl) ?_
  refine wA.val 8 rfl rfl rfl (fun _ _ hK => gE rfl hK) (by kernel_rfl) ?_
  refine wA.done (by kernel_rfl) ?_
  refine hK28 _ _ _ ?_
  clear hK28 K27
  refine WC.seq_k fun K29 hK30 => ?_
  refine WC.seq_k fun K31 hK32 => ?_
  refine WC.region ?_
  refine wU (gE rfl ?_)
  refine wU (gE (v := .bool true) rfl ?_)
  refine wOps.done ?_
  refine hK32 _ _ _ ?_
  clear hK32 K31
  first | refine WC.cond (b := true) rfl (fun _ => ?_) (fun hh => by simp at hh) | refine WC.cond rfl (fun _ => ?_) (fun hh => by simp_all)
  refine WC.seq_k fun K33 hK34 => ?_
  refine WC.region ?_
  refine wU (gE rfl ?_)
  refine wOps.done ?_
  refine hK34 _ _ _ ?_
  clear hK34 K33
  refine WC.ret ?_
  exact ⟨_, rfl, rfl⟩
end Go.Proofs.YtfdmdcpopmcmcaaGreatDoor
end

section
namespace Go.Proofs.YtfdmdcpopmcmcaaGreatDoor
open Go.Fw
variable [Gl]
set_option maxRecDepth 20000
def idxR (c : Int) : Int := if c < 128 then Lib.indexByte [32, 10] c.toNat.toUInt8 else -1
theorem idxRune_all (c : Int) (h : 0 ≤ c) : PTri Tryz.prog 132 [.str [32, 10], .int .i32 c] (.int .i64 (idxR c)) := by
  unfold idxR
  by_cases h1 : c < 128
  · rw [if_pos h1]; exact idxRune_asc _ c h h1
  · rw [if_neg h1]
    by_cases h2 : c = 65533
    · subst h2; exact idxRune_err
    · by_cases h3 : Lib.validRune c = true
      · have hf := (encode_facts c (valid_eq c h3) (by omega)).1
        have hsz : (Utf8.encode c).size = (Utf8.encode c).data.toList.length := by rw [Array.length_toList]; rfl
        by_cases h4 : (Utf8.encode c).data.toList.length = 2
        · exact idxRune_two c (by omega) h2 h3 h4
        · exact idxRune_long c (by omega) h2 h3 (by omega)
      · exact idxRune_bad c (by omega) h2 (by simpa using h3)
theorem idxR_byte (b : UInt8) (h : b.toNat < 128) : decide (0 ≤ idxR (b.toNat : Int)) = spB b := by
  unfold idxR
  rw [if_pos (by omega)]
  have e : (b.toNat : Int).toNat.toUInt8 = b := by simp
  rw [e]
  by_cases h1 : b = 32
  · subst h1; decide
  · by_cases h2 : b = 10
    · subst h2; decide
    · have e1 : ((32 : UInt8) == b) = false := by simpa using Ne.symm h1
      have e2 : ((10 : UInt8) == b) = false := by simpa using Ne.symm h2
      have e0 : Lib.indexByte [32, 10] b = -1 := by
        unfold Lib.indexByte; rw [e1]; unfold Lib.indexByte; rw [e2]; rfl
      rw [e0]
      simp [spB, h1, h2]
theorem spB_hi {b : UInt8} (h : 128 ≤ b.toNat) : spB b = false := by
  simp only [spB, Bool.or_eq_false_iff, beq_eq_false_iff_ne]
  constructor <;> (intro e; subst e; revert h; decide)
theorem any_take {s : By} {pos w : Nat} (h : (s.take pos).any spB = false) (hb : ∀ k (hk : k < s.length), pos ≤ k → k < pos + w → spB s[k] = false) : (s.take (pos + w)).any spB = false := by
  rw [List.any_eq_false] at *
  intro x hx
  obtain ⟨k, hk, rfl⟩ := List.mem_take_iff_getElem.1 hx
  by_cases h1 : k < pos
  · exact h _ (List.mem_take_iff_getElem.2 ⟨k, by omega, rfl⟩)
  · rw [hb k (by omega) (by omega) (by omega)]; simp
theorem idxAny_sh (s : By) (h8 : s.length ≤ 8) : Tri Tryz.prog 109 [.str s, .str [32, 10]] [] fun v h' => ∃ r : Int, v = .int .i64 r ∧ decide (0 ≤ r) = s.any spB := by
  have hsa := ascii_tri s.length h8
  refine Tri.of_wc Tryz.func109 rfl Tryz.results109 Tryz.ntmps109 (by simp) ?_
  refine WC.seq_k fun K1 hK2 => ?_
  refine WC.region ?_
  refine wU (gE rfl ?_)
  refine wOps.done ?_
  refine hK2 _ _ _ ?_
  clear hK2 K1
  refine WC.seq_k fun K3 hK4 => ?_
  refine WC.seq_k fun K5 hK6 => ?_
  refine WC.region ?_
  refine wU (gE rfl ?_)
  refine wU (gE (v := .bool false) rfl ?_)
  refine wOps.done ?_
  refine hK6 _ _ _ ?_
  clear hK6 K5
  first | refine WC.cond (b := false) rfl (fun hh => by simp at hh) (fun _ => ?_) | refine WC.cond rfl (fun hh => by simp_all) (fun _ => ?_)
  refine WC.skip ?_
  refine hK4 _ _ _ ?_
  clear hK4 K3
  refine WC.seq_k fun K7 hK8 => ?_
  refine WC.seq_k fun K9 hK10 => ?_
  refine WC.region ?_
  refine wU (gE rfl ?_)
  refine wU (gLen rfl rfl tisstr9 ?_)
  refine wU (gE (v := .bool false) rfl ?_)
  refine wOps.done ?_
  refine hK10 _ _ _ ?_
  clear hK10 K9
  first | refine WC.cond (b := false) rfl (fun hh => by simp at hh) (fun _ => ?_) | refine WC.cond rfl (fun hh => by simp_all) (fun _ => ?_)
  refine WC.skip ?_
  refine hK8 _ _ _ ?_
  clear hK8 K7
  refine WC.seq_k fun K11 hK12 => ?_
  refine WC.seq_k fun K13 hK14 => ?_
  refine WC.region ?_
  refine wU (gE rfl ?_)
  refine wU (gLen rfl rfl tisstr9 ?_)
  refine wU (gPure rfl isGo133 hsa ?_)
  refine wOps.done ?_
  refine hK14 _ _ _ ?_
  clear hK14 K13
  first | refine WC.cond (b := false) rfl (fun hh => by simp at hh) (fun _ => ?_) | refine WC.cond rfl (fun hh => by simp_all) (fun _ => ?_)
  refine WC.skip ?_
  refine hK12 _ _ _ ?_
  clear hK12 K11
  refine WC.seq_k fun K15 hK16 => ?_
  refine WC.seq_k fun K17 hK18 => ?_
  refine WC.region ?_
  refine wU (gE rfl ?_)
  refine wU (gOp (OpS.rangeStr rfl tisstr9 rfl fun b0 hb0 => ?_) rfl)
  refine wOps.done ?_
  refine hK18 _ _ _ ?_
  clear hK18 K17
  refine WC.block ?_
  refine WC.loopI (α := Nat) (fun _ => [(1, .str [32, 10]), (45, .ptr b0 0)]) (fun pos => [(b0, .striter s pos)]) (fun pos => s.length - pos) (fun pos => pos ≤ s.length ∧ (s.take pos).any spB = false) 0 ?_ ?_ ?_ ?_
  · exact sub_cons rfl (sub_cons rfl (sub_nil _))
  · exact Ent.refl _ _
  · exact ⟨Nat.zero_le _, by simp⟩
  rintro pos ⟨hp, hany⟩
  refine WC.seq_k fun K19 hK20 => ?_
  by_cases hlt : pos < s.length
  · skip
    refine WC.region ?_
    refine wU (gOp (OpS.nextStr (s := s) (pos := pos) rfl rfl (by simp only [hget, ↓reduceIte]) (fun _ => ?_) (fun h => absurd hlt h)) rfl)
    have hd := dec_facts s pos hlt
    generalize Utf8.decode ⟨s.toArray⟩ pos = d at hd ⊢
    obtain ⟨c, w⟩ := d
    simp only [hset, ↓reduceIte] at hd ⊢
    refine wU (gE rfl ?_)
    refine wOps.done ?_
    refine hK20 _ _ _ ?_
    clear hK20 K19
    refine WC.seq_k fun K21 hK22 => ?_
    first | refine WC.cond (b := true) rfl (fun _ => ?_) (fun hh => by simp at hh) | refine WC.cond rfl (fun _ => ?_) (fun hh => by simp_all)
    refine WC.skip ?_
    refine hK22 _ _ _ ?_
    clear hK22 K21
    refine WC.block ?_
    refine WC.seq_k fun K23 hK24 => ?_
    refine WC.region ?_
    refine wU (gE rfl ?_)
    refine wU (gE rfl ?_)
    refine wU (gE rfl ?_)
    refine wU (gE rfl ?_)
    refine wOps.done ?_
    refine hK24 _ _ _ ?_
    clear hK24 K23
    refine WC.seq_k fun K25 hK26 => ?_
    refine WC.region ?_
    refine wU (gE rfl ?_)
    refine wU (gE rfl ?_)
    refine wU (gPure rfl isGo132 (idxRune_all c (by omega)) ?_)
    refine wU (gE rfl ?_)
    refine wOps.done ?_
    refine hK26 _ _ _ ?_
    clear hK26 K25
    refine WC.cond rfl (fun c27 => ?_) (fun c27 => ?_)
    · skip
      refine WC.seq_k fun K28 hK29 => ?_
      refine WC.region ?_
      refine wU (gE rfl ?_)
      refine wU (gE rfl ?_)
      refine wOps.done ?_
      refine hK29 _ _ _ ?_
      clear hK29 K28
      refine WC.ret ?_
      refine ⟨_, rfl, _, rfl, ?_⟩
      have hc0 : 0 ≤ idxR c := by simpa using c27
      rcases hd with ⟨h1, h2⟩ | ⟨h1, -⟩
      · simp only [Prod.mk.injEq] at h2
        have hb := idxR_byte s[pos] h1
        rw [← h2.1] at hb
        have hs : spB s[pos] = true := by rw [← hb]; simpa using hc0
        have ha : s.any spB = true := List.any_eq_true.2 ⟨s[pos], List.getElem_mem _, hs⟩
        rw [ha]; simp
      · exfalso; unfold idxR at hc0; rw [if_neg (by omega)] at hc0; omega
    · skip
      refine WC.skip ?_
      have hc0 : ¬ 0 ≤ idxR c := by simpa using c27
      rcases hd with ⟨h1, h2⟩ | ⟨h1, h2, h3, h4⟩
      · simp only [Prod.mk.injEq] at h2
        obtain ⟨rfl, rfl⟩ := h2
        have hb := idxR_byte s[pos] h1
        have hs : spB s[pos] = false := by rw [← hb]; simpa using hc0
        exact ⟨pos + 1, rfl, by omega, ⟨by omega, any_take hany fun k hk h5 h6 => by have e : k = pos := (by omega); subst e; exact hs⟩, Ent.sub (sub_cons rfl (sub_cons rfl (sub_nil _)))⟩
      · exact ⟨pos + w, rfl, by omega, ⟨h3, any_take hany fun k hk h5 h6 => spB_hi (h4 k hk h5 h6)⟩, Ent.sub (sub_cons rfl (sub_cons rfl (sub_nil _)))⟩
  · skip
    refine WC.region ?_
    refine wU (gOp (OpS.nextStr (s := s) (pos := pos) rfl rfl (by simp only [hget, ↓reduceIte]) (fun h => absurd h hlt) (fun _ => ?_)) rfl)
    refine wU (gE rfl ?_)
    refine wOps.done ?_
    refine hK20 _ _ _ ?_
    clear hK20 K19
    refine WC.seq_k fun K30 hK31 => ?_
    first | refine WC.cond (b := false) rfl (fun hh => by simp at hh) (fun _ => ?_) | refine WC.cond rfl (fun hh => by simp_all) (fun _ => ?_)
    refine WC.exit ?_
    refine hK16 _ _ _ ?_
    clear hK31 K30 hK16 K15
    refine WC.seq_k fun K32 hK33 => ?_
    refine WC.region ?_
    refine wU (gE rfl ?_)
    refine wOps.done ?_
    refine hK33 _ _ _ ?_
    clear hK33 K32
    refine WC.ret ?_
    exact ⟨_, rfl, -1, rfl, by rw [List.take_of_length_le (by omega)] at hany; rw [hany]; decide⟩
theorem idxAny_lg (s : By) (h8 : 8 < s.length) (hs : s.length < 4294967281) : PTri Tryz.prog 109 [.str s, .str [32, 10]] (.int .i64 (Lib.indexAny s [32, 10])) := by
  intro F w av ho hav
  rw [vrs_str2 F av hav]
  refine callsIn_of ((Tryz.strings_IndexAny_long (fun w => by rw [Tryz.zeroValue106]; rfl) ⟨s.toArray⟩ ⟨#[32, 10]⟩ w (by decide) (by simpa [ByteArray.size] using h8) (by simpa [ByteArray.size] using hs) (by decide) (fun j b hb => ?_)).mono ?_)
  · have := List.mem_of_getElem? hb
    simp at this
    rcases this with rfl | rfl <;> decide
  · rintro e w' ⟨rfl, rfl⟩
    have hor : ∀ (c : Array Value), OR F (.cells 106 [] c.size) (.cells c 106) := fun c => .cells 106 [] c (0, 0) (by simp) (fun i hi h => by simp at h) (fun i v h => by simp at h)
    have o1 := ho.push (hor (Lib.setCells [32, 10]))
    have o2 := o1.push (hor (Lib.setCells [32, 10]))
    exact ⟨_, _, [], F, rfl, ⟨rfl, rfl⟩, o2.sub (List.nil_sublist _), .int _ _, ((Trans.push F [] w (.cells 106 [] (Lib.setCells [32, 10]).size) _).trans (Trans.push F _ _ (.cells 106 [] (Lib.setCells [32, 10]).size) _)).trans (Trans.sub (List.nil_sublist _))⟩
theorem ca_short2 (s : By) (h8 : s.length ≤ 8) : CA s := by
  unfold CA
  refine PTri.any (Tri.of_wc Tryz.func76 rfl Tryz.results76 Tryz.ntmps76 (by simp) ?_)
  refine WC.seq_k fun K1 hK2 => ?_
  refine WC.region ?_
  refine wU (gE rfl ?_)
  refine wOps.done ?_
  refine hK2 _ _ _ ?_
  clear hK2 K1
  refine WC.seq_k fun K3 hK4 => ?_
  refine WC.region ?_
  refine wU (gE rfl ?_)
  refine wU (gE rfl ?_)
  refine wU (gCall (by rfl) (@CallS.mono _ Tryz.prog 109 _ _ _ _ (@CallS.of_tri _ Tryz.prog 109 _ _ _ isGo109 (idxAny_sh s h8)) ?_))
  rintro v h1 ⟨r, rfl, hr⟩
  refine wU (gE rfl ?_)
  refine wU (gE rfl ?_)
  refine wOps.done ?_
  refine hK4 _ _ _ ?_
  clear hK4 K3
  refine WC.ret ?_
  exact ⟨_, rfl, congrArg V.bool hr⟩
theorem ca_all (s : By) (hs : s.length < 4294967281) : CA s := by
  by_cases h : s.length ≤ 8
  · exact ca_short2 s h
  · exact ca_of s (idxAny_lg s (by omega) hs)
end Go.Proofs.YtfdmdcpopmcmcaaGreatDoor
end

section
namespace Go.Proofs.YtfdmdcpopmcmcaaGreatDoor
open Go.Fw
variable [Gl]
theorem isGo11 : isGo Tryz.prog 11 = true := by kernel_rfl
theorem isGo13 : isGo Tryz.prog 13 = true := by kernel_rfl
theorem isGo16 : isGo Tryz.prog 16 = true := by kernel_rfl
set_option maxRecDepth 20000
theorem cmpL_self : ∀ l : List Lb, cmpL l l = 0
  | [] => rfl
  | p :: l => by simp [cmpL, (cmpB_zero p.1 p.1).2 rfl, (cmpB_zero p.2 p.2).2 rfl, cmpL_self l]
theorem terms_len (s : By) : (termsL s).length ≤ s.length + 1 := by
  refine Nat.le_trans (Lib.compact_length_le _) ?_
  rw [srt_length]
  unfold rawTerms
  rw [List.length_map]
  exact wordsG_len _ _ _
theorem names_small {l : List Lb} (h : greatL l = false) : ∀ p ∈ l, p.1.length ≤ 4294967295 := fun p hp => by
  unfold greatL at h
  rw [Bool.or_eq_false_iff, List.any_eq_false] at h
  have := h.1 p hp
  unfold bigL at this
  simp only [Bool.or_eq_true, decide_eq_true_eq, not_or] at this
  omega
theorem law3_tri (hG : GInt) (s : By) (l : List Lb) (hs0 : s.length ≤ 1048576) (hl : l.length ≤ 1048576) : PTri Tryz.prog 3 [.str s, lsl l] (.bool true) := by
  have hgr := great_tri l (by omega)
  refine PTri.any (Tri.of_wc Tryz.func3 rfl Tryz.results3 Tryz.ntmps3 (by simp) ?_)
  refine WC.seq_k fun K1 hK2 => ?_
  refine WC.region ?_
  refine wU (gE rfl ?_)
  refine wOps.done ?_
  refine hK2 _ _ _ ?_
  clear hK2 K1
  refine WC.seq_k fun K3 hK4 => ?_
  refine WC.seq_k fun K5 hK6 => ?_
  refine WC.region ?_
  refine wU (gE rfl ?_)
  refine wU (gLen rfl rfl tisstr9 ?_)
  refine wU (gE rfl ?_)
  refine wU (gE rfl ?_)
  refine wG rfl rfl rfl rfl (by decide) (fun c7 => ?_) (fun c7 => ?_)
  · skip
    refine gE rfl ?_
    refine wY rfl (gPure rfl isGo8 hgr ?_)
    refine wU (gE rfl ?_)
    refine wOps.done ?_
    refine hK6 _ _ _ ?_
    clear hK6 K5
    refine WC.cond rfl (fun c8 => ?_) (fun c8 => ?_)
    · skip
      refine WC.seq_k fun K9 hK10 => ?_
      refine WC.region ?_
      refine wU (gPure rfl isGo9 (awake_tri hG) ?_)
      refine wU (gE rfl ?_)
      refine wOps.done ?_
      refine hK10 _ _ _ ?_
      clear hK10 K9
      refine WC.ret ?_
      exact ⟨_, rfl, rfl⟩
    · skip
      refine WC.skip ?_
      refine hK4 _ _ _ ?_
      clear hK4 K3
      refine WC.seq_k fun K11 hK12 => ?_
      have hs : s.length ≤ 1100 := by have := of_decide_eq_false c7; omega
      have hn := names_small (l := l) (by simpa using c8)
      have h10 := parse_tri hG s (by omega)
      have h11 := refParse_tri s (by omega)
      have h12 := fmt_tri l (fun h0 p hp => ca_all p.2 (by have := ((chkL_iff l).1 h0).2.1 p hp; omega)) (by omega)
      have h13 := refFmt_tri l (by omega) hn
      have h15 : PTri Tryz.prog 15 [.str s] (ssl (termsL s)) := terms_tri s (by omega)
      have h16 := terms14_tri s (by omega)
      have hpl : (parseL s).1.length ≤ 16 := ((chkL_iff _).1 (parseL_ok s).2).1
      have hs1 := same_tri (parseL s).1 (parseL s).1 (by omega)
      rw [cmpL_self] at hs1
      have htl := terms_len s
      have hs2 := sameS_tri (termsL s) (termsL s) (by omega)
      generalize parseL s = p at *
      obtain ⟨pl, e1⟩ := p
      generalize fmtL l = f at *
      obtain ⟨fs, e2⟩ := f
      generalize termsL s = tm at *
      simp only at h10 h11 h12 h13 hs1 hpl
      refine WC.region ?_
      refine wU (gE rfl ?_)
      refine wU (gPure rfl isGo10 h10 ?_)
      refine wU (gE rfl ?_)
      refine wU (gE rfl ?_)
      refine wU (gE rfl ?_)
      refine wU (gE rfl ?_)
      refine wU (gE rfl ?_)
      refine wOps.done ?_
      refine hK12 _ _ _ ?_
      clear hK12 K11
      refine WC.seq_k fun K13 hK14 => ?_
      refine WC.region ?_
      refine wU (gE rfl ?_)
      refine wU (gPure rfl isGo11 h11 ?_)
      refine wU (gE rfl ?_)
      refine wU (gE rfl ?_)
      refine wU (gE rfl ?_)
      refine wU (gE rfl ?_)
      refine wU (gE rfl ?_)
      refine wOps.done ?_
      refine hK14 _ _ _ ?_
      clear hK14 K13
      refine WC.seq_k fun K15 hK16 => ?_
      refine WC.region ?_
      refine wU (gE rfl ?_)
      refine wU (gPure rfl isGo12 h12 ?_)
      refine wU (gE rfl ?_)
      refine wU (gE rfl ?_)
      refine wU (gE rfl ?_)
      refine wU (gE rfl ?_)
      refine wU (gE rfl ?_)
      refine wOps.done ?_
      refine hK16 _ _ _ ?_
      clear hK16 K15
      refine WC.seq_k fun K17 hK18 => ?_
      refine WC.region ?_
      refine wU (gE rfl ?_)
      refine wU (gPure rfl isGo13 h13 ?_)
      refine wU (gE rfl ?_)
      refine wU (gE rfl ?_)
      refine wU (gE rfl ?_)
      refine wU (gE rfl ?_)
      refine wU (gE rfl ?_)
      refine wOps.done ?_
      refine hK18 _ _ _ ?_
      clear hK18 K17
      refine WC.seq_k fun K19 hK20 => ?_
      rw [show (tm == tm) = true by simp] at hs2
      refine WC.region ?_
      refine wU (gE rfl ?_)
      refine wU (gPure rfl isGo15 h15 ?_)
      refine wU (gE rfl ?_)
      refine wU (gPure rfl isGo16 h16 ?_)
      refine wU (gPure rfl isGo14 hs2 ?_)
      refine wU (gE rfl ?_)
      refine wY rfl (gE rfl ?_)
      refine wY rfl (gE rfl ?_)
      refine wY rfl (gPure rfl isGo17 hs1 ?_)
      refine wU (gE rfl ?_)
      refine wU (gE rfl ?_)
      refine wY rfl (gE rfl ?_)
      refine wY rfl (gE rfl ?_)
      refine wY rfl (gE (v := .bool true) (show some (V.bool (decide (e1 = e1))) = some (V.bool true) by simp) ?_)
      refine wU (gE rfl ?_)
      refine wU (gE rfl ?_)
      refine wY rfl (gE rfl ?_)
      refine wY rfl (gE rfl ?_)
      refine wY rfl (gE (v := .bool true) (show some (V.bool (fs == fs)) = some (V.bool true) by simp) ?_)
      refine wU (gE rfl ?_)
      refine wU (gE rfl ?_)
      refine wY rfl (gE rfl ?_)
      refine wY rfl (gE rfl ?_)
      refine wY rfl (gE (v := .bool true) (show some (V.bool (decide (e2 = e2))) = some (V.bool true) by simp) ?_)
      refine wU (gE rfl ?_)
      refine wU (gE rfl ?_)
      refine wY rfl (gPure rfl isGo9 (awake_tri hG) ?_)
      refine wU (gE rfl ?_)
      refine wU (gE rfl ?_)
      refine wOps.done ?_
      refine hK20 _ _ _ ?_
      clear hK20 K19
      refine WC.ret ?_
      exact ⟨_, rfl, rfl⟩
  · skip
    refine wN rfl ?_
    refine wU (gE rfl ?_)
    refine wOps.done ?_
    refine hK6 _ _ _ ?_
    clear hK6 K5
    first | refine WC.cond (b := true) rfl (fun _ => ?_) (fun hh => by simp at hh) | refine WC.cond rfl (fun _ => ?_) (fun hh => by simp_all)
    refine WC.seq_k fun K21 hK22 => ?_
    refine WC.region ?_
    refine wU (gPure rfl isGo9 (awake_tri hG) ?_)
    refine wU (gE rfl ?_)
    refine wOps.done ?_
    refine hK22 _ _ _ ?_
    clear hK22 K21
    refine WC.ret ?_
    exact ⟨_, rfl, rfl⟩
end Go.Proofs.YtfdmdcpopmcmcaaGreatDoor
end

section
namespace Go.Proofs.YtfdmdcpopmcmcaaGreatDoor
open Go.Fw
variable [Gl]
theorem tint96 : tint Tryz.prog 96 = some .u64 := by kernel_rfl
theorem tslice42 : tslice Tryz.prog 42 = some 36 := by kernel_rfl
theorem tzero36 : tzero Tryz.prog 36 = some [.int .i64 0, .nilslice, .str [], .nilslice, .int .i64 0] := by kernel_rfl
set_option maxRecDepth 20000
theorem tkd42 : tkd Tryz.prog 42 = some 2 := by kernel_rfl
theorem el42 : ElemOk Tryz.prog 42 36 5 80 [.int .i64 0, .nilslice, .str [], .nilslice, .int .i64 0] := ⟨tslice42, tsz36, by kernel_rfl, tzero36, rfl, by decide, by decide⟩
theorem appT42 : appT Tryz.prog 42 = true := by kernel_rfl
theorem conv_u64 (h : Hp) (n : Nat) (hn : n ≤ 4611686018427387904) : evConv Tryz.prog h 3 96 (.int .i64 (n : Nat)) = some (.int .u64 (n : Nat)) := by
  simp only [evConv, tint3, tint96]
  congr 2
  simp only [IntKind.wrap, IntKind.bits, IntKind.signed]
  simp; omega
theorem conv_i64 (h : Hp) (n : Nat) (hn : n ≤ 4611686018427387904) : evConv Tryz.prog h 96 3 (.int .u64 (n : Nat)) = some (.int .i64 (n : Nat)) := by
  simp only [evConv, tint3, tint96]
  congr 2
  exact wrap64_fit (by omega) (by omega)
theorem shr_one (n : Nat) : evShift .shr .u64 (n : Nat) 1 = some (.int .u64 ((n / 2 : Nat) : Int)) := by
  simp only [evShift]
  rw [if_neg (by decide)]
  congr 2
  show Int.fdiv (n : Int) 2 = _
  rw [Int.fdiv_eq_ediv_of_nonneg _ (by omega)]
  omega
def sumLn (l : List En) : Nat := (l.map fun e => e.2.2.1.length).sum
def greatEs (l : List En) : Bool := decide (12 < l.length) || (l.any greatE || decide (3000 < sumLn l))
theorem sumLn_take {l : List En} {i : Nat} (h : i < l.length) : sumLn (l.take (i + 1)) = sumLn (l.take i) + l[i].2.2.1.length := by
  unfold sumLn
  rw [List.take_succ_eq_append_getElem h, List.map_append, List.sum_append]
  simp
theorem greatEs_tri (l : List En) (hl : l.length ≤ 4294967295) (hf : ∀ e ∈ l, fitE e) : PTri Tryz.prog 24 [esl l] (.bool (greatEs l)) := by
  unfold esl
  refine PTri.any (Tri.of_wc Tryz.func24 rfl Tryz.results24 Tryz.ntmps24 (by simp) ?_)
  refine WC.seq_k fun K1 hK2 => ?_
  refine WC.region ?_
  refine wU (gE rfl ?_)
  refine wOps.done ?_
  refine hK2 _ _ _ ?_
  clear hK2 K1
  refine WC.seq_k fun K3 hK4 => ?_
  refine WC.seq_k fun K5 hK6 => ?_
  refine WC.region ?_
  refine wU (gE rfl ?_)
  refine wU (gLen rfl rfl (by rw [lenFits, tslice42]; rfl) ?_)
  refine wU (gE rfl ?_)
  refine wOps.done ?_
  refine hK6 _ _ _ ?_
  clear hK6 K5
  refine WC.cond rfl (fun c7 => ?_) (fun c7 => ?_)
  · skip
    refine WC.seq_k fun K8 hK9 => ?_
    skip
    refine WC.region ?_
    refine wU (gE rfl ?_)
    refine wOps.done ?_
    refine hK9 _ _ _ ?_
    clear hK9 K8
    refine WC.ret ?_
    exact ⟨_, rfl, congrArg V.bool (by unfold greatEs; rw [decide_eq_true (by have := of_decide_eq_true c7; omega)]; rfl)⟩
  · skip
    refine WC.skip ?_
    refine hK4 _ _ _ ?_
    clear hK4 K3
    refine WC.seq_k fun K10 hK11 => ?_
    have h12 : ¬ 12 < l.length := by have := of_decide_eq_false c7; omega
    refine WC.region ?_
    refine wU (gE rfl ?_)
    refine wOps.done ?_
    refine hK11 _ _ _ ?_
    clear hK11 K10
    refine WC.seq_k fun K12 hK13 => ?_
    refine WC.seq_k fun K14 hK15 => ?_
    refine WC.region ?_
    refine wU (gE rfl ?_)
    refine wOps.done ?_
    refine hK15 _ _ _ ?_
    clear hK15 K14
    refine WC.block ?_
    refine WC.loopI (α := Nat) (fun i => [(0, .fslice (ecs l) l.length), (3, .int .i64 (sumLn (l.take i) : Nat)), (4, .int .i64 i)]) (fun _ => []) (fun i => l.length - i) (fun i => i ≤ l.length ∧ l.any greatE = (l.drop i).any greatE ∧ sumLn (l.take i) ≤ i * 4294967295) 0 ?_ ?_ ?_ ?_
    · exact sub_cons rfl (sub_cons rfl (sub_cons rfl (sub_nil _)))
    · exact Ent.refl _ _
    · exact ⟨by simp, by simp, by simp [sumLn]⟩
    rintro i ⟨hil, hany, hsum⟩
    refine WC.seq_k fun K16 hK17 => ?_
    refine WC.seq_k fun K18 hK19 => ?_
    refine WC.region ?_
    refine wU (gE rfl ?_)
    refine wU (gE rfl ?_)
    refine wU (gLen rfl rfl (by rw [lenFits, tslice42]; rfl) ?_)
    refine wU (gE rfl ?_)
    refine wOps.done ?_
    refine hK19 _ _ _ ?_
    clear hK19 K18
    refine WC.cond rfl (fun c20 => ?_) (fun c20 => ?_)
    · skip
      refine WC.skip ?_
      refine hK17 _ _ _ ?_
      clear hK17 K16
      refine WC.seq_k fun K21 hK22 => ?_
      refine WC.block ?_
      refine WC.seq_k fun K23 hK24 => ?_
      refine WC.seq_k fun K25 hK26 => ?_
      refine WC.region ?_
      refine wU (gE rfl ?_)
      refine wU (gE rfl ?_)
      have hi : i < l.length := by simpa using c20
      have hfi := hf _ (List.getElem_mem hi)
      refine wU (gIdxF tslice42 tsz36 rfl rfl (by omega) (by omega) ?_)
      refine wU (gLoadAF tagg36 tsz36 rfl (by rw [ecs_length]; omega) (ecs_part hi) ?_)
      refine wU (gPure rfl isGo18 (greatE_tri l[i] hfi) ?_)
      refine wOps.done ?_
      refine hK26 _ _ _ ?_
      clear hK26 K25
      refine WC.cond rfl (fun c27 => ?_) (fun c27 => ?_)
      · skip
        refine WC.seq_k fun K28 hK29 => ?_
        skip
        refine WC.region ?_
        refine wU (gE rfl ?_)
        refine wOps.done ?_
        refine hK29 _ _ _ ?_
        clear hK29 K28
        refine WC.ret ?_
        have hgi : greatE l[i] = true := by simpa using c27
        exact ⟨_, rfl, congrArg V.bool (by unfold greatEs; rw [hany, any_step hi, hgi]; simp)⟩
      · skip
        refine WC.skip ?_
        refine hK24 _ _ _ ?_
        clear hK24 K23
        refine WC.region ?_
        refine wU (gE rfl ?_)
        refine wU (gE rfl ?_)
        refine wU (gE rfl ?_)
        refine wU (gIdxF tslice42 tsz36 rfl rfl (by omega) (by omega) ?_)
        refine wU (gFieldF tfld36_2 tsz9 rfl ?_)
        refine wU (gLoadF tagg9 rfl (ecs_line hi) ?_)
        refine wU (gLen rfl rfl tisstr9 ?_)
        refine wU (gE (v := .int .i64 (sumLn (l.take (i + 1)) : Nat)) (int_fit (by rw [sumLn_take hi]; omega) (by omega) (by have := hfi.2.1; omega)) ?_)
        refine wU (gE rfl ?_)
        refine wOps.done ?_
        refine hK22 _ _ _ ?_
        clear hK22 K21
        refine WC.region ?_
        refine wU (gE rfl ?_)
        refine wU (gE rfl ?_)
        refine wU (gE rfl ?_)
        refine wOps.done ?_
        have hgi : greatE l[i] = false := by simpa using c27
        exact ⟨i + 1, rfl, by omega, ⟨by omega, by rw [hany, any_step hi, hgi]; rfl, by rw [sumLn_take hi]; have := hfi.2.1; omega⟩, Ent.sub (sub_cons rfl (sub_cons rfl (sub_cons (int_fit (by omega) (by omega) (by omega)) (sub_nil _))))⟩
    · skip
      refine WC.exit ?_
      refine hK13 _ _ _ ?_
      clear hK17 K16 hK13 K12
      refine WC.seq_k fun K30 hK31 => ?_
      refine WC.region ?_
      refine wU (gE rfl ?_)
      refine wU (gE rfl ?_)
      refine wU (gE rfl ?_)
      refine wOps.done ?_
      refine hK31 _ _ _ ?_
      clear hK31 K30
      refine WC.ret ?_
      have he : i = l.length := by have := of_decide_eq_false c20; omega
      have h0 : l.any greatE = false := by rw [hany, he, List.drop_length]; rfl
      have ht : l.take i = l := by rw [he, List.take_length]
      exact ⟨_, rfl, congrArg V.bool (by unfold greatEs; rw [decide_eq_false h12, h0, ht, Bool.false_or, Bool.false_or, decide_eq_decide]; omega)⟩
theorem bin_tri (l : List En) (x : En) (hl : l.length ≤ 1000000) (hf : ∀ e ∈ l, fitE e) (hs : l.Pairwise fun a b => cmpE a b < 0) : PTri Tryz.prog 61 [esl l, env x, .clo 19 []] (.tup [.int .i64 (cntE l x : Nat), .bool (foundE l x)]) := by
  have hcl := cntE_le l x
  have hci := fun {k : Nat} (h : k < l.length) => cntE_iff hs x h
  have hfo := found_iff hs x
  generalize foundE l x = fo at *
  generalize cntE l x = K at *
  unfold esl
  refine PTri.any (Tri.of_wc Tryz.func61 rfl Tryz.results61 Tryz.ntmps61 (by simp) ?_)
  refine WC.seq_k fun K1 hK2 => ?_
  refine WC.region ?_
  refine wU (gBox rfl fun b0 hb0 => ?_)
  rw [show vcells (env x) = eCells x from rfl, eCells_length]
  refine wU (gE rfl ?_)
  refine wU (gE rfl ?_)
  refine wOps.done ?_
  refine hK2 _ _ _ ?_
  clear hK2 K1
  refine WC.seq_k fun K3 hK4 => ?_
  refine WC.region ?_
  refine wU (gE rfl ?_)
  refine wU (gLen rfl rfl (by rw [lenFits, tslice42]; rfl) ?_)
  refine wU (gE rfl ?_)
  refine wOps.done ?_
  refine hK4 _ _ _ ?_
  clear hK4 K3
  refine WC.seq_k fun K5 hK6 => ?_
  refine WC.region ?_
  refine wU (gE rfl ?_)
  refine wU (gE rfl ?_)
  refine wU (gE rfl ?_)
  refine wOps.done ?_
  refine hK6 _ _ _ ?_
  clear hK6 K5
  refine WC.seq_k fun K7 hK8 => ?_
  refine WC.block ?_
  refine WC.loopI (α := Nat × Nat) (fun a => [(0, .fslice (ecs l) l.length), (2, .clo 19 []), (4, .ptr b0 0), (8, .int .i64 l.length), (9, .int .i64 a.1), (10, .int .i64 a.2)]) (fun _ => [(b0, .cells 36 (eCells x) 5)]) (fun a => a.2 - a.1) (fun a => a.1 ≤ K ∧ K ≤ a.2 ∧ a.2 ≤ l.length) (0, l.length) ?_ ?_ ?_ ?_
  · exact sub_cons rfl (sub_cons rfl (sub_cons rfl (sub_cons rfl (sub_cons rfl (sub_cons rfl (sub_nil _))))))
  · exact Ent.refl _ _
  · exact ⟨Nat.zero_le _, hcl, Nat.le_refl _⟩
  rintro ⟨i, j⟩ ⟨hiK, hKj, hjl⟩
  simp only at hiK hKj hjl ⊢
  refine WC.seq_k fun K9 hK10 => ?_
  refine WC.seq_k fun K11 hK12 => ?_
  refine WC.region ?_
  refine wU (gE rfl ?_)
  refine wU (gE rfl ?_)
  refine wU (gE rfl ?_)
  refine wOps.done ?_
  refine hK12 _ _ _ ?_
  clear hK12 K11
  refine WC.cond rfl (fun c13 => ?_) (fun c13 => ?_)
  · skip
    refine WC.skip ?_
    refine hK10 _ _ _ ?_
    clear hK10 K9
    refine WC.block ?_
    refine WC.seq_k fun K14 hK15 => ?_
    refine WC.region ?_
    refine wU (gE rfl ?_)
    refine wU (gE rfl ?_)
    refine wU (gE (v := .int .i64 ((i + j : Nat) : Int)) (int_fit (by omega) (by omega) (by omega)) ?_)
    refine wU (gConv rfl (fun _ h => by simp at h) (conv_u64 _ (i + j) (by omega)) ?_)
    refine wU (gE (v := .int .u64 (((i + j) / 2 : Nat) : Int)) (shr_one (i + j)) ?_)
    refine wU (gConv rfl (fun _ h => by simp at h) (conv_i64 _ ((i + j) / 2) (by omega)) ?_)
    refine wU (gE rfl ?_)
    refine wOps.done ?_
    refine hK15 _ _ _ ?_
    clear hK15 K14
    refine WC.seq_k fun K16 hK17 => ?_
    refine WC.region_draw mixed ?_
    refine wA.val 0 rfl rfl rfl (fun _ _ hK => gE rfl hK) (by kernel_rfl) ?_
    refine wA.val 1 rfl rfl rfl (fun _ _ hK => gE rfl hK) (by kernel_rfl) ?_
    refine wA.val 2 rfl rfl rfl (fun _ _ hK => gE rfl hK) (by kernel_rfl) ?_
    have hij : i < j := by have := of_decide_eq_true c13; omega
    have hh : (i + j) / 2 < l.length := by omega
    have hfh := hf _ (List.getElem_mem hh)
    refine wA.val 3 rfl rfl rfl (fun _ _ hK => gIdxF tslice42 tsz36 rfl rfl (by omega) (by omega) hK) (by kernel_rfl) ?_
    refine wA.val 4 rfl rfl rfl (fun _ _ hK => gLoadAF tagg36 tsz36 rfl (by rw [ecs_length]; omega) (ecs_part hh) hK) (by kernel_rfl) ?_
    refine wA.ld 5 rfl rfl rfl (fun _ hle _ hK => gLoadA (T' := 36) (cs := eCells x) (nn := 5) tagg36 tsz36 rfl (hle _ _ (by simp only [hget, ↓reduceIte] <;> rfl)) (by simp [eCells]) rfl hK) (by kernel_rfl) ?_
    refine wA.val 6 rfl rfl rfl (fun _ _ hK => by refine gPureV rfl rfl isGo19 (cmpE_tri l[(i + j) / 2] x hfh) ?_; exact hK) (by kernel_rfl) ?_
    refine wA.val 7 rfl rfl rfl (fun _ _ hK => gE rfl hK) (by kernel_rfl) ?_
    refine wA.done (by kernel_rfl) ?_
    refine hK17 _ _ _ ?_
    clear hK17 K16
    refine WC.cond rfl (fun c18 => ?_) (fun c18 => ?_)
    · skip
      skip
      refine WC.region ?_
      refine wU (gE rfl ?_)
      refine wU (gE rfl ?_)
      refine wU (gE rfl ?_)
      refine wOps.done ?_
      have hlt : (i + j) / 2 < K := (hci hh).1 (by simpa using c18)
      exact ⟨((i + j) / 2 + 1, j), rfl, by simp only; omega, ⟨by simp only; omega, by simp only; omega, by simp only; omega⟩, Ent.sub (sub_cons rfl (sub_cons rfl (sub_cons rfl (sub_cons rfl (sub_cons (int_fit (by omega) (by omega) (by omega)) (sub_cons rfl (sub_nil _)))))))⟩
    · skip
      refine WC.region ?_
      refine wU (gE rfl ?_)
      refine wU (gE rfl ?_)
      refine wOps.done ?_
      have hlt : ¬ (i + j) / 2 < K := fun h => absurd ((hci hh).2 h) (by simpa using c18)
      exact ⟨(i, (i + j) / 2), rfl, by simp only; omega, ⟨by simp only; omega, by simp only; omega, by simp only; omega⟩, Ent.sub (sub_cons rfl (sub_cons rfl (sub_cons rfl (sub_cons rfl (sub_cons rfl (sub_cons rfl (sub_nil _)))))))⟩
  · skip
    refine WC.exit ?_
    refine hK8 _ _ _ ?_
    clear hK10 K9 hK8 K7
    refine WC.seq_k fun K19 hK20 => ?_
    refine WC.region_draw mixed ?_
    refine wA.val 0 rfl rfl rfl (fun _ _ hK => gE rfl hK) (by kernel_rfl) ?_
    refine wA.val 1 rfl rfl rfl (fun _ _ hK => gE rfl hK) (by kernel_rfl) ?_
    refine wA.val 2 rfl rfl rfl (fun _ _ hK => gE rfl hK) (by kernel_rfl) ?_
    refine wA.val 3 rfl rfl rfl (fun _ _ hK => gE rfl hK) (by kernel_rfl) ?_
    refine wA.val 4 rfl rfl rfl (fun _ _ hK => gE rfl hK) (by kernel_rfl) ?_
    refine wA.split (e := 39) true rfl (fun c21 => ?_) (fun c21 => ?_)
    · skip
      refine wA.val 5 rfl rfl rfl (fun _ _ hK => gE rfl hK) (by kernel_rfl) ?_
      refine wA.val 6 rfl rfl rfl (fun _ _ hK => gE rfl hK) (by kernel_rfl) ?_
      refine wA.val 7 rfl rfl rfl (fun _ _ hK => gE rfl hK) (by kernel_rfl) ?_
      have hk : i < l.length := by simpa using c21
      have hfk := hf _ (List.getElem_mem hk)
      refine wA.val 8 rfl rfl rfl (fun _ _ hK => gIdxF tslice42 tsz36 rfl rfl (by omega) (by omega) hK) (by kernel_rfl) ?_
      refine wA.val 9 rfl rfl rfl (fun _ _ hK => gLoadAF tagg36 tsz36 rfl (by rw [ecs_length]; omega) (ecs_part hk) hK) (by kernel_rfl) ?_
      refine wA.ld 10 rfl rfl rfl (fun _ hle _ hK => gLoadA (T' := 36) (cs := eCells x) (nn := 5) tagg36 tsz36 rfl (hle _ _ (by simp only [hget, ↓reduceIte] <;> rfl)) (by simp [eCells]) rfl hK) (by kernel_rfl) ?_
      refine wA.val 11 rfl rfl rfl (fun _ _ hK => by refine gPureV rfl rfl isGo19 (cmpE_tri l[i] x hfk) ?_; exact hK) (by kernel_rfl) ?_
      refine wA.val 12 rfl rfl rfl (fun _ _ hK => gE rfl hK) (by kernel_rfl) ?_
      refine wA.val 13 rfl rfl rfl (fun _ _ hK => gE rfl hK) (by kernel_rfl) ?_
      refine wA.val 14 rfl rfl rfl (fun _ _ hK => gE rfl hK) (by kernel_rfl) ?_
      refine wA.val 15 rfl rfl rfl (fun _ _ hK => gE rfl hK) (by kernel_rfl) ?_
      refine wA.done (by kernel_rfl) ?_
      refine hK20 _ _ _ ?_
      clear hK20 K19
      refine WC.ret ?_
      have hij : ¬ i < j := by have := of_decide_eq_false c13; omega
      have hiK : i = K := by omega
      subst hiK
      refine ⟨_, rfl, ?_⟩
      have e1 : decide (cmpE l[i] x = 0) = fo := by rw [Bool.eq_iff_iff, decide_eq_true_eq, hfo]; exact ⟨fun h => ⟨hk, h⟩, fun ⟨_, h⟩ => h⟩
      rw [← e1]
      rfl
    · skip
      refine wA.skip 5 rfl rfl rfl (by kernel_rfl) ?_
      refine wA.skip 6 rfl rfl rfl (by kernel_rfl) ?_
      refine wA.skip 7 rfl rfl rfl (by kernel_rfl) ?_
      refine wA.skip 8 rfl rfl rfl (by kernel_rfl) ?_
      refine wA.skip 9 rfl rfl rfl (by kernel_rfl) ?_
      refine wA.skip 10 rfl rfl rfl (by kernel_rfl) ?_
      refine wA.skip 11 rfl rfl rfl (by kernel_rfl) ?_
      refine wA.skip 12 rfl rfl rfl (by kernel_rfl) ?_
      refine wA.val 13 rfl rfl rfl (fun _ _ hK => gE rfl hK) (by kernel_rfl) ?_
      refine wA.val 14 rfl rfl rfl (fun _ _ hK => gE rfl hK) (by kernel_rfl) ?_
      refine wA.val 15 rfl rfl rfl (fun _ _ hK => gE rfl hK) (by kernel_rfl) ?_
      refine wA.done (by kernel_rfl) ?_
      refine hK20 _ _ _ ?_
      clear hK20 K19
      refine WC.ret ?_
      have hij : ¬ i < j := by have := of_decide_eq_false c13; omega
      have hiK : i = K := by omega
      subst hiK
      refine ⟨_, rfl, ?_⟩
      have e1 : fo = false := by rw [← Bool.not_eq_true, hfo]; rintro ⟨h, -⟩; have := of_decide_eq_false c21; omega
      rw [e1]
theorem cloneE_tri (l : List En) (hl : l.length ≤ 1000000) : Tri Tryz.prog 63 [esl l] [] fun v h' => ∃ o : BS, v = gsV o l.length ∧ h' = gsH 36 5 o (ecs l) ∧ (o = none → l = []) ∧ ∀ q N, o = some (q, N) → l.length ≤ N := by
  unfold esl
  refine Tri.of_wc Tryz.func63 rfl Tryz.results63 Tryz.ntmps63 (by simp) ?_
  refine WC.seq_k fun K1 hK2 => ?_
  refine WC.region ?_
  refine wU (gE rfl ?_)
  refine wOps.done ?_
  refine hK2 _ _ _ ?_
  clear hK2 K1
  refine WC.seq_k fun K3 hK4 => ?_
  refine WC.seq_k fun K5 hK6 => ?_
  refine WC.region ?_
  refine wU (gE rfl ?_)
  refine wU (gOp (OpS.eqnil rfl tkd42 rfl rfl fun bb hbb => ?_) rfl)
  refine wOps.done ?_
  refine hK6 _ _ _ ?_
  clear hK6 K5
  refine WC.cond rfl (fun c7 => ?_) (fun c7 => ?_)
  · skip
    refine WC.seq_k fun K8 hK9 => ?_
    refine WC.region ?_
    refine wU (gE rfl ?_)
    refine wOps.done ?_
    refine hK9 _ _ _ ?_
    clear hK9 K8
    refine WC.ret ?_
    have h0 : l = [] := List.length_eq_zero_iff.1 (hbb (by simpa using c7)).2
    subst h0
    exact ⟨_, rfl, none, rfl, rfl, fun _ => rfl, fun q N e => by simp at e⟩
  · skip
    refine WC.skip ?_
    refine hK4 _ _ _ ?_
    clear hK4 K3
    refine WC.seq_k fun K10 hK11 => ?_
    refine WC.region ?_
    refine wU (gBuildSlice (cs := []) tslice42 tsz36 tzero36 rfl (by simp [evFill, putL, zcells, vcells]) (by decide) (by decide) fun p0 hp0 => ?_)
    refine wU (gE rfl ?_)
    refine wU (gOp (OpS.appGs (s := some (p0, 0)) (cs := []) (us := ecs l) (hx := []) (len := 0) (m := l.length) (k := 5) (e := 36) ⟨rfl⟩ el42 appT42 rfl rfl rfl (fun q N e => by simp) (fun e => by simp at e) rfl (by simp only [evSrc, ecs_length]; rw [if_pos (Nat.le_refl _), List.take_of_length_le (by rw [ecs_length]; omega)]) (ecs_leaf _) (fun h => by rw [List.length_eq_zero_iff.1 h]; rfl) (by omega) fun o1 ho1 hno1 => ?_) rfl)
    rw [Nat.zero_add, List.nil_append, List.append_nil]
    rw [Nat.zero_add] at ho1 hno1
    rw [List.nil_append] at hno1
    refine wU (gE rfl ?_)
    refine wOps.done ?_
    refine hK11 _ _ _ ?_
    clear hK11 K10
    refine WC.ret ?_
    exact ⟨_, rfl, o1, rfl, rfl, fun e => List.length_eq_zero_iff.1 (hno1 e).2, fun q N e => (ho1 q N e).2⟩
end Go.Proofs.YtfdmdcpopmcmcaaGreatDoor
end

section
namespace Go.Proofs.YtfdmdcpopmcmcaaGreatDoor
open Go.Fw
variable [Gl]
set_option maxRecDepth 20000
theorem isOv : IsOverlaps Tryz.prog 85 42 4 36 5 := ⟨⟨_, Tryz.func85, by kernel_rfl, by kernel_rfl, by kernel_rfl, by kernel_rfl⟩, tslice42, tsz36⟩
theorem putL_at {A B C D : List V} {n : Nat} (hn : A.length = n) (hl : B.length = D.length) : putL (A ++ (B ++ C)) n D = A ++ (D ++ C) := by
  subst hn
  unfold putL
  rw [List.take_left, List.append_assoc, ← hl, ← List.drop_drop, List.drop_left, List.drop_left]
theorem putL_end {A B D : List V} {n : Nat} (hn : A.length = n) (hl : B.length ≤ D.length) : putL (A ++ B) n D = A ++ D := by
  subst hn
  unfold putL
  rw [List.take_left, ← List.drop_drop, List.drop_left, List.drop_of_length_le hl, List.append_nil]
theorem insert_tri (o : BS) (l : List En) (i p : Nat) (x : En) (hl : l.length ≤ 1000000) (hi : i ≤ l.length) (ho : o = none → l = []) (hN : ∀ q N, o = some (q, N) → l.length ≤ N ∧ p ≠ q) :
    Tri Tryz.prog 62 [gsV o l.length, .int .i64 i, .slice p 0 1 1] ((p, .cells 36 (eCells x) 5) :: gsH 36 5 o (ecs l)) fun v h' => ∃ q N, v = .slice q 0 (l.length + 1) N ∧ hget h' q = some (.cells 36 (ecs (l.take i ++ x :: l.drop i)) (N * 5)) := by
  have esrc : ∀ h, evSrc ((p, .cells 36 (eCells x) 5) :: h) 5 (.slice p 0 1 1) = some (eCells x, 1) := fun h => by simp [evSrc, hget, eCells]
  have efin : ecs (l.take i ++ x :: l.drop i) = ecs (l.take i) ++ (eCells x ++ ecs (l.drop i)) := by rw [ecs_append, ecs_cons]
  have eti : (ecs (l.take i)).length = i * 5 := by rw [ecs_length, List.length_take, Nat.min_eq_left hi]
  have edi : (ecs (l.drop i)).length = (l.length - i) * 5 := by rw [ecs_length, List.length_drop]
  have hdr : (ecs (l.drop i)).take ((l.length - i) * 5) = ecs (l.drop i) := List.take_of_length_le (by rw [edi]; exact Nat.le_refl _)
  refine Tri.of_wc Tryz.func62 rfl Tryz.results62 Tryz.ntmps62 (by simp) ?_
  refine WC.seq_k fun K1 hK2 => ?_
  refine WC.region ?_
  refine wU (gE rfl ?_)
  refine wOps.done ?_
  refine hK2 _ _ _ ?_
  clear hK2 K1
  refine WC.seq_k fun K3 hK4 => ?_
  rcases o with _ | ⟨q, N⟩ <;> simp only [gsV, gsH]
  · skip
    have hl0 := ho rfl; subst hl0; obtain rfl : i = 0 := Nat.le_zero.1 hi
    refine WC.region ?_
    refine wU (gE rfl ?_)
    refine wU (gE rfl ?_)
    refine wU (gSliceN (hi := none) tslice42 tsz36 rfl rfl rfl rfl rfl ?_)
    refine wOps.done ?_
    refine hK4 _ _ _ ?_
    clear hK4 K3
    refine WC.seq_k fun K5 hK6 => ?_
    refine WC.region ?_
    refine wU (gE rfl ?_)
    refine wU (gLen rfl rfl (by show lenFits Tryz.prog 42 (.slice p 0 1 1) = true; rw [lenFits, tslice42]; rfl) ?_)
    refine wU (gE rfl ?_)
    refine wOps.done ?_
    refine hK6 _ _ _ ?_
    clear hK6 K5
    refine WC.seq_k fun K7 hK8 => ?_
    refine WC.seq_k fun K9 hK10 => ?_
    refine WC.region ?_
    refine wU (gE rfl ?_)
    refine wU (gE (v := .bool false) rfl ?_)
    refine wOps.done ?_
    refine hK10 _ _ _ ?_
    clear hK10 K9
    first | refine WC.cond (b := false) rfl (fun hh => by simp at hh) (fun _ => ?_) | refine WC.cond rfl (fun hh => by simp_all) (fun _ => ?_)
    refine WC.skip ?_
    refine hK8 _ _ _ ?_
    clear hK8 K7
    refine WC.seq_k fun K11 hK12 => ?_
    refine WC.region ?_
    refine wU (gE rfl ?_)
    refine wU (gLen rfl rfl (by first | (show lenFits Tryz.prog 42 .nilslice = true; rw [lenFits, tslice42]; rfl) | (show lenFits Tryz.prog 42 (.slice q 0 l.length N) = true; rw [lenFits, tslice42]; rfl)) ?_)
    refine wU (gE rfl ?_)
    refine wOps.done ?_
    refine hK12 _ _ _ ?_
    clear hK12 K11
    refine WC.seq_k fun K13 hK14 => ?_
    refine WC.seq_k fun K15 hK16 => ?_
    refine WC.region ?_
    refine wU (gE rfl ?_)
    refine wU (gE rfl ?_)
    refine wU (gE (v := .bool true) rfl ?_)
    refine wOps.done ?_
    refine hK16 _ _ _ ?_
    clear hK16 K15
    first | refine WC.cond (b := true) rfl (fun _ => ?_) (fun hh => by simp at hh) | refine WC.cond rfl (fun _ => ?_) (fun hh => by simp_all)
    refine WC.seq_k fun K17 hK18 => ?_
    skip
    refine WC.region ?_
    refine wU (gE rfl ?_)
    refine wU (gE rfl ?_)
    refine wU (gOp (OpS.appGs (s := none) (cs := []) (us := eCells x) (hx := [(p, .cells 36 (eCells x) 5)]) (len := 0) (m := 1) (k := 5) (e := 36) ⟨rfl⟩ el42 appT42 rfl rfl rfl (fun q N e => by simp at e) (fun _ => ⟨rfl, rfl⟩) rfl (esrc _) (eCells_leaf x) (fun h => by simp at h) (by omega) fun o1 ho1 hno1 => ?_) rfl)
    refine wU (gE rfl ?_)
    refine wOps.done ?_
    refine hK18 _ _ _ ?_
    clear hK18 K17
    refine WC.ret ?_
    have hs1 : o1 ≠ none := fun e => by have := (hno1 e).2; omega
    obtain ⟨⟨q1, N1⟩, rfl⟩ := Option.ne_none_iff_exists'.1 hs1
    exact ⟨_, rfl, q1, N1, rfl, by simp [gsH, hget, ecs]⟩
  · skip
    obtain ⟨hNl, hpq⟩ := hN q N rfl; have hqp : ¬ q = p := fun e => hpq e.symm
    refine WC.region ?_
    refine wU (gE rfl ?_)
    refine wU (gE rfl ?_)
    refine wU (gSliceS (hi := none) (o2 := if N = i then 0 else 0 + i * 5) (l2 := l.length - i) (c2 := N - i) tslice42 tsz36 rfl rfl rfl rfl rfl rfl (by simp; omega) (by simp; omega) ?_)
    refine wOps.done ?_
    refine hK4 _ _ _ ?_
    clear hK4 K3
    refine WC.seq_k fun K19 hK20 => ?_
    refine WC.region ?_
    refine wU (gE rfl ?_)
    refine wU (gLen rfl rfl (by show lenFits Tryz.prog 42 (.slice p 0 1 1) = true; rw [lenFits, tslice42]; rfl) ?_)
    refine wU (gE rfl ?_)
    refine wOps.done ?_
    refine hK20 _ _ _ ?_
    clear hK20 K19
    refine WC.seq_k fun K21 hK22 => ?_
    refine WC.seq_k fun K23 hK24 => ?_
    refine WC.region ?_
    refine wU (gE rfl ?_)
    refine wU (gE (v := .bool false) rfl ?_)
    refine wOps.done ?_
    refine hK24 _ _ _ ?_
    clear hK24 K23
    first | refine WC.cond (b := false) rfl (fun hh => by simp at hh) (fun _ => ?_) | refine WC.cond rfl (fun hh => by simp_all) (fun _ => ?_)
    refine WC.skip ?_
    refine hK22 _ _ _ ?_
    clear hK22 K21
    refine WC.seq_k fun K25 hK26 => ?_
    refine WC.region ?_
    refine wU (gE rfl ?_)
    refine wU (gLen rfl rfl (by first | (show lenFits Tryz.prog 42 .nilslice = true; rw [lenFits, tslice42]; rfl) | (show lenFits Tryz.prog 42 (.slice q 0 l.length N) = true; rw [lenFits, tslice42]; rfl)) ?_)
    refine wU (gE rfl ?_)
    refine wOps.done ?_
    refine hK26 _ _ _ ?_
    clear hK26 K25
    refine WC.seq_k fun K27 hK28 => ?_
    refine WC.seq_k fun K29 hK30 => ?_
    refine WC.region ?_
    refine wU (gE rfl ?_)
    refine wU (gE rfl ?_)
    refine wU (gE rfl ?_)
    refine wOps.done ?_
    refine hK30 _ _ _ ?_
    clear hK30 K29
    refine WC.cond rfl (fun c31 => ?_) (fun c31 => ?_)
    · skip
      refine WC.seq_k fun K32 hK33 => ?_
      skip
      refine WC.region ?_
      refine wU (gE rfl ?_)
      refine wU (gE rfl ?_)
      refine wU (gOp (OpS.appGs (s := some (q, N)) (cs := ecs l) (us := eCells x) (hx := [(p, .cells 36 (eCells x) 5)]) (len := l.length) (m := 1) (k := 5) (e := 36) ⟨rfl⟩ el42 appT42 rfl rfl rfl (fun q N e => by simp at e; obtain ⟨rfl, rfl⟩ := e; simpa using hqp) (fun e => by simp at e) (ecs_length l) (esrc _) (eCells_leaf x) (fun h => by simp at h) (by omega) fun o1 ho1 hno1 => ?_) rfl)
      refine wU (gE rfl ?_)
      refine wOps.done ?_
      refine hK33 _ _ _ ?_
      clear hK33 K32
      refine WC.ret ?_
      have hs1 : o1 ≠ none := fun e => by have := (hno1 e).2; omega
      obtain ⟨⟨q1, N1⟩, rfl⟩ := Option.ne_none_iff_exists'.1 hs1
      have hil : i = l.length := by have h0 : (i : Int) = l.length := (by simpa using c31); omega
      exact ⟨_, rfl, q1, N1, rfl, by subst hil; rw [efin, List.take_length, List.drop_length]; simp [gsH, hget, ecs]⟩
    · skip
      refine WC.skip ?_
      refine hK28 _ _ _ ?_
      clear hK28 K27
      refine WC.seq_k fun K34 hK35 => ?_
      refine WC.seq_k fun K36 hK37 => ?_
      refine WC.region ?_
      refine wU (gE rfl ?_)
      refine wU (gE rfl ?_)
      refine wU (gE (v := .int .i64 ((l.length + 1 : Nat) : Int)) (int_fit (by omega) (by omega) (by omega)) ?_)
      refine wU (gE rfl ?_)
      have hin : i < l.length := by have h0 : ¬ (i : Int) = l.length := (by simpa using c31); omega
      refine wU (gOp (OpS.cap rfl tslice42 rfl ?_) rfl)
      refine wU (gE rfl ?_)
      refine wOps.done ?_
      refine hK37 _ _ _ ?_
      clear hK37 K36
      refine WC.cond rfl (fun c38 => ?_) (fun c38 => ?_)
      · skip
        refine WC.seq_k fun K39 hK40 => ?_
        refine WC.region ?_
        refine wU (gE rfl ?_)
        refine wU (gE rfl ?_)
        refine wU (gSliceS (lo := none) (o2 := 0) (l2 := i) (c2 := N) tslice42 tsz36 rfl rfl rfl (by first | (simp; omega) | (simp; intro h; omega) | (rw [if_neg (by simp; omega)]; simp)) (by simp; try omega) (by simp) (by simp; try omega) (by simp; try omega) ?_)
        refine wU (gE rfl ?_)
        refine wU (gE rfl ?_)
        refine wU (gE (v := .int .i64 ((l.length + 1 : Nat) : Int)) (int_fit (by omega) (by omega) (by omega)) ?_)
        refine wU (gE rfl ?_)
        refine wU (gE (v := .int .i64 ((l.length + 1 - i : Nat) : Int)) (int_fit (by omega) (by omega) (by omega)) ?_)
        have hgrow : N < l.length + 1 := by have := of_decide_eq_true c38; omega
        refine wU (gOp (OpS.append_zeros (kn := .i64) (p := q) (o' := 0) (len := i) (cap := N) (j := l.length + 1 - i) (T := 36) (cs := ecs l) (nn := N * 5) ⟨rfl⟩ el42 Tryz.underlying3 rfl rfl (by simp [hget, hpq]) (by rw [ecs_length]; omega) (by omega) (by omega) (by omega) fun q2 N2 hq2 hN2 => ?_) rfl)
        have hq2p : ¬ p = q2 ∧ ¬ q = q2 := by simp at hq2; exact ⟨fun e => hq2.1 e.symm, fun e => hq2.2 e.symm⟩
        obtain ⟨hq2p, hq2q⟩ := hq2p
        have hpq2 : ¬ q2 = p := fun e => hq2p e.symm
        have hqq2 : ¬ q2 = q := fun e => hq2q e.symm
        have en : i + (l.length + 1 - i) = l.length + 1 := by omega
        rw [en] at hN2 ⊢
        rw [List.drop_zero, ecs_take]
        obtain ⟨z1, z2, hz1, hz2, hzz⟩ : ∃ z1 z2 : List V, z1.length = 5 ∧ z2.length = (l.length - i) * 5 ∧ zcells [.int .i64 0, .nilslice, .str [], .nilslice, .int .i64 0] ((l.length + 1 - i) * 5) = z1 ++ z2 := ⟨_, _, by simp [zcells]; omega, by simp [zcells]; omega, (List.take_append_drop 5 _).symm⟩
        rw [hzz]
        refine wU (gE rfl ?_)
        refine wOps.done ?_
        refine hK40 _ _ _ ?_
        clear hK40 K39
        refine WC.seq_k fun K41 hK42 => ?_
        refine WC.region ?_
        refine wU (gE rfl ?_)
        refine wU (gE rfl ?_)
        refine wU (gSliceS (hi := none) (o2 := i * 5) (l2 := l.length + 1 - i) (c2 := N2 - i) tslice42 tsz36 rfl rfl rfl (by first | (simp; omega) | (simp; intro h; omega) | (rw [if_neg (by simp; omega)]; simp)) (by simp; try omega) (by simp) (by simp; try omega) (by simp; try omega) ?_)
        refine wU (gE rfl ?_)
        have hm1 : min 1 (l.length + 1 - i) = 1 := by omega
        refine wU (gOp (OpS.copyS (p := q2) (o' := i * 5) (len := l.length + 1 - i) (cap := N2 - i) (p2 := p) (o2 := 0) (l2 := 1) (c2 := 1) (T := 36) (cs := ecs (l.take i) ++ (z1 ++ z2)) (nn := N2 * 5) (cs2 := eCells x) (T2 := 36) (nn2 := 5) (k := 5) ⟨rfl⟩ tslice42 tsz36 rfl rfl (by simp [hget]) (by simp [hget, hq2p, hpq2]) (by rw [hm1, eCells_length]; omega) (by rw [List.length_append, eti]; omega) (by rw [hm1]; omega) (by rw [hm1]; rfl) ?_) rfl)
        rw [hm1, List.drop_zero, show (eCells x).take (1 * 5) = eCells x from rfl, putL_at eti (by rw [hz1]; rfl)]
        simp only [hset, ↓reduceIte]
        refine wOps.done ?_
        refine hK42 _ _ _ ?_
        clear hK42 K41
        refine WC.seq_k fun K43 hK44 => ?_
        refine WC.region_draw mixed ?_
        refine wA.val 0 rfl rfl rfl (fun _ _ hK => gE rfl hK) (by kernel_rfl) ?_
        refine wA.val 1 rfl rfl rfl (fun _ _ hK => gE rfl hK) (by kernel_rfl) ?_
        refine wA.val 2 rfl rfl rfl (fun _ _ hK => gE rfl hK) (by kernel_rfl) ?_
        refine wA.val 3 rfl rfl rfl (fun _ _ hK => gE (v := .int .i64 ((i + 1 : Nat) : Int)) (int_fit (by omega) (by omega) (by omega)) hK) (by kernel_rfl) ?_
        refine wA.val 4 rfl rfl rfl (fun _ _ hK => by refine gSliceS (hi := none) (o2 := (i + 1) * 5) (l2 := l.length - i) (c2 := N2 - (i + 1)) tslice42 tsz36 rfl rfl rfl (by first | (simp; omega) | (simp; intro h; omega) | (rw [if_neg (by simp; omega)]; simp)) (by simp; try omega) (by simp) (by simp; try omega) (by simp; try omega) ?_; exact hK) (by kernel_rfl) ?_
        refine wA.val 5 rfl rfl rfl (fun _ _ hK => gE rfl hK) (by kernel_rfl) ?_
        refine wA.val 6 rfl rfl rfl (fun _ _ hK => gE rfl hK) (by kernel_rfl) ?_
        refine wA.val 7 rfl rfl rfl (fun _ _ hK => by refine gSliceS (hi := none) (o2 := i * 5) (l2 := l.length - i) (c2 := N - i) tslice42 tsz36 rfl rfl rfl (by first | (simp; omega) | (simp; intro h; omega) | (rw [if_neg (by simp; omega)]; simp)) (by simp; try omega) (by simp) (by simp; try omega) (by simp; try omega) ?_; exact hK) (by kernel_rfl) ?_
        refine wA.eff 8 rfl (by kernel_rfl) rfl ?_
        have hm2 : min (l.length - i) (l.length - i) = l.length - i := Nat.min_self _
        refine gOp (OpS.copyS (p := q2) (o' := (i + 1) * 5) (len := l.length - i) (cap := N2 - (i + 1)) (p2 := q) (o2 := i * 5) (l2 := l.length - i) (c2 := N - i) (T := 36) (cs := ecs (l.take i) ++ (eCells x ++ z2)) (nn := N2 * 5) (cs2 := ecs l) (T2 := 36) (nn2 := N * 5) (k := 5) ⟨rfl⟩ tslice42 tsz36 rfl rfl (by simp [hget]) (by simp [hget, hq2q, hqq2, hpq]) (by rw [hm2, ecs_length]; omega) (by rw [List.length_append, List.length_append, eti, eCells_length]; omega) (by rw [hm2]; omega) (by rw [hm2, ecs_drop, hdr]; exact ecs_leaf _) ?_) rfl
        have hput : putL (ecs (l.take i) ++ (eCells x ++ z2)) ((i + 1) * 5) (ecs (l.drop i)) = ecs (l.take i ++ x :: l.drop i) := by rw [← List.append_assoc, putL_end (by rw [List.length_append, eti, eCells_length]; omega) (by rw [hz2, edi]; exact Nat.le_refl _), List.append_assoc, ← efin]
        rw [hm2, ecs_drop, hdr, hput]
        simp only [hset, ↓reduceIte]
        refine wA.back ?_
        refine wA.done (by kernel_rfl) ?_
        refine hK44 _ _ _ ?_
        clear hK44 K43
        refine WC.seq_k fun K45 hK46 => ?_
        skip
        refine WC.region ?_
        refine wU (gE rfl ?_)
        refine wU (gE rfl ?_)
        refine wOps.done ?_
        refine hK46 _ _ _ ?_
        clear hK46 K45
        refine WC.ret ?_
        exact ⟨_, rfl, q2, N2, rfl, by simp [hget]⟩
      · skip
        refine WC.skip ?_
        refine hK35 _ _ _ ?_
        clear hK35 K34
        refine WC.seq_k fun K47 hK48 => ?_
        skip
        have hroom : l.length + 1 ≤ N := by have := of_decide_eq_false c38; omega
        refine WC.region ?_
        refine wU (gE rfl ?_)
        refine wU (gE rfl ?_)
        refine wU (gE rfl ?_)
        refine wU (gE (v := .int .i64 ((l.length + 1 : Nat) : Int)) (int_fit (by omega) (by omega) (by omega)) ?_)
        refine wU (gSliceS (lo := none) (o2 := 0) (l2 := l.length + 1) (c2 := N) tslice42 tsz36 rfl rfl rfl (by first | (simp; omega) | (simp; intro h; omega) | (rw [if_neg (by simp; omega)]; simp)) (by simp; try omega) (by simp) (by simp; try omega) (by simp; try omega) ?_)
        refine wU (gE rfl ?_)
        refine wOps.done ?_
        refine hK48 _ _ _ ?_
        clear hK48 K47
        refine WC.seq_k fun K49 hK50 => ?_
        refine WC.seq_k fun K51 hK52 => ?_
        refine WC.region ?_
        refine wU (gE rfl ?_)
        refine wU (gE rfl ?_)
        refine wU (gE rfl ?_)
        refine wU (gE rfl ?_)
        refine wU (gE (v := .int .i64 ((i + 1 : Nat) : Int)) (int_fit (by omega) (by omega) (by omega)) ?_)
        refine wU (gSliceS (hi := none) (o2 := (i + 1) * 5) (l2 := l.length - i) (c2 := N - (i + 1)) tslice42 tsz36 rfl rfl rfl (by first | (simp; omega) | (simp; intro h; omega) | (rw [if_neg (by simp; omega)]; simp)) (by simp; try omega) (by simp) (by simp; try omega) (by simp; try omega) ?_)
        refine wU (gCall (by rfl) (CallS.overlaps (b1 := p) (b2 := q) (T1 := 36) (T2 := 36) (cs1 := eCells x) (cs2 := ecs l) (n1 := 5) (n2 := N * 5) isOv hpq (by simp [hget]) (by simp [hget, hpq]) (by omega) (by omega) (by decide) ?_))
        refine wU (gE rfl ?_)
        refine wOps.done ?_
        refine hK52 _ _ _ ?_
        clear hK52 K51
        first | refine WC.cond (b := true) rfl (fun _ => ?_) (fun hh => by simp at hh) | refine WC.cond rfl (fun _ => ?_) (fun hh => by simp_all)
        refine WC.seq_k fun K53 hK54 => ?_
        refine WC.region_draw mixed ?_
        refine wA.val 0 rfl rfl rfl (fun _ _ hK => gE rfl hK) (by kernel_rfl) ?_
        refine wA.val 1 rfl rfl rfl (fun _ _ hK => gE rfl hK) (by kernel_rfl) ?_
        refine wA.val 2 rfl rfl rfl (fun _ _ hK => gE rfl hK) (by kernel_rfl) ?_
        refine wA.val 3 rfl rfl rfl (fun _ _ hK => gE (v := .int .i64 ((i + 1 : Nat) : Int)) (int_fit (by omega) (by omega) (by omega)) hK) (by kernel_rfl) ?_
        refine wA.val 4 rfl rfl rfl (fun _ _ hK => by refine gSliceS (hi := none) (o2 := (i + 1) * 5) (l2 := l.length - i) (c2 := N - (i + 1)) tslice42 tsz36 rfl rfl rfl (by first | (simp; omega) | (simp; intro h; omega) | (rw [if_neg (by simp; omega)]; simp)) (by simp; try omega) (by simp) (by simp; try omega) (by simp; try omega) ?_; exact hK) (by kernel_rfl) ?_
        refine wA.val 5 rfl rfl rfl (fun _ _ hK => gE rfl hK) (by kernel_rfl) ?_
        refine wA.val 6 rfl rfl rfl (fun _ _ hK => gE rfl hK) (by kernel_rfl) ?_
        refine wA.val 7 rfl rfl rfl (fun _ _ hK => by refine gSliceS (hi := none) (o2 := i * 5) (l2 := l.length + 1 - i) (c2 := N - i) tslice42 tsz36 rfl rfl rfl (by first | (simp; omega) | (simp; intro h; omega) | (rw [if_neg (by simp; omega)]; simp)) (by simp; try omega) (by simp) (by simp; try omega) (by simp; try omega) ?_; exact hK) (by kernel_rfl) ?_
        refine wA.eff 8 rfl (by kernel_rfl) rfl ?_
        have hm3 : min (l.length + 1 - i) (l.length - i) = l.length - i := by omega
        refine gOp (OpS.copyS (p := q) (o' := (i + 1) * 5) (len := l.length - i) (cap := N - (i + 1)) (p2 := q) (o2 := i * 5) (l2 := l.length + 1 - i) (c2 := N - i) (T := 36) (cs := ecs l) (nn := N * 5) (cs2 := ecs l) (T2 := 36) (nn2 := N * 5) (k := 5) ⟨rfl⟩ tslice42 tsz36 rfl rfl (by simp [hget, hpq]) (by simp [hget, hpq]) (by rw [hm3, ecs_length]; omega) (by rw [ecs_length]; omega) (by rw [hm3]; omega) (by rw [hm3, ecs_drop, hdr]; exact ecs_leaf _) ?_) rfl
        have esp : ecs l = (ecs (l.take i) ++ eCells l[i]) ++ ecs (l.drop (i + 1)) := by conv => lhs; rw [← List.take_append_drop i l, ecs_append, List.drop_eq_getElem_cons hin, ecs_cons, ← List.append_assoc]
        have hpl : putL (ecs l) ((i + 1) * 5) (ecs (l.drop i)) = ecs (l.take i) ++ (eCells l[i] ++ ecs (l.drop i)) := (congrArg (fun z => putL z ((i + 1) * 5) (ecs (l.drop i))) esp).trans (by rw [putL_end (by rw [List.length_append, eti, eCells_length]; omega) (by rw [ecs_length, edi, List.length_drop]; omega), List.append_assoc])
        rw [hm3, ecs_drop, hdr, hpl]
        simp only [hset, if_neg hpq, ↓reduceIte]
        refine wA.back ?_
        refine wA.done (by kernel_rfl) ?_
        refine hK54 _ _ _ ?_
        clear hK54 K53
        refine WC.seq_k fun K55 hK56 => ?_
        refine WC.region ?_
        refine wU (gE rfl ?_)
        refine wU (gE rfl ?_)
        refine wU (gSliceS (hi := none) (o2 := i * 5) (l2 := l.length + 1 - i) (c2 := N - i) tslice42 tsz36 rfl rfl rfl (by first | (simp; omega) | (simp; intro h; omega) | (rw [if_neg (by simp; omega)]; simp)) (by simp; try omega) (by simp) (by simp; try omega) (by simp; try omega) ?_)
        refine wU (gE rfl ?_)
        have hm1 : min 1 (l.length + 1 - i) = 1 := by omega
        refine wU (gOp (OpS.copyS (p := q) (o' := i * 5) (len := l.length + 1 - i) (cap := N - i) (p2 := p) (o2 := 0) (l2 := 1) (c2 := 1) (T := 36) (cs := ecs (l.take i) ++ (eCells l[i] ++ ecs (l.drop i))) (nn := N * 5) (cs2 := eCells x) (T2 := 36) (nn2 := 5) (k := 5) ⟨rfl⟩ tslice42 tsz36 rfl rfl (by simp [hget, hpq]) (by simp [hget]) (by rw [hm1, eCells_length]; omega) (by rw [List.length_append, eti]; omega) (by rw [hm1]; omega) (by rw [hm1]; rfl) ?_) rfl)
        rw [hm1, List.drop_zero, show (eCells x).take (1 * 5) = eCells x from rfl, putL_at eti (show (eCells l[i]).length = (eCells x).length from rfl), ← efin]
        simp only [hset, if_neg hpq, ↓reduceIte]
        refine wOps.done ?_
        refine hK56 _ _ _ ?_
        clear hK56 K55
        refine WC.seq_k fun K57 hK58 => ?_
        refine WC.region ?_
        refine wU (gE rfl ?_)
        refine wU (gE rfl ?_)
        refine wOps.done ?_
        refine hK58 _ _ _ ?_
        clear hK58 K57
        refine WC.ret ?_
        exact ⟨_, rfl, q, N, rfl, by simp [hget, hpq]⟩
end Go.Proofs.YtfdmdcpopmcmcaaGreatDoor
end

section
namespace Go.Proofs.YtfdmdcpopmcmcaaGreatDoor
open Go.Fw
variable [Gl]
theorem isGo61 : isGo Tryz.prog 61 = true := by kernel_rfl
theorem isGo62 : isGo Tryz.prog 62 = true := by kernel_rfl
theorem isGo63 : isGo Tryz.prog 63 = true := by kernel_rfl
set_option maxRecDepth 20000
theorem hget_left {h hf : Hp} {q : Nat} {o : AObj} (hg : hget h q = some o) : hget (h ++ hf) q = some o := by
  induction h with
  | nil => simp [hget] at hg
  | cons p r ih =>
    simp only [List.cons_append, hget] at hg ⊢
    split
    · rename_i e; rw [if_pos e] at hg; exact hg
    · rename_i e; rw [if_neg e] at hg; exact ih hg
theorem insX_length (l : List En) (x : En) : (insX l x).length = l.length + 1 := by
  have := cntE_le l x
  unfold insX
  simp; omega
theorem insert25_tri0 (l : List En) (x : En) (hl : l.length ≤ 1000000) (hf : ∀ e ∈ l, fitE e) (hx : fitE x) : Tri Tryz.prog 25 [esl l, env x] [] fun v h' => (∃ e, v = .tup [.nilslice, .int .i64 e] ∧ insE l x = ([], e)) ∨ ∃ q N, v = .tup [.slice q 0 (l.length + 1) N, .int .i64 0] ∧ hget h' q = some (.cells 36 (ecs (insX l x)) (N * 5)) ∧ insE l x = (insX l x, 0) := by
  have hck := chkE_tri x hx
  have hclone := cloneE_tri l hl
  have hcl := cntE_le l x
  refine Tri.of_wc Tryz.func25 rfl Tryz.results25 Tryz.ntmps25 (by simp) ?_
  refine WC.seq_k fun K1 hK2 => ?_
  refine WC.region ?_
  refine wU (gBox rfl fun b0 hb0 => ?_)
  rw [show vcells (env x) = eCells x from rfl, eCells_length]
  refine wU (gE rfl ?_)
  refine wU (gE rfl ?_)
  refine wOps.done ?_
  refine hK2 _ _ _ ?_
  clear hK2 K1
  refine WC.seq_k fun K3 hK4 => ?_
  refine WC.seq_k fun K5 hK6 => ?_
  refine WC.region ?_
  refine wU (gE rfl ?_)
  refine wOps.done ?_
  refine hK6 _ _ _ ?_
  clear hK6 K5
  refine WC.block ?_
  refine WC.loopI (α := Nat) (fun k => [(0, .fslice (ecs l) l.length), (3, .ptr b0 0), (6, .int .i64 ((k + 1 : Nat) : Int))]) (fun _ => [(b0, .cells 36 (eCells x) 5)]) (fun k => l.length - k) (fun k => k ≤ l.length ∧ ascE l = ascE (l.drop k)) 0 ?_ ?_ ?_ ?_
  · exact sub_cons rfl (sub_cons rfl (sub_cons rfl (sub_nil _)))
  · exact Ent.refl _ _
  · exact ⟨by simp, by simp⟩
  rintro k ⟨hkl, hc⟩
  refine WC.seq_k fun K7 hK8 => ?_
  refine WC.seq_k fun K9 hK10 => ?_
  refine WC.region ?_
  refine wU (gE rfl ?_)
  refine wU (gE rfl ?_)
  refine wU (gLen rfl rfl (by rw [lenFits, tslice42]; rfl) ?_)
  refine wU (gE rfl ?_)
  refine wOps.done ?_
  refine hK10 _ _ _ ?_
  clear hK10 K9
  refine WC.cond rfl (fun c11 => ?_) (fun c11 => ?_)
  · skip
    refine WC.skip ?_
    refine hK8 _ _ _ ?_
    clear hK8 K7
    refine WC.seq_k fun K12 hK13 => ?_
    refine WC.block ?_
    refine WC.seq_k fun K14 hK15 => ?_
    refine WC.region_draw mixed ?_
    refine wA.val 0 rfl rfl rfl (fun _ _ hK => gE rfl hK) (by kernel_rfl) ?_
    refine wA.val 1 rfl rfl rfl (fun _ _ hK => gE rfl hK) (by kernel_rfl) ?_
    refine wA.val 2 rfl rfl rfl (fun _ _ hK => gE (v := .int .i64 (k : Nat)) (int_fit (by omega) (by omega) (by omega)) hK) (by kernel_rfl) ?_
    have hk : k + 1 < l.length := by have := of_decide_eq_true c11; omega
    have hk0 : k < l.length := by omega
    have hfk := hf _ (List.getElem_mem hk0)
    refine wA.val 3 rfl rfl rfl (fun _ _ hK => gIdxF tslice42 tsz36 rfl rfl (by omega) (by omega) hK) (by kernel_rfl) ?_
    refine wA.val 4 rfl rfl rfl (fun _ _ hK => gLoadAF tagg36 tsz36 rfl (by rw [ecs_length]; omega) (ecs_part hk0) hK) (by kernel_rfl) ?_
    refine wA.val 5 rfl rfl rfl (fun _ _ hK => gE rfl hK) (by kernel_rfl) ?_
    refine wA.val 6 rfl rfl rfl (fun _ _ hK => gE rfl hK) (by kernel_rfl) ?_
    refine wA.val 7 rfl rfl rfl (fun _ _ hK => gIdxF tslice42 tsz36 rfl rfl (by omega) (by omega) hK) (by kernel_rfl) ?_
    refine wA.val 8 rfl rfl rfl (fun _ _ hK => gLoadAF tagg36 tsz36 rfl (by rw [ecs_length]; omega) (ecs_part hk) hK) (by kernel_rfl) ?_
    refine wA.val 9 rfl rfl rfl (fun _ _ hK => by refine gPure rfl isGo19 (cmpE_tri l[k] l[k + 1] hfk) ?_; exact hK) (by kernel_rfl) ?_
    refine wA.val 10 rfl rfl rfl (fun _ _ hK => gE rfl hK) (by kernel_rfl) ?_
    refine wA.done (by kernel_rfl) ?_
    refine hK15 _ _ _ ?_
    clear hK15 K14
    refine WC.cond rfl (fun c16 => ?_) (fun c16 => ?_)
    · skip
      refine WC.seq_k fun K17 hK18 => ?_
      skip
      refine WC.region ?_
      refine wU (gE rfl ?_)
      refine wU (gE rfl ?_)
      refine wOps.done ?_
      refine hK18 _ _ _ ?_
      clear hK18 K17
      refine WC.ret ?_
      have hge : ¬ cmpE l[k] l[k + 1] < 0 := by have := of_decide_eq_true c16; omega
      exact ⟨_, rfl, .inl ⟨9, rfl, by unfold insE; rw [if_pos (by rw [hc, ascE_at hk, decide_eq_false hge]; rfl)]⟩⟩
    · skip
      refine WC.skip ?_
      refine hK13 _ _ _ ?_
      clear hK13 K12
      refine WC.region ?_
      refine wU (gE rfl ?_)
      refine wU (gE rfl ?_)
      refine wU (gE rfl ?_)
      refine wOps.done ?_
      have hlt : cmpE l[k] l[k + 1] < 0 := by have := of_decide_eq_false c16; omega
      exact ⟨k + 1, rfl, by omega, ⟨by omega, by rw [hc, ascE_at hk, decide_eq_true hlt]; rfl⟩, Ent.sub (sub_cons rfl (sub_cons rfl (sub_cons (int_fit (by omega) (by omega) (by omega)) (sub_nil _))))⟩
  · skip
    refine WC.exit ?_
    refine hK4 _ _ _ ?_
    clear hK8 K7 hK4 K3
    refine WC.seq_k fun K19 hK20 => ?_
    refine WC.seq_k fun K21 hK22 => ?_
    have hasc : ascE l = true := by rw [hc]; exact ascE_end (by have := of_decide_eq_false c11; omega)
    refine WC.region ?_
    refine wU (gLoadA (T' := 36) (cs := eCells x) (nn := 5) tagg36 tsz36 rfl (by simp [hget]) (by simp [eCells]) rfl ?_)
    refine wU (gPure rfl isGo21 hck ?_)
    refine wU (gE rfl ?_)
    refine wOps.done ?_
    refine hK22 _ _ _ ?_
    clear hK22 K21
    refine WC.seq_k fun K23 hK24 => ?_
    refine WC.region ?_
    refine wU (gE rfl ?_)
    refine wU (gE rfl ?_)
    refine wOps.done ?_
    refine hK24 _ _ _ ?_
    clear hK24 K23
    refine WC.cond rfl (fun c25 => ?_) (fun c25 => ?_)
    · skip
      refine WC.seq_k fun K26 hK27 => ?_
      skip
      refine WC.region ?_
      refine wU (gE rfl ?_)
      refine wU (gE rfl ?_)
      refine wU (gE rfl ?_)
      refine wOps.done ?_
      refine hK27 _ _ _ ?_
      clear hK27 K26
      refine WC.ret ?_
      unfold insE
      rw [if_neg (show ¬ ascE l = false by rw [hasc]; simp)]
      have hne : chkE x ≠ 0 := by simpa using c25
      exact ⟨_, rfl, .inl ⟨_, rfl, by rw [if_pos hne]⟩⟩
    · skip
      refine WC.skip ?_
      refine hK20 _ _ _ ?_
      clear hK20 K19
      refine WC.seq_k fun K28 hK29 => ?_
      refine WC.region ?_
      refine wU (gE rfl ?_)
      refine wU (gLoadA (T' := 36) (cs := eCells x) (nn := 5) tagg36 tsz36 rfl (by simp [hget]) (by simp [eCells]) rfl ?_)
      have hbin := bin_tri l x hl hf ((ascE_iff l).1 hasc)
      refine wU (gPure rfl isGo61 hbin ?_)
      refine wU (gE rfl ?_)
      refine wU (gE rfl ?_)
      refine wU (gE rfl ?_)
      refine wU (gE rfl ?_)
      refine wU (gE rfl ?_)
      refine wOps.done ?_
      refine hK29 _ _ _ ?_
      clear hK29 K28
      refine WC.seq_k fun K30 hK31 => ?_
      refine WC.seq_k fun K32 hK33 => ?_
      refine WC.region ?_
      refine wU (gE rfl ?_)
      refine wOps.done ?_
      refine hK33 _ _ _ ?_
      clear hK33 K32
      refine WC.cond rfl (fun c34 => ?_) (fun c34 => ?_)
      · skip
        refine WC.seq_k fun K35 hK36 => ?_
        skip
        refine WC.region ?_
        refine wU (gE rfl ?_)
        refine wU (gE rfl ?_)
        refine wOps.done ?_
        refine hK36 _ _ _ ?_
        clear hK36 K35
        refine WC.ret ?_
        unfold insE
        rw [if_neg (show ¬ ascE l = false by rw [hasc]; simp)]
        have hne : ¬ chkE x ≠ 0 := by simpa using c25
        rw [if_neg hne]
        exact ⟨_, rfl, .inl ⟨6, rfl, by rw [if_pos c34]⟩⟩
      · skip
        refine WC.skip ?_
        refine hK31 _ _ _ ?_
        clear hK31 K30
        refine WC.seq_k fun K37 hK38 => ?_
        refine WC.seq_k fun K39 hK40 => ?_
        refine WC.region ?_
        refine wU (gE rfl ?_)
        refine wU (gLen rfl rfl (by rw [lenFits, tslice42]; rfl) ?_)
        refine wU (gE rfl ?_)
        refine wOps.done ?_
        refine hK40 _ _ _ ?_
        clear hK40 K39
        refine WC.cond rfl (fun c41 => ?_) (fun c41 => ?_)
        · skip
          refine WC.seq_k fun K42 hK43 => ?_
          skip
          refine WC.region ?_
          refine wU (gE rfl ?_)
          refine wU (gE rfl ?_)
          refine wOps.done ?_
          refine hK43 _ _ _ ?_
          clear hK43 K42
          refine WC.ret ?_
          unfold insE
          rw [if_neg (show ¬ ascE l = false by rw [hasc]; simp)]
          have hne : ¬ chkE x ≠ 0 := by simpa using c25
          rw [if_neg hne]
          rw [if_neg (show ¬ foundE l x = true by rw [c34]; simp)]
          exact ⟨_, rfl, .inl ⟨4, rfl, by rw [if_pos (by have := of_decide_eq_true c41; omega)]⟩⟩
        · skip
          refine WC.skip ?_
          refine hK38 _ _ _ ?_
          clear hK38 K37
          refine WC.seq_k fun K44 hK45 => ?_
          refine WC.region_draw mixed ?_
          refine wA.val 0 rfl rfl rfl (fun _ _ hK => gE rfl hK) (by kernel_rfl) ?_
          refine wA.val 2 rfl rfl rfl (fun _ _ hK => gE rfl hK) (by kernel_rfl) ?_
          refine wA.eff2 1 3 rfl rfl (by kernel_rfl) rfl rfl ?_ ?_
          · skip
            refine gCall (by rfl) (@CallS.mono _ Tryz.prog 63 _ _ _ _ (@CallS.of_tri _ Tryz.prog 63 _ _ _ isGo63 (Tri.frame hclone [(b0, .cells 36 (eCells x) 5)])) ?_)
            rintro v1 h1 ⟨h2, rfl, ⟨o, rfl, rfl, ho, hN⟩, hdis⟩
            refine wA.back ?_
            refine wA.ld 3 rfl rfl rfl (fun _ hle _ hK => gLoadA (T' := 36) (cs := eCells x) (nn := 5) tagg36 tsz36 rfl (hle _ _ (hget_app (fun hm => hdis b0 hm (by simp)))) (by simp [eCells]) rfl hK) (by kernel_rfl) ?_
            refine wA.eff 4 rfl (by kernel_rfl) rfl ?_
            refine gBuildSlice (cs := eCells x) tslice42 tsz36 tzero36 rfl rfl (by decide) (by decide) fun p hp => ?_
            rw [eCells_length]
            refine wA.back ?_
            refine wA.eff 5 rfl (by kernel_rfl) rfl ?_
            have hins := Tri.frame (insert_tri o l (cntE l x) p x hl hcl ho (fun q N e => ⟨hN q N e, by subst e; intro h; subst h; simp [gsH] at hp⟩)) [(b0, .cells 36 (eCells x) 5)]
            refine gCall (by rfl) (@CallS.mono _ Tryz.prog 62 _ _ _ _ (@CallS.of_tri _ Tryz.prog 62 _ _ _ isGo62 hins) ?_)
            rintro v2 h2 ⟨h3, rfl, ⟨q, N, rfl, hg⟩, hdis2⟩
            refine wA.back ?_
            refine wA.val 6 rfl rfl rfl (fun _ _ hK => gE rfl hK) (by kernel_rfl) ?_
            refine wA.val 7 rfl rfl rfl (fun _ _ hK => gE rfl hK) (by kernel_rfl) ?_
            refine wA.done (by kernel_rfl) ?_
            refine hK45 _ _ _ ?_
            clear hK45 K44
            refine WC.ret ?_
            unfold insE
            rw [if_neg (show ¬ ascE l = false by rw [hasc]; simp)]
            have hne : ¬ chkE x ≠ 0 := by simpa using c25
            rw [if_neg hne]
            rw [if_neg (show ¬ foundE l x = true by rw [c34]; simp)]
            exact ⟨_, rfl, .inr ⟨q, N, rfl, hget_left hg, by rw [if_neg (by have := of_decide_eq_false c41; omega)]⟩⟩
          · skip
            refine gLoadA (T' := 36) (cs := eCells x) (nn := 5) tagg36 tsz36 rfl (by simp [hget]) (by simp [eCells]) rfl ?_
            refine wA.back ?_
            refine wA.eff2 1 4 rfl rfl (by kernel_rfl) rfl rfl ?_ ?_
            · skip
              refine gCall (by rfl) (@CallS.mono _ Tryz.prog 63 _ _ _ _ (@CallS.of_tri _ Tryz.prog 63 _ _ _ isGo63 (Tri.frame hclone [(b0, .cells 36 (eCells x) 5)])) ?_)
              rintro v1 h1 ⟨h2, rfl, ⟨o, rfl, rfl, ho, hN⟩, hdis⟩
              refine wA.back ?_
              refine wA.eff 4 rfl (by kernel_rfl) rfl ?_
              refine gBuildSlice (cs := eCells x) tslice42 tsz36 tzero36 rfl rfl (by decide) (by decide) fun p hp => ?_
              rw [eCells_length]
              refine wA.back ?_
              refine wA.eff 5 rfl (by kernel_rfl) rfl ?_
              have hins := Tri.frame (insert_tri o l (cntE l x) p x hl hcl ho (fun q N e => ⟨hN q N e, by subst e; intro h; subst h; simp [gsH] at hp⟩)) [(b0, .cells 36 (eCells x) 5)]
              refine gCall (by rfl) (@CallS.mono _ Tryz.prog 62 _ _ _ _ (@CallS.of_tri _ Tryz.prog 62 _ _ _ isGo62 hins) ?_)
              rintro v2 h2 ⟨h3, rfl, ⟨q, N, rfl, hg⟩, hdis2⟩
              refine wA.back ?_
              refine wA.val 6 rfl rfl rfl (fun _ _ hK => gE rfl hK) (by kernel_rfl) ?_
              refine wA.val 7 rfl rfl rfl (fun _ _ hK => gE rfl hK) (by kernel_rfl) ?_
              refine wA.done (by kernel_rfl) ?_
              refine hK45 _ _ _ ?_
              clear hK45 K44
              refine WC.ret ?_
              unfold insE
              rw [if_neg (show ¬ ascE l = false by rw [hasc]; simp)]
              have hne : ¬ chkE x ≠ 0 := by simpa using c25
              rw [if_neg hne]
              rw [if_neg (show ¬ foundE l x = true by rw [c34]; simp)]
              exact ⟨_, rfl, .inr ⟨q, N, rfl, hget_left hg, by rw [if_neg (by have := of_decide_eq_false c41; omega)]⟩⟩
            · skip
              refine gBuildSlice (cs := eCells x) tslice42 tsz36 tzero36 rfl rfl (by decide) (by decide) fun p hp => ?_
              rw [eCells_length]
              refine wA.back ?_
              refine wA.eff 1 rfl (by kernel_rfl) rfl ?_
              refine gCall (by rfl) (@CallS.mono _ Tryz.prog 63 _ _ _ _ (@CallS.of_tri _ Tryz.prog 63 _ _ _ isGo63 (Tri.frame hclone [(p, .cells 36 (eCells x) 5), (b0, .cells 36 (eCells x) 5)])) ?_)
              rintro v1 h1 ⟨h2, rfl, ⟨o, rfl, rfl, ho, hN⟩, hdis⟩
              refine wA.back ?_
              refine wA.eff 5 rfl (by kernel_rfl) rfl ?_
              have hins := Tri.frame (insert_tri o l (cntE l x) p x hl hcl ho (fun q N e => ⟨hN q N e, fun h => by subst e; exact hdis q (by simp [gsH]) (by rw [← h]; simp)⟩)) [(b0, .cells 36 (eCells x) 5)]
              refine gCall (by rfl) (@CallS.mono _ Tryz.prog 62 _ _ _ _ (@CallS.of_tri _ Tryz.prog 62 _ _ _ isGo62 (hins.perm (by exact List.perm_middle.symm))) ?_)
              rintro v2 h2 ⟨h3, rfl, ⟨q, N, rfl, hg⟩, hdis2⟩
              refine wA.back ?_
              refine wA.val 6 rfl rfl rfl (fun _ _ hK => gE rfl hK) (by kernel_rfl) ?_
              refine wA.val 7 rfl rfl rfl (fun _ _ hK => gE rfl hK) (by kernel_rfl) ?_
              refine wA.done (by kernel_rfl) ?_
              refine hK45 _ _ _ ?_
              clear hK45 K44
              refine WC.ret ?_
              unfold insE
              rw [if_neg (show ¬ ascE l = false by rw [hasc]; simp)]
              have hne : ¬ chkE x ≠ 0 := by simpa using c25
              rw [if_neg hne]
              rw [if_neg (show ¬ foundE l x = true by rw [c34]; simp)]
              exact ⟨_, rfl, .inr ⟨q, N, rfl, hget_left hg, by rw [if_neg (by have := of_decide_eq_false c41; omega)]⟩⟩
theorem insert25_tri (l : List En) (x : En) (hl : l.length ≤ 1000000) (hf : ∀ e ∈ l, fitE e) (hx : fitE x) : PTri Tryz.prog 25 [esl l, env x] (.tup [esl (insE l x).1, .int .i64 (insE l x).2]) := by
  refine Tri.vent (insert25_tri0 l x hl hf hx) ?_
  rintro v h' (⟨e, rfl, he⟩ | ⟨q, N, rfl, hg, he⟩)
  · rw [he]
    exact ⟨_, _, .drop (List.nil_sublist _) (.weak (VLe.tup2 VLe.nils (VLe.refl _)) (.refl _ _)), rfl, rfl⟩
  · rw [he]
    refine ⟨_, _, .freeze q hg (.drop (List.nil_sublist _) (.refl _ _)), ?_, rfl⟩
    simp [frzV, frzL, esl, insX_length]
end Go.Proofs.YtfdmdcpopmcmcaaGreatDoor
end

section
namespace Go.Proofs.YtfdmdcpopmcmcaaGreatDoor
open Go.Fw
variable [Gl]
theorem isGo24 : isGo Tryz.prog 24 = true := by kernel_rfl
theorem isGo25 : isGo Tryz.prog 25 = true := by kernel_rfl
theorem isGo26 : isGo Tryz.prog 26 = true := by kernel_rfl
theorem isGo27 : isGo Tryz.prog 27 = true := by kernel_rfl
set_option maxRecDepth 20000
def insR (x : En) : List En → List En
  | [] => [x]
  | y :: r => if 0 < cmpE y x then x :: y :: r else y :: insR x r
theorem insR_at {x : En} {l : List En} {i : Nat} (h : i < l.length) : insR x (l.drop i) = if 0 < cmpE l[i] x then x :: l[i] :: l.drop (i + 1) else l[i] :: insR x (l.drop (i + 1)) := by
  rw [List.drop_eq_getElem_cons h]; rfl
theorem insR_eq (x : En) : ∀ l : List En, (∀ y ∈ l, cmpE y x ≠ 0) → insR x l = insX l x
  | [], _ => rfl
  | y :: r, h => by
    have hy := h y (by simp)
    have ih := insR_eq x r fun z hz => h z (List.mem_cons_of_mem _ hz)
    unfold insX cntE at ih ⊢
    rw [insR, List.takeWhile_cons]
    by_cases h1 : 0 < cmpE y x
    · have hb : ¬ belowX x y = true := by simp [belowX]; omega
      rw [if_pos h1, if_neg hb]; rfl
    · have hb : belowX x y = true := by simp [belowX]; omega
      rw [if_neg h1, if_pos hb, ih]
      simp
theorem insR_length (x : En) : ∀ l : List En, (insR x l).length = l.length + 1
  | [] => rfl
  | y :: r => by
    simp only [insR]
    split
    · simp
    · simp [insR_length x r]
theorem found_no {l : List En} {x : En} (h : ∀ y ∈ l, cmpE y x ≠ 0) : foundE l x = false := by
  unfold foundE
  rw [List.any_eq_false]
  intro y hy
  simpa using h y hy
theorem insert26_tri0 (l : List En) (x : En) (hl : l.length ≤ 100000) (hf : ∀ e ∈ l, fitE e) (hx : fitE x) (hxn : fitN x) : Tri Tryz.prog 26 [esl l, env x] [] fun v h' => (∃ p e, v = .tup [.slice p 0 0 0, .int .i64 e] ∧ insE l x = ([], e)) ∨ ∃ q N, v = .tup [.slice q 0 (l.length + 1) N, .int .i64 0] ∧ hget h' q = some (.cells 36 (ecs (insX l x)) (N * 5)) ∧ insE l x = (insX l x, 0) := by
  have hck := chkE5_tri x hx hxn
  refine Tri.of_wc Tryz.func26 rfl Tryz.results26 Tryz.ntmps26 (by simp) ?_
  refine WC.seq_k fun K1 hK2 => ?_
  refine WC.region ?_
  refine wU (gBox rfl fun b0 hb0 => ?_)
  rw [show vcells (env x) = eCells x from rfl, eCells_length]
  refine wU (gE rfl ?_)
  refine wU (gE rfl ?_)
  refine wOps.done ?_
  refine hK2 _ _ _ ?_
  clear hK2 K1
  refine WC.seq_k fun K3 hK4 => ?_
  refine WC.seq_k fun K5 hK6 => ?_
  refine WC.region ?_
  refine wU (gE rfl ?_)
  refine wOps.done ?_
  refine hK6 _ _ _ ?_
  clear hK6 K5
  refine WC.block ?_
  refine WC.loopI (α := Nat) (fun k => [(0, .fslice (ecs l) l.length), (3, .ptr b0 0), (6, .int .i64 ((k + 1 : Nat) : Int))]) (fun _ => [(b0, .cells 36 (eCells x) 5)]) (fun k => l.length - k) (fun k => k ≤ l.length ∧ ascE l = ascE (l.drop k)) 0 ?_ ?_ ?_ ?_
  · exact sub_cons rfl (sub_cons rfl (sub_cons rfl (sub_nil _)))
  · exact Ent.refl _ _
  · exact ⟨by simp, by simp⟩
  rintro k ⟨hkl, hc⟩
  refine WC.seq_k fun K7 hK8 => ?_
  refine WC.seq_k fun K9 hK10 => ?_
  refine WC.region ?_
  refine wU (gE rfl ?_)
  refine wU (gE rfl ?_)
  refine wU (gLen rfl rfl (by rw [lenFits, tslice42]; rfl) ?_)
  refine wU (gE rfl ?_)
  refine wOps.done ?_
  refine hK10 _ _ _ ?_
  clear hK10 K9
  refine WC.cond rfl (fun c11 => ?_) (fun c11 => ?_)
  · skip
    refine WC.skip ?_
    refine hK8 _ _ _ ?_
    clear hK8 K7
    refine WC.seq_k fun K12 hK13 => ?_
    refine WC.block ?_
    refine WC.seq_k fun K14 hK15 => ?_
    refine WC.region_draw mixed ?_
    refine wA.val 0 rfl rfl rfl (fun _ _ hK => gE rfl hK) (by kernel_rfl) ?_
    refine wA.val 1 rfl rfl rfl (fun _ _ hK => gE rfl hK) (by kernel_rfl) ?_
    refine wA.val 2 rfl rfl rfl (fun _ _ hK => gE (v := .int .i64 (k : Nat)) (int_fit (by omega) (by omega) (by omega)) hK) (by kernel_rfl) ?_
    have hk : k + 1 < l.length := by have := of_decide_eq_true c11; omega
    have hk0 : k < l.length := by omega
    have hfk := hf _ (List.getElem_mem hk0)
    refine wA.val 3 rfl rfl rfl (fun _ _ hK => gIdxF tslice42 tsz36 rfl rfl (by omega) (by omega) hK) (by kernel_rfl) ?_
    refine wA.val 4 rfl rfl rfl (fun _ _ hK => gLoadAF tagg36 tsz36 rfl (by rw [ecs_length]; omega) (ecs_part hk0) hK) (by kernel_rfl) ?_
    refine wA.val 5 rfl rfl rfl (fun _ _ hK => gE rfl hK) (by kernel_rfl) ?_
    refine wA.val 6 rfl rfl rfl (fun _ _ hK => gE rfl hK) (by kernel_rfl) ?_
    refine wA.val 7 rfl rfl rfl (fun _ _ hK => gIdxF tslice42 tsz36 rfl rfl (by omega) (by omega) hK) (by kernel_rfl) ?_
    refine wA.val 8 rfl rfl rfl (fun _ _ hK => gLoadAF tagg36 tsz36 rfl (by rw [ecs_length]; omega) (ecs_part hk) hK) (by kernel_rfl) ?_
    refine wA.val 9 rfl rfl rfl (fun _ _ hK => by refine gPure rfl isGo23 (cmpE5_tri l[k] l[k + 1] hfk) ?_; exact hK) (by kernel_rfl) ?_
    refine wA.val 10 rfl rfl rfl (fun _ _ hK => gE rfl hK) (by kernel_rfl) ?_
    refine wA.done (by kernel_rfl) ?_
    refine hK15 _ _ _ ?_
    clear hK15 K14
    refine WC.cond rfl (fun c16 => ?_) (fun c16 => ?_)
    · skip
      refine WC.seq_k fun K17 hK18 => ?_
      skip
      refine WC.region ?_
      refine wU (gBuildSlice (cs := []) tslice42 tsz36 tzero36 rfl (by simp [evFill, putL, zcells, vcells]) (by decide) (by decide) fun p5 hp5 => ?_)
      refine wU (gE rfl ?_)
      refine wU (gE rfl ?_)
      refine wOps.done ?_
      refine hK18 _ _ _ ?_
      clear hK18 K17
      refine WC.ret ?_
      have hge : ¬ cmpE l[k] l[k + 1] < 0 := by have := of_decide_eq_true c16; omega
      exact ⟨_, rfl, .inl ⟨_, 9, rfl, by unfold insE; rw [if_pos (by rw [hc, ascE_at hk, decide_eq_false hge]; rfl)]⟩⟩
    · skip
      refine WC.skip ?_
      refine hK13 _ _ _ ?_
      clear hK13 K12
      refine WC.region ?_
      refine wU (gE rfl ?_)
      refine wU (gE rfl ?_)
      refine wU (gE rfl ?_)
      refine wOps.done ?_
      have hlt : cmpE l[k] l[k + 1] < 0 := by have := of_decide_eq_false c16; omega
      exact ⟨k + 1, rfl, by omega, ⟨by omega, by rw [hc, ascE_at hk, decide_eq_true hlt]; rfl⟩, Ent.sub (sub_cons rfl (sub_cons rfl (sub_cons (int_fit (by omega) (by omega) (by omega)) (sub_nil _))))⟩
  · skip
    refine WC.exit ?_
    refine hK4 _ _ _ ?_
    clear hK8 K7 hK4 K3
    refine WC.seq_k fun K19 hK20 => ?_
    refine WC.seq_k fun K21 hK22 => ?_
    have hasc : ascE l = true := by rw [hc]; exact ascE_end (by have := of_decide_eq_false c11; omega)
    refine WC.region ?_
    refine wU (gLoadA (T' := 36) (cs := eCells x) (nn := 5) tagg36 tsz36 rfl (by simp [hget]) (by simp [eCells]) rfl ?_)
    refine wU (gPure rfl isGo22 hck ?_)
    refine wU (gE rfl ?_)
    refine wOps.done ?_
    refine hK22 _ _ _ ?_
    clear hK22 K21
    refine WC.seq_k fun K23 hK24 => ?_
    refine WC.region ?_
    refine wU (gE rfl ?_)
    refine wU (gE rfl ?_)
    refine wOps.done ?_
    refine hK24 _ _ _ ?_
    clear hK24 K23
    refine WC.cond rfl (fun c25 => ?_) (fun c25 => ?_)
    · skip
      refine WC.seq_k fun K26 hK27 => ?_
      skip
      refine WC.region ?_
      refine wU (gBuildSlice (cs := []) tslice42 tsz36 tzero36 rfl (by simp [evFill, putL, zcells, vcells]) (by decide) (by decide) fun p8 hp8 => ?_)
      refine wU (gE rfl ?_)
      refine wU (gE rfl ?_)
      refine wU (gE rfl ?_)
      refine wOps.done ?_
      refine hK27 _ _ _ ?_
      clear hK27 K26
      refine WC.ret ?_
      unfold insE
      rw [if_neg (show ¬ ascE l = false by rw [hasc]; simp)]
      have hne : chkE x ≠ 0 := by simpa using c25
      exact ⟨_, rfl, .inl ⟨_, _, rfl, by rw [if_pos hne]⟩⟩
    · skip
      refine WC.skip ?_
      refine hK20 _ _ _ ?_
      clear hK20 K19
      refine WC.seq_k fun K28 hK29 => ?_
      have hck0 : ¬ chkE x ≠ 0 := by simpa using c25
      refine WC.region ?_
      refine wU (gBuildSlice (cs := []) tslice42 tsz36 tzero36 rfl (by simp [evFill, putL, zcells, vcells]) (by decide) (by decide) fun p1 hp1 => ?_)
      refine wU (gE rfl ?_)
      refine wOps.done ?_
      refine hK29 _ _ _ ?_
      clear hK29 K28
      refine WC.seq_k fun K30 hK31 => ?_
      refine WC.region ?_
      refine wU (gE rfl ?_)
      refine wOps.done ?_
      refine hK31 _ _ _ ?_
      clear hK31 K30
      refine WC.seq_k fun K32 hK33 => ?_
      refine WC.seq_k fun K34 hK35 => ?_
      refine WC.region ?_
      refine wU (gE rfl ?_)
      refine wOps.done ?_
      refine hK35 _ _ _ ?_
      clear hK35 K34
      refine WC.block ?_
      refine WC.loopI (α := Nat × BS × List En × Bool) (fun a => [(0, .fslice (ecs l) l.length), (3, .ptr b0 0), (8, gsV a.2.1 a.2.2.1.length), (9, .bool a.2.2.2), (10, .int .i64 a.1)]) (fun a => (b0, .cells 36 (eCells x) 5) :: gsH 36 5 a.2.1 (ecs a.2.2.1)) (fun a => l.length - a.1) (fun a => a.1 ≤ l.length ∧ insR x l = a.2.2.1 ++ (if a.2.2.2 = true then l.drop a.1 else insR x (l.drop a.1)) ∧ a.2.2.1.length ≤ a.1 + a.2.2.2.toNat ∧ (a.2.1 = none → a.2.2.1 = []) ∧ (∀ q N, a.2.1 = some (q, N) → ¬ q = b0) ∧ ∀ y ∈ l.take a.1, cmpE y x ≠ 0) (0, some (p1, 0), [], false) ?_ ?_ ?_ ?_
      · exact sub_cons rfl (sub_cons rfl (sub_cons rfl (sub_cons rfl (sub_cons rfl (sub_nil _)))))
      · exact Ent.perm (List.Perm.swap _ _ _)
      · exact ⟨by simp, by simp, by simp, by simp, fun q N e => by simp at e; obtain ⟨rfl, rfl⟩ := e; simpa using hp1, by simp⟩
      rintro ⟨i, o, X, done⟩ ⟨hil, hX, hXl, hon, hob, hnz⟩
      simp only at hil hX hXl hon hob hnz ⊢
      have hdn := Bool.toNat_le done
      refine WC.seq_k fun K36 hK37 => ?_
      refine WC.seq_k fun K38 hK39 => ?_
      refine WC.region ?_
      refine wU (gE rfl ?_)
      refine wU (gE rfl ?_)
      refine wU (gLen rfl rfl (by rw [lenFits, tslice42]; rfl) ?_)
      refine wU (gE rfl ?_)
      refine wOps.done ?_
      refine hK39 _ _ _ ?_
      clear hK39 K38
      refine WC.cond rfl (fun c40 => ?_) (fun c40 => ?_)
      · skip
        refine WC.skip ?_
        refine hK37 _ _ _ ?_
        clear hK37 K36
        refine WC.seq_k fun K41 hK42 => ?_
        refine WC.block ?_
        refine WC.seq_k fun K43 hK44 => ?_
        refine WC.region_draw mixed ?_
        refine wA.val 0 rfl rfl rfl (fun _ _ hK => gE rfl hK) (by kernel_rfl) ?_
        refine wA.val 1 rfl rfl rfl (fun _ _ hK => gE rfl hK) (by kernel_rfl) ?_
        have hi : i < l.length := by simpa using c40
        have hfi := hf _ (List.getElem_mem hi)
        refine wA.val 2 rfl rfl rfl (fun _ _ hK => gIdxF tslice42 tsz36 rfl rfl (by omega) (by omega) hK) (by kernel_rfl) ?_
        refine wA.val 3 rfl rfl rfl (fun _ _ hK => gLoadAF tagg36 tsz36 rfl (by rw [ecs_length]; omega) (ecs_part hi) hK) (by kernel_rfl) ?_
        refine wA.ld 4 rfl rfl rfl (fun _ hle _ hK => gLoadA (T' := 36) (cs := eCells x) (nn := 5) tagg36 tsz36 rfl (hle _ _ (by simp [hget])) (by simp [eCells]) rfl hK) (by kernel_rfl) ?_
        refine wA.val 5 rfl rfl rfl (fun _ _ hK => by refine gPure rfl isGo23 (cmpE5_tri l[i] x hfi) ?_; exact hK) (by kernel_rfl) ?_
        refine wA.val 6 rfl rfl rfl (fun _ _ hK => gE rfl hK) (by kernel_rfl) ?_
        refine wA.done (by kernel_rfl) ?_
        refine hK44 _ _ _ ?_
        clear hK44 K43
        refine WC.seq_k fun K45 hK46 => ?_
        refine WC.seq_k fun K47 hK48 => ?_
        refine WC.region ?_
        refine wU (gE rfl ?_)
        refine wU (gE rfl ?_)
        refine wOps.done ?_
        refine hK48 _ _ _ ?_
        clear hK48 K47
        refine WC.cond rfl (fun c49 => ?_) (fun c49 => ?_)
        · skip
          refine WC.seq_k fun K50 hK51 => ?_
          skip
          refine WC.region ?_
          refine wU (gBuildSlice (cs := []) tslice42 tsz36 tzero36 rfl (by simp [evFill, putL, zcells, vcells]) (by decide) (by decide) fun p6 hp6 => ?_)
          refine wU (gE rfl ?_)
          refine wU (gE rfl ?_)
          refine wOps.done ?_
          refine hK51 _ _ _ ?_
          clear hK51 K50
          refine WC.ret ?_
          unfold insE
          rw [if_neg (show ¬ ascE l = false by rw [hasc]; simp)]
          rw [if_neg hck0]
          have h0 : cmpE l[i] x = 0 := by simpa using c49
          exact ⟨_, rfl, .inl ⟨_, 6, rfl, by rw [if_pos (by unfold foundE; rw [List.any_eq_true]; exact ⟨l[i], List.getElem_mem hi, by simpa using h0⟩)]⟩⟩
        · skip
          refine WC.skip ?_
          refine hK46 _ _ _ ?_
          clear hK46 K45
          refine WC.seq_cut (α := BS × List En × Bool) (fun a => [(0, .fslice (ecs l) l.length), (3, .ptr b0 0), (8, gsV a.1 a.2.1.length), (9, .bool a.2.2), (10, .int .i64 i)]) (fun a => (b0, .cells 36 (eCells x) 5) :: gsH 36 5 a.1 (ecs a.2.1)) (fun a => insR x l = a.2.1 ++ l[i] :: (if a.2.2 = true then l.drop (i + 1) else insR x (l.drop (i + 1))) ∧ a.2.1.length ≤ i + a.2.2.toNat ∧ (a.1 = none → a.2.1 = []) ∧ (∀ q N, a.1 = some (q, N) → ¬ q = b0) ∧ cmpE l[i] x ≠ 0) ?_ ?_
          · skip
            refine WC.seq_k fun K52 hK53 => ?_
            refine WC.region ?_
            refine wU (gE rfl ?_)
            refine wU (gE rfl ?_)
            refine wU (gE rfl ?_)
            refine wG rfl rfl rfl rfl (by decide) (fun c54 => ?_) (fun c54 => ?_)
            · skip
              refine gE rfl ?_
              refine wY rfl (gE rfl ?_)
              refine wU (gE rfl ?_)
              refine wOps.done ?_
              refine hK53 _ _ _ ?_
              clear hK53 K52
              refine WC.cond rfl (fun c55 => ?_) (fun c55 => ?_)
              · skip
                refine WC.seq_k fun K56 hK57 => ?_
                skip
                refine WC.region ?_
                refine wU (gE rfl ?_)
                refine wU (gLoadA (T' := 36) (cs := eCells x) (nn := 5) tagg36 tsz36 rfl (by simp [hget]) (by simp [eCells]) rfl ?_)
                refine wU (gBuildSlice (cs := eCells x) tslice42 tsz36 tzero36 rfl rfl (by decide) (by decide) fun p3 hp3 => ?_)
                rw [eCells_length]
                refine wU (gOp (OpS.appGs (s := o) (cs := ecs X) (us := eCells x) (hx := [(p3, .cells 36 (eCells x) 5), (b0, .cells 36 (eCells x) 5)]) (len := (X).length) (m := 1) (k := 5) (e := 36) ⟨rfl⟩ el42 appT42 rfl rfl rfl (fun q N e => by have h1 := hob q N e; subst e; simp [gsH] at hp3; simp; exact ⟨fun e => hp3.2 e.symm, h1⟩) (fun e => by rw [hon e]; exact ⟨rfl, rfl⟩) (ecs_length _) (by simp [evSrc, hget, eCells]) (eCells_leaf _) (fun h => by simp at h) (by omega) fun o2 ho2 hno2 => ?_) rfl)
                have e1_2 : ecs X ++ eCells x = ecs (X ++ [x]) := by rw [ecs_append]; simp [ecs]
                have e2_2 : (X).length + 1 = (X ++ [x]).length := by simp
                rw [e1_2, e2_2]
                have hmo2 : o2 = none → X ++ [x] = [] := fun e => by have := (hno2 e).2; simp at this
                have hbo2 : ∀ q N, o2 = some (q, N) → ¬ q = b0 := fun q N e => by have := (ho2 q N e).1; simp at this; exact this.2
                refine wU (gE rfl ?_)
                refine wOps.done ?_
                refine hK57 _ _ _ ?_
                clear hK57 K56
                refine WC.region ?_
                refine wU (gE rfl ?_)
                refine wOps.done ?_
                have hnz : cmpE l[i] x ≠ 0 := by simpa using c49
                have hgt : 0 < cmpE l[i] x := by have := of_decide_eq_true c55; omega
                have hd : done = false := by simpa using c54
                exact ⟨(o2, X ++ [x], true), rfl, ⟨by rw [hX, hd, insR_at hi, if_pos hgt]; simp, by rw [hd] at hXl; simp at hXl ⊢; omega, hmo2, hbo2, hnz⟩, (Ent.sub (sub_cons rfl (sub_cons rfl (sub_cons rfl (sub_cons rfl (sub_cons rfl (sub_nil _))))))).trans ((Ent.perm (List.perm_append_comm (l₁ := [(p3, AObj.cells 36 (eCells x) 5), (b0, AObj.cells 36 (eCells x) 5)]))).trans (Ent.drop (List.sublist_cons_self _ _)))⟩
              · skip
                refine WC.skip ?_
                have hnz : cmpE l[i] x ≠ 0 := by simpa using c49
                have hgt : ¬ 0 < cmpE l[i] x := by have := of_decide_eq_false c55; omega
                have hd : done = false := by simpa using c54
                exact ⟨(o, X, false), rfl, ⟨by rw [hX, hd, if_neg (by simp), insR_at hi, if_neg hgt]; simp, by rw [hd] at hXl; simpa using hXl, hon, hob, hnz⟩, Ent.sub (sub_cons rfl (sub_cons rfl (sub_cons rfl (sub_cons (by rw [← hd]; rfl) (sub_cons rfl (sub_nil _))))))⟩
            · skip
              refine wN rfl ?_
              refine wU (gE rfl ?_)
              refine wOps.done ?_
              refine hK53 _ _ _ ?_
              clear hK53 K52
              first | refine WC.cond (b := false) rfl (fun hh => by simp at hh) (fun _ => ?_) | refine WC.cond rfl (fun hh => by simp_all) (fun _ => ?_)
              refine WC.skip ?_
              have hnz : cmpE l[i] x ≠ 0 := by simpa using c49
              have hd : done = true := by simpa using c54
              exact ⟨(o, X, true), rfl, ⟨by rw [hX, hd, if_pos rfl, if_pos rfl, List.drop_eq_getElem_cons hi], by rw [hd] at hXl; simpa using hXl, hon, hob, hnz⟩, Ent.sub (sub_cons rfl (sub_cons rfl (sub_cons rfl (sub_cons (by rw [← hd]; rfl) (sub_cons rfl (sub_nil _))))))⟩
          rintro ⟨o3, Y, dn⟩ ⟨hY1, hY2, hY3, hY4, hnzi⟩
          simp only at hY1 hY2 hY3 hY4 ⊢
          have hdn := Bool.toNat_le dn
          refine WC.region ?_
          refine wU (gE rfl ?_)
          refine wU (gE rfl ?_)
          refine wU (gE rfl ?_)
          refine wU (gIdxF tslice42 tsz36 rfl rfl (by omega) (by omega) ?_)
          refine wU (gLoadAF tagg36 tsz36 rfl (by rw [ecs_length]; omega) (ecs_part hi) ?_)
          refine wU (gBuildSlice (cs := eCells l[i]) tslice42 tsz36 tzero36 rfl rfl (by decide) (by decide) fun p4 hp4 => ?_)
          rw [eCells_length]
          refine wU (gOp (OpS.appGs (s := o3) (cs := ecs Y) (us := eCells l[i]) (hx := [(p4, .cells 36 (eCells l[i]) 5), (b0, .cells 36 (eCells x) 5)]) (len := (Y).length) (m := 1) (k := 5) (e := 36) ⟨rfl⟩ el42 appT42 rfl rfl rfl (fun q N e => by have h1 := hY4 q N e; subst e; simp [gsH] at hp4; simp; exact ⟨fun e => hp4.2 e.symm, h1⟩) (fun e => by rw [hY3 e]; exact ⟨rfl, rfl⟩) (ecs_length _) (by simp [evSrc, hget, eCells]) (eCells_leaf _) (fun h => by simp at h) (by omega) fun o4 ho4 hno4 => ?_) rfl)
          have e1_4 : ecs Y ++ eCells l[i] = ecs (Y ++ [l[i]]) := by rw [ecs_append]; simp [ecs]
          have e2_4 : (Y).length + 1 = (Y ++ [l[i]]).length := by simp
          rw [e1_4, e2_4]
          have hmo4 : o4 = none → Y ++ [l[i]] = [] := fun e => by have := (hno4 e).2; simp at this
          have hbo4 : ∀ q N, o4 = some (q, N) → ¬ q = b0 := fun q N e => by have := (ho4 q N e).1; simp at this; exact this.2
          refine wU (gE rfl ?_)
          refine wOps.done ?_
          refine hK42 _ _ _ ?_
          clear hK42 K41
          refine WC.region ?_
          refine wU (gE rfl ?_)
          refine wU (gE rfl ?_)
          refine wU (gE rfl ?_)
          refine wOps.done ?_
          exact ⟨(i + 1, o4, Y ++ [l[i]], dn), rfl, by simp only; omega, ⟨by simp only; omega, by rw [hY1]; simp, by simp only [List.length_append, List.length_singleton]; omega, hmo4, hbo4, fun y hy => by rw [List.take_succ_eq_append_getElem hi] at hy; rcases List.mem_append.1 hy with h | h; exact hnz y h; simp only [List.mem_singleton] at h; subst h; exact hnzi⟩, (Ent.sub (sub_cons rfl (sub_cons rfl (sub_cons rfl (sub_cons rfl (sub_cons (int_fit (by omega) (by omega) (by omega)) (sub_nil _))))))).trans ((Ent.perm (List.perm_append_comm (l₁ := [(p4, AObj.cells 36 (eCells l[i]) 5), (b0, AObj.cells 36 (eCells x) 5)]))).trans (Ent.drop (List.sublist_cons_self _ _)))⟩
      · skip
        refine WC.exit ?_
        refine hK33 _ _ _ ?_
        clear hK37 K36 hK33 K32
        refine WC.seq_cut (α := BS × List En) (fun a => [(8, gsV a.1 a.2.length)]) (fun a => gsH 36 5 a.1 (ecs a.2)) (fun a => insX l x = a.2 ∧ (a.1 = none → a.2 = []) ∧ foundE l x = false ∧ a.2.length ≤ 1000000) ?_ ?_
        · skip
          refine WC.seq_k fun K58 hK59 => ?_
          refine WC.region ?_
          refine wU (gE rfl ?_)
          refine wU (gE rfl ?_)
          refine wOps.done ?_
          refine hK59 _ _ _ ?_
          clear hK59 K58
          refine WC.cond rfl (fun c60 => ?_) (fun c60 => ?_)
          · skip
            skip
            refine WC.region ?_
            refine wU (gE rfl ?_)
            refine wU (gLoadA (T' := 36) (cs := eCells x) (nn := 5) tagg36 tsz36 rfl (by simp [hget]) (by simp [eCells]) rfl ?_)
            refine wU (gBuildSlice (cs := eCells x) tslice42 tsz36 tzero36 rfl rfl (by decide) (by decide) fun p7 hp7 => ?_)
            rw [eCells_length]
            refine wU (gOp (OpS.appGs (s := o) (cs := ecs X) (us := eCells x) (hx := [(p7, .cells 36 (eCells x) 5), (b0, .cells 36 (eCells x) 5)]) (len := (X).length) (m := 1) (k := 5) (e := 36) ⟨rfl⟩ el42 appT42 rfl rfl rfl (fun q N e => by have h1 := hob q N e; subst e; simp [gsH] at hp7; simp; exact ⟨fun e => hp7.2 e.symm, h1⟩) (fun e => by rw [hon e]; exact ⟨rfl, rfl⟩) (ecs_length _) (by simp [evSrc, hget, eCells]) (eCells_leaf _) (fun h => by simp at h) (by omega) fun o5 ho5 hno5 => ?_) rfl)
            have e1_5 : ecs X ++ eCells x = ecs (X ++ [x]) := by rw [ecs_append]; simp [ecs]
            have e2_5 : (X).length + 1 = (X ++ [x]).length := by simp
            rw [e1_5, e2_5]
            have hmo5 : o5 = none → X ++ [x] = [] := fun e => by have := (hno5 e).2; simp at this
            have hbo5 : ∀ q N, o5 = some (q, N) → ¬ q = b0 := fun q N e => by have := (ho5 q N e).1; simp at this; exact this.2
            refine wU (gE rfl ?_)
            refine wOps.done ?_
            have he : i = l.length := by have := of_decide_eq_false c40; omega
            have hfo : foundE l x = false := found_no (fun y hy => hnz y (by rw [he, List.take_length]; exact hy))
            rw [insR_eq x l (fun y hy => hnz y (by rw [he, List.take_length]; exact hy))] at hX
            have hd : done = false := by simpa using c60
            exact ⟨(o5, X ++ [x]), rfl, ⟨by rw [hX, hd, he, List.drop_length]; rfl, hmo5, hfo, by simp; omega⟩, (Ent.sub (sub_cons rfl (sub_nil _))).trans (Ent.drop (List.sublist_append_left _ _))⟩
          · skip
            refine WC.skip ?_
            have he : i = l.length := by have := of_decide_eq_false c40; omega
            have hfo : foundE l x = false := found_no (fun y hy => hnz y (by rw [he, List.take_length]; exact hy))
            rw [insR_eq x l (fun y hy => hnz y (by rw [he, List.take_length]; exact hy))] at hX
            have hd : done = true := by simpa using c60
            exact ⟨(o, X), rfl, ⟨by rw [hX, hd, he, List.drop_length]; simp, hon, hfo, by simp only; omega⟩, (Ent.sub (sub_cons rfl (sub_nil _))).trans (Ent.drop (List.sublist_cons_self _ _))⟩
        rintro ⟨o, X⟩ ⟨hX, hon, hfo, hXl⟩
        simp only at hX hon hfo hXl ⊢
        refine WC.seq_k fun K61 hK62 => ?_
        refine WC.seq_k fun K63 hK64 => ?_
        refine WC.region ?_
        refine wU (gE rfl ?_)
        refine wU (gLen rfl (evLen_gs (fun e => by rw [hon e]; rfl)) (lenFits_gs tslice42) ?_)
        refine wU (gE rfl ?_)
        refine wOps.done ?_
        refine hK64 _ _ _ ?_
        clear hK64 K63
        refine WC.cond rfl (fun c65 => ?_) (fun c65 => ?_)
        · skip
          refine WC.seq_k fun K66 hK67 => ?_
          skip
          refine WC.region ?_
          refine wU (gBuildSlice (cs := []) tslice42 tsz36 tzero36 rfl (by simp [evFill, putL, zcells, vcells]) (by decide) (by decide) fun p9 hp9 => ?_)
          refine wU (gE rfl ?_)
          refine wU (gE rfl ?_)
          refine wOps.done ?_
          refine hK67 _ _ _ ?_
          clear hK67 K66
          refine WC.ret ?_
          unfold insE
          rw [if_neg (show ¬ ascE l = false by rw [hasc]; simp)]
          rw [if_neg hck0]
          have hlen : (insX l x).length = l.length + 1 := insX_length l x
          rw [hX] at hlen
          rw [if_neg (show ¬ foundE l x = true by rw [hfo]; simp)]
          exact ⟨_, rfl, .inl ⟨_, 4, rfl, by rw [if_pos (by have := of_decide_eq_true c65; omega)]⟩⟩
        · skip
          refine WC.skip ?_
          refine hK62 _ _ _ ?_
          clear hK62 K61
          refine WC.seq_k fun K68 hK69 => ?_
          refine WC.region ?_
          refine wU (gE rfl ?_)
          refine wU (gE rfl ?_)
          refine wU (gE rfl ?_)
          refine wOps.done ?_
          refine hK69 _ _ _ ?_
          clear hK69 K68
          refine WC.ret ?_
          unfold insE
          rw [if_neg (show ¬ ascE l = false by rw [hasc]; simp)]
          rw [if_neg hck0]
          have hlen : (insX l x).length = l.length + 1 := insX_length l x
          rw [hX] at hlen
          rw [if_neg (show ¬ foundE l x = true by rw [hfo]; simp)]
          have hs1 : o ≠ none := fun e => by rw [hon e] at hlen; simp at hlen
          obtain ⟨⟨q1, N1⟩, rfl⟩ := Option.ne_none_iff_exists'.1 hs1
          rw [hlen]
          exact ⟨_, rfl, .inr ⟨q1, N1, rfl, by rw [hX]; simp [gsH, hget], by rw [if_neg (by have := of_decide_eq_false c65; omega)]⟩⟩
end Go.Proofs.YtfdmdcpopmcmcaaGreatDoor
end
