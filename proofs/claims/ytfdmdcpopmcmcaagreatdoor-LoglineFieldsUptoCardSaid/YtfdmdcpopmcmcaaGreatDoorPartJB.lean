/- A part of the proof: Y11, PDec, W21, W22, Y12, RBase, RBase2, RBase3 -/
import Derived.Test.YtfdmdcpopmcmcaaGreatDoorPartIB
import Derived.Laws.RangeString
import Derived.Deep.SlicePairs
import Derived.Carry
import Derived.Test.YtfdmdcpopmcmcaaGreatDoorCards
import Derived.Test.YtfdmdcpopmcmcaaGreatDoorTie
import Derived.WalkKit
import Derived.ProofKit
import Derived.OpenShut
import Derived.Deep.DeepHandedRow
import Derived.Lib.LaidTab
set_option linter.all false
set_option linter.unusedSectionVars false
set_option linter.unusedVariables false
set_option linter.unusedSimpArgs false
section
namespace Go.Proofs.YtfdmdcpopmcmcaaGreatDoor
open Go.Fw
variable [Gl]
theorem isGo46 : isGo Tryz.prog 46 = true := by kernel_rfl
set_option maxRecDepth 20000
theorem addS (a b : By) (h : a.length + b.length ≤ 9223372036854775807) : evStr .add a b = some (.str (a ++ b)) := if_pos h
theorem esc_le : ∀ s : By, (s.flatMap escB).length ≤ 2 * s.length
  | [] => by simp
  | c :: r => by
    have := esc_le r
    have h2 : (escB c).length ≤ 2 := by unfold escB; split; simp; split <;> simp
    simp only [List.flatMap_cons, List.length_append, List.length_cons]
    omega
theorem quote_le (s : By) : (quoteV s).length ≤ 2 * s.length + 2 := by
  have := esc_le s
  unfold quoteV
  split
  · omega
  · simp only [List.length_cons, List.length_append, List.length_nil]; omega
theorem plain_cont (s : By) : plainV s = (!(s.contains 32 || s.contains 10) && !(s.head? == some 34)) := by
  have e : (s.any fun c => c == 32 || c == 10) = (s.contains 32 || s.contains 10) := by
    rw [Bool.eq_iff_iff, List.any_eq_true, Bool.or_eq_true, List.contains_iff_mem, List.contains_iff_mem]
    constructor
    · rintro ⟨c, hc, h⟩
      rw [Bool.or_eq_true, beq_iff_eq, beq_iff_eq] at h
      rcases h with rfl | rfl
      · exact .inl hc
      · exact .inr hc
    · rintro (h | h)
      · exact ⟨32, h, by simp⟩
      · exact ⟨10, h, by simp⟩
  unfold plainV
  rw [e]
theorem cont2_tri (s : By) (c : UInt8) (hs : s.length ≤ 4294967295) : PTri Tryz.prog 45 [.str s, .int .u8 c.toNat] (.bool (s.contains c)) := by
  refine Tri.of_wc Tryz.func45 rfl Tryz.results45 Tryz.ntmps45 (by simp) ?_
  refine WC.seq_k fun K1 hK2 => ?_
  refine WC.region ?_
  refine wU (gE rfl ?_)
  refine wOps.done ?_
  refine hK2 _ _ _ ?_
  clear hK2 K1
  refine WC.seq_k fun K3 hK4 => ?_
  refine WC.seq_k fun K5 hK6 => ?_
  refine WC.region ?_
  refine wU (gE rfl ?_)
  refine wOps.done ?_
  refine hK6 _ _ _ ?_
  clear hK6 K5
  refine WC.block ?_
  refine WC.loopI (fun k : Nat => [(0, .str s), (1, .int .u8 c.toNat), (5, .int .i64 k)]) (fun _ => []) (fun k => s.length - k) (fun k => k ≤ s.length ∧ (s.take k).contains c = false) 0 ?_ ?_ ?_ ?_
  · exact sub_cons rfl (sub_cons rfl (sub_cons rfl (sub_nil _)))
  · exact Ent.refl _ _
  · exact ⟨Nat.zero_le _, by simp⟩
  rintro k ⟨hk1, hk4⟩
  refine WC.seq_k fun K7 hK8 => ?_
  refine WC.seq_k fun K9 hK10 => ?_
  refine WC.region ?_
  refine wU (gE rfl ?_)
  refine wU (gE rfl ?_)
  refine wU (gLen rfl rfl tisstr9 ?_)
  refine wU (gE rfl ?_)
  refine wOps.done ?_
  refine hK10 _ _ _ ?_
  clear hK10 K9
  refine WC.cond rfl (fun c11 => ?_) (fun c11 => ?_)
  · skip
    refine WC.skip ?_
    refine hK8 _ _ _ ?_
    clear hK8 K7
    refine WC.seq_k fun K12 hK13 => ?_
    refine WC.block ?_
    refine WC.seq_k fun K14 hK15 => ?_
    refine WC.region ?_
    refine wU (gE rfl ?_)
    refine wU (gE rfl ?_)
    have hk : k < s.length := by simpa using c11
    refine wU (gIdxStr tisstr9 rfl rfl (by omega) (str_at hk) ?_)
    refine wU (gE rfl ?_)
    refine wU (gE rfl ?_)
    refine wOps.done ?_
    refine hK15 _ _ _ ?_
    clear hK15 K14
    refine WC.cond rfl (fun c16 => ?_) (fun c16 => ?_)
    · skip
      refine WC.seq_k fun K17 hK18 => ?_
      refine WC.region ?_
      refine wU (gE rfl ?_)
      refine wOps.done ?_
      refine hK18 _ _ _ ?_
      clear hK18 K17
      refine WC.ret ?_
      refine ⟨_, rfl, congrArg V.bool ?_, rfl⟩
      have hx : s[k] = c := by have h : (s[k].toNat : Int) = c.toNat := (by simpa using c16); exact UInt8.toNat_inj.1 (by omega)
      symm; rw [List.contains_iff_mem]; exact hx ▸ List.getElem_mem hk
    · skip
      refine WC.skip ?_
      refine hK13 _ _ _ ?_
      clear hK13 K12
      refine WC.region ?_
      refine wU (gE rfl ?_)
      refine wU (gE rfl ?_)
      refine wU (gE rfl ?_)
      refine wOps.done ?_
      have hx : s[k] ≠ c := by have h : ¬ (s[k].toNat : Int) = c.toNat := (by simpa using c16); exact fun e => h (by rw [e])
      exact ⟨k + 1, rfl, by omega, ⟨by omega, by rw [List.take_succ_eq_append_getElem hk]; simp only [List.contains_eq_mem, decide_eq_false_iff_not, List.mem_append, List.mem_singleton, not_or] at hk4 ⊢; exact ⟨hk4, fun e => hx e.symm⟩⟩, Ent.sub (sub_cons rfl (sub_cons rfl (sub_cons (int_fit (by omega) (by omega) (by omega)) (sub_nil _))))⟩
  · skip
    refine WC.exit ?_
    refine hK4 _ _ _ ?_
    clear hK8 K7 hK4 K3
    refine WC.seq_k fun K19 hK20 => ?_
    refine WC.region ?_
    refine wU (gE rfl ?_)
    refine wOps.done ?_
    refine hK20 _ _ _ ?_
    clear hK20 K19
    refine WC.ret ?_
    have hx : k = s.length := by have := of_decide_eq_false c11; omega
    rw [hx, List.take_length] at hk4
    exact ⟨_, rfl, by rw [hk4], rfl⟩
theorem escaped_tri (s : By) (hs : s.length ≤ 1000000) : PTri Tryz.prog 46 [.str s] (.str (34 :: (s.flatMap escB ++ [34]))) := by
  have hesc : ∀ c : UInt8, escB c = (if c = 92 ∨ c = 34 ∨ c = 10 then [92] else []) ++ [if c = 10 then 110 else c] := fun c => by
    unfold escB
    by_cases h1 : c = 92 ∨ c = 34
    · have h2 : ¬ c = 10 := by rintro rfl; simp at h1
      have h3 : c = 92 ∨ c = 34 ∨ c = 10 := h1.elim .inl fun h => .inr (.inl h)
      rw [if_pos h1, if_pos h3, if_neg h2]; rfl
    · rw [if_neg h1]
      by_cases h2 : c = 10
      · have h3 : c = 92 ∨ c = 34 ∨ c = 10 := .inr (.inr h2)
        rw [if_pos h2, if_pos h3, if_pos h2]; rfl
      · have h3 : ¬ (c = 92 ∨ c = 34 ∨ c = 10) := by rintro (h | h | h); exact h1 (.inl h); exact h1 (.inr h); exact h2 h
        rw [if_neg h2, if_neg h3, if_neg h2]; rfl
  refine PTri.any (Tri.of_wc Tryz.func46 rfl Tryz.results46 Tryz.ntmps46 (by simp) ?_)
  refine WC.seq_k fun K1 hK2 => ?_
  refine WC.region ?_
  refine wU (gE rfl ?_)
  refine wOps.done ?_
  refine hK2 _ _ _ ?_
  clear hK2 K1
  refine WC.seq_k fun K3 hK4 => ?_
  refine WC.region ?_
  refine wU (gBuildSlice (cs := [.int .u8 34]) tslice66 tsz5 tzero5 rfl (by simp [evFill, putL, zcells, vcells]) (by decide) (by decide) fun p0 hp0 => ?_)
  refine wU (gE rfl ?_)
  refine wOps.done ?_
  refine hK4 _ _ _ ?_
  clear hK4 K3
  refine WC.seq_k fun K5 hK6 => ?_
  refine WC.seq_k fun K7 hK8 => ?_
  refine WC.region ?_
  refine wU (gE rfl ?_)
  refine wOps.done ?_
  refine hK8 _ _ _ ?_
  clear hK8 K7
  refine WC.block ?_
  refine WC.loopI (α := Nat × By × BS) (fun a => [(0, .str s), (3, bsV a.2.2 a.2.1), (4, .int .i64 a.1)]) (fun a => bsH 5 a.2.2 a.2.1) (fun a => s.length - a.1) (fun a => a.1 ≤ s.length ∧ a.2.1 = 34 :: (s.take a.1).flatMap escB ∧ a.2.1.length ≤ 1 + 2 * a.1 ∧ (a.2.2 = none → a.2.1 = [])) (0, [34], some (p0, 1)) ?_ ?_ ?_ ?_
  · exact sub_cons rfl (sub_cons rfl (sub_cons rfl (sub_nil _)))
  · exact Ent.refl _ _
  · exact ⟨Nat.zero_le _, by simp, by simp, by simp⟩
  rintro ⟨i, X, o⟩ ⟨his, hX, hXl, ho⟩
  simp only at his hX hXl ho ⊢
  refine WC.seq_k fun K9 hK10 => ?_
  refine WC.seq_k fun K11 hK12 => ?_
  refine WC.region ?_
  refine wU (gE rfl ?_)
  refine wU (gE rfl ?_)
  refine wU (gLen rfl rfl tisstr9 ?_)
  refine wU (gE rfl ?_)
  refine wOps.done ?_
  refine hK12 _ _ _ ?_
  clear hK12 K11
  refine WC.cond rfl (fun c13 => ?_) (fun c13 => ?_)
  · skip
    refine WC.skip ?_
    refine hK10 _ _ _ ?_
    clear hK10 K9
    refine WC.seq_k fun K14 hK15 => ?_
    refine WC.block ?_
    refine WC.seq_k fun K16 hK17 => ?_
    refine WC.region ?_
    refine wU (gE rfl ?_)
    refine wU (gE rfl ?_)
    have hi : i < s.length := by simpa using c13
    refine wU (gIdxStr tisstr9 rfl rfl (by omega) (str_at hi) ?_)
    refine wU (gE rfl ?_)
    refine wOps.done ?_
    refine hK17 _ _ _ ?_
    clear hK17 K16
    refine WC.seq_cut (α := BS × By) (fun a => [(0, .str s), (3, bsV a.1 a.2), (4, .int .i64 i), (5, .int .u8 s[i].toNat)]) (fun a => bsH 5 a.1 a.2) (fun a => X ++ escB s[i] = a.2 ++ [if s[i] = 10 then 110 else s[i]] ∧ a.2.length ≤ 2 + 2 * i ∧ (a.1 = none → a.2 = [])) ?_ ?_
    · skip
      refine WC.seq_k fun K18 hK19 => ?_
      refine WC.region ?_
      refine wU (gE rfl ?_)
      refine wU (gE rfl ?_)
      refine wU (gE rfl ?_)
      refine wG rfl rfl rfl rfl (by decide) (fun c20 => ?_) (fun c20 => ?_)
      · skip
        refine gE rfl ?_
        refine wY rfl (gE rfl ?_)
        refine wU (gE rfl ?_)
        refine wU (gE rfl ?_)
        refine wG rfl rfl rfl rfl (by decide) (fun c21 => ?_) (fun c21 => ?_)
        · skip
          refine gE rfl ?_
          refine wY rfl (gE rfl ?_)
          refine wU (gE rfl ?_)
          refine wOps.done ?_
          refine hK19 _ _ _ ?_
          clear hK19 K18
          refine WC.cond rfl (fun c22 => ?_) (fun c22 => ?_)
          · skip
            refine WC.region ?_
            refine wU (gE rfl ?_)
            refine wU (gBuildSlice (cs := [.int .u8 92]) tslice66 tsz5 tzero5 rfl (by simp [evFill, putL, zcells, vcells]) (by decide) (by decide) fun b23 hb23 => ?_)
            refine wU (gOp (OpS.appBs (s := o) (acc := X) (bs := [92]) (hx := [(b23, .cells 5 [.int .u8 92] 1)]) ⟨rfl⟩ el66 appT66 rfl rfl rfl (fun q N e => by subst e; simp [bsH] at hb23; simp; exact fun e => hb23 e.symm) ho (by simp [evSrc, hget, byteCells]) (by simp only [List.length_cons, List.length_nil]; omega) fun o3 ho3 ho3n => ?_) rfl)
            refine wU (gE rfl ?_)
            refine wOps.done ?_
            have h3 : s[i] = 92 ∨ s[i] = 34 ∨ s[i] = 10 := by simp_all [u8_34, u8_92, u8_10]
            exact ⟨(o3, X ++ [92]), rfl, ⟨by rw [hesc, if_pos h3]; simp, by simp; omega, ho3n⟩, (Ent.sub (sub_cons rfl (sub_cons rfl (sub_cons rfl (sub_cons rfl (sub_nil _)))))).trans (Ent.drop (List.sublist_append_left _ _))⟩
          · skip
            refine WC.skip ?_
            have h3 : ¬ (s[i] = 92 ∨ s[i] = 34 ∨ s[i] = 10) := by simp_all [u8_34, u8_92, u8_10]
            exact ⟨(o, X), rfl, ⟨by rw [hesc, if_neg h3]; simp, by simp only; omega, ho⟩, Ent.sub (sub_cons rfl (sub_cons rfl (sub_cons rfl (sub_cons rfl (sub_nil _)))))⟩
        · skip
          refine wN rfl ?_
          refine wU (gE rfl ?_)
          refine wOps.done ?_
          refine hK19 _ _ _ ?_
          clear hK19 K18
          first | refine WC.cond (b := true) rfl (fun _ => ?_) (fun hh => by simp at hh) | refine WC.cond rfl (fun _ => ?_) (fun hh => by simp_all)
          refine WC.region ?_
          refine wU (gE rfl ?_)
          refine wU (gBuildSlice (cs := [.int .u8 92]) tslice66 tsz5 tzero5 rfl (by simp [evFill, putL, zcells, vcells]) (by decide) (by decide) fun b24 hb24 => ?_)
          refine wU (gOp (OpS.appBs (s := o) (acc := X) (bs := [92]) (hx := [(b24, .cells 5 [.int .u8 92] 1)]) ⟨rfl⟩ el66 appT66 rfl rfl rfl (fun q N e => by subst e; simp [bsH] at hb24; simp; exact fun e => hb24 e.symm) ho (by simp [evSrc, hget, byteCells]) (by simp only [List.length_cons, List.length_nil]; omega) fun o3 ho3 ho3n => ?_) rfl)
          refine wU (gE rfl ?_)
          refine wOps.done ?_
          have h3 : s[i] = 92 ∨ s[i] = 34 ∨ s[i] = 10 := by simp_all [u8_34, u8_92, u8_10]
          exact ⟨(o3, X ++ [92]), rfl, ⟨by rw [hesc, if_pos h3]; simp, by simp; omega, ho3n⟩, (Ent.sub (sub_cons rfl (sub_cons rfl (sub_cons rfl (sub_cons rfl (sub_nil _)))))).trans (Ent.drop (List.sublist_append_left _ _))⟩
      · skip
        refine wN rfl ?_
        refine wU (gE rfl ?_)
        refine wU (gE rfl ?_)
        refine wN rfl ?_
        refine wN rfl ?_
        refine wU (gE rfl ?_)
        refine wOps.done ?_
        refine hK19 _ _ _ ?_
        clear hK19 K18
        first | refine WC.cond (b := true) rfl (fun _ => ?_) (fun hh => by simp at hh) | refine WC.cond rfl (fun _ => ?_) (fun hh => by simp_all)
        refine WC.region ?_
        refine wU (gE rfl ?_)
        refine wU (gBuildSlice (cs := [.int .u8 92]) tslice66 tsz5 tzero5 rfl (by simp [evFill, putL, zcells, vcells]) (by decide) (by decide) fun b25 hb25 => ?_)
        refine wU (gOp (OpS.appBs (s := o) (acc := X) (bs := [92]) (hx := [(b25, .cells 5 [.int .u8 92] 1)]) ⟨rfl⟩ el66 appT66 rfl rfl rfl (fun q N e => by subst e; simp [bsH] at hb25; simp; exact fun e => hb25 e.symm) ho (by simp [evSrc, hget, byteCells]) (by simp only [List.length_cons, List.length_nil]; omega) fun o3 ho3 ho3n => ?_) rfl)
        refine wU (gE rfl ?_)
        refine wOps.done ?_
        have h3 : s[i] = 92 ∨ s[i] = 34 ∨ s[i] = 10 := by simp_all [u8_34, u8_92, u8_10]
        exact ⟨(o3, X ++ [92]), rfl, ⟨by rw [hesc, if_pos h3]; simp, by simp; omega, ho3n⟩, (Ent.sub (sub_cons rfl (sub_cons rfl (sub_cons rfl (sub_cons rfl (sub_nil _)))))).trans (Ent.drop (List.sublist_append_left _ _))⟩
    rintro ⟨o2, Y⟩ ⟨hY, hYl, hY2⟩
    simp only at hY hYl hY2 ⊢
    refine WC.seq_cut (α := UInt8) (fun c => [(0, .str s), (3, bsV o2 Y), (4, .int .i64 i), (5, .int .u8 c.toNat)]) (fun _ => bsH 5 o2 Y) (fun c => X ++ escB s[i] = Y ++ [c]) ?_ ?_
    · skip
      refine WC.seq_k fun K26 hK27 => ?_
      refine WC.region ?_
      refine wU (gE rfl ?_)
      refine wU (gE rfl ?_)
      refine wOps.done ?_
      refine hK27 _ _ _ ?_
      clear hK27 K26
      refine WC.cond rfl (fun c28 => ?_) (fun c28 => ?_)
      · skip
        skip
        refine WC.region ?_
        refine wU (gE rfl ?_)
        refine wOps.done ?_
        have h10 : s[i] = 10 := by simpa [u8_10] using c28
        exact ⟨110, rfl, by rw [hY, if_pos h10], Ent.sub (sub_cons rfl (sub_cons rfl (sub_cons rfl (sub_cons rfl (sub_nil _)))))⟩
      · skip
        refine WC.skip ?_
        have h10 : ¬ s[i] = 10 := by simpa [u8_10] using c28
        exact ⟨s[i], rfl, by rw [hY, if_neg h10], Ent.sub (sub_cons rfl (sub_cons rfl (sub_cons rfl (sub_cons rfl (sub_nil _)))))⟩
    rintro c hYc
    refine WC.region ?_
    refine wU (gE rfl ?_)
    refine wU (gE rfl ?_)
    refine wU (gBuildSlice (cs := [.int .u8 c.toNat]) tslice66 tsz5 tzero5 rfl (by simp [evFill, putL, zcells, vcells]) (by decide) (by decide) fun b29 hb29 => ?_)
    refine wU (gOp (OpS.appBs (s := o2) (acc := Y) (bs := [c]) (hx := [(b29, .cells 5 [.int .u8 c.toNat] 1)]) ⟨rfl⟩ el66 appT66 rfl rfl rfl (fun q N e => by subst e; simp [bsH] at hb29; simp; exact fun e => hb29 e.symm) hY2 (by simp [evSrc, hget, byteCells]) (by simp only [List.length_cons, List.length_nil]; omega) fun o4 ho4 ho4n => ?_) rfl)
    refine wU (gE rfl ?_)
    refine wOps.done ?_
    refine hK15 _ _ _ ?_
    clear hK15 K14
    refine WC.region ?_
    refine wU (gE rfl ?_)
    refine wU (gE rfl ?_)
    refine wU (gE rfl ?_)
    refine wOps.done ?_
    exact ⟨(i + 1, Y ++ [c], o4), rfl, by simp only; omega, ⟨by simp only; omega, by simp only [esc_step hi, ← hYc, hX]; simp, by simp; omega, ho4n⟩, (Ent.sub (sub_cons rfl (sub_cons rfl (sub_cons (int_fit (by omega) (by omega) (by omega)) (sub_nil _))))).trans (Ent.drop (List.sublist_append_left _ _))⟩
  · skip
    refine WC.exit ?_
    refine hK6 _ _ _ ?_
    clear hK10 K9 hK6 K5
    refine WC.seq_k fun K30 hK31 => ?_
    refine WC.region ?_
    refine wU (gE rfl ?_)
    refine wU (gBuildSlice (cs := [.int .u8 34]) tslice66 tsz5 tzero5 rfl (by simp [evFill, putL, zcells, vcells]) (by decide) (by decide) fun b32 hb32 => ?_)
    refine wU (gOp (OpS.appBs (s := o) (acc := X) (bs := [34]) (hx := [(b32, .cells 5 [.int .u8 34] 1)]) ⟨rfl⟩ el66 appT66 rfl rfl rfl (fun q N e => by subst e; simp [bsH] at hb32; simp; exact fun e => hb32 e.symm) ho (by simp [evSrc, hget, byteCells]) (by simp only [List.length_cons, List.length_nil]; omega) fun o5 ho5 ho5n => ?_) rfl)
    refine wU (gOfBs2 (s := o5) (acc := X ++ [34]) (hx := [(b32, .cells 5 [.int .u8 34] 1)]) tslice66 tint5 tisstr9 rfl rfl ho5n ?_)
    refine wU (gE rfl ?_)
    refine wOps.done ?_
    refine hK31 _ _ _ ?_
    clear hK31 K30
    refine WC.ret ?_
    exact ⟨_, rfl, congrArg V.str (by rw [hX, List.take_of_length_le (by have := of_decide_eq_false c13; omega)]; simp)⟩
theorem fmtG_at {l : List Lb} {i : Nat} (h : i < l.length) (b : Bool) : fmtG b (l.drop i) = (if b then [] else [32]) ++ (l[i].1 ++ 61 :: (quoteV l[i].2 ++ fmtG false (l.drop (i + 1)))) := by
  rw [List.drop_eq_getElem_cons h]; rfl
theorem refFmt_tri (l : List Lb) (hl : l.length ≤ 4294967295) (hn : ∀ p ∈ l, p.1.length ≤ 4294967295) : PTri Tryz.prog 13 [lsl l] (.tup [.str (fmtL l).1, .int .i64 (fmtL l).2]) := by
  have hck := chk5_tri l hl hn
  unfold lsl at hck ⊢
  refine PTri.any (Tri.of_wc Tryz.func13 rfl Tryz.results13 Tryz.ntmps13 (by simp) ?_)
  refine WC.seq_k fun K1 hK2 => ?_
  refine WC.region ?_
  refine wU (gE rfl ?_)
  refine wU (gE rfl ?_)
  refine wOps.done ?_
  refine hK2 _ _ _ ?_
  clear hK2 K1
  refine WC.seq_k fun K3 hK4 => ?_
  refine WC.seq_k fun K5 hK6 => ?_
  refine WC.region ?_
  refine wU (gE rfl ?_)
  refine wU (gPure rfl isGo44 hck ?_)
  refine wU (gE rfl ?_)
  refine wOps.done ?_
  refine hK6 _ _ _ ?_
  clear hK6 K5
  refine WC.seq_k fun K7 hK8 => ?_
  refine WC.region ?_
  refine wU (gE rfl ?_)
  refine wU (gE rfl ?_)
  refine wOps.done ?_
  refine hK8 _ _ _ ?_
  clear hK8 K7
  refine WC.cond rfl (fun c9 => ?_) (fun c9 => ?_)
  · skip
    refine WC.seq_k fun K10 hK11 => ?_
    skip
    refine WC.region ?_
    refine wU (gE rfl ?_)
    refine wU (gE rfl ?_)
    refine wU (gE rfl ?_)
    refine wOps.done ?_
    refine hK11 _ _ _ ?_
    clear hK11 K10
    refine WC.ret ?_
    have hne : ¬ chkL l = 0 := by simpa using c9
    exact ⟨_, rfl, by unfold fmtL; rw [if_pos hne]⟩
  · skip
    refine WC.skip ?_
    refine hK4 _ _ _ ?_
    clear hK4 K3
    refine WC.seq_k fun K12 hK13 => ?_
    have h0 : chkL l = 0 := by simpa using c9
    have hok := (chkL_iff l).1 h0
    refine WC.region ?_
    refine wU (gE rfl ?_)
    refine wOps.done ?_
    refine hK13 _ _ _ ?_
    clear hK13 K12
    refine WC.seq_k fun K14 hK15 => ?_
    refine WC.seq_k fun K16 hK17 => ?_
    refine WC.region ?_
    refine wU (gE rfl ?_)
    refine wOps.done ?_
    refine hK17 _ _ _ ?_
    clear hK17 K16
    refine WC.block ?_
    refine WC.loopI (α := Nat × By) (fun a => [(0, .fslice (lcs l) l.length), (5, .str a.2), (6, .int .i64 a.1)]) (fun _ => []) (fun a => l.length - a.1) (fun a => a.1 ≤ l.length ∧ fmtG true l = a.2 ++ fmtG (decide (a.1 = 0)) (l.drop a.1) ∧ a.2.length ≤ 500 * a.1) (0, []) ?_ ?_ ?_ ?_
    · exact sub_cons rfl (sub_cons rfl (sub_cons rfl (sub_nil _)))
    · exact Ent.refl _ _
    · exact ⟨Nat.zero_le _, by simp, by simp⟩
    rintro ⟨i, X⟩ ⟨his, hX, hXl⟩
    simp only at his hX hXl ⊢
    refine WC.seq_k fun K18 hK19 => ?_
    refine WC.seq_k fun K20 hK21 => ?_
    refine WC.region ?_
    refine wU (gE rfl ?_)
    refine wU (gE rfl ?_)
    refine wU (gLen rfl rfl (by rw [lenFits, tslice22]; rfl) ?_)
    refine wU (gE rfl ?_)
    refine wOps.done ?_
    refine hK21 _ _ _ ?_
    clear hK21 K20
    refine WC.cond rfl (fun c22 => ?_) (fun c22 => ?_)
    · skip
      refine WC.skip ?_
      refine hK19 _ _ _ ?_
      clear hK19 K18
      refine WC.seq_k fun K23 hK24 => ?_
      refine WC.block ?_
      refine WC.seq_k fun K25 hK26 => ?_
      have hi : i < l.length := by simpa using c22
      have hall := hok.2.1 _ (List.getElem_mem hi)
      refine WC.region ?_
      refine wU (gE rfl ?_)
      refine wU (gE rfl ?_)
      refine wU (gIdxF tslice22 tsz51 rfl rfl (by omega) (by omega) ?_)
      refine wU (gFieldF tfld51_1 tsz9 rfl ?_)
      refine wU (gLoadF tagg9 rfl (lcs_snd hi) ?_)
      refine wU (gE rfl ?_)
      refine wOps.done ?_
      refine hK26 _ _ _ ?_
      clear hK26 K25
      refine WC.seq_cut (α := Unit) (fun _ => [(0, .fslice (lcs l) l.length), (5, .str X), (6, .int .i64 i), (7, .str (quoteV l[i].2))]) (fun _ => []) (fun _ => True) ?_ ?_
      · skip
        refine WC.seq_k fun K27 hK28 => ?_
        have hhd : l[i].2.head? = some (l[i].2[0]'(List.length_pos_iff.2 hall.2.1)) := by rw [List.head?_eq_getElem?]; exact List.getElem?_eq_getElem _
        refine WC.region ?_
        refine wU (gE rfl ?_)
        refine wU (gPure rfl isGo45 (cont2_tri l[i].2 32 (by omega)) ?_)
        refine wU (gE rfl ?_)
        refine wG rfl rfl rfl rfl (by decide) (fun c29 => ?_) (fun c29 => ?_)
        · skip
          refine gE rfl ?_
          refine wY rfl (gPure rfl isGo45 (cont2_tri l[i].2 10 (by omega)) ?_)
          refine wU (gE rfl ?_)
          refine wU (gE rfl ?_)
          refine wG rfl rfl rfl rfl (by decide) (fun c30 => ?_) (fun c30 => ?_)
          · skip
            refine gE rfl ?_
            have hv0 : 0 < l[i].2.length := List.length_pos_iff.2 hall.2.1
            refine wY rfl (gIdxStr tisstr9 rfl rfl (by omega) (show l[i].2[(0 : Int).toNat]? = some l[i].2[0] from List.getElem?_eq_getElem hv0) ?_)
            refine wY rfl (gE rfl ?_)
            refine wU (gE rfl ?_)
            refine wOps.done ?_
            refine hK28 _ _ _ ?_
            clear hK28 K27
            refine WC.cond rfl (fun c31 => ?_) (fun c31 => ?_)
            · skip
              skip
              refine WC.region ?_
              refine wU (gE rfl ?_)
              refine wU (gPure rfl isGo46 (escaped_tri l[i].2 (by omega)) ?_)
              refine wU (gE rfl ?_)
              refine wOps.done ?_
              have hp : plainV l[i].2 = false := by rw [plain_cont]; simp_all [u8_34]
              exact ⟨(), rfl, trivial, Ent.sub (sub_cons rfl (sub_cons rfl (sub_cons rfl (sub_cons (congrArg (fun x => some (V.str x)) (by unfold quoteV; rw [if_neg (by rw [hp]; simp)])) (sub_nil _)))))⟩
            · skip
              refine WC.skip ?_
              have hp : plainV l[i].2 = true := by rw [plain_cont]; simp_all [u8_34]
              exact ⟨(), rfl, trivial, Ent.sub (sub_cons rfl (sub_cons rfl (sub_cons rfl (sub_cons (congrArg (fun x => some (V.str x)) (by unfold quoteV; rw [if_pos hp])) (sub_nil _)))))⟩
          · skip
            refine wN rfl ?_
            refine wN rfl ?_
            refine wU (gE rfl ?_)
            refine wOps.done ?_
            refine hK28 _ _ _ ?_
            clear hK28 K27
            first | refine WC.cond (b := true) rfl (fun _ => ?_) (fun hh => by simp at hh) | refine WC.cond rfl (fun _ => ?_) (fun hh => by simp_all)
            skip
            refine WC.region ?_
            refine wU (gE rfl ?_)
            refine wU (gPure rfl isGo46 (escaped_tri l[i].2 (by omega)) ?_)
            refine wU (gE rfl ?_)
            refine wOps.done ?_
            have hp : plainV l[i].2 = false := by rw [plain_cont]; simp_all [u8_34]
            exact ⟨(), rfl, trivial, Ent.sub (sub_cons rfl (sub_cons rfl (sub_cons rfl (sub_cons (congrArg (fun x => some (V.str x)) (by unfold quoteV; rw [if_neg (by rw [hp]; simp)])) (sub_nil _)))))⟩
        · skip
          refine wN rfl ?_
          refine wU (gE rfl ?_)
          refine wU (gE rfl ?_)
          refine wN rfl ?_
          refine wN rfl ?_
          refine wN rfl ?_
          refine wU (gE rfl ?_)
          refine wOps.done ?_
          refine hK28 _ _ _ ?_
          clear hK28 K27
          first | refine WC.cond (b := true) rfl (fun _ => ?_) (fun hh => by simp at hh) | refine WC.cond rfl (fun _ => ?_) (fun hh => by simp_all)
          skip
          refine WC.region ?_
          refine wU (gE rfl ?_)
          refine wU (gPure rfl isGo46 (escaped_tri l[i].2 (by omega)) ?_)
          refine wU (gE rfl ?_)
          refine wOps.done ?_
          have hp : plainV l[i].2 = false := by rw [plain_cont]; simp_all [u8_34]
          exact ⟨(), rfl, trivial, Ent.sub (sub_cons rfl (sub_cons rfl (sub_cons rfl (sub_cons (congrArg (fun x => some (V.str x)) (by unfold quoteV; rw [if_neg (by rw [hp]; simp)])) (sub_nil _)))))⟩
      rintro ⟨⟩ -
      have hql := quote_le l[i].2
      have hnl := isNm_len hall.1
      refine WC.seq_cut (α := By) (fun Y => [(0, .fslice (lcs l) l.length), (5, .str Y), (6, .int .i64 i), (7, .str (quoteV l[i].2))]) (fun _ => []) (fun Y => Y = X ++ (if decide (i = 0) = true then [] else [32]) ∧ Y.length ≤ X.length + 1) ?_ ?_
      · skip
        refine WC.seq_k fun K32 hK33 => ?_
        refine WC.region ?_
        refine wU (gE rfl ?_)
        refine wU (gE rfl ?_)
        refine wOps.done ?_
        refine hK33 _ _ _ ?_
        clear hK33 K32
        refine WC.cond rfl (fun c34 => ?_) (fun c34 => ?_)
        · skip
          skip
          refine WC.region ?_
          refine wU (gE rfl ?_)
          refine wU (gE (v := .str (X ++ [32])) (addS X [32] (by simp; omega)) ?_)
          refine wU (gE rfl ?_)
          refine wOps.done ?_
          have h0i : 0 < i := by have := of_decide_eq_true c34; omega
          exact ⟨X ++ [32], rfl, ⟨by rw [decide_eq_false (by omega : ¬ i = 0)]; simp, by simp⟩, Ent.sub (sub_cons rfl (sub_cons rfl (sub_cons rfl (sub_cons rfl (sub_nil _)))))⟩
        · skip
          refine WC.skip ?_
          have h0i : i = 0 := by have := of_decide_eq_false c34; omega
          exact ⟨X, rfl, ⟨by rw [decide_eq_true h0i]; simp, by omega⟩, Ent.sub (sub_cons rfl (sub_cons rfl (sub_cons rfl (sub_cons rfl (sub_nil _)))))⟩
      rintro Y ⟨hY, hYl⟩
      refine WC.region ?_
      refine wU (gE rfl ?_)
      refine wU (gE rfl ?_)
      refine wU (gE rfl ?_)
      refine wU (gIdxF tslice22 tsz51 rfl rfl (by omega) (by omega) ?_)
      refine wU (gFieldF tfld51_0 tsz9 rfl ?_)
      refine wU (gLoadF tagg9 rfl (lcs_fst hi) ?_)
      refine wU (gE (v := .str (Y ++ l[i].1)) (addS Y l[i].1 (by omega)) ?_)
      refine wU (gE (v := .str (Y ++ l[i].1 ++ [61])) (addS (Y ++ l[i].1) [61] (by simp; omega)) ?_)
      refine wU (gE rfl ?_)
      refine wU (gE (v := .str (Y ++ l[i].1 ++ [61] ++ quoteV l[i].2)) (addS (Y ++ l[i].1 ++ [61]) (quoteV l[i].2) (by simp; omega)) ?_)
      refine wU (gE rfl ?_)
      refine wOps.done ?_
      refine hK24 _ _ _ ?_
      clear hK24 K23
      refine WC.region ?_
      refine wU (gE rfl ?_)
      refine wU (gE rfl ?_)
      refine wU (gE rfl ?_)
      refine wOps.done ?_
      exact ⟨(i + 1, Y ++ l[i].1 ++ [61] ++ quoteV l[i].2), rfl, by simp only; omega, ⟨by simp only; omega, by simp only [hX, fmtG_at hi, hY]; rw [decide_eq_false (by omega : ¬ i + 1 = 0)]; simp, by simp; omega⟩, Ent.sub (sub_cons rfl (sub_cons rfl (sub_cons (int_fit (by omega) (by omega) (by omega)) (sub_nil _))))⟩
    · skip
      refine WC.exit ?_
      refine hK15 _ _ _ ?_
      clear hK19 K18 hK15 K14
      refine WC.seq_k fun K35 hK36 => ?_
      refine WC.seq_k fun K37 hK38 => ?_
      refine WC.region ?_
      refine wU (gE rfl ?_)
      refine wU (gLen rfl rfl tisstr9 ?_)
      refine wU (gE rfl ?_)
      refine wOps.done ?_
      refine hK38 _ _ _ ?_
      clear hK38 K37
      refine WC.cond rfl (fun c39 => ?_) (fun c39 => ?_)
      · skip
        refine WC.seq_k fun K40 hK41 => ?_
        skip
        refine WC.region ?_
        refine wU (gE rfl ?_)
        refine wU (gE rfl ?_)
        refine wOps.done ?_
        refine hK41 _ _ _ ?_
        clear hK41 K40
        refine WC.ret ?_
        have he : i = l.length := by have := of_decide_eq_false c22; omega
        have hX2 : fmtG true l = X := by rw [hX, he, List.drop_length]; simp [fmtG]
        exact ⟨_, rfl, by unfold fmtL; rw [if_neg (by rw [h0]; simp), hX2, if_pos (by have := of_decide_eq_true c39; omega)]⟩
      · skip
        refine WC.skip ?_
        refine hK36 _ _ _ ?_
        clear hK36 K35
        refine WC.seq_k fun K42 hK43 => ?_
        refine WC.region ?_
        refine wU (gE rfl ?_)
        refine wU (gE rfl ?_)
        refine wU (gE rfl ?_)
        refine wOps.done ?_
        refine hK43 _ _ _ ?_
        clear hK43 K42
        refine WC.ret ?_
        have he : i = l.length := by have := of_decide_eq_false c22; omega
        have hX2 : fmtG true l = X := by rw [hX, he, List.drop_length]; simp [fmtG]
        exact ⟨_, rfl, by unfold fmtL; rw [if_neg (by rw [h0]; simp), hX2, if_neg (by have := of_decide_eq_false c39; omega)]⟩
end Go.Proofs.YtfdmdcpopmcmcaaGreatDoor
end

section
namespace Go.Proofs.YtfdmdcpopmcmcaaGreatDoor
open Go.Fw
theorem get_at (s : By) (k : Nat) (h : k < s.length) : ((⟨s.toArray⟩ : ByteArray).get! k) = s[k] := by
  show (s.toArray)[k]! = s[k]
  rw [getElem!_pos _ k (by simpa using h)]
  simp
/-- What decoding at a place gives: an ASCII byte itself, or a rune beyond, out of bytes that are all beyond. -/
theorem dec_facts (s : By) (pos : Nat) (h : pos < s.length) : (s[pos].toNat < 128 ∧ Utf8.decode ⟨s.toArray⟩ pos = (s[pos].toNat, 1)) ∨
    (128 ≤ (Utf8.decode ⟨s.toArray⟩ pos).1 ∧ 1 ≤ (Utf8.decode ⟨s.toArray⟩ pos).2 ∧ pos + (Utf8.decode ⟨s.toArray⟩ pos).2 ≤ s.length ∧ ∀ k (hk : k < s.length), pos ≤ k → k < pos + (Utf8.decode ⟨s.toArray⟩ pos).2 → 128 ≤ s[k].toNat) := by
  have hsz : (⟨s.toArray⟩ : ByteArray).size = s.length := by simp [ByteArray.size]
  have g0 : ((⟨s.toArray⟩ : ByteArray).get! (pos + 0)) = s[pos] := get_at s pos h
  have gk : ∀ k (hk : pos + k < s.length), ((⟨s.toArray⟩ : ByteArray).get! (pos + k)) = s[pos + k] := fun k hk => get_at s (pos + k) hk
  by_cases h0 : s[pos].toNat < 128
  · exact .inl ⟨h0, by unfold Utf8.decode; simp only [g0, h0, if_true]⟩
  · right
    have one : ∀ k (hk : k < s.length), pos ≤ k → k < pos + 1 → 128 ≤ s[k].toNat := fun k hk h1 h2 => by
      have : k = pos := by omega
      subst this; omega
    have c2 : ∀ k, (decide (pos + k < s.length) && ((⟨s.toArray⟩ : ByteArray).get! (pos + k)).toNat / 64 == 2) = true → ∃ hk : pos + k < s.length, 128 ≤ s[pos + k].toNat := fun k hc => by
      simp only [Bool.and_eq_true, decide_eq_true_eq, beq_iff_eq] at hc
      refine ⟨hc.1, ?_⟩
      have := hc.2
      rw [gk k hc.1] at this
      omega
    unfold Utf8.decode
    simp only [g0, h0, if_false, hsz]
    split
    · rename_i hc
      simp only [Bool.and_eq_true] at hc
      obtain ⟨k1, e1⟩ := c2 1 (by simpa using hc.2)
      split
      · refine ⟨by simp only; omega, by simp, by simp only; omega, fun k hk h1 h2 => ?_⟩
        simp only at h2
        rcases (show k = pos ∨ k = pos + 1 by omega) with rfl | rfl
        · omega
        · exact e1
      · exact ⟨by decide, by decide, by simp only; omega, one⟩
    · split
      · rename_i hc
        simp only [Bool.and_eq_true] at hc
        obtain ⟨k1, e1⟩ := c2 1 (by simpa using hc.1.2)
        obtain ⟨k2, e2⟩ := c2 2 (by simpa using hc.2)
        split
        · rename_i hv
          simp only [Bool.and_eq_true, decide_eq_true_eq] at hv
          refine ⟨by simp only; omega, by simp, by simp only; omega, fun k hk h1 h2 => ?_⟩
          simp only at h2
          rcases (show k = pos ∨ k = pos + 1 ∨ k = pos + 2 by omega) with rfl | rfl | rfl
          · omega
          · exact e1
          · exact e2
        · exact ⟨by decide, by decide, by simp only; omega, one⟩
      · split
        · rename_i hc
          simp only [Bool.and_eq_true] at hc
          obtain ⟨k1, e1⟩ := c2 1 (by simpa using hc.1.1.2)
          obtain ⟨k2, e2⟩ := c2 2 (by simpa using hc.1.2)
          obtain ⟨k3, e3⟩ := c2 3 (by simpa using hc.2)
          split
          · rename_i hv
            simp only [Bool.and_eq_true, decide_eq_true_eq] at hv
            refine ⟨by simp only; omega, by simp, by simp only; omega, fun k hk h1 h2 => ?_⟩
            simp only at h2
            rcases (show k = pos ∨ k = pos + 1 ∨ k = pos + 2 ∨ k = pos + 3 by omega) with rfl | rfl | rfl | rfl
            · omega
            · exact e1
            · exact e2
            · exact e3
          · exact ⟨by decide, by decide, by simp only; omega, one⟩
        · exact ⟨by decide, by decide, by simp only; omega, one⟩
end Go.Proofs.YtfdmdcpopmcmcaaGreatDoor
end

section
namespace Go.Proofs.YtfdmdcpopmcmcaaGreatDoor
open Go.Fw
variable [Gl]
theorem isGo132 : isGo Tryz.prog 132 = true := by kernel_rfl
theorem isGo133 : isGo Tryz.prog 133 = true := by kernel_rfl
theorem isGo144 : isGo Tryz.prog 144 = true := by kernel_rfl
theorem isGo145 : isGo Tryz.prog 145 = true := by kernel_rfl
theorem tint21 : tint Tryz.prog 21 = some .i32 := by kernel_rfl
set_option maxRecDepth 20000
theorem tint9n : tint Tryz.prog 9 = none := by kernel_rfl
theorem vrs_int1 {k : IntKind} {n : Int} (F : Froz) (av : Array Value) (h : VRs F [.int k n] av) : av = #[.int k n] := by
  have h0 := (h.2 0 _ rfl).int_inv
  have hs := h.1
  simp at hs
  obtain ⟨L⟩ := av
  match L, hs with
  | [x], _ => simp at h0; rw [h0]
theorem vrs_strint {s : By} {k : IntKind} {n : Int} (F : Froz) (av : Array Value) (h : VRs F [.str s, .int k n] av) : av = #[.string ⟨s.toArray⟩, .int k n] := by
  have h0 := (h.2 0 _ rfl).str_inv
  have h1 := (h.2 1 _ rfl).int_inv
  have hs := h.1
  simp at hs
  obtain ⟨L⟩ := av
  match L, hs with
  | [x, y], _ => simp at h0 h1; rw [h0, h1]
theorem validR_tri (r : Int) : PTri Tryz.prog 145 [.int .i32 r] (.bool (Lib.validRune r)) :=
  PTri.of_same _ _ vrs_int1 (fun w => Tryz.utf8_ValidRune r w) fun F => .bool _
theorem idxByte_tri (s : By) (c : Int) : PTri Tryz.prog 144 [.str s, .int .u8 c] (.int .i64 (Lib.indexByte s c.toNat.toUInt8)) :=
  PTri.of_same _ _ vrs_strint (fun w => Tryz.strings_IndexByte ⟨s.toArray⟩ c w) fun F => by simpa using VR.int _ _
theorem idxRune_asc (s : By) (r : Int) (h0 : 0 ≤ r) (h1 : r < 128) : PTri Tryz.prog 132 [.str s, .int .i32 r] (.int .i64 (Lib.indexByte s r.toNat.toUInt8)) :=
  PTri.of_same _ _ vrs_strint (fun w => Tryz.strings_IndexRune_ascii ⟨s.toArray⟩ r w h0 h1) fun F => by simpa using VR.int _ _
theorem ascii_tri (n : Nat) (h : n ≤ 8) : PTri Tryz.prog 133 [.int .i64 n] (.bool false) := by
  have : PTri Tryz.prog 133 [.int .i64 n] (.bool (decide ((8 : Int) < n))) := PTri.of_same _ _ vrs_int1 (fun w => Tryz.strings_shouldUseASCIISet n w) fun F => .bool _
  rwa [show decide ((8 : Int) < n) = false by simp; omega] at this
theorem dec0 : Utf8.decode ⟨([32, 10] : By).toArray⟩ 0 = (32, 1) := by decide
theorem dec1 : Utf8.decode ⟨([32, 10] : By).toArray⟩ 1 = (10, 1) := by decide
theorem valid_eq (r : Int) (h : Lib.validRune r = true) : Utf8.valid r = true := by
  unfold Lib.validRune at h
  unfold Utf8.valid
  simp only [decide_eq_true_eq, Bool.or_eq_true, Bool.and_eq_true] at *
  omega
theorem idxRune_err : PTri Tryz.prog 132 [.str [32, 10], .int .i32 65533] (.int .i64 (-1)) := by
  refine PTri.any (Tri.of_wc Tryz.func132 rfl Tryz.results132 Tryz.ntmps132 (by simp) ?_)
  refine WC.seq_k fun K1 hK2 => ?_
  refine WC.region ?_
  refine wU (gE rfl ?_)
  refine wOps.done ?_
  refine hK2 _ _ _ ?_
  clear hK2 K1
  refine WC.block ?_
  refine WC.seq_k fun K3 hK4 => ?_
  refine WC.region ?_
  refine wU (gE rfl ?_)
  refine wU (gE (v := .bool true) rfl ?_)
  refine wU (gE rfl ?_)
  refine wY rfl (gE rfl ?_)
  refine wY rfl (gE (v := .bool false) rfl ?_)
  refine wU (gE rfl ?_)
  refine wU (gE rfl ?_)
  refine wOps.done ?_
  refine hK4 _ _ _ ?_
  clear hK4 K3
  first | refine WC.cond (b := false) rfl (fun hh => by simp at hh) (fun _ => ?_) | refine WC.cond rfl (fun hh => by simp_all) (fun _ => ?_)
  refine WC.seq_k fun K5 hK6 => ?_
  refine WC.region ?_
  refine wU (gE rfl ?_)
  refine wU (gE (v := .bool true) rfl ?_)
  refine wU (gE rfl ?_)
  refine wOps.done ?_
  refine hK6 _ _ _ ?_
  clear hK6 K5
  first | refine WC.cond (b := true) rfl (fun _ => ?_) (fun hh => by simp at hh) | refine WC.cond rfl (fun _ => ?_) (fun hh => by simp_all)
  refine WC.seq_k fun K7 hK8 => ?_
  refine WC.seq_k fun K9 hK10 => ?_
  refine WC.region ?_
  refine wU (gE rfl ?_)
  refine wU (gOp (OpS.rangeStr rfl tisstr9 rfl fun b0 hb0 => ?_) rfl)
  refine wOps.done ?_
  refine hK10 _ _ _ ?_
  clear hK10 K9
  refine WC.block ?_
  refine WC.loopI (α := Nat) (fun _ => [(175, .ptr b0 0)]) (fun pos => [(b0, .striter [32, 10] pos)]) (fun pos => 2 - pos) (fun pos => pos ≤ 2) 0 ?_ ?_ ?_ ?_
  · exact sub_cons rfl (sub_nil _)
  · exact Ent.refl _ _
  · exact Nat.zero_le _
  intro pos hp
  refine WC.seq_k fun K11 hK12 => ?_
  obtain rfl | rfl | rfl : pos = 0 ∨ pos = 1 ∨ pos = 2 := by omega
  · skip
    refine WC.region ?_
    refine wU (gOp (OpS.nextStr (s := [32, 10]) (pos := 0) rfl rfl (by simp only [hget, ↓reduceIte]) (fun _ => ?_) (fun h => absurd (by decide) h)) rfl)
    simp only [dec0, hset, ↓reduceIte]
    refine wU (gE rfl ?_)
    refine wOps.done ?_
    refine hK12 _ _ _ ?_
    clear hK12 K11
    refine WC.seq_k fun K13 hK14 => ?_
    first | refine WC.cond (b := true) rfl (fun _ => ?_) (fun hh => by simp at hh) | refine WC.cond rfl (fun _ => ?_) (fun hh => by simp_all)
    refine WC.skip ?_
    refine hK14 _ _ _ ?_
    clear hK14 K13
    refine WC.block ?_
    refine WC.seq_k fun K15 hK16 => ?_
    refine WC.region ?_
    refine wU (gE rfl ?_)
    refine wU (gE rfl ?_)
    refine wU (gE rfl ?_)
    refine wU (gE rfl ?_)
    refine wOps.done ?_
    refine hK16 _ _ _ ?_
    clear hK16 K15
    refine WC.seq_k fun K17 hK18 => ?_
    refine WC.region ?_
    refine wU (gE rfl ?_)
    refine wU (gE (v := .bool false) rfl ?_)
    refine wOps.done ?_
    refine hK18 _ _ _ ?_
    clear hK18 K17
    first | refine WC.cond (b := false) rfl (fun hh => by simp at hh) (fun _ => ?_) | refine WC.cond rfl (fun hh => by simp_all) (fun _ => ?_)
    refine WC.skip ?_
    exact ⟨1, rfl, by decide, by decide, Ent.sub (sub_cons rfl (sub_nil _))⟩
  · skip
    refine WC.region ?_
    refine wU (gOp (OpS.nextStr (s := [32, 10]) (pos := 1) rfl rfl (by simp only [hget, ↓reduceIte]) (fun _ => ?_) (fun h => absurd (by decide) h)) rfl)
    simp only [dec1, hset, ↓reduceIte]
    refine wU (gE rfl ?_)
    refine wOps.done ?_
    refine hK12 _ _ _ ?_
    clear hK12 K11
    refine WC.seq_k fun K19 hK20 => ?_
    first | refine WC.cond (b := true) rfl (fun _ => ?_) (fun hh => by simp at hh) | refine WC.cond rfl (fun _ => ?_) (fun hh => by simp_all)
    refine WC.skip ?_
    refine hK20 _ _ _ ?_
    clear hK20 K19
    refine WC.block ?_
    refine WC.seq_k fun K21 hK22 => ?_
    refine WC.region ?_
    refine wU (gE rfl ?_)
    refine wU (gE rfl ?_)
    refine wU (gE rfl ?_)
    refine wU (gE rfl ?_)
    refine wOps.done ?_
    refine hK22 _ _ _ ?_
    clear hK22 K21
    refine WC.seq_k fun K23 hK24 => ?_
    refine WC.region ?_
    refine wU (gE rfl ?_)
    refine wU (gE (v := .bool false) rfl ?_)
    refine wOps.done ?_
    refine hK24 _ _ _ ?_
    clear hK24 K23
    first | refine WC.cond (b := false) rfl (fun hh => by simp at hh) (fun _ => ?_) | refine WC.cond rfl (fun hh => by simp_all) (fun _ => ?_)
    refine WC.skip ?_
    exact ⟨2, rfl, by decide, by decide, Ent.sub (sub_cons rfl (sub_nil _))⟩
  · skip
    refine WC.region ?_
    refine wU (gOp (OpS.nextStr (s := [32, 10]) (pos := 2) rfl rfl (by simp only [hget, ↓reduceIte]) (fun h => absurd h (by decide)) (fun _ => ?_)) rfl)
    refine wU (gE rfl ?_)
    refine wOps.done ?_
    refine hK12 _ _ _ ?_
    clear hK12 K11
    refine WC.seq_k fun K25 hK26 => ?_
    first | refine WC.cond (b := false) rfl (fun hh => by simp at hh) (fun _ => ?_) | refine WC.cond rfl (fun hh => by simp_all) (fun _ => ?_)
    refine WC.exit ?_
    refine hK8 _ _ _ ?_
    clear hK26 K25 hK8 K7
    refine WC.seq_k fun K27 hK28 => ?_
    refine WC.region ?_
    refine wU (gE rfl ?_)
    refine wOps.done ?_
    refine hK28 _ _ _ ?_
    clear hK28 K27
    refine WC.ret ?_
    exact ⟨_, rfl, rfl⟩
theorem idxRune_bad (r : Int) (h : 128 ≤ r) (h2 : r ≠ 65533) (hv : Lib.validRune r = false) : PTri Tryz.prog 132 [.str [32, 10], .int .i32 r] (.int .i64 (-1)) := by
  have hvr := validR_tri r
  rw [hv] at hvr
  refine PTri.any (Tri.of_wc Tryz.func132 rfl Tryz.results132 Tryz.ntmps132 (by simp) ?_)
  refine WC.seq_k fun K1 hK2 => ?_
  refine WC.region ?_
  refine wU (gE rfl ?_)
  refine wOps.done ?_
  refine hK2 _ _ _ ?_
  clear hK2 K1
  refine WC.block ?_
  refine WC.seq_k fun K3 hK4 => ?_
  refine WC.region ?_
  refine wU (gE rfl ?_)
  refine wU (gE (v := .bool true) (show some (V.bool (decide ((0 : Int) ≤ r))) = some (V.bool true) by simp; omega) ?_)
  refine wU (gE rfl ?_)
  refine wY rfl (gE rfl ?_)
  refine wY rfl (gE (v := .bool false) (show some (V.bool (decide (r < 128))) = some (V.bool false) by simp; omega) ?_)
  refine wU (gE rfl ?_)
  refine wU (gE rfl ?_)
  refine wOps.done ?_
  refine hK4 _ _ _ ?_
  clear hK4 K3
  first | refine WC.cond (b := false) rfl (fun hh => by simp at hh) (fun _ => ?_) | refine WC.cond rfl (fun hh => by simp_all) (fun _ => ?_)
  refine WC.seq_k fun K5 hK6 => ?_
  refine WC.region ?_
  refine wU (gE rfl ?_)
  refine wU (gE (v := .bool false) (show some (V.bool (decide (r = 65533))) = some (V.bool false) by simp [h2]) ?_)
  refine wU (gE rfl ?_)
  refine wOps.done ?_
  refine hK6 _ _ _ ?_
  clear hK6 K5
  first | refine WC.cond (b := false) rfl (fun hh => by simp at hh) (fun _ => ?_) | refine WC.cond rfl (fun hh => by simp_all) (fun _ => ?_)
  refine WC.seq_k fun K7 hK8 => ?_
  refine WC.region ?_
  refine wU (gE rfl ?_)
  refine wU (gPure rfl isGo145 hvr ?_)
  refine wU (gE rfl ?_)
  refine wU (gE rfl ?_)
  refine wOps.done ?_
  refine hK8 _ _ _ ?_
  clear hK8 K7
  first | refine WC.cond (b := true) rfl (fun _ => ?_) (fun hh => by simp at hh) | refine WC.cond rfl (fun _ => ?_) (fun hh => by simp_all)
  refine WC.seq_k fun K9 hK10 => ?_
  refine WC.region ?_
  refine wU (gE rfl ?_)
  refine wOps.done ?_
  refine hK10 _ _ _ ?_
  clear hK10 K9
  refine WC.ret ?_
  exact ⟨_, rfl, rfl⟩
theorem idxRune_long (r : Int) (h : 128 ≤ r) (h2 : r ≠ 65533) (hv : Lib.validRune r = true) (hl : (Utf8.encode r).data.toList.length ≥ 3) : PTri Tryz.prog 132 [.str [32, 10], .int .i32 r] (.int .i64 (-1)) := by
  have hvr := validR_tri r
  rw [hv] at hvr
  have hf := encode_facts r (valid_eq r hv) h
  have hcv : evConv Tryz.prog [] 21 9 (.int .i32 r) = some (.str (Utf8.encode r).data.toList) := by unfold evConv; simp only [tint21, tint9n, tisstr9, if_true]
  have hsz : (Utf8.encode r).size = (Utf8.encode r).data.toList.length := by rw [Array.length_toList]; rfl
  have h4 : (Utf8.encode r).data.toList.length ≤ 4 := by rw [← hsz]; exact hf.2.1
  have hlast : ∀ hk : (Utf8.encode r).data.toList.length - 1 < (Utf8.encode r).data.toList.length, 128 ≤ (Utf8.encode r).data.toList[(Utf8.encode r).data.toList.length - 1].toNat := fun hk => by
    have h5 := hf.2.2 (by rw [hsz]; exact hk)
    have h6 : (Utf8.encode r).data.toList[(Utf8.encode r).data.toList.length - 1] = (Utf8.encode r)[(Utf8.encode r).size - 1]'(by rw [hsz]; exact hk) := by simp only [Array.getElem_toList]; rfl
    rw [h6]; exact h5
  generalize (Utf8.encode r).data.toList = rs at *
  refine PTri.any (Tri.of_wc Tryz.func132 rfl Tryz.results132 Tryz.ntmps132 (by simp) ?_)
  refine WC.seq_k fun K1 hK2 => ?_
  refine WC.region ?_
  refine wU (gE rfl ?_)
  refine wOps.done ?_
  refine hK2 _ _ _ ?_
  clear hK2 K1
  refine WC.block ?_
  refine WC.seq_k fun K3 hK4 => ?_
  refine WC.region ?_
  refine wU (gE rfl ?_)
  refine wU (gE (v := .bool true) (show some (V.bool (decide ((0 : Int) ≤ r))) = some (V.bool true) by simp; omega) ?_)
  refine wU (gE rfl ?_)
  refine wY rfl (gE rfl ?_)
  refine wY rfl (gE (v := .bool false) (show some (V.bool (decide (r < 128))) = some (V.bool false) by simp; omega) ?_)
  refine wU (gE rfl ?_)
  refine wU (gE rfl ?_)
  refine wOps.done ?_
  refine hK4 _ _ _ ?_
  clear hK4 K3
  first | refine WC.cond (b := false) rfl (fun hh => by simp at hh) (fun _ => ?_) | refine WC.cond rfl (fun hh => by simp_all) (fun _ => ?_)
  refine WC.seq_k fun K5 hK6 => ?_
  refine WC.region ?_
  refine wU (gE rfl ?_)
  refine wU (gE (v := .bool false) (show some (V.bool (decide (r = 65533))) = some (V.bool false) by simp [h2]) ?_)
  refine wU (gE rfl ?_)
  refine wOps.done ?_
  refine hK6 _ _ _ ?_
  clear hK6 K5
  first | refine WC.cond (b := false) rfl (fun hh => by simp at hh) (fun _ => ?_) | refine WC.cond rfl (fun hh => by simp_all) (fun _ => ?_)
  refine WC.seq_k fun K7 hK8 => ?_
  refine WC.region ?_
  refine wU (gE rfl ?_)
  refine wU (gPure rfl isGo145 hvr ?_)
  refine wU (gE rfl ?_)
  refine wU (gE rfl ?_)
  refine wOps.done ?_
  refine hK8 _ _ _ ?_
  clear hK8 K7
  first | refine WC.cond (b := false) rfl (fun hh => by simp at hh) (fun _ => ?_) | refine WC.cond rfl (fun hh => by simp_all) (fun _ => ?_)
  refine WC.scope ?_
  refine WC.seq_k fun K9 hK10 => ?_
  refine WC.region ?_
  refine wU (gE rfl ?_)
  refine wU (gConv rfl (fun l => by simp) hcv ?_)
  refine wU (gE rfl ?_)
  refine wOps.done ?_
  refine hK10 _ _ _ ?_
  clear hK10 K9
  refine WC.seq_k fun K11 hK12 => ?_
  refine WC.region ?_
  refine wU (gE rfl ?_)
  refine wU (gLen rfl rfl tisstr9 ?_)
  refine wU (gE (v := .int .i64 ((rs.length - 1 : Nat) : Int)) (int_fit (by omega) (by omega) (by omega)) ?_)
  refine wU (gE rfl ?_)
  refine wOps.done ?_
  refine hK12 _ _ _ ?_
  clear hK12 K11
  refine WC.seq_k fun K13 hK14 => ?_
  refine WC.region ?_
  refine wU (gE rfl ?_)
  refine wU (gE rfl ?_)
  refine wOps.done ?_
  refine hK14 _ _ _ ?_
  clear hK14 K13
  refine WC.seq_k fun K15 hK16 => ?_
  refine WC.region ?_
  refine wU (gE rfl ?_)
  refine wOps.done ?_
  refine hK16 _ _ _ ?_
  clear hK16 K15
  refine WC.seq_k fun K17 hK18 => ?_
  refine WC.block ?_
  refine WC.loopI (α := Unit) (fun _ => [(0, .str [32, 10]), (7, .str rs), (8, .int .i64 ((rs.length - 1 : Nat) : Int)), (9, .int .i64 ((rs.length - 1 : Nat) : Int))]) (fun _ => []) (fun _ => 0) (fun _ => True) () ?_ ?_ ?_ ?_
  · exact sub_cons rfl (sub_cons rfl (sub_cons rfl (sub_cons rfl (sub_nil _))))
  · exact Ent.refl _ _
  · trivial
  rintro ⟨⟩ -
  refine WC.seq_k fun K19 hK20 => ?_
  refine WC.seq_k fun K21 hK22 => ?_
  refine WC.region ?_
  refine wU (gE rfl ?_)
  refine wU (gE rfl ?_)
  refine wU (gLen rfl rfl tisstr9 ?_)
  refine wU (gE (v := .bool false) (show some (V.bool (decide (((rs.length - 1 : Nat) : Int) < 2))) = some (V.bool false) by simp; omega) ?_)
  refine wOps.done ?_
  refine hK22 _ _ _ ?_
  clear hK22 K21
  first | refine WC.cond (b := false) rfl (fun hh => by simp at hh) (fun _ => ?_) | refine WC.cond rfl (fun hh => by simp_all) (fun _ => ?_)
  refine WC.exit ?_
  refine hK18 _ _ _ ?_
  clear hK20 K19 hK18 K17
  refine WC.seq_k fun K23 hK24 => ?_
  refine WC.seq_k fun K25 hK26 => ?_
  refine WC.region ?_
  refine wU (gE rfl ?_)
  refine wOps.done ?_
  refine hK26 _ _ _ ?_
  clear hK26 K25
  refine WC.ret ?_
  exact ⟨_, rfl, rfl⟩
theorem idxRune_two (r : Int) (h : 128 ≤ r) (h2 : r ≠ 65533) (hv : Lib.validRune r = true) (hl : (Utf8.encode r).data.toList.length = 2) : PTri Tryz.prog 132 [.str [32, 10], .int .i32 r] (.int .i64 (-1)) := by
  have hvr := validR_tri r
  rw [hv] at hvr
  have hf := encode_facts r (valid_eq r hv) h
  have hcv : evConv Tryz.prog [] 21 9 (.int .i32 r) = some (.str (Utf8.encode r).data.toList) := by unfold evConv; simp only [tint21, tint9n, tisstr9, if_true]
  have hsz : (Utf8.encode r).size = (Utf8.encode r).data.toList.length := by rw [Array.length_toList]; rfl
  have h4 : (Utf8.encode r).data.toList.length ≤ 4 := by rw [← hsz]; exact hf.2.1
  have hlast : ∀ hk : (Utf8.encode r).data.toList.length - 1 < (Utf8.encode r).data.toList.length, 128 ≤ (Utf8.encode r).data.toList[(Utf8.encode r).data.toList.length - 1].toNat := fun hk => by
    have h5 := hf.2.2 (by rw [hsz]; exact hk)
    have h6 : (Utf8.encode r).data.toList[(Utf8.encode r).data.toList.length - 1] = (Utf8.encode r)[(Utf8.encode r).size - 1]'(by rw [hsz]; exact hk) := by simp only [Array.getElem_toList]; rfl
    rw [h6]; exact h5
  generalize (Utf8.encode r).data.toList = rs at *
  refine PTri.any (Tri.of_wc Tryz.func132 rfl Tryz.results132 Tryz.ntmps132 (by simp) ?_)
  refine WC.seq_k fun K1 hK2 => ?_
  refine WC.region ?_
  refine wU (gE rfl ?_)
  refine wOps.done ?_
  refine hK2 _ _ _ ?_
  clear hK2 K1
  refine WC.block ?_
  refine WC.seq_k fun K3 hK4 => ?_
  refine WC.region ?_
  refine wU (gE rfl ?_)
  refine wU (gE (v := .bool true) (show some (V.bool (decide ((0 : Int) ≤ r))) = some (V.bool true) by simp; omega) ?_)
  refine wU (gE rfl ?_)
  refine wY rfl (gE rfl ?_)
  refine wY rfl (gE (v := .bool false) (show some (V.bool (decide (r < 128))) = some (V.bool false) by simp; omega) ?_)
  refine wU (gE rfl ?_)
  refine wU (gE rfl ?_)
  refine wOps.done ?_
  refine hK4 _ _ _ ?_
  clear hK4 K3
  first | refine WC.cond (b := false) rfl (fun hh => by simp at hh) (fun _ => ?_) | refine WC.cond rfl (fun hh => by simp_all) (fun _ => ?_)
  refine WC.seq_k fun K5 hK6 => ?_
  refine WC.region ?_
  refine wU (gE rfl ?_)
  refine wU (gE (v := .bool false) (show some (V.bool (decide (r = 65533))) = some (V.bool false) by simp [h2]) ?_)
  refine wU (gE rfl ?_)
  refine wOps.done ?_
  refine hK6 _ _ _ ?_
  clear hK6 K5
  first | refine WC.cond (b := false) rfl (fun hh => by simp at hh) (fun _ => ?_) | refine WC.cond rfl (fun hh => by simp_all) (fun _ => ?_)
  refine WC.seq_k fun K7 hK8 => ?_
  refine WC.region ?_
  refine wU (gE rfl ?_)
  refine wU (gPure rfl isGo145 hvr ?_)
  refine wU (gE rfl ?_)
  refine wU (gE rfl ?_)
  refine wOps.done ?_
  refine hK8 _ _ _ ?_
  clear hK8 K7
  first | refine WC.cond (b := false) rfl (fun hh => by simp at hh) (fun _ => ?_) | refine WC.cond rfl (fun hh => by simp_all) (fun _ => ?_)
  refine WC.scope ?_
  refine WC.seq_k fun K9 hK10 => ?_
  refine WC.region ?_
  refine wU (gE rfl ?_)
  refine wU (gConv rfl (fun l => by simp) hcv ?_)
  refine wU (gE rfl ?_)
  refine wOps.done ?_
  refine hK10 _ _ _ ?_
  clear hK10 K9
  refine WC.seq_k fun K11 hK12 => ?_
  refine WC.region ?_
  refine wU (gE rfl ?_)
  refine wU (gLen rfl rfl tisstr9 ?_)
  refine wU (gE (v := .int .i64 ((rs.length - 1 : Nat) : Int)) (int_fit (by omega) (by omega) (by omega)) ?_)
  refine wU (gE rfl ?_)
  refine wOps.done ?_
  refine hK12 _ _ _ ?_
  clear hK12 K11
  refine WC.seq_k fun K13 hK14 => ?_
  refine WC.region ?_
  refine wU (gE rfl ?_)
  refine wU (gE rfl ?_)
  refine wOps.done ?_
  refine hK14 _ _ _ ?_
  clear hK14 K13
  refine WC.seq_k fun K15 hK16 => ?_
  refine WC.region ?_
  refine wU (gE rfl ?_)
  refine wOps.done ?_
  refine hK16 _ _ _ ?_
  clear hK16 K15
  refine WC.seq_k fun K17 hK18 => ?_
  refine WC.block ?_
  refine WC.loopI (α := Unit) (fun _ => [(0, .str [32, 10]), (7, .str rs), (8, .int .i64 ((rs.length - 1 : Nat) : Int)), (9, .int .i64 ((rs.length - 1 : Nat) : Int))]) (fun _ => []) (fun _ => 0) (fun _ => True) () ?_ ?_ ?_ ?_
  · exact sub_cons rfl (sub_cons rfl (sub_cons rfl (sub_cons rfl (sub_nil _))))
  · exact Ent.refl _ _
  · trivial
  rintro ⟨⟩ -
  refine WC.seq_k fun K19 hK20 => ?_
  refine WC.seq_k fun K21 hK22 => ?_
  refine WC.region ?_
  refine wU (gE rfl ?_)
  refine wU (gE rfl ?_)
  refine wU (gLen rfl rfl tisstr9 ?_)
  refine wU (gE (v := .bool true) (show some (V.bool (decide (((rs.length - 1 : Nat) : Int) < 2))) = some (V.bool true) by simp; omega) ?_)
  refine wOps.done ?_
  refine hK22 _ _ _ ?_
  clear hK22 K21
  first | refine WC.cond (b := true) rfl (fun _ => ?_) (fun hh => by simp at hh) | refine WC.cond rfl (fun _ => ?_) (fun hh => by simp_all)
  refine WC.skip ?_
  refine hK20 _ _ _ ?_
  clear hK20 K19
  refine WC.block ?_
  refine WC.scope ?_
  refine WC.seq_k fun K23 hK24 => ?_
  refine WC.seq_k fun K25 hK26 => ?_
  refine WC.region_draw mixed ?_
  refine wA.val 0 rfl rfl rfl (fun _ _ hK => gE rfl hK) (by kernel_rfl) ?_
  refine wA.val 1 rfl rfl rfl (fun _ _ hK => gE rfl hK) (by kernel_rfl) ?_
  refine wA.val 2 rfl rfl rfl (fun _ _ hK => gIdxStr (c := 10) tisstr9 rfl rfl (by omega) (by rw [hl]; rfl) hK) (by kernel_rfl) ?_
  refine wA.val 3 rfl rfl rfl (fun _ _ hK => gE rfl hK) (by kernel_rfl) ?_
  refine wA.val 4 rfl rfl rfl (fun _ _ hK => gE rfl hK) (by kernel_rfl) ?_
  have hk : rs.length - 1 < rs.length := by omega
  have hlb := hlast hk
  refine wA.val 5 rfl rfl rfl (fun _ _ hK => gIdxStr tisstr9 rfl rfl (by omega) (str_at hk) hK) (by kernel_rfl) ?_
  refine wA.val 6 rfl rfl rfl (fun _ _ hK => gE (v := .bool true) (show some (V.bool (!decide (((10 : UInt8).toNat : Int) = (rs[rs.length - 1].toNat : Int)))) = some (V.bool true) by simp; omega) hK) (by kernel_rfl) ?_
  refine wA.done (by kernel_rfl) ?_
  refine hK26 _ _ _ ?_
  clear hK26 K25
  first | refine WC.cond (b := true) rfl (fun _ => ?_) (fun hh => by simp at hh) | refine WC.cond rfl (fun _ => ?_) (fun hh => by simp_all)
  refine WC.seq_k fun K27 hK28 => ?_
  refine WC.region_draw mixed ?_
  refine wA.val 0 rfl rfl rfl (fun _ _ hK => gE rfl hK) (by kernel_rfl) ?_
  refine wA.val 1 rfl rfl rfl (fun _ _ hK => gE rfl hK) (by kernel_rfl) ?_
  refine wA.val 2 rfl rfl rfl (fun _ _ hK => gE (v := .int .i64 ((2 : Nat) : Int)) (int_fit (by omega) (by omega) (by omega)) hK) (by kernel_rfl) ?_
  refine wA.val 3 rfl rfl rfl (fun _ _ hK => by refine gSliceStr (l := some 2) (r := none) tisstr9 rfl rfl rfl (by simp) (by simp) ?_; exact hK) (by kernel_rfl) ?_
  refine wA.val 4 rfl rfl rfl (fun _ _ hK => gE rfl hK) (by kernel_rfl) ?_
  refine wA.val 5 rfl rfl rfl (fun _ _ hK => gE rfl hK) (by kernel_rfl) ?_
  refine wA.val 6 rfl rfl rfl (fun _ _ hK => gIdxStr tisstr9 rfl rfl (by omega) (str_at hk) hK) (by kernel_rfl) ?_
  refine wA.val 7 rfl rfl rfl (fun _ _ hK => by refine gPure rfl isGo144 (idxByte_tri [] _) ?_; exact hK) (by kernel_rfl) ?_
  refine wA.val 8 rfl rfl rfl (fun _ _ hK => gE rfl hK) (by kernel_rfl) ?_
  refine wA.done (by kernel_rfl) ?_
  refine hK28 _ _ _ ?_
  clear hK28 K27
  refine WC.seq_k fun K29 hK30 => ?_
  refine WC.seq_k fun K31 hK32 => ?_
  refine WC.region ?_
  refine wU (gE rfl ?_)
  refine wU (gE (v := .bool true) rfl ?_)
  refine wOps.done ?_
  refine hK32 _ _ _ ?_
  clear hK32 K31
  first | refine WC.cond (b := true) rfl (fun _ => ?_) (fun hh => by simp at hh) | refine WC.cond rfl (fun _ => ?_) (fun hh => by simp_all)
  refine WC.seq_k fun K33 hK34 => ?_
  refine WC.region ?_
  refine wU (gE rfl ?_)
  refine wOps.done ?_
  refine hK34 _ _ _ ?_
  clear hK34 K33
  refine WC.ret ?_
  exact ⟨_, rfl, rfl⟩
end Go.Proofs.YtfdmdcpopmcmcaaGreatDoor
end

section
namespace Go.Proofs.YtfdmdcpopmcmcaaGreatDoor
open Go.Fw
variable [Gl]
set_option maxRecDepth 20000
def idxR (c : Int) : Int := if c < 128 then Lib.indexByte [32, 10] c.toNat.toUInt8 else -1
theorem idxRune_all (c : Int) (h : 0 ≤ c) : PTri Tryz.prog 132 [.str [32, 10], .int .i32 c] (.int .i64 (idxR c)) := by
  unfold idxR
  by_cases h1 : c < 128
  · rw [if_pos h1]; exact idxRune_asc _ c h h1
  · rw [if_neg h1]
    by_cases h2 : c = 65533
    · subst h2; exact idxRune_err
    · by_cases h3 : Lib.validRune c = true
      · have hf := (encode_facts c (valid_eq c h3) (by omega)).1
        have hsz : (Utf8.encode c).size = (Utf8.encode c).data.toList.length := by rw [Array.length_toList]; rfl
        by_cases h4 : (Utf8.encode c).data.toList.length = 2
        · exact idxRune_two c (by omega) h2 h3 h4
        · exact idxRune_long c (by omega) h2 h3 (by omega)
      · exact idxRune_bad c (by omega) h2 (by simpa using h3)
theorem idxR_byte (b : UInt8) (h : b.toNat < 128) : decide (0 ≤ idxR (b.toNat : Int)) = spB b := by
  unfold idxR
  rw [if_pos (by omega)]
  have e : (b.toNat : Int).toNat.toUInt8 = b := by simp
  rw [e]
  by_cases h1 : b = 32
  · subst h1; decide
  · by_cases h2 : b = 10
    · subst h2; decide
    · have e1 : ((32 : UInt8) == b) = false := by simpa using Ne.symm h1
      have e2 : ((10 : UInt8) == b) = false := by simpa using Ne.symm h2
      have e0 : Lib.indexByte [32, 10] b = -1 := by
        unfold Lib.indexByte; rw [e1]; unfold Lib.indexByte; rw [e2]; rfl
      rw [e0]
      simp [spB, h1, h2]
theorem spB_hi {b : UInt8} (h : 128 ≤ b.toNat) : spB b = false := by
  simp only [spB, Bool.or_eq_false_iff, beq_eq_false_iff_ne]
  constructor <;> (intro e; subst e; revert h; decide)
theorem any_take {s : By} {pos w : Nat} (h : (s.take pos).any spB = false) (hb : ∀ k (hk : k < s.length), pos ≤ k → k < pos + w → spB s[k] = false) : (s.take (pos + w)).any spB = false := by
  rw [List.any_eq_false] at *
  intro x hx
  obtain ⟨k, hk, rfl⟩ := List.mem_take_iff_getElem.1 hx
  by_cases h1 : k < pos
  · exact h _ (List.mem_take_iff_getElem.2 ⟨k, by omega, rfl⟩)
  · rw [hb k (by omega) (by omega) (by omega)]; simp
theorem idxAny_sh (s : By) (h8 : s.length ≤ 8) : Tri Tryz.prog 109 [.str s, .str [32, 10]] [] fun v h' => ∃ r : Int, v = .int .i64 r ∧ decide (0 ≤ r) = s.any spB := by
  have hsa := ascii_tri s.length h8
  refine Tri.of_wc Tryz.func109 rfl Tryz.results109 Tryz.ntmps109 (by simp) ?_
  refine WC.seq_k fun K1 hK2 => ?_
  refine WC.region ?_
  refine wU (gE rfl ?_)
  refine wOps.done ?_
  refine hK2 _ _ _ ?_
  clear hK2 K1
  refine WC.seq_k fun K3 hK4 => ?_
  refine WC.seq_k fun K5 hK6 => ?_
  refine WC.region ?_
  refine wU (gE rfl ?_)
  refine wU (gE (v := .bool false) rfl ?_)
  refine wOps.done ?_
  refine hK6 _ _ _ ?_
  clear hK6 K5
  first | refine WC.cond (b := false) rfl (fun hh => by simp at hh) (fun _ => ?_) | refine WC.cond rfl (fun hh => by simp_all) (fun _ => ?_)
  refine WC.skip ?_
  refine hK4 _ _ _ ?_
  clear hK4 K3
  refine WC.seq_k fun K7 hK8 => ?_
  refine WC.seq_k fun K9 hK10 => ?_
  refine WC.region ?_
  refine wU (gE rfl ?_)
  refine wU (gLen rfl rfl tisstr9 ?_)
  refine wU (gE (v := .bool false) rfl ?_)
  refine wOps.done ?_
  refine hK10 _ _ _ ?_
  clear hK10 K9
  first | refine WC.cond (b := false) rfl (fun hh => by simp at hh) (fun _ => ?_) | refine WC.cond rfl (fun hh => by simp_all) (fun _ => ?_)
  refine WC.skip ?_
  refine hK8 _ _ _ ?_
  clear hK8 K7
  refine WC.seq_k fun K11 hK12 => ?_
  refine WC.seq_k fun K13 hK14 => ?_
  refine WC.region ?_
  refine wU (gE rfl ?_)
  refine wU (gLen rfl rfl tisstr9 ?_)
  refine wU (gPure rfl isGo133 hsa ?_)
  refine wOps.done ?_
  refine hK14 _ _ _ ?_
  clear hK14 K13
  first | refine WC.cond (b := false) rfl (fun hh => by simp at hh) (fun _ => ?_) | refine WC.cond rfl (fun hh => by simp_all) (fun _ => ?_)
  refine WC.skip ?_
  refine hK12 _ _ _ ?_
  clear hK12 K11
  refine WC.seq_k fun K15 hK16 => ?_
  refine WC.seq_k fun K17 hK18 => ?_
  refine WC.region ?_
  refine wU (gE rfl ?_)
  refine wU (gOp (OpS.rangeStr rfl tisstr9 rfl fun b0 hb0 => ?_) rfl)
  refine wOps.done ?_
  refine hK18 _ _ _ ?_
  clear hK18 K17
  refine WC.block ?_
  refine WC.loopI (α := Nat) (fun _ => [(1, .str [32, 10]), (45, .ptr b0 0)]) (fun pos => [(b0, .striter s pos)]) (fun pos => s.length - pos) (fun pos => pos ≤ s.length ∧ (s.take pos).any spB = false) 0 ?_ ?_ ?_ ?_
  · exact sub_cons rfl (sub_cons rfl (sub_nil _))
  · exact Ent.refl _ _
  · exact ⟨Nat.zero_le _, by simp⟩
  rintro pos ⟨hp, hany⟩
  refine WC.seq_k fun K19 hK20 => ?_
  by_cases hlt : pos < s.length
  · skip
    refine WC.region ?_
    refine wU (gOp (OpS.nextStr (s := s) (pos := pos) rfl rfl (by simp only [hget, ↓reduceIte]) (fun _ => ?_) (fun h => absurd hlt h)) rfl)
    have hd := dec_facts s pos hlt
    generalize Utf8.decode ⟨s.toArray⟩ pos = d at hd ⊢
    obtain ⟨c, w⟩ := d
    simp only [hset, ↓reduceIte] at hd ⊢
    refine wU (gE rfl ?_)
    refine wOps.done ?_
    refine hK20 _ _ _ ?_
    clear hK20 K19
    refine WC.seq_k fun K21 hK22 => ?_
    first | refine WC.cond (b := true) rfl (fun _ => ?_) (fun hh => by simp at hh) | refine WC.cond rfl (fun _ => ?_) (fun hh => by simp_all)
    refine WC.skip ?_
    refine hK22 _ _ _ ?_
    clear hK22 K21
    refine WC.block ?_
    refine WC.seq_k fun K23 hK24 => ?_
    refine WC.region ?_
    refine wU (gE rfl ?_)
    refine wU (gE rfl ?_)
    refine wU (gE rfl ?_)
    refine wU (gE rfl ?_)
    refine wOps.done ?_
    refine hK24 _ _ _ ?_
    clear hK24 K23
    refine WC.seq_k fun K25 hK26 => ?_
    refine WC.region ?_
    refine wU (gE rfl ?_)
    refine wU (gE rfl ?_)
    refine wU (gPure rfl isGo132 (idxRune_all c (by omega)) ?_)
    refine wU (gE rfl ?_)
    refine wOps.done ?_
    refine hK26 _ _ _ ?_
    clear hK26 K25
    refine WC.cond rfl (fun c27 => ?_) (fun c27 => ?_)
    · skip
      refine WC.seq_k fun K28 hK29 => ?_
      refine WC.region ?_
      refine wU (gE rfl ?_)
      refine wU (gE rfl ?_)
      refine wOps.done ?_
      refine hK29 _ _ _ ?_
      clear hK29 K28
      refine WC.ret ?_
      refine ⟨_, rfl, _, rfl, ?_⟩
      have hc0 : 0 ≤ idxR c := by simpa using c27
      rcases hd with ⟨h1, h2⟩ | ⟨h1, -⟩
      · simp only [Prod.mk.injEq] at h2
        have hb := idxR_byte s[pos] h1
        rw [← h2.1] at hb
        have hs : spB s[pos] = true := by rw [← hb]; simpa using hc0
        have ha : s.any spB = true := List.any_eq_true.2 ⟨s[pos], List.getElem_mem _, hs⟩
        rw [ha]; simp
      · exfalso; unfold idxR at hc0; rw [if_neg (by omega)] at hc0; omega
    · skip
      refine WC.skip ?_
      have hc0 : ¬ 0 ≤ idxR c := by simpa using c27
      rcases hd with ⟨h1, h2⟩ | ⟨h1, h2, h3, h4⟩
      · simp only [Prod.mk.injEq] at h2
        obtain ⟨rfl, rfl⟩ := h2
        have hb := idxR_byte s[pos] h1
        have hs : spB s[pos] = false := by rw [← hb]; simpa using hc0
        exact ⟨pos + 1, rfl, by omega, ⟨by omega, any_take hany fun k hk h5 h6 => by have e : k = pos := (by omega); subst e; exact hs⟩, Ent.sub (sub_cons rfl (sub_cons rfl (sub_nil _)))⟩
      · exact ⟨pos + w, rfl, by omega, ⟨h3, any_take hany fun k hk h5 h6 => spB_hi (h4 k hk h5 h6)⟩, Ent.sub (sub_cons rfl (sub_cons rfl (sub_nil _)))⟩
  · skip
    refine WC.region ?_
    refine wU (gOp (OpS.nextStr (s := s) (pos := pos) rfl rfl (by simp only [hget, ↓reduceIte]) (fun h => absurd h hlt) (fun _ => ?_)) rfl)
    refine wU (gE rfl ?_)
    refine wOps.done ?_
    refine hK20 _ _ _ ?_
    clear hK20 K19
    refine WC.seq_k fun K30 hK31 => ?_
    first | refine WC.cond (b := false) rfl (fun hh => by simp at hh) (fun _ => ?_) | refine WC.cond rfl (fun hh => by simp_all) (fun _ => ?_)
    refine WC.exit ?_
    refine hK16 _ _ _ ?_
    clear hK31 K30 hK16 K15
    refine WC.seq_k fun K32 hK33 => ?_
    refine WC.region ?_
    refine wU (gE rfl ?_)
    refine wOps.done ?_
    refine hK33 _ _ _ ?_
    clear hK33 K32
    refine WC.ret ?_
    exact ⟨_, rfl, -1, rfl, by rw [List.take_of_length_le (by omega)] at hany; rw [hany]; decide⟩
theorem idxAny_lg (s : By) (h8 : 8 < s.length) (hs : s.length < 4294967281) : PTri Tryz.prog 109 [.str s, .str [32, 10]] (.int .i64 (Lib.indexAny s [32, 10])) := by
  intro F w av ho hav
  rw [vrs_str2 F av hav]
  refine callsIn_of ((Tryz.strings_IndexAny_long (fun w => by rw [Tryz.zeroValue106]; rfl) ⟨s.toArray⟩ ⟨#[32, 10]⟩ w (by decide) (by simpa [ByteArray.size] using h8) (by simpa [ByteArray.size] using hs) (by decide) (fun j b hb => ?_)).mono ?_)
  · have := List.mem_of_getElem? hb
    simp at this
    rcases this with rfl | rfl <;> decide
  · rintro e w' ⟨rfl, rfl⟩
    have hor : ∀ (c : Array Value), OR F (.cells 106 [] c.size) (.cells c 106) := fun c => .cells 106 [] c (0, 0) (by simp) (fun i hi h => by simp at h) (fun i v h => by simp at h)
    have o1 := ho.push (hor (Lib.setCells [32, 10]))
    have o2 := o1.push (hor (Lib.setCells [32, 10]))
    exact ⟨_, _, [], F, rfl, ⟨rfl, rfl⟩, o2.sub (List.nil_sublist _), .int _ _, ((Trans.push F [] w (.cells 106 [] (Lib.setCells [32, 10]).size) _).trans (Trans.push F _ _ (.cells 106 [] (Lib.setCells [32, 10]).size) _)).trans (Trans.sub (List.nil_sublist _))⟩
theorem ca_short2 (s : By) (h8 : s.length ≤ 8) : CA s := by
  unfold CA
  refine PTri.any (Tri.of_wc Tryz.func76 rfl Tryz.results76 Tryz.ntmps76 (by simp) ?_)
  refine WC.seq_k fun K1 hK2 => ?_
  refine WC.region ?_
  refine wU (gE rfl ?_)
  refine wOps.done ?_
  refine hK2 _ _ _ ?_
  clear hK2 K1
  refine WC.seq_k fun K3 hK4 => ?_
  refine WC.region ?_
  refine wU (gE rfl ?_)
  refine wU (gE rfl ?_)
  refine wU (gCall (by rfl) (@CallS.mono _ Tryz.prog 109 _ _ _ _ (@CallS.of_tri _ Tryz.prog 109 _ _ _ isGo109 (idxAny_sh s h8)) ?_))
  rintro v h1 ⟨r, rfl, hr⟩
  refine wU (gE rfl ?_)
  refine wU (gE rfl ?_)
  refine wOps.done ?_
  refine hK4 _ _ _ ?_
  clear hK4 K3
  refine WC.ret ?_
  exact ⟨_, rfl, congrArg V.bool hr⟩
theorem ca_all (s : By) (hs : s.length < 4294967281) : CA s := by
  by_cases h : s.length ≤ 8
  · exact ca_short2 s h
  · exact ca_of s (idxAny_lg s (by omega) hs)
end Go.Proofs.YtfdmdcpopmcmcaaGreatDoor
end

section
namespace Go.Proofs.YtfdmdcpopmcmcaaGreatDoor
open Go.Fw
variable [Gl]
theorem isGo11 : isGo Tryz.prog 11 = true := by kernel_rfl
theorem isGo13 : isGo Tryz.prog 13 = true := by kernel_rfl
theorem isGo16 : isGo Tryz.prog 16 = true := by kernel_rfl
set_option maxRecDepth 20000
theorem cmpL_self : ∀ l : List Lb, cmpL l l = 0
  | [] => rfl
  | p :: l => by simp [cmpL, (cmpB_zero p.1 p.1).2 rfl, (cmpB_zero p.2 p.2).2 rfl, cmpL_self l]
theorem terms_len (s : By) : (termsL s).length ≤ s.length + 1 := by
  refine Nat.le_trans (Lib.compact_length_le _) ?_
  rw [srt_length]
  unfold rawTerms
  rw [List.length_map]
  exact wordsG_len _ _ _
theorem names_small {l : List Lb} (h : greatL l = false) : ∀ p ∈ l, p.1.length ≤ 4294967295 := fun p hp => by
  unfold greatL at h
  rw [Bool.or_eq_false_iff, List.any_eq_false] at h
  have := h.1 p hp
  unfold bigL at this
  simp only [Bool.or_eq_true, decide_eq_true_eq, not_or] at this
  omega
theorem law3_tri (hG : GInt) (s : By) (l : List Lb) (hs0 : s.length ≤ 1048576) (hl : l.length ≤ 1048576) : PTri Tryz.prog 3 [.str s, lsl l] (.bool true) := by
  have hgr := great_tri l (by omega)
  refine PTri.any (Tri.of_wc Tryz.func3 rfl Tryz.results3 Tryz.ntmps3 (by simp) ?_)
  refine WC.seq_k fun K1 hK2 => ?_
  refine WC.region ?_
  refine wU (gE rfl ?_)
  refine wOps.done ?_
  refine hK2 _ _ _ ?_
  clear hK2 K1
  refine WC.seq_k fun K3 hK4 => ?_
  refine WC.seq_k fun K5 hK6 => ?_
  refine WC.region ?_
  refine wU (gE rfl ?_)
  refine wU (gLen rfl rfl tisstr9 ?_)
  refine wU (gE rfl ?_)
  refine wU (gE rfl ?_)
  refine wG rfl rfl rfl rfl (by decide) (fun c7 => ?_) (fun c7 => ?_)
  · skip
    refine gE rfl ?_
    refine wY rfl (gPure rfl isGo8 hgr ?_)
    refine wU (gE rfl ?_)
    refine wOps.done ?_
    refine hK6 _ _ _ ?_
    clear hK6 K5
    refine WC.cond rfl (fun c8 => ?_) (fun c8 => ?_)
    · skip
      refine WC.seq_k fun K9 hK10 => ?_
      refine WC.region ?_
      refine wU (gPure rfl isGo9 (awake_tri hG) ?_)
      refine wU (gE rfl ?_)
      refine wOps.done ?_
      refine hK10 _ _ _ ?_
      clear hK10 K9
      refine WC.ret ?_
      exact ⟨_, rfl, rfl⟩
    · skip
      refine WC.skip ?_
      refine hK4 _ _ _ ?_
      clear hK4 K3
      refine WC.seq_k fun K11 hK12 => ?_
      have hs : s.length ≤ 1100 := by have := of_decide_eq_false c7; omega
      have hn := names_small (l := l) (by simpa using c8)
      have h10 := parse_tri hG s (by omega)
      have h11 := refParse_tri s (by omega)
      have h12 := fmt_tri l (fun h0 p hp => ca_all p.2 (by have := ((chkL_iff l).1 h0).2.1 p hp; omega)) (by omega)
      have h13 := refFmt_tri l (by omega) hn
      have h15 : PTri Tryz.prog 15 [.str s] (ssl (termsL s)) := terms_tri s (by omega)
      have h16 := terms14_tri s (by omega)
      have hpl : (parseL s).1.length ≤ 16 := ((chkL_iff _).1 (parseL_ok s).2).1
      have hs1 := same_tri (parseL s).1 (parseL s).1 (by omega)
      rw [cmpL_self] at hs1
      have htl := terms_len s
      have hs2 := sameS_tri (termsL s) (termsL s) (by omega)
      generalize parseL s = p at *
      obtain ⟨pl, e1⟩ := p
      generalize fmtL l = f at *
      obtain ⟨fs, e2⟩ := f
      generalize termsL s = tm at *
      simp only at h10 h11 h12 h13 hs1 hpl
      refine WC.region ?_
      refine wU (gE rfl ?_)
      refine wU (gPure rfl isGo10 h10 ?_)
      refine wU (gE rfl ?_)
      refine wU (gE rfl ?_)
      refine wU (gE rfl ?_)
      refine wU (gE rfl ?_)
      refine wU (gE rfl ?_)
      refine wOps.done ?_
      refine hK12 _ _ _ ?_
      clear hK12 K11
      refine WC.seq_k fun K13 hK14 => ?_
      refine WC.region ?_
      refine wU (gE rfl ?_)
      refine wU (gPure rfl isGo11 h11 ?_)
      refine wU (gE rfl ?_)
      refine wU (gE rfl ?_)
      refine wU (gE rfl ?_)
      refine wU (gE rfl ?_)
      refine wU (gE rfl ?_)
      refine wOps.done ?_
      refine hK14 _ _ _ ?_
      clear hK14 K13
      refine WC.seq_k fun K15 hK16 => ?_
      refine WC.region ?_
      refine wU (gE rfl ?_)
      refine wU (gPure rfl isGo12 h12 ?_)
      refine wU (gE rfl ?_)
      refine wU (gE rfl ?_)
      refine wU (gE rfl ?_)
      refine wU (gE rfl ?_)
      refine wU (gE rfl ?_)
      refine wOps.done ?_
      refine hK16 _ _ _ ?_
      clear hK16 K15
      refine WC.seq_k fun K17 hK18 => ?_
      refine WC.region ?_
      refine wU (gE rfl ?_)
      refine wU (gPure rfl isGo13 h13 ?_)
      refine wU (gE rfl ?_)
      refine wU (gE rfl ?_)
      refine wU (gE rfl ?_)
      refine wU (gE rfl ?_)
      refine wU (gE rfl ?_)
      refine wOps.done ?_
      refine hK18 _ _ _ ?_
      clear hK18 K17
      refine WC.seq_k fun K19 hK20 => ?_
      rw [show (tm == tm) = true by simp] at hs2
      refine WC.region ?_
      refine wU (gE rfl ?_)
      refine wU (gPure rfl isGo15 h15 ?_)
      refine wU (gE rfl ?_)
      refine wU (gPure rfl isGo16 h16 ?_)
      refine wU (gPure rfl isGo14 hs2 ?_)
      refine wU (gE rfl ?_)
      refine wY rfl (gE rfl ?_)
      refine wY rfl (gE rfl ?_)
      refine wY rfl (gPure rfl isGo17 hs1 ?_)
      refine wU (gE rfl ?_)
      refine wU (gE rfl ?_)
      refine wY rfl (gE rfl ?_)
      refine wY rfl (gE rfl ?_)
      refine wY rfl (gE (v := .bool true) (show some (V.bool (decide (e1 = e1))) = some (V.bool true) by simp) ?_)
      refine wU (gE rfl ?_)
      refine wU (gE rfl ?_)
      refine wY rfl (gE rfl ?_)
      refine wY rfl (gE rfl ?_)
      refine wY rfl (gE (v := .bool true) (show some (V.bool (fs == fs)) = some (V.bool true) by simp) ?_)
      refine wU (gE rfl ?_)
      refine wU (gE rfl ?_)
      refine wY rfl (gE rfl ?_)
      refine wY rfl (gE rfl ?_)
      refine wY rfl (gE (v := .bool true) (show some (V.bool (decide (e2 = e2))) = some (V.bool true) by simp) ?_)
      refine wU (gE rfl ?_)
      refine wU (gE rfl ?_)
      refine wY rfl (gPure rfl isGo9 (awake_tri hG) ?_)
      refine wU (gE rfl ?_)
      refine wU (gE rfl ?_)
      refine wOps.done ?_
      refine hK20 _ _ _ ?_
      clear hK20 K19
      refine WC.ret ?_
      exact ⟨_, rfl, rfl⟩
  · skip
    refine wN rfl ?_
    refine wU (gE rfl ?_)
    refine wOps.done ?_
    refine hK6 _ _ _ ?_
    clear hK6 K5
    first | refine WC.cond (b := true) rfl (fun _ => ?_) (fun hh => by simp at hh) | refine WC.cond rfl (fun _ => ?_) (fun hh => by simp_all)
    refine WC.seq_k fun K21 hK22 => ?_
    refine WC.region ?_
    refine wU (gPure rfl isGo9 (awake_tri hG) ?_)
    refine wU (gE rfl ?_)
    refine wOps.done ?_
    refine hK22 _ _ _ ?_
    clear hK22 K21
    refine WC.ret ?_
    exact ⟨_, rfl, rfl⟩
end Go.Proofs.YtfdmdcpopmcmcaaGreatDoor
end

section
namespace Go.Proofs.YtfdmdcpopmcmcaaGreatDoor
open Go.Deep Go.ChangeShapes Go.WideShapes Go.ChangeAt Go.RowKit Go.Fw Go.ChangeMaps
theorem vrs_three {F : Froz} {a b c : V} {x y z : Value} (h1 : VR F a x) (h2 : VR F b y) (h3 : VR F c z) : VRs F [a, b, c] #[x, y, z] := ⟨rfl, fun i v hv => by
  match i with
  | 0 => simp at hv; subst hv; simpa using h1
  | 1 => simp at hv; subst hv; simpa using h2
  | 2 => simp at hv; subst hv; simpa using h3
  | i + 3 => simp at hv⟩
theorem laidOut : laidOutB Tryz.prog = true := by kernel_rfl
theorem own : ownKnob Tryz.prog.godebug = none := by kernel_rfl
theorem gint_start {W : World} (h : W.ShapedOpen Tryz.prog) : @GInt (glOf W) := by
  obtain ⟨m, hm⟩ := Tryz.laysM219.s1_3 W h
  exact ⟨m, fcell_start hm rfl⟩
/-- A world for the witness: the settled one, the two tables holding what their initialisers lay. -/
noncomputable def laidWorld (os : Os) : World :=
  let w0 := World.holding Tryz.prog os ⟨#[], #[], []⟩
  let put (h : Array Obj) (g : Nat) (cs : Array Value) : Array Obj := h.modify g fun
    | .cells _ t frozen => .cells cs t frozen
    | o => o
  let h1 := put w0.heap 1 (Go.Pinned.utf8FirstZ.map fun (z : Nat) => Value.int .u8 (z : Int)).toArray
  let h2 := put h1 2 #[.int .u8 128, .int .u8 191, .int .u8 160, .int .u8 191, .int .u8 128, .int .u8 159, .int .u8 144, .int .u8 191, .int .u8 128, .int .u8 143, .int .u8 0, .int .u8 0, .int .u8 0, .int .u8 0, .int .u8 0, .int .u8 0, .int .u8 0, .int .u8 0, .int .u8 0, .int .u8 0, .int .u8 0, .int .u8 0, .int .u8 0, .int .u8 0, .int .u8 0, .int .u8 0, .int .u8 0, .int .u8 0, .int .u8 0, .int .u8 0, .int .u8 0, .int .u8 0]
  { w0 with heap := h2 }
theorem laid_met (os : Os) (args : Array Value) : laidMet Tryz.prog [("unicode/utf8.acceptRanges", Rows.laid_unicode_utf8_acceptRanges), ("unicode/utf8.first", Rows.laid_unicode_utf8_first)] ((laidWorld os).forCall (fun _ _ => 0) ⟨#[], args, []⟩).memory :=
  laidMet_of_run' 8 (by kernel_rfl) (by kernel_rfl)
/-! ### Reading the arguments -/
def strB : Value → By
  | .string s => s.data.toList
  | _ => []
theorem open_lbs {H : Type} {enc : TypeId × Value → H} {W : World} {base fuel : Nat} {sp : Nat → Bool} {held : Bool} {v : Value} {x : DataW H × List MemPlace} (h : DataW.trod enc Tryz.prog W base sp held fuel 22 [v] = some x) :
    ∃ l : List Lb, VR (fun b => W.heap[b]?) (lsl l) v ∧ l.length ≤ Rows.uptoBulk x.1 := by
  letI := glOf W
  rcases open_slice_pairs Tryz.underlying22 Tryz.underlying51 (by kernel_rfl) rfl rfl (by kernel_rfl) (by kernel_rfl) h with ⟨hcs, rfl⟩ | ⟨a, len, cap, m, n, V0, V1, D0, D1, P0, P1, hcs, hb, hl, hm, hmm, rfl, hx⟩
  · simp only [List.cons.injEq, and_true] at hcs
    subst hcs
    exact ⟨[], .fnil, by simp⟩
  · simp only [List.cons.injEq, and_true] at hcs
    subst hcs
    have hlm : len ≤ m := by rw [hmm]; split <;> omega
    have e0 : ∀ i, i < m → V0 i = .string ⟨(strB (V0 i)).toArray⟩ := fun i hi => by
      obtain ⟨s, hs, -⟩ := DataW.trod_string Tryz.underlying9 (hx i hi).2.2.1
      simp only [List.cons.injEq, and_true] at hs
      rw [hs]; simp [strB]
    have e1 : ∀ i, i < m → V1 i = .string ⟨(strB (V1 i)).toArray⟩ := fun i hi => by
      obtain ⟨s, hs, -⟩ := DataW.trod_string Tryz.underlying9 (hx i hi).2.2.2
      simp only [List.cons.injEq, and_true] at hs
      rw [hs]; simp [strB]
    let l : List Lb := (List.range len).map fun i => (strB (V0 i), strB (V1 i))
    have hll : l.length = len := by simp [l]
    have hli : ∀ k (hk : k < l.length), l[k] = (strB (V0 k), strB (V1 k)) := fun k hk => by simp [l]
    refine ⟨l, ?_, ?_⟩
    · have := VR.fslice (F := fun b => W.heap[b]?) (lcs l) len a cap (fun j => if j % 2 = 0 then V0 (j / 2) else V1 (j / 2)) hl (fun i hi => ?_) (fun i v hv => ?_)
      · unfold lsl; rw [hll]; exact this
      · rw [lcs_length, hll] at hi
        have hk : i / 2 < m := by omega
        show W.cell? (a.add i) = _
        by_cases hp : i % 2 = 0
        · rw [if_pos hp]
          have := (hx (i / 2) hk).1
          rwa [show i / 2 * 2 = i by omega] at this
        · rw [if_neg hp]
          have := (hx (i / 2) hk).2.1
          rwa [show i / 2 * 2 + 1 = i by omega] at this
      · have hi := (List.getElem?_eq_some_iff.1 hv).1
        rw [lcs_length, hll] at hi
        have hk : i / 2 < l.length := by omega
        have hkm : i / 2 < m := by omega
        have ha := lcs_at l (i / 2) hk
        rw [hli] at ha
        by_cases hp : i % 2 = 0
        · rw [if_pos hp]
          have h1 := ha.1
          rw [show i / 2 * 2 = i by omega, hv] at h1
          simp only [Option.some.injEq] at h1
          rw [h1, e0 _ hkm]
          exact .str _
        · rw [if_neg hp]
          have h1 := ha.2
          rw [show i / 2 * 2 + 1 = i by omega, hv] at h1
          simp only [Option.some.injEq] at h1
          rw [h1, e1 _ hkm]
          exact .str _
    · have h1 : ∀ ls : List (DataW H), ls.length ≤ Rows.uptoBulkAll ls := by
        intro ls
        induction ls with
        | nil => simp [Rows.uptoBulkAll]
        | cons d r ih =>
          have : 1 ≤ Rows.uptoBulk d := by cases d with
            | lit y => cases y <;> simp [Rows.uptoBulk]
            | _ => simp [Rows.uptoBulk]
          simp only [Rows.uptoBulkAll, List.length_cons]; omega
      have h2 := h1 ((List.range len).map fun i => DataW.agg [D0 i, D1 i])
      simp only [List.length_map, List.length_range] at h2
      simp only [Rows.uptoBulk, hll]
      omega
theorem bulk_part {H : Type} {d : DataW H} : ∀ {l : List (DataW H)}, d ∈ l → Rows.uptoBulk d ≤ Rows.uptoBulkAll l
  | x :: r, h => by
    simp only [Rows.uptoBulkAll]
    rcases List.mem_cons.1 h with rfl | h
    · omega
    · have := bulk_part h; omega
theorem cells36 : Tryz.prog.cellsOf 36 = 5 := by kernel_rfl
theorem cells9 : Tryz.prog.cellsOf 9 = 1 := by kernel_rfl
theorem cells22 : Tryz.prog.cellsOf 22 = 1 := by kernel_rfl
theorem cells3 : Tryz.prog.cellsOf 3 = 1 := by kernel_rfl
set_option maxRecDepth 100000 in
theorem open_entry {H : Type} {enc : TypeId × Value → H} {W : World} {base b0 : Nat} {r : Reach} {sp : Nat → Bool} {held : Bool} {v : Value} {d : DataW H} {p : List MemPlace}
    (hval : Value.okWide Tryz.prog W r b0 36 v) (hd : DataW.Trod enc Tryz.prog W base sp held 36 v d p) (hb : Rows.uptoBulk d ≤ 1048576) :
    ∃ e : En, VR (fun b => W.heap[b]?) (env e) v ∧ fitE e := by
  letI := glOf W
  obtain ⟨cs, rfl, hsz⟩ := okWide_struct Tryz.underlying36 hval
  rw [cells36] at hsz
  obtain ⟨L⟩ := cs
  match L, hsz with
  | [c0, c1, c2, c3, c4], _ =>
    obtain ⟨fuel, hf⟩ := hd
    obtain ⟨xs, n, _, hxy, _, hlen, hfl⟩ := DataW.trod_struct Tryz.underlying36 hf
    match xs, hlen with
    | [y0, y1, y2, y3, y4], _ =>
      have g0 := hfl 0 _ rfl
      have g1 := hfl 1 _ rfl
      have g2 := hfl 2 _ rfl
      have g3 := hfl 3 _ rfl
      have g4 := hfl 4 _ rfl
      simp only [Value.cells, cells3, cells9, cells22, List.drop_zero, List.drop_succ_cons, List.take_succ_cons, List.take_zero, List.getElem?_cons_zero, List.getElem?_cons_succ] at g0 g1 g2 g3 g4
      have hd1 := congrArg Prod.fst hxy
      simp only [List.map_cons, List.map_nil] at hd1
      subst hd1
      obtain ⟨t0, h0, e0, -⟩ := DataW.trod_int Tryz.underlying3 g0
      obtain ⟨l1, h1, b1⟩ := open_lbs g1
      obtain ⟨s2, h2, e2, -⟩ := DataW.trod_string Tryz.underlying9 g2
      obtain ⟨l3, h3, b3⟩ := open_lbs g3
      obtain ⟨t4, h4, e4, -⟩ := DataW.trod_int Tryz.underlying3 g4
      obtain rfl := (List.cons.inj h0).1
      obtain rfl := (List.cons.inj h2).1
      obtain rfl := (List.cons.inj h4).1
      have bb : Rows.uptoBulkAll [y0.1, y1.1, y2.1, y3.1, y4.1] + 1 ≤ 1048576 := by simpa [Rows.uptoBulk] using hb
      have m1 := bulk_part (d := y1.1) (l := [y0.1, y1.1, y2.1, y3.1, y4.1]) (by simp)
      have m2 := bulk_part (d := y2.1) (l := [y0.1, y1.1, y2.1, y3.1, y4.1]) (by simp)
      have m3 := bulk_part (d := y3.1) (l := [y0.1, y1.1, y2.1, y3.1, y4.1]) (by simp)
      have b2 : s2.data.toList.length + 1 ≤ Rows.uptoBulk y2.1 := by rw [e2]; simp [Rows.uptoBulk]
      refine ⟨(t0, l1, s2.data.toList, l3, t4), ?_, by simp only; omega, by simp only; omega, by simp only; omega⟩
      refine .agg _ _ rfl fun i v hv => ?_
      match i with
      | 0 => simp at hv; subst hv; exact .int _ _
      | 1 => simp at hv; subst hv; exact h1
      | 2 => simp at hv; subst hv; exact .str _
      | 3 => simp at hv; subst hv; exact h3
      | 4 => simp at hv; subst hv; exact .int _ _
      | i + 5 => simp at hv
end Go.Proofs.YtfdmdcpopmcmcaaGreatDoor
end

section
namespace Go.Proofs.YtfdmdcpopmcmcaaGreatDoor
open Go.Deep Go.ChangeShapes Go.WideShapes Go.ChangeAt Go.RowKit Go.Fw Go.ChangeMaps
theorem open_lbs2 {H : Type} {enc : TypeId × Value → H} {W : World} {base fuel : Nat} {sp : Nat → Bool} {held : Bool} {v : Value} {x : DataW H × List MemPlace} (h : DataW.trod enc Tryz.prog W base sp held fuel 22 [v] = some x) :
    ∃ l : List Lb, VR (fun b => W.heap[b]?) (lsl l) v ∧ l.length ≤ Rows.uptoBulk x.1 ∧ ∀ p ∈ l, p.1.length ≤ Rows.uptoBulk x.1 ∧ p.2.length ≤ Rows.uptoBulk x.1 := by
  letI := glOf W
  rcases open_slice_pairs Tryz.underlying22 Tryz.underlying51 (by kernel_rfl) rfl rfl (by kernel_rfl) (by kernel_rfl) h with ⟨hcs, rfl⟩ | ⟨a, len, cap, m, n, V0, V1, D0, D1, P0, P1, hcs, hb, hl, hm, hmm, rfl, hx⟩
  · simp only [List.cons.injEq, and_true] at hcs
    subst hcs
    exact ⟨[], .fnil, by simp, by simp⟩
  · simp only [List.cons.injEq, and_true] at hcs
    subst hcs
    have hlm : len ≤ m := by rw [hmm]; split <;> omega
    have d0 : ∀ i, i < m → Rows.uptoBulk (D0 i) = (strB (V0 i)).length + 1 ∧ Rows.uptoBulk (D1 i) = (strB (V1 i)).length + 1 := fun i hi => by
      obtain ⟨s, hs, e, -⟩ := DataW.trod_string Tryz.underlying9 (hx i hi).2.2.1
      obtain ⟨s', hs', e', -⟩ := DataW.trod_string Tryz.underlying9 (hx i hi).2.2.2
      have q := (List.cons.inj hs).1
      have q' := (List.cons.inj hs').1
      have r := congrArg Prod.fst e
      have r' := congrArg Prod.fst e'
      simp only at r r'
      rw [q, q', r, r']
      simp [strB, Rows.uptoBulk]
    have e0 : ∀ i, i < m → V0 i = .string ⟨(strB (V0 i)).toArray⟩ := fun i hi => by
      obtain ⟨s, hs, -⟩ := DataW.trod_string Tryz.underlying9 (hx i hi).2.2.1
      simp only [List.cons.injEq, and_true] at hs
      rw [hs]; simp [strB]
    have e1 : ∀ i, i < m → V1 i = .string ⟨(strB (V1 i)).toArray⟩ := fun i hi => by
      obtain ⟨s, hs, -⟩ := DataW.trod_string Tryz.underlying9 (hx i hi).2.2.2
      simp only [List.cons.injEq, and_true] at hs
      rw [hs]; simp [strB]
    let l : List Lb := (List.range len).map fun i => (strB (V0 i), strB (V1 i))
    have hll : l.length = len := by simp [l]
    have hli : ∀ k (hk : k < l.length), l[k] = (strB (V0 k), strB (V1 k)) := fun k hk => by simp [l]
    refine ⟨l, ?_, ?_, ?_⟩
    · have := VR.fslice (F := fun b => W.heap[b]?) (lcs l) len a cap (fun j => if j % 2 = 0 then V0 (j / 2) else V1 (j / 2)) hl (fun i hi => ?_) (fun i v hv => ?_)
      · unfold lsl; rw [hll]; exact this
      · rw [lcs_length, hll] at hi
        have hk : i / 2 < m := by omega
        show W.cell? (a.add i) = _
        by_cases hp : i % 2 = 0
        · rw [if_pos hp]
          have := (hx (i / 2) hk).1
          rwa [show i / 2 * 2 = i by omega] at this
        · rw [if_neg hp]
          have := (hx (i / 2) hk).2.1
          rwa [show i / 2 * 2 + 1 = i by omega] at this
      · have hi := (List.getElem?_eq_some_iff.1 hv).1
        rw [lcs_length, hll] at hi
        have hk : i / 2 < l.length := by omega
        have hkm : i / 2 < m := by omega
        have ha := lcs_at l (i / 2) hk
        rw [hli] at ha
        by_cases hp : i % 2 = 0
        · rw [if_pos hp]
          have h1 := ha.1
          rw [show i / 2 * 2 = i by omega, hv] at h1
          simp only [Option.some.injEq] at h1
          rw [h1, e0 _ hkm]
          exact .str _
        · rw [if_neg hp]
          have h1 := ha.2
          rw [show i / 2 * 2 + 1 = i by omega, hv] at h1
          simp only [Option.some.injEq] at h1
          rw [h1, e1 _ hkm]
          exact .str _
    · have h1 : ∀ ls : List (DataW H), ls.length ≤ Rows.uptoBulkAll ls := by
        intro ls
        induction ls with
        | nil => simp [Rows.uptoBulkAll]
        | cons d r ih =>
          have : 1 ≤ Rows.uptoBulk d := by cases d with
            | lit y => cases y <;> simp [Rows.uptoBulk]
            | _ => simp [Rows.uptoBulk]
          simp only [Rows.uptoBulkAll, List.length_cons]; omega
      have h2 := h1 ((List.range len).map fun i => DataW.agg [D0 i, D1 i])
      simp only [List.length_map, List.length_range] at h2
      simp only [Rows.uptoBulk, hll]
      omega
    · intro p hp
      obtain ⟨i, hi, rfl⟩ := List.mem_map.1 hp
      have hi := List.mem_range.1 hi
      have hd := d0 i (by omega)
      have hm : DataW.agg [D0 i, D1 i] ∈ (List.range len).map fun i => DataW.agg [D0 i, D1 i] := List.mem_map.2 ⟨i, List.mem_range.2 hi, rfl⟩
      have hb1 := bulk_part hm
      have hb2 : Rows.uptoBulk (DataW.agg [D0 i, D1 i]) = Rows.uptoBulk (D0 i) + (Rows.uptoBulk (D1 i) + 0) + 1 := by simp only [Rows.uptoBulk, Rows.uptoBulkAll]
      have hb3 : ∀ (u : List (DataW H)) w, Rows.uptoBulk (DataW.slice u w) = Rows.uptoBulkAll u + Rows.uptoBulkAll w + 1 := fun u w => by simp only [Rows.uptoBulk]
      simp only [hb3]
      omega
set_option maxRecDepth 100000 in
theorem open_entry2 {H : Type} {enc : TypeId × Value → H} {W : World} {base b0 : Nat} {r : Reach} {sp : Nat → Bool} {held : Bool} {v : Value} {d : DataW H} {p : List MemPlace}
    (hval : Value.okWide Tryz.prog W r b0 36 v) (hd : DataW.Trod enc Tryz.prog W base sp held 36 v d p) (hb : Rows.uptoBulk d ≤ 1048576) :
    ∃ e : En, VR (fun b => W.heap[b]?) (env e) v ∧ fitE e ∧ fitN e := by
  letI := glOf W
  obtain ⟨cs, rfl, hsz⟩ := okWide_struct Tryz.underlying36 hval
  rw [cells36] at hsz
  obtain ⟨L⟩ := cs
  match L, hsz with
  | [c0, c1, c2, c3, c4], _ =>
    obtain ⟨fuel, hf⟩ := hd
    obtain ⟨xs, n, _, hxy, _, hlen, hfl⟩ := DataW.trod_struct Tryz.underlying36 hf
    match xs, hlen with
    | [y0, y1, y2, y3, y4], _ =>
      have g0 := hfl 0 _ rfl
      have g1 := hfl 1 _ rfl
      have g2 := hfl 2 _ rfl
      have g3 := hfl 3 _ rfl
      have g4 := hfl 4 _ rfl
      simp only [Value.cells, cells3, cells9, cells22, List.drop_zero, List.drop_succ_cons, List.take_succ_cons, List.take_zero, List.getElem?_cons_zero, List.getElem?_cons_succ] at g0 g1 g2 g3 g4
      have hd1 := congrArg Prod.fst hxy
      simp only [List.map_cons, List.map_nil] at hd1
      subst hd1
      obtain ⟨t0, h0, e0, -⟩ := DataW.trod_int Tryz.underlying3 g0
      obtain ⟨l1, h1, b1, n1⟩ := open_lbs2 g1
      obtain ⟨s2, h2, e2, -⟩ := DataW.trod_string Tryz.underlying9 g2
      obtain ⟨l3, h3, b3, n3⟩ := open_lbs2 g3
      obtain ⟨t4, h4, e4, -⟩ := DataW.trod_int Tryz.underlying3 g4
      obtain rfl := (List.cons.inj h0).1
      obtain rfl := (List.cons.inj h2).1
      obtain rfl := (List.cons.inj h4).1
      have bb : Rows.uptoBulkAll [y0.1, y1.1, y2.1, y3.1, y4.1] + 1 ≤ 1048576 := by simpa [Rows.uptoBulk] using hb
      have m1 := bulk_part (d := y1.1) (l := [y0.1, y1.1, y2.1, y3.1, y4.1]) (by simp)
      have m2 := bulk_part (d := y2.1) (l := [y0.1, y1.1, y2.1, y3.1, y4.1]) (by simp)
      have m3 := bulk_part (d := y3.1) (l := [y0.1, y1.1, y2.1, y3.1, y4.1]) (by simp)
      have b2 : s2.data.toList.length + 1 ≤ Rows.uptoBulk y2.1 := by rw [e2]; simp [Rows.uptoBulk]
      refine ⟨(t0, l1, s2.data.toList, l3, t4), ?_, ⟨by simp only; omega, by simp only; omega, by simp only; omega⟩, fun p hp => by have := (n1 p hp).1; omega, fun p hp => by have := (n3 p hp).1; omega⟩
      refine .agg _ _ rfl fun i v hv => ?_
      match i with
      | 0 => simp at hv; subst hv; exact .int _ _
      | 1 => simp at hv; subst hv; exact h1
      | 2 => simp at hv; subst hv; exact .str _
      | 3 => simp at hv; subst hv; exact h3
      | 4 => simp at hv; subst hv; exact .int _ _
      | i + 5 => simp at hv
end Go.Proofs.YtfdmdcpopmcmcaaGreatDoor
end

section
namespace Go.Proofs.YtfdmdcpopmcmcaaGreatDoor
open Go.Deep Go.ChangeShapes Go.WideShapes Go.ChangeAt Go.RowKit Go.Fw Go.ChangeMaps
set_option maxRecDepth 100000 in
theorem open_labels {H : Type} {enc : TypeId × Value → H} {W : World} {base b0 : Nat} {r : Reach} {sp : Nat → Bool} {held : Bool} {v : Value} {d : DataW H} {p : List MemPlace}
    (hval : Value.okWide Tryz.prog W r b0 22 v) (hd : DataW.Trod enc Tryz.prog W base sp held 22 v d p) (hb : Rows.uptoBulk d ≤ 1048576) :
    ∃ l : List Lb, VR (fun b => W.heap[b]?) (lsl l) v ∧ l.length ≤ 1048576 := by
  obtain ⟨a, len, cap, rfl⟩ := okWide_slice Tryz.underlying22 hval
  obtain ⟨fuel, hf⟩ := hd
  obtain ⟨l, h1, h2, -⟩ := open_lbs2 (x := (d, p)) hf
  simp only at h2
  exact ⟨l, h1, by omega⟩
end Go.Proofs.YtfdmdcpopmcmcaaGreatDoor
end
