/- A part of the proof: Y7, Y8, PFields, PRef, Y9, Y10, PIns -/
import Derived.Test.YtfdmdcpopmcmcaaGreatDoorPartIB
set_option linter.all false
set_option linter.unusedSectionVars false
set_option linter.unusedVariables false
set_option linter.unusedSimpArgs false
section
namespace Go.Proofs.YtfdmdcpopmcmcaaGreatDoor
open Go.Fw
variable [Gl]
theorem isGo107 : isGo Tryz.prog 107 = true := by kernel_rfl
theorem isGo74 : isGo Tryz.prog 74 = true := by kernel_rfl
set_option maxRecDepth 20000
/-! ### The first = of a word, as the reference finds it -/
def eqG : By → By → Int
  | _, [] => -1
  | pre, c :: r => if c = 32 then -1 else if c = 61 then (if isNm pre = true then (pre.length : Int) else -1) else eqG (pre ++ [c]) r
theorem eqG_at {s : By} {i : Nat} (h : i < s.length) : eqG (s.take i) (s.drop i) = if s[i] = 32 then -1 else if s[i] = 61 then (if isNm (s.take i) = true then (i : Int) else -1) else eqG (s.take (i + 1)) (s.drop (i + 1)) := by
  rw [List.drop_eq_getElem_cons h, List.take_succ_eq_append_getElem h]
  simp only [eqG, List.length_take, Nat.min_eq_left (Nat.le_of_lt h)]
theorem u8_61 {c : UInt8} : ((c.toNat : Int) = 61) ↔ c = 61 := u8_eq c 61 (by decide)
theorem b32 {c : UInt8} : ((c.toNat : Int) == 32) = (c == 32) := by rw [Bool.eq_iff_iff, beq_iff_eq, beq_iff_eq]; exact u8_32
theorem equals_tri (s : By) (hs : s.length ≤ 4294967295) : PTri Tryz.prog 37 [.str s] (.int .i64 (eqG [] s)) := by
  refine PTri.any (Tri.of_wc Tryz.func37 rfl Tryz.results37 Tryz.ntmps37 (by simp) ?_)
  refine WC.seq_k fun K1 hK2 => ?_
  refine WC.region ?_
  refine wU (gE rfl ?_)
  refine wOps.done ?_
  refine hK2 _ _ _ ?_
  clear hK2 K1
  refine WC.seq_k fun K3 hK4 => ?_
  refine WC.seq_k fun K5 hK6 => ?_
  refine WC.region ?_
  refine wU (gE rfl ?_)
  refine wOps.done ?_
  refine hK6 _ _ _ ?_
  clear hK6 K5
  refine WC.block ?_
  refine WC.loopI (fun i : Nat => [(0, .str s), (3, .int .i64 i)]) (fun _ => []) (fun i => s.length - i) (fun i => i ≤ s.length ∧ eqG [] s = eqG (s.take i) (s.drop i)) 0 ?_ ?_ ?_ ?_
  · exact sub_cons rfl (sub_cons rfl (sub_nil _))
  · exact Ent.refl _ _
  · exact ⟨Nat.zero_le _, by simp⟩
  rintro i ⟨hil, hc⟩
  refine WC.seq_k fun K7 hK8 => ?_
  refine WC.seq_k fun K9 hK10 => ?_
  refine WC.region ?_
  refine wU (gE rfl ?_)
  refine wU (gE rfl ?_)
  refine wU (gLen rfl rfl tisstr9 ?_)
  refine wU (gE rfl ?_)
  refine wU (gE rfl ?_)
  refine wG rfl rfl rfl rfl (by decide) (fun c11 => ?_) (fun c11 => ?_)
  · skip
    refine gE rfl ?_
    refine wY rfl (gE rfl ?_)
    have hi : i < s.length := by simpa using c11
    refine wY rfl (gIdxStr tisstr9 rfl rfl (by omega) (str_at hi) ?_)
    refine wY rfl (gE rfl ?_)
    refine wU (gE rfl ?_)
    refine wOps.done ?_
    refine hK10 _ _ _ ?_
    clear hK10 K9
    refine WC.cond rfl (fun c12 => ?_) (fun c12 => ?_)
    · skip
      refine WC.skip ?_
      refine hK8 _ _ _ ?_
      clear hK8 K7
      refine WC.seq_k fun K13 hK14 => ?_
      refine WC.block ?_
      refine WC.seq_k fun K15 hK16 => ?_
      refine WC.seq_k fun K17 hK18 => ?_
      refine WC.region ?_
      refine wU (gE rfl ?_)
      refine wU (gE rfl ?_)
      refine wU (gIdxStr tisstr9 rfl rfl (by omega) (str_at hi) ?_)
      refine wU (gE rfl ?_)
      refine wU (gE rfl ?_)
      refine wG rfl rfl rfl rfl (by decide) (fun c19 => ?_) (fun c19 => ?_)
      · skip
        refine gE rfl ?_
        refine wY rfl (gE rfl ?_)
        refine wY rfl (gSliceStr tisstr9 rfl rfl rfl (by simp) (by simp; omega) ?_)
        simp only [Option.getD_none, Option.getD_some, List.drop_zero, Nat.sub_zero, Int.toNat_natCast]
        refine wY rfl (gPure rfl isGo73 (name_tri _ (by simp; omega)) ?_)
        refine wU (gE rfl ?_)
        refine wOps.done ?_
        refine hK18 _ _ _ ?_
        clear hK18 K17
        refine WC.cond rfl (fun c20 => ?_) (fun c20 => ?_)
        · skip
          refine WC.seq_k fun K21 hK22 => ?_
          skip
          refine WC.region ?_
          refine wU (gE rfl ?_)
          refine wU (gE rfl ?_)
          refine wOps.done ?_
          refine hK22 _ _ _ ?_
          clear hK22 K21
          refine WC.ret ?_
          have h32 : s[i] ≠ 32 := by simpa [u8_32] using c12
          have h61 : s[i] = 61 := by simpa [u8_61] using c19
          exact ⟨_, rfl, congrArg (V.int .i64) (by rw [hc, eqG_at hi, if_neg h32, if_pos h61, if_pos (by simpa using c20)])⟩
        · skip
          refine WC.skip ?_
          refine hK16 _ _ _ ?_
          clear hK16 K15
          refine WC.seq_k fun K23 hK24 => ?_
          refine WC.region ?_
          refine wU (gE rfl ?_)
          refine wU (gE rfl ?_)
          refine wU (gIdxStr tisstr9 rfl rfl (by omega) (str_at hi) ?_)
          refine wU (gE rfl ?_)
          refine wOps.done ?_
          refine hK24 _ _ _ ?_
          clear hK24 K23
          first | refine WC.cond (b := true) rfl (fun _ => ?_) (fun hh => by simp at hh) | refine WC.cond rfl (fun _ => ?_) (fun hh => by simp_all)
          refine WC.seq_k fun K25 hK26 => ?_
          refine WC.region ?_
          refine wU (gE rfl ?_)
          refine wOps.done ?_
          refine hK26 _ _ _ ?_
          clear hK26 K25
          refine WC.ret ?_
          have h32 : s[i] ≠ 32 := by simpa [u8_32] using c12
          have h61 : s[i] = 61 := by simpa [u8_61] using c19
          exact ⟨_, rfl, congrArg (V.int .i64) (by rw [hc, eqG_at hi, if_neg h32, if_pos h61, if_neg (by simpa using c20)])⟩
      · skip
        refine wN rfl ?_
        refine wN rfl ?_
        refine wN rfl ?_
        refine wU (gE rfl ?_)
        refine wOps.done ?_
        refine hK18 _ _ _ ?_
        clear hK18 K17
        first | refine WC.cond (b := false) rfl (fun hh => by simp at hh) (fun _ => ?_) | refine WC.cond rfl (fun hh => by simp_all) (fun _ => ?_)
        refine WC.skip ?_
        refine hK16 _ _ _ ?_
        clear hK16 K15
        refine WC.seq_k fun K27 hK28 => ?_
        refine WC.region ?_
        refine wU (gE rfl ?_)
        refine wU (gE rfl ?_)
        refine wU (gIdxStr tisstr9 rfl rfl (by omega) (str_at hi) ?_)
        refine wU (gE rfl ?_)
        refine wOps.done ?_
        refine hK28 _ _ _ ?_
        clear hK28 K27
        first | refine WC.cond (b := false) rfl (fun hh => by simp at hh) (fun _ => ?_) | refine WC.cond rfl (fun hh => by simp_all) (fun _ => ?_)
        refine WC.skip ?_
        refine hK14 _ _ _ ?_
        clear hK14 K13
        refine WC.region ?_
        refine wU (gE rfl ?_)
        refine wU (gE rfl ?_)
        refine wU (gE rfl ?_)
        refine wOps.done ?_
        have h32 : s[i] ≠ 32 := by simpa [u8_32] using c12
        have h61 : s[i] ≠ 61 := by simpa [u8_61] using c19
        exact ⟨i + 1, rfl, by omega, ⟨by omega, by rw [hc, eqG_at hi, if_neg h32, if_neg h61]⟩, Ent.sub (sub_cons rfl (sub_cons (int_fit (by omega) (by omega) (by omega)) (sub_nil _)))⟩
    · skip
      refine WC.exit ?_
      refine hK4 _ _ _ ?_
      clear hK8 K7 hK4 K3
      refine WC.seq_k fun K29 hK30 => ?_
      skip
      refine WC.region ?_
      refine wU (gE rfl ?_)
      refine wOps.done ?_
      refine hK30 _ _ _ ?_
      clear hK30 K29
      refine WC.ret ?_
      have h32 : s[i] = 32 := by simpa [u8_32] using c12
      exact ⟨_, rfl, congrArg (V.int .i64) (by rw [hc, eqG_at hi, if_pos h32])⟩
  · skip
    refine wN rfl ?_
    refine wN rfl ?_
    refine wN rfl ?_
    refine wU (gE rfl ?_)
    refine wOps.done ?_
    refine hK10 _ _ _ ?_
    clear hK10 K9
    first | refine WC.cond (b := false) rfl (fun hh => by simp at hh) (fun _ => ?_) | refine WC.cond rfl (fun hh => by simp_all) (fun _ => ?_)
    refine WC.exit ?_
    refine hK4 _ _ _ ?_
    clear hK8 K7 hK4 K3
    refine WC.seq_k fun K31 hK32 => ?_
    skip
    refine WC.region ?_
    refine wU (gE rfl ?_)
    refine wOps.done ?_
    refine hK32 _ _ _ ?_
    clear hK32 K31
    refine WC.ret ?_
    exact ⟨_, rfl, congrArg (V.int .i64) (by rw [hc, List.drop_of_length_le (by have := of_decide_eq_false c11; omega)]; rfl)⟩
theorem plain_tri (s : By) (hs : s.length ≤ 4294967295) : PTri Tryz.prog 38 [.str s] (.int .i64 (s.takeWhile (· != 32)).length) := by
  refine PTri.any (Tri.of_wc Tryz.func38 rfl Tryz.results38 Tryz.ntmps38 (by simp) ?_)
  refine WC.seq_k fun K1 hK2 => ?_
  refine WC.region ?_
  refine wU (gE rfl ?_)
  refine wOps.done ?_
  refine hK2 _ _ _ ?_
  clear hK2 K1
  refine WC.seq_k fun K3 hK4 => ?_
  refine WC.region ?_
  refine wU (gE rfl ?_)
  refine wOps.done ?_
  refine hK4 _ _ _ ?_
  clear hK4 K3
  refine WC.seq_k fun K5 hK6 => ?_
  refine WC.block ?_
  refine WC.loopI (fun i : Nat => [(0, .str s), (3, .int .i64 i)]) (fun _ => []) (fun i => s.length - i) (fun i => i ≤ s.length ∧ i + ((s.drop i).takeWhile (· != 32)).length = (s.takeWhile (· != 32)).length) 0 ?_ ?_ ?_ ?_
  · exact sub_cons rfl (sub_cons rfl (sub_nil _))
  · exact Ent.refl _ _
  · exact ⟨Nat.zero_le _, by simp⟩
  rintro i ⟨hil, hc⟩
  refine WC.seq_k fun K7 hK8 => ?_
  refine WC.seq_k fun K9 hK10 => ?_
  refine WC.region ?_
  refine wU (gE rfl ?_)
  refine wU (gE rfl ?_)
  refine wU (gLen rfl rfl tisstr9 ?_)
  refine wU (gE rfl ?_)
  refine wU (gE rfl ?_)
  refine wG rfl rfl rfl rfl (by decide) (fun c11 => ?_) (fun c11 => ?_)
  · skip
    refine gE rfl ?_
    refine wY rfl (gE rfl ?_)
    have hi : i < s.length := by simpa using c11
    refine wY rfl (gIdxStr tisstr9 rfl rfl (by omega) (str_at hi) ?_)
    refine wY rfl (gE rfl ?_)
    refine wU (gE rfl ?_)
    refine wOps.done ?_
    refine hK10 _ _ _ ?_
    clear hK10 K9
    refine WC.cond rfl (fun c12 => ?_) (fun c12 => ?_)
    · skip
      refine WC.skip ?_
      refine hK8 _ _ _ ?_
      clear hK8 K7
      refine WC.block ?_
      refine WC.region ?_
      refine wU (gE rfl ?_)
      refine wU (gE rfl ?_)
      refine wU (gE rfl ?_)
      refine wOps.done ?_
      have h32 : s[i] ≠ 32 := by simpa [u8_32] using c12
      have e : (s.drop i).takeWhile (· != 32) = s[i] :: (s.drop (i + 1)).takeWhile (· != 32) := by rw [List.drop_eq_getElem_cons hi, List.takeWhile_cons]; simp [h32]
      rw [e, List.length_cons] at hc
      exact ⟨i + 1, rfl, by omega, ⟨by omega, by omega⟩, Ent.sub (sub_cons rfl (sub_cons (int_fit (by omega) (by omega) (by omega)) (sub_nil _)))⟩
    · skip
      refine WC.exit ?_
      refine hK6 _ _ _ ?_
      clear hK8 K7 hK6 K5
      refine WC.seq_k fun K13 hK14 => ?_
      refine WC.region ?_
      refine wU (gE rfl ?_)
      refine wU (gE rfl ?_)
      refine wOps.done ?_
      refine hK14 _ _ _ ?_
      clear hK14 K13
      refine WC.ret ?_
      have h32 : s[i] = 32 := by simpa [u8_32] using c12
      exact ⟨_, rfl, congrArg (V.int .i64) (by rw [← hc, List.drop_eq_getElem_cons hi]; simp [h32])⟩
  · skip
    refine wN rfl ?_
    refine wN rfl ?_
    refine wN rfl ?_
    refine wU (gE rfl ?_)
    refine wOps.done ?_
    refine hK10 _ _ _ ?_
    clear hK10 K9
    first | refine WC.cond (b := false) rfl (fun hh => by simp at hh) (fun _ => ?_) | refine WC.cond rfl (fun hh => by simp_all) (fun _ => ?_)
    refine WC.exit ?_
    refine hK6 _ _ _ ?_
    clear hK8 K7 hK6 K5
    refine WC.seq_k fun K15 hK16 => ?_
    refine WC.region ?_
    refine wU (gE rfl ?_)
    refine wU (gE rfl ?_)
    refine wOps.done ?_
    refine hK16 _ _ _ ?_
    clear hK16 K15
    refine WC.ret ?_
    exact ⟨_, rfl, congrArg (V.int .i64) (by rw [← hc, List.drop_of_length_le (by have := of_decide_eq_false c11; omega)]; simp)⟩
/-- What the reference reads behind a mark. -/
def quoG (s : By) : Bool := (unq s [] 0).2.2 && (decide ((unq s [] 0).2.1 = s.length) || s[(unq s [] 0).2.1]? == some 32)
theorem quoted_tri (s : By) (hs : s.length ≤ 4294967295) : Tri Tryz.prog 39 [.str s] [] fun v h' => ∃ x n, v = .tup [.str x, .int .i64 (n : Nat), .bool (quoG s)] ∧ (quoG s = true → x = (unq s [] 0).1 ∧ n = (unq s [] 0).2.1) := by
  have e0 : unq s [] 0 = unqAt s [] 0 := by unfold unqAt; simp
  unfold quoG
  rw [e0]
  refine Tri.of_wc Tryz.func39 rfl Tryz.results39 Tryz.ntmps39 (by simp) ?_
  refine WC.seq_k fun K1 hK2 => ?_
  refine WC.region ?_
  refine wU (gE rfl ?_)
  refine wU (gE rfl ?_)
  refine wU (gE rfl ?_)
  refine wOps.done ?_
  refine hK2 _ _ _ ?_
  clear hK2 K1
  refine WC.seq_k fun K3 hK4 => ?_
  refine WC.region ?_
  refine wU (gBuildSlice (cs := []) tslice66 tsz5 tzero5 rfl (by simp [evFill, putL, zcells, vcells]) (by decide) (by decide) fun p0 hp0 => ?_)
  refine wU (gE rfl ?_)
  refine wOps.done ?_
  refine hK4 _ _ _ ?_
  clear hK4 K3
  refine WC.seq_k fun K5 hK6 => ?_
  refine WC.seq_k fun K7 hK8 => ?_
  refine WC.region ?_
  refine wU (gE rfl ?_)
  refine wOps.done ?_
  refine hK8 _ _ _ ?_
  clear hK8 K7
  refine WC.block ?_
  refine WC.loopI (α := Nat × By × BS) (fun a => [(0, .str s), (5, bsV a.2.2 a.2.1), (6, .int .i64 a.1)]) (fun a => bsH 5 a.2.2 a.2.1) (fun a => s.length - a.1) (fun a => a.1 ≤ s.length ∧ a.2.1.length ≤ a.1 ∧ (a.2.2 = none → a.2.1 = []) ∧ unqAt s [] 0 = unqAt s a.2.1 a.1) (0, [], some (p0, 0)) ?_ ?_ ?_ ?_
  · exact sub_cons rfl (sub_cons rfl (sub_cons rfl (sub_nil _)))
  · exact Ent.refl _ _
  · exact ⟨by simp, by simp, by simp, rfl⟩
  rintro ⟨i, acc, o⟩ ⟨his, hai, ho, hu⟩
  simp only at his hai ho hu ⊢
  refine WC.seq_k fun K9 hK10 => ?_
  refine WC.seq_k fun K11 hK12 => ?_
  refine WC.region ?_
  refine wU (gE rfl ?_)
  refine wU (gE rfl ?_)
  refine wU (gLen rfl rfl tisstr9 ?_)
  refine wU (gE rfl ?_)
  refine wOps.done ?_
  refine hK12 _ _ _ ?_
  clear hK12 K11
  refine WC.cond rfl (fun c13 => ?_) (fun c13 => ?_)
  · skip
    refine WC.skip ?_
    refine hK10 _ _ _ ?_
    clear hK10 K9
    refine WC.seq_k fun K14 hK15 => ?_
    refine WC.block ?_
    refine WC.seq_k fun K16 hK17 => ?_
    refine WC.seq_k fun K18 hK19 => ?_
    refine WC.region ?_
    refine wU (gE rfl ?_)
    refine wU (gE rfl ?_)
    have hi : i < s.length := by simpa using c13
    refine wU (gIdxStr tisstr9 rfl rfl (by omega) (str_at hi) ?_)
    refine wU (gE rfl ?_)
    refine wOps.done ?_
    refine hK19 _ _ _ ?_
    clear hK19 K18
    refine WC.cond rfl (fun c20 => ?_) (fun c20 => ?_)
    · skip
      refine WC.seq_k fun K21 hK22 => ?_
      skip
      refine WC.region_draw mixed ?_
      refine wA.val 0 rfl rfl rfl (fun _ _ hK => gE rfl hK) (by kernel_rfl) ?_
      refine wA.val 2 rfl rfl rfl (fun _ _ hK => gE rfl hK) (by kernel_rfl) ?_
      refine wA.val 3 rfl rfl rfl (fun _ _ hK => gE (v := .int .i64 ((i + 1 : Nat) : Int)) (int_fit (by omega) (by omega) (by omega)) hK) (by kernel_rfl) ?_
      refine wA.val 4 rfl rfl rfl (fun _ _ hK => gE rfl hK) (by kernel_rfl) ?_
      refine wA.val 5 rfl rfl rfl (fun _ _ hK => gE (v := .int .i64 ((i + 1 : Nat) : Int)) (int_fit (by omega) (by omega) (by omega)) hK) (by kernel_rfl) ?_
      refine wA.val 6 rfl rfl rfl (fun _ _ hK => gE rfl hK) (by kernel_rfl) ?_
      refine wA.val 7 rfl rfl rfl (fun _ _ hK => gLen rfl rfl tisstr9 hK) (by kernel_rfl) ?_
      refine wA.val 8 rfl rfl rfl (fun _ _ hK => gE rfl hK) (by kernel_rfl) ?_
      refine wA.val 9 rfl rfl rfl (fun _ _ hK => gE rfl hK) (by kernel_rfl) ?_
      refine wA.split (e := 28) true rfl (fun c23 => ?_) (fun c23 => ?_)
      · skip
        refine wA.skip 10 rfl rfl rfl (by kernel_rfl) ?_
        refine wA.skip 11 rfl rfl rfl (by kernel_rfl) ?_
        refine wA.skip 12 rfl rfl rfl (by kernel_rfl) ?_
        refine wA.skip 13 rfl rfl rfl (by kernel_rfl) ?_
        refine wA.skip 14 rfl rfl rfl (by kernel_rfl) ?_
        refine wA.val 15 rfl rfl rfl (fun _ _ hK => gE rfl hK) (by kernel_rfl) ?_
        refine wA.eff 1 rfl (by kernel_rfl) rfl ?_
        refine gOfBs (s := o) (acc := acc) (hx := []) tslice66 tint5 tisstr9 rfl rfl (fun _ _ _ => by simp) ho ?_
        refine wA.back ?_
        refine wA.val 16 rfl rfl rfl (fun _ _ hK => gE rfl hK) (by kernel_rfl) ?_
        refine wA.val 17 rfl rfl rfl (fun _ _ hK => gE rfl hK) (by kernel_rfl) ?_
        refine wA.val 18 rfl rfl rfl (fun _ _ hK => gE rfl hK) (by kernel_rfl) ?_
        refine wA.done (by kernel_rfl) ?_
        refine hK22 _ _ _ ?_
        clear hK22 K21
        refine WC.ret ?_
        have h34 : s[i] = 34 := by simpa [u8_34] using c20
        rw [hu, unq_end acc hi h34]
        have hne : i + 1 = s.length := by have := of_decide_eq_true c23; omega
        exact ⟨_, rfl, _, i + 1, by simp [hne], fun _ => ⟨rfl, rfl⟩⟩
      · skip
        refine wA.val 10 rfl rfl rfl (fun _ _ hK => gE rfl hK) (by kernel_rfl) ?_
        refine wA.val 11 rfl rfl rfl (fun _ _ hK => gE rfl hK) (by kernel_rfl) ?_
        refine wA.val 12 rfl rfl rfl (fun _ _ hK => gE (v := .int .i64 ((i + 1 : Nat) : Int)) (int_fit (by omega) (by omega) (by omega)) hK) (by kernel_rfl) ?_
        have hi2 : i + 1 < s.length := by have := of_decide_eq_false c23; omega
        refine wA.val 13 rfl rfl rfl (fun _ _ hK => gIdxStr tisstr9 rfl rfl (by omega) (str_at hi2) hK) (by kernel_rfl) ?_
        refine wA.val 14 rfl rfl rfl (fun _ _ hK => gE rfl hK) (by kernel_rfl) ?_
        refine wA.val 15 rfl rfl rfl (fun _ _ hK => gE rfl hK) (by kernel_rfl) ?_
        refine wA.eff 1 rfl (by kernel_rfl) rfl ?_
        refine gOfBs (s := o) (acc := acc) (hx := []) tslice66 tint5 tisstr9 rfl rfl (fun _ _ _ => by simp) ho ?_
        refine wA.back ?_
        refine wA.val 16 rfl rfl rfl (fun _ _ hK => gE rfl hK) (by kernel_rfl) ?_
        refine wA.val 17 rfl rfl rfl (fun _ _ hK => gE rfl hK) (by kernel_rfl) ?_
        refine wA.val 18 rfl rfl rfl (fun _ _ hK => gE rfl hK) (by kernel_rfl) ?_
        refine wA.done (by kernel_rfl) ?_
        refine hK22 _ _ _ ?_
        clear hK22 K21
        refine WC.ret ?_
        have h34 : s[i] = 34 := by simpa [u8_34] using c20
        rw [hu, unq_end acc hi h34]
        have hne : ¬ i + 1 = s.length := by omega
        exact ⟨_, rfl, _, i + 1, by simp [hi2, hne, b32] , fun _ => ⟨rfl, rfl⟩⟩
    · skip
      refine WC.skip ?_
      refine hK17 _ _ _ ?_
      clear hK17 K16
      refine WC.seq_k fun K24 hK25 => ?_
      refine WC.region ?_
      refine wU (gE rfl ?_)
      refine wU (gE rfl ?_)
      refine wU (gIdxStr tisstr9 rfl rfl (by omega) (str_at hi) ?_)
      refine wU (gE rfl ?_)
      refine wOps.done ?_
      refine hK25 _ _ _ ?_
      clear hK25 K24
      refine WC.seq_cut (α := Nat × UInt8) (fun a => [(0, .str s), (5, bsV o acc), (6, .int .i64 a.1), (7, .int .u8 a.2.toNat)]) (fun _ => bsH 5 o acc) (fun a => i ≤ a.1 ∧ a.1 < s.length ∧ unqAt s [] 0 = unqAt s (acc ++ [a.2]) (a.1 + 1)) ?_ ?_
      · skip
        refine WC.seq_k fun K26 hK27 => ?_
        refine WC.region ?_
        refine wU (gE rfl ?_)
        refine wU (gE rfl ?_)
        refine wOps.done ?_
        refine hK27 _ _ _ ?_
        clear hK27 K26
        refine WC.cond rfl (fun c28 => ?_) (fun c28 => ?_)
        · skip
          refine WC.seq_k fun K29 hK30 => ?_
          refine WC.region ?_
          refine wU (gE rfl ?_)
          refine wU (gE (v := .int .i64 ((i + 1 : Nat) : Int)) (int_fit (by omega) (by omega) (by omega)) ?_)
          refine wU (gE rfl ?_)
          refine wOps.done ?_
          refine hK30 _ _ _ ?_
          clear hK30 K29
          refine WC.seq_k fun K31 hK32 => ?_
          refine WC.seq_k fun K33 hK34 => ?_
          refine WC.region ?_
          refine wU (gE rfl ?_)
          refine wU (gE rfl ?_)
          refine wU (gLen rfl rfl tisstr9 ?_)
          refine wU (gE rfl ?_)
          refine wU (gE rfl ?_)
          refine wG rfl rfl rfl rfl (by decide) (fun c35 => ?_) (fun c35 => ?_)
          · skip
            refine gE rfl ?_
            refine wY rfl (gE rfl ?_)
            have hi2 : i + 1 < s.length := by have := of_decide_eq_false c35; omega
            refine wY rfl (gIdxStr tisstr9 rfl rfl (by omega) (str_at hi2) ?_)
            refine wY rfl (gE rfl ?_)
            refine wY rfl (gE rfl ?_)
            refine wG rfl rfl rfl rfl (by decide) (fun c36 => ?_) (fun c36 => ?_)
            · skip
              refine gE rfl ?_
              refine wY rfl (gE rfl ?_)
              refine wY rfl (gIdxStr tisstr9 rfl rfl (by omega) (str_at hi2) ?_)
              refine wY rfl (gE rfl ?_)
              refine wY rfl (gE rfl ?_)
              refine wY rfl (gE rfl ?_)
              refine wG rfl rfl rfl rfl (by decide) (fun c37 => ?_) (fun c37 => ?_)
              · skip
                refine gE rfl ?_
                refine wY rfl (gE rfl ?_)
                refine wY rfl (gIdxStr tisstr9 rfl rfl (by omega) (str_at hi2) ?_)
                refine wY rfl (gE rfl ?_)
                refine wY rfl (gE rfl ?_)
                refine wU (gE rfl ?_)
                refine wOps.done ?_
                refine hK34 _ _ _ ?_
                clear hK34 K33
                refine WC.cond rfl (fun c38 => ?_) (fun c38 => ?_)
                · skip
                  refine WC.seq_k fun K39 hK40 => ?_
                  refine WC.region ?_
                  refine wU (gE rfl ?_)
                  refine wU (gE rfl ?_)
                  refine wU (gE rfl ?_)
                  refine wOps.done ?_
                  refine hK40 _ _ _ ?_
                  clear hK40 K39
                  refine WC.ret ?_
                  have h92 : s[i] = 92 := by simpa [u8_92] using c28
                  rw [hu, unq_esc acc hi h92 hi2, if_neg (by intro e; simp_all [u8_110]), if_neg (by rintro (e | e) <;> simp_all [u8_92, u8_34])]
                  exact ⟨_, rfl, _, 0, rfl, fun h => by simp at h⟩
                · skip
                  refine WC.skip ?_
                  refine hK32 _ _ _ ?_
                  clear hK32 K31
                  refine WC.seq_k fun K41 hK42 => ?_
                  refine WC.region ?_
                  refine wU (gE rfl ?_)
                  refine wU (gE rfl ?_)
                  refine wU (gIdxStr tisstr9 rfl rfl (by omega) (str_at hi2) ?_)
                  refine wU (gE rfl ?_)
                  refine wOps.done ?_
                  refine hK42 _ _ _ ?_
                  clear hK42 K41
                  refine WC.seq_k fun K43 hK44 => ?_
                  refine WC.region ?_
                  refine wU (gE rfl ?_)
                  refine wU (gE rfl ?_)
                  refine wOps.done ?_
                  refine hK44 _ _ _ ?_
                  clear hK44 K43
                  refine WC.cond rfl (fun c45 => ?_) (fun c45 => ?_)
                  · skip
                    skip
                    refine WC.region ?_
                    refine wU (gE rfl ?_)
                    refine wOps.done ?_
                    have h92 : s[i] = 92 := by simpa [u8_92] using c28
                    have h110 : s[i + 1] = 110 := by simpa [u8_110] using c45
                    exact ⟨(i + 1, 10), rfl, ⟨by simp, hi2, by rw [hu, unq_esc acc hi h92 hi2, if_pos h110]⟩, Ent.sub (sub_cons rfl (sub_cons rfl (sub_cons rfl (sub_cons rfl (sub_nil _)))))⟩
                  · skip
                    refine WC.skip ?_
                    have h92 : s[i] = 92 := by simpa [u8_92] using c28
                    have h110 : s[i + 1] ≠ 110 := by simpa [u8_110] using c45
                    exact ⟨(i + 1, s[i + 1]), rfl, ⟨by simp, hi2, by rw [hu, unq_esc acc hi h92 hi2, if_neg h110, if_pos (by simp_all [u8_34, u8_92, u8_110])]⟩, Ent.sub (sub_cons rfl (sub_cons rfl (sub_cons rfl (sub_cons rfl (sub_nil _)))))⟩
              · skip
                refine wN rfl ?_
                refine wN rfl ?_
                refine wN rfl ?_
                refine wY rfl (gE rfl ?_)
                refine wU (gE rfl ?_)
                refine wOps.done ?_
                refine hK34 _ _ _ ?_
                clear hK34 K33
                first | refine WC.cond (b := false) rfl (fun hh => by simp at hh) (fun _ => ?_) | refine WC.cond rfl (fun hh => by simp_all) (fun _ => ?_)
                refine WC.skip ?_
                refine hK32 _ _ _ ?_
                clear hK32 K31
                refine WC.seq_k fun K46 hK47 => ?_
                refine WC.region ?_
                refine wU (gE rfl ?_)
                refine wU (gE rfl ?_)
                refine wU (gIdxStr tisstr9 rfl rfl (by omega) (str_at hi2) ?_)
                refine wU (gE rfl ?_)
                refine wOps.done ?_
                refine hK47 _ _ _ ?_
                clear hK47 K46
                refine WC.seq_k fun K48 hK49 => ?_
                refine WC.region ?_
                refine wU (gE rfl ?_)
                refine wU (gE rfl ?_)
                refine wOps.done ?_
                refine hK49 _ _ _ ?_
                clear hK49 K48
                refine WC.cond rfl (fun c50 => ?_) (fun c50 => ?_)
                · skip
                  skip
                  refine WC.region ?_
                  refine wU (gE rfl ?_)
                  refine wOps.done ?_
                  have h92 : s[i] = 92 := by simpa [u8_92] using c28
                  have h110 : s[i + 1] = 110 := by simpa [u8_110] using c50
                  exact ⟨(i + 1, 10), rfl, ⟨by simp, hi2, by rw [hu, unq_esc acc hi h92 hi2, if_pos h110]⟩, Ent.sub (sub_cons rfl (sub_cons rfl (sub_cons rfl (sub_cons rfl (sub_nil _)))))⟩
                · skip
                  refine WC.skip ?_
                  have h92 : s[i] = 92 := by simpa [u8_92] using c28
                  have h110 : s[i + 1] ≠ 110 := by simpa [u8_110] using c50
                  exact ⟨(i + 1, s[i + 1]), rfl, ⟨by simp, hi2, by rw [hu, unq_esc acc hi h92 hi2, if_neg h110, if_pos (by simp_all [u8_34, u8_92, u8_110])]⟩, Ent.sub (sub_cons rfl (sub_cons rfl (sub_cons rfl (sub_cons rfl (sub_nil _)))))⟩
            · skip
              refine wN rfl ?_
              refine wN rfl ?_
              refine wN rfl ?_
              refine wY rfl (gE rfl ?_)
              refine wY rfl (gE rfl ?_)
              refine wN rfl ?_
              refine wN rfl ?_
              refine wN rfl ?_
              refine wN rfl ?_
              refine wY rfl (gE rfl ?_)
              refine wU (gE rfl ?_)
              refine wOps.done ?_
              refine hK34 _ _ _ ?_
              clear hK34 K33
              first | refine WC.cond (b := false) rfl (fun hh => by simp at hh) (fun _ => ?_) | refine WC.cond rfl (fun hh => by simp_all) (fun _ => ?_)
              refine WC.skip ?_
              refine hK32 _ _ _ ?_
              clear hK32 K31
              refine WC.seq_k fun K51 hK52 => ?_
              refine WC.region ?_
              refine wU (gE rfl ?_)
              refine wU (gE rfl ?_)
              refine wU (gIdxStr tisstr9 rfl rfl (by omega) (str_at hi2) ?_)
              refine wU (gE rfl ?_)
              refine wOps.done ?_
              refine hK52 _ _ _ ?_
              clear hK52 K51
              refine WC.seq_k fun K53 hK54 => ?_
              refine WC.region ?_
              refine wU (gE rfl ?_)
              refine wU (gE rfl ?_)
              refine wOps.done ?_
              refine hK54 _ _ _ ?_
              clear hK54 K53
              refine WC.cond rfl (fun c55 => ?_) (fun c55 => ?_)
              · skip
                skip
                refine WC.region ?_
                refine wU (gE rfl ?_)
                refine wOps.done ?_
                have h92 : s[i] = 92 := by simpa [u8_92] using c28
                have h110 : s[i + 1] = 110 := by simpa [u8_110] using c55
                exact ⟨(i + 1, 10), rfl, ⟨by simp, hi2, by rw [hu, unq_esc acc hi h92 hi2, if_pos h110]⟩, Ent.sub (sub_cons rfl (sub_cons rfl (sub_cons rfl (sub_cons rfl (sub_nil _)))))⟩
              · skip
                refine WC.skip ?_
                have h92 : s[i] = 92 := by simpa [u8_92] using c28
                have h110 : s[i + 1] ≠ 110 := by simpa [u8_110] using c55
                exact ⟨(i + 1, s[i + 1]), rfl, ⟨by simp, hi2, by rw [hu, unq_esc acc hi h92 hi2, if_neg h110, if_pos (by simp_all [u8_34, u8_92, u8_110])]⟩, Ent.sub (sub_cons rfl (sub_cons rfl (sub_cons rfl (sub_cons rfl (sub_nil _)))))⟩
          · skip
            refine wN rfl ?_
            refine wN rfl ?_
            refine wN rfl ?_
            refine wN rfl ?_
            refine wZ rfl ?_
            refine wZ rfl ?_
            refine wZ rfl ?_
            refine wZ rfl ?_
            refine wN rfl ?_
            refine wN rfl ?_
            refine wZ rfl ?_
            refine wZ rfl ?_
            refine wZ rfl ?_
            refine wZ rfl ?_
            refine wN rfl ?_
            refine wU (gE rfl ?_)
            refine wOps.done ?_
            refine hK34 _ _ _ ?_
            clear hK34 K33
            first | refine WC.cond (b := true) rfl (fun _ => ?_) (fun hh => by simp at hh) | refine WC.cond rfl (fun _ => ?_) (fun hh => by simp_all)
            refine WC.seq_k fun K56 hK57 => ?_
            refine WC.region ?_
            refine wU (gE rfl ?_)
            refine wU (gE rfl ?_)
            refine wU (gE rfl ?_)
            refine wOps.done ?_
            refine hK57 _ _ _ ?_
            clear hK57 K56
            refine WC.ret ?_
            have h92 : s[i] = 92 := by simpa [u8_92] using c28
            rw [hu, unq_cut acc hi h92 (by have := of_decide_eq_true c35; omega)]
            exact ⟨_, rfl, _, 0, rfl, fun h => by simp at h⟩
        · skip
          refine WC.skip ?_
          have h34 : s[i] ≠ 34 := by simpa [u8_34] using c20
          have h92 : s[i] ≠ 92 := by simpa [u8_92] using c28
          exact ⟨(i, s[i]), rfl, ⟨Nat.le_refl _, hi, by rw [hu, unq_step acc hi h34 h92]⟩, Ent.sub (sub_cons rfl (sub_cons rfl (sub_cons rfl (sub_cons rfl (sub_nil _)))))⟩
      clear hu
      rintro ⟨j, c⟩ ⟨hij, hj, hu⟩
      simp only at hij hj hu ⊢
      refine WC.region ?_
      refine wU (gE rfl ?_)
      refine wU (gE rfl ?_)
      refine wU (gBuildSlice (cs := [.int .u8 c.toNat]) tslice66 tsz5 tzero5 rfl (by simp [evFill, putL, zcells, vcells]) (by decide) (by decide) fun b58 hb58 => ?_)
      refine wU (gOp (OpS.appBs (s := o) (acc := acc) (bs := [c]) (hx := [(b58, .cells 5 [.int .u8 c.toNat] 1)]) ⟨rfl⟩ el66 appT66 rfl rfl rfl (fun q N e => by subst e; simp [bsH] at hb58; simp; exact fun e => hb58 e.symm) ho (by simp [evSrc, hget, byteCells]) (by simp only [List.length_cons, List.length_nil]; omega) fun o2 ho2 ho3 => ?_) rfl)
      refine wU (gE rfl ?_)
      refine wOps.done ?_
      refine hK15 _ _ _ ?_
      clear hK15 K14
      refine WC.region ?_
      refine wU (gE rfl ?_)
      refine wU (gE rfl ?_)
      refine wU (gE rfl ?_)
      refine wOps.done ?_
      exact ⟨(j + 1, acc ++ [c], o2), rfl, by simp only; omega, ⟨by simp only; omega, by simp; omega, ho3, hu⟩, (Ent.sub (sub_cons rfl (sub_cons rfl (sub_cons (int_fit (by omega) (by omega) (by omega)) (sub_nil _))))).trans (Ent.drop (List.sublist_append_left _ _))⟩
  · skip
    refine WC.exit ?_
    refine hK6 _ _ _ ?_
    clear hK10 K9 hK6 K5
    refine WC.seq_k fun K59 hK60 => ?_
    refine WC.region ?_
    refine wU (gE rfl ?_)
    refine wU (gE rfl ?_)
    refine wU (gE rfl ?_)
    refine wOps.done ?_
    refine hK60 _ _ _ ?_
    clear hK60 K59
    refine WC.ret ?_
    rw [hu, unq_nil s acc (by have := of_decide_eq_false c13; omega)]
    exact ⟨_, rfl, _, 0, rfl, fun h => by simp at h⟩
theorem get5_tri (l : List Lb) (nm : By) (hl : l.length ≤ 4294967295) : PTri Tryz.prog 40 [lsl l, .str nm] (.str (getL l nm)) := by
  unfold lsl
  refine PTri.any (Tri.of_wc Tryz.func40 rfl Tryz.results40 Tryz.ntmps40 (by simp) ?_)
  refine WC.seq_k fun K1 hK2 => ?_
  refine WC.region ?_
  refine wU (gE rfl ?_)
  refine wOps.done ?_
  refine hK2 _ _ _ ?_
  clear hK2 K1
  refine WC.seq_k fun K3 hK4 => ?_
  refine WC.seq_k fun K5 hK6 => ?_
  refine WC.region ?_
  refine wU (gE rfl ?_)
  refine wOps.done ?_
  refine hK6 _ _ _ ?_
  clear hK6 K5
  refine WC.block ?_
  refine WC.loopI (fun i : Nat => [(0, .fslice (lcs l) l.length), (1, .str nm), (5, .int .i64 i)]) (fun _ => []) (fun i => l.length - i) (fun i => i ≤ l.length ∧ getL l nm = getL (l.drop i) nm) 0 ?_ ?_ ?_ ?_
  · exact sub_cons rfl (sub_cons rfl (sub_cons rfl (sub_nil _)))
  · exact Ent.refl _ _
  · exact ⟨Nat.zero_le _, by simp⟩
  rintro i ⟨hil, hc⟩
  refine WC.seq_k fun K7 hK8 => ?_
  refine WC.seq_k fun K9 hK10 => ?_
  refine WC.region ?_
  refine wU (gE rfl ?_)
  refine wU (gE rfl ?_)
  refine wU (gLen rfl rfl (by rw [lenFits, tslice22]; rfl) ?_)
  refine wU (gE rfl ?_)
  refine wOps.done ?_
  refine hK10 _ _ _ ?_
  clear hK10 K9
  refine WC.cond rfl (fun c11 => ?_) (fun c11 => ?_)
  · skip
    refine WC.skip ?_
    refine hK8 _ _ _ ?_
    clear hK8 K7
    refine WC.seq_k fun K12 hK13 => ?_
    refine WC.block ?_
    refine WC.seq_k fun K14 hK15 => ?_
    refine WC.region ?_
    refine wU (gE rfl ?_)
    refine wU (gE rfl ?_)
    have hi : i < l.length := by simpa using c11
    refine wU (gIdxF tslice22 tsz51 rfl rfl (by omega) (by omega) ?_)
    refine wU (gFieldF tfld51_0 tsz9 rfl ?_)
    refine wU (gLoadF tagg9 rfl (lcs_fst hi) ?_)
    refine wU (gE rfl ?_)
    refine wU (gE rfl ?_)
    refine wOps.done ?_
    refine hK15 _ _ _ ?_
    clear hK15 K14
    refine WC.cond rfl (fun c16 => ?_) (fun c16 => ?_)
    · skip
      refine WC.seq_k fun K17 hK18 => ?_
      refine WC.region ?_
      refine wU (gE rfl ?_)
      refine wU (gE rfl ?_)
      refine wU (gIdxF tslice22 tsz51 rfl rfl (by omega) (by omega) ?_)
      refine wU (gFieldF tfld51_1 tsz9 rfl ?_)
      refine wU (gLoadF tagg9 rfl (lcs_snd hi) ?_)
      refine wU (gE rfl ?_)
      refine wOps.done ?_
      refine hK18 _ _ _ ?_
      clear hK18 K17
      refine WC.ret ?_
      have he : l[i].1 = nm := by simpa using c16
      exact ⟨_, rfl, congrArg V.str (by rw [hc, getL_step hi, if_pos (by simpa using he)])⟩
    · skip
      refine WC.skip ?_
      refine hK13 _ _ _ ?_
      clear hK13 K12
      refine WC.region ?_
      refine wU (gE rfl ?_)
      refine wU (gE rfl ?_)
      refine wU (gE rfl ?_)
      refine wOps.done ?_
      have he : l[i].1 ≠ nm := by simpa using c16
      exact ⟨i + 1, rfl, by omega, ⟨by omega, by rw [hc, getL_step hi, if_neg (by simpa using he)]⟩, Ent.sub (sub_cons rfl (sub_cons rfl (sub_cons (int_fit (by omega) (by omega) (by omega)) (sub_nil _))))⟩
  · skip
    refine WC.exit ?_
    refine hK4 _ _ _ ?_
    clear hK8 K7 hK4 K3
    refine WC.seq_k fun K19 hK20 => ?_
    refine WC.region ?_
    refine wU (gE rfl ?_)
    refine wOps.done ?_
    refine hK20 _ _ _ ?_
    clear hK20 K19
    refine WC.ret ?_
    exact ⟨_, rfl, congrArg V.str (by rw [hc, List.drop_of_length_le (by have := of_decide_eq_false c11; omega)]; rfl)⟩
theorem has5_tri (l : List By) (s : By) (hl : l.length ≤ 4294967295) : PTri Tryz.prog 107 [ssl l, .str s] (.bool (l.contains s)) := by
  unfold ssl
  refine PTri.any (Tri.of_wc Tryz.func107 rfl Tryz.results107 Tryz.ntmps107 (by simp) ?_)
  refine WC.seq_k fun K1 hK2 => ?_
  refine WC.region ?_
  refine wU (gE rfl ?_)
  refine wOps.done ?_
  refine hK2 _ _ _ ?_
  clear hK2 K1
  refine WC.seq_k fun K3 hK4 => ?_
  refine WC.seq_k fun K5 hK6 => ?_
  refine WC.region ?_
  refine wU (gE rfl ?_)
  refine wOps.done ?_
  refine hK6 _ _ _ ?_
  clear hK6 K5
  refine WC.block ?_
  refine WC.loopI (fun i : Nat => [(0, .fslice (scs l) l.length), (1, .str s), (5, .int .i64 i)]) (fun _ => []) (fun i => l.length - i) (fun i => i ≤ l.length ∧ s ∉ l.take i) 0 ?_ ?_ ?_ ?_
  · exact sub_cons rfl (sub_cons rfl (sub_cons rfl (sub_nil _)))
  · exact Ent.refl _ _
  · exact ⟨Nat.zero_le _, by simp⟩
  rintro i ⟨hil, hc⟩
  refine WC.seq_k fun K7 hK8 => ?_
  refine WC.seq_k fun K9 hK10 => ?_
  refine WC.region ?_
  refine wU (gE rfl ?_)
  refine wU (gE rfl ?_)
  refine wU (gLen rfl rfl (by rw [lenFits, tslice31]; rfl) ?_)
  refine wU (gE rfl ?_)
  refine wOps.done ?_
  refine hK10 _ _ _ ?_
  clear hK10 K9
  refine WC.cond rfl (fun c11 => ?_) (fun c11 => ?_)
  · skip
    refine WC.skip ?_
    refine hK8 _ _ _ ?_
    clear hK8 K7
    refine WC.seq_k fun K12 hK13 => ?_
    refine WC.block ?_
    refine WC.seq_k fun K14 hK15 => ?_
    refine WC.region ?_
    refine wU (gE rfl ?_)
    refine wU (gE rfl ?_)
    have hi : i < l.length := by simpa using c11
    refine wU (gIdxF tslice31 tsz9 rfl rfl (by omega) (by omega) ?_)
    refine wU (gLoadF tagg9 rfl (scs_get hi) ?_)
    refine wU (gE rfl ?_)
    refine wU (gE rfl ?_)
    refine wOps.done ?_
    refine hK15 _ _ _ ?_
    clear hK15 K14
    refine WC.cond rfl (fun c16 => ?_) (fun c16 => ?_)
    · skip
      refine WC.seq_k fun K17 hK18 => ?_
      refine WC.region ?_
      refine wU (gE rfl ?_)
      refine wOps.done ?_
      refine hK18 _ _ _ ?_
      clear hK18 K17
      refine WC.ret ?_
      have he : l[i] = s := by simpa using c16
      exact ⟨_, rfl, congrArg V.bool (by symm; rw [List.contains_iff_mem]; exact he ▸ List.getElem_mem hi)⟩
    · skip
      refine WC.skip ?_
      refine hK13 _ _ _ ?_
      clear hK13 K12
      refine WC.region ?_
      refine wU (gE rfl ?_)
      refine wU (gE rfl ?_)
      refine wU (gE rfl ?_)
      refine wOps.done ?_
      have he : l[i] ≠ s := by simpa using c16
      exact ⟨i + 1, rfl, by omega, ⟨by omega, by rw [List.take_succ_eq_append_getElem hi]; simp only [List.mem_append, List.mem_singleton, not_or]; exact ⟨hc, fun e => he e.symm⟩⟩, Ent.sub (sub_cons rfl (sub_cons rfl (sub_cons (int_fit (by omega) (by omega) (by omega)) (sub_nil _))))⟩
  · skip
    refine WC.exit ?_
    refine hK4 _ _ _ ?_
    clear hK8 K7 hK4 K3
    refine WC.seq_k fun K19 hK20 => ?_
    refine WC.region ?_
    refine wU (gE rfl ?_)
    refine wOps.done ?_
    refine hK20 _ _ _ ?_
    clear hK20 K19
    refine WC.ret ?_
    exact ⟨_, rfl, congrArg V.bool (by have he : i = l.length := (by have := of_decide_eq_false c11; omega); rw [he, List.take_length] at hc; simpa using hc)⟩
theorem appT22 : appT Tryz.prog 22 = true := by kernel_rfl
theorem drop5_tri0 (l : List Lb) (ks : List By) (hl : l.length ≤ 1000000) (hk : ks.length ≤ 4294967295) : Tri Tryz.prog 74 [lsl l, ssl ks] [] fun v h' => ∃ o, (o = none → l.filter (fun x => !ks.contains x.1) = []) ∧ v = gsV o (l.filter (fun x => !ks.contains x.1)).length ∧ h' = gsH 51 2 o (lcs (l.filter (fun x => !ks.contains x.1))) := by
  unfold lsl ssl
  refine Tri.of_wc Tryz.func74 rfl Tryz.results74 Tryz.ntmps74 (by simp) ?_
  refine WC.seq_k fun K1 hK2 => ?_
  refine WC.region ?_
  refine wU (gE rfl ?_)
  refine wOps.done ?_
  refine hK2 _ _ _ ?_
  clear hK2 K1
  refine WC.seq_k fun K3 hK4 => ?_
  refine WC.region ?_
  refine wU (gBuildSlice (cs := []) tslice22 tsz51 tzero51 rfl (by simp [evFill, putL, zcells, vcells]) (by decide) (by decide) fun p0 hp0 => ?_)
  refine wU (gE rfl ?_)
  refine wOps.done ?_
  refine hK4 _ _ _ ?_
  clear hK4 K3
  refine WC.seq_k fun K5 hK6 => ?_
  refine WC.seq_k fun K7 hK8 => ?_
  refine WC.region ?_
  refine wU (gE rfl ?_)
  refine wOps.done ?_
  refine hK8 _ _ _ ?_
  clear hK8 K7
  refine WC.block ?_
  refine WC.loopI (α := Nat × BS × List Lb) (fun a => [(0, .fslice (lcs l) l.length), (1, .fslice (scs ks) ks.length), (5, gsV a.2.1 a.2.2.length), (6, .int .i64 a.1)]) (fun a => gsH 51 2 a.2.1 (lcs a.2.2)) (fun a => l.length - a.1) (fun a => a.1 ≤ l.length ∧ (l.take a.1).filter (fun x => !ks.contains x.1) = a.2.2 ∧ a.2.2.length ≤ a.1 ∧ (a.2.1 = none → a.2.2 = [])) (0, some (p0, 0), []) ?_ ?_ ?_ ?_
  · exact sub_cons rfl (sub_cons rfl (sub_cons rfl (sub_cons rfl (sub_nil _))))
  · exact Ent.refl _ _
  · exact ⟨by simp, by simp, by simp, by simp⟩
  rintro ⟨i, o, X⟩ ⟨hil, hX, hXl, hon⟩
  simp only at hil hX hXl hon ⊢
  refine WC.seq_k fun K9 hK10 => ?_
  refine WC.seq_k fun K11 hK12 => ?_
  refine WC.region ?_
  refine wU (gE rfl ?_)
  refine wU (gE rfl ?_)
  refine wU (gLen rfl rfl (by rw [lenFits, tslice22]; rfl) ?_)
  refine wU (gE rfl ?_)
  refine wOps.done ?_
  refine hK12 _ _ _ ?_
  clear hK12 K11
  refine WC.cond rfl (fun c13 => ?_) (fun c13 => ?_)
  · skip
    refine WC.skip ?_
    refine hK10 _ _ _ ?_
    clear hK10 K9
    refine WC.seq_k fun K14 hK15 => ?_
    refine WC.block ?_
    refine WC.seq_k fun K16 hK17 => ?_
    refine WC.region ?_
    refine wU (gE rfl ?_)
    refine wU (gE rfl ?_)
    refine wU (gE rfl ?_)
    have hi : i < l.length := by simpa using c13
    refine wU (gIdxF tslice22 tsz51 rfl rfl (by omega) (by omega) ?_)
    refine wU (gFieldF tfld51_0 tsz9 rfl ?_)
    refine wU (gLoadF tagg9 rfl (lcs_fst hi) ?_)
    refine wU (gPure rfl isGo107 (has5_tri ks l[i].1 hk) ?_)
    refine wU (gE rfl ?_)
    refine wOps.done ?_
    refine hK17 _ _ _ ?_
    clear hK17 K16
    refine WC.cond rfl (fun c18 => ?_) (fun c18 => ?_)
    · skip
      refine WC.region ?_
      refine wU (gE rfl ?_)
      refine wU (gE rfl ?_)
      refine wU (gE rfl ?_)
      refine wU (gIdxF tslice22 tsz51 rfl rfl (by omega) (by omega) ?_)
      refine wU (gLoadAF tagg51 tsz51 rfl (by rw [lcs_length]; omega) (lcs_pair hi) ?_)
      refine wU (gBuildSlice (cs := [.str l[i].1, .str l[i].2]) tslice22 tsz51 tzero51 rfl (by simp [evFill, putL, zcells, vcells]) (by decide) (by decide) fun p3 hp3 => ?_)
      refine wU (gOp (OpS.appGs (s := o) (cs := lcs (X)) (us := [.str (l[i]).1, .str (l[i]).2]) (hx := [(p3, .cells 51 [.str (l[i]).1, .str (l[i]).2] 2)]) (len := (X).length) (m := 1) (k := 2) (e := 51) ⟨rfl⟩ el22 appT22 rfl rfl rfl (fun q N e => by subst e; simp [gsH] at hp3; simp; exact fun e => hp3 e.symm) (fun e => by rw [hon e]; exact ⟨rfl, rfl⟩) (by rw [lcs_length]) (by simp [evSrc, hget]) rfl (fun h => by simp at h) (by omega) fun o3 ho3 hno3 => ?_) rfl)
      have e1_3 : lcs (X) ++ [.str (l[i]).1, .str (l[i]).2] = lcs (X ++ [l[i]]) := by rw [lcs_append]; rfl
      have e2_3 : (X).length + 1 = (X ++ [l[i]]).length := by simp
      rw [e1_3, e2_3]
      have hmo3 : o3 = none → X ++ [l[i]] = [] := fun e => by have := (hno3 e).2; simp at this
      refine wU (gE rfl ?_)
      refine wOps.done ?_
      refine hK15 _ _ _ ?_
      clear hK15 K14
      refine WC.region ?_
      refine wU (gE rfl ?_)
      refine wU (gE rfl ?_)
      refine wU (gE rfl ?_)
      refine wOps.done ?_
      have hk2 : ks.contains l[i].1 = false := by simpa using c18
      exact ⟨(i + 1, o3, X ++ [l[i]]), rfl, by simp only; omega, ⟨by simp only; omega, by simp only; rw [List.take_succ_eq_append_getElem hi, List.filter_append, hX]; simp only [List.contains_eq_mem, decide_eq_false_iff_not] at hk2 ⊢; simp [hk2], by simp; omega, hmo3⟩, (Ent.sub (sub_cons rfl (sub_cons rfl (sub_cons rfl (sub_cons (int_fit (by omega) (by omega) (by omega)) (sub_nil _)))))).trans (Ent.drop (List.sublist_append_left _ _))⟩
    · skip
      refine WC.skip ?_
      refine hK15 _ _ _ ?_
      clear hK15 K14
      refine WC.region ?_
      refine wU (gE rfl ?_)
      refine wU (gE rfl ?_)
      refine wU (gE rfl ?_)
      refine wOps.done ?_
      have hk2 : ks.contains l[i].1 = true := by simpa using c18
      exact ⟨(i + 1, o, X), rfl, by simp only; omega, ⟨by simp only; omega, by simp only; rw [List.take_succ_eq_append_getElem hi, List.filter_append, hX]; simp only [List.contains_eq_mem, decide_eq_true_eq] at hk2 ⊢; simp [hk2], by simp only; omega, hon⟩, (Ent.sub (sub_cons rfl (sub_cons rfl (sub_cons rfl (sub_cons (int_fit (by omega) (by omega) (by omega)) (sub_nil _))))))⟩
  · skip
    refine WC.exit ?_
    refine hK6 _ _ _ ?_
    clear hK10 K9 hK6 K5
    refine WC.seq_k fun K19 hK20 => ?_
    refine WC.region ?_
    refine wU (gE rfl ?_)
    refine wU (gE rfl ?_)
    refine wOps.done ?_
    refine hK20 _ _ _ ?_
    clear hK20 K19
    refine WC.ret ?_
    have he : i = l.length := by have := of_decide_eq_false c13; omega
    rw [he, List.take_length] at hX
    subst hX
    exact ⟨_, rfl, o, hon, rfl, rfl⟩
end Go.Proofs.YtfdmdcpopmcmcaaGreatDoor
end

section
namespace Go.Proofs.YtfdmdcpopmcmcaaGreatDoor
open Go.Fw
variable [Gl]
set_option maxRecDepth 20000
theorem frzL_lcs (b : Nat) (cs : List V) : ∀ l : List Lb, frzL b cs (lcs l) = lcs l
  | [] => rfl
  | x :: r => by simp [lcs, frzL, frzV, frzL_lcs b cs r]
theorem frz_lsl (b : Nat) (cs : List V) (l : List Lb) : frzV b cs (lsl l) = lsl l := by simp [lsl, frzV, frzL_lcs]
theorem lcs_leaf : ∀ l : List Lb, (lcs l).all leafV = true
  | [] => rfl
  | x :: r => by simp [lcs, leafV, lcs_leaf r]
theorem lcs_take : ∀ (l : List Lb) (i : Nat), (lcs l).take (i * 2) = lcs (l.take i)
  | [], i => by simp [lcs]
  | x :: r, 0 => by simp [lcs]
  | x :: r, i + 1 => by
    have e : (i + 1) * 2 = i * 2 + 1 + 1 := by omega
    rw [e]
    simp [lcs, lcs_take r i]
theorem lcs_drop : ∀ (l : List Lb) (i : Nat), (lcs l).drop (i * 2) = lcs (l.drop i)
  | [], i => by simp [lcs]
  | x :: r, 0 => by simp [lcs]
  | x :: r, i + 1 => by
    have e : (i + 1) * 2 = i * 2 + 1 + 1 := by omega
    rw [e]
    simp [lcs, lcs_drop r i]
theorem insW_at {m : List Lb} {k v : By} {i : Nat} (hT : m.takeWhile (fun x => decide (x.1 < k)) = m.take i) : m.takeWhile (fun x => decide (x.1 < k)) ++ ((k, v) :: m.dropWhile (fun x => decide (x.1 < k))) = m.take i ++ (k, v) :: m.drop i := by
  have h1 := List.takeWhile_append_dropWhile (p := fun x : Lb => decide (x.1 < k)) (l := m)
  rw [hT] at h1 ⊢
  have h2 := List.take_append_drop i m
  rw [List.append_cancel_left (h1.trans h2.symm)]
def dropN (l : List Lb) (k : By) : List Lb := l.filter fun x => !([k] : List By).contains x.1
def insW (m : List Lb) (k v : By) : List Lb := m.takeWhile (fun x => decide (x.1 < k)) ++ ((k, v) :: m.dropWhile (fun x => decide (x.1 < k)))
def withL (l : List Lb) (k v : By) : List Lb := if v = [] then dropN l k else insW (dropN l k) k v
theorem drop5_tri (l : List Lb) (k : By) (hl : l.length ≤ 1000000) : PTri Tryz.prog 74 [lsl l, ssl [k]] (lsl (dropN l k)) := by
  refine Tri.vent (drop5_tri0 l [k] hl (by simp)) ?_
  rintro v h' ⟨o, ho, rfl, rfl⟩
  refine ⟨_, _, (?_ : VEnt _ _ (lsl (dropN l k)) []), rfl, rfl⟩
  have := VEnt.gs (e := 51) (k := 2) (s := o) (cs := lcs (dropN l k)) (rest := []) (len := (dropN l k).length) (fun e => by have h1 : dropN l k = [] := ho e; rw [h1]; exact ⟨rfl, rfl⟩) (fun h => by rw [lcs_length]; omega)
  rw [List.append_nil] at this
  exact this
theorem dropN_len (l : List Lb) (k : By) : (dropN l k).length ≤ l.length := List.length_filter_le _ _
theorem with5_tri0 (l : List Lb) (k v : By) (hl : l.length ≤ 1000000) : Tri Tryz.prog 41 [lsl l, .str k, .str v] [] fun x h' => (x = lsl (dropN l k) ∧ v = []) ∨ ∃ o hx, o ≠ none ∧ x = gsV o (insW (dropN l k) k v).length ∧ h' = gsH 51 2 o (lcs (insW (dropN l k) k v)) ++ hx ∧ v ≠ [] := by
  have hml := dropN_len l k
  refine Tri.of_wc Tryz.func41 rfl Tryz.results41 Tryz.ntmps41 (by simp) ?_
  refine WC.seq_k fun K1 hK2 => ?_
  refine WC.region ?_
  refine wU (gE rfl ?_)
  refine wOps.done ?_
  refine hK2 _ _ _ ?_
  clear hK2 K1
  refine WC.seq_k fun K3 hK4 => ?_
  refine WC.region ?_
  refine wU (gE rfl ?_)
  refine wU (gE rfl ?_)
  refine wU (gBuildSlice (cs := [.str k]) tslice31 tsz9 tzero9 rfl (by simp [evFill, putL, zcells, vcells]) (by decide) (by decide) fun b5 hb5 => ?_)
  have hm := Tri.give (b := b5) (us := [lsl l, .slice b5 0 1 1]) (T := 9) (cs := [.str k]) (nn := 1) (drop5_tri l k hl) (by simp [frz_lsl, frzL, ssl, scs]; simp [frzV])
  refine wU (gCall (by rfl) (@CallS.mono _ Tryz.prog 74 _ _ _ _ (@CallS.of_tri _ Tryz.prog 74 _ _ _ isGo74 hm) ?_))
  rintro v1 h1 ⟨rfl, rfl⟩
  generalize dropN l k = m at *
  refine wU (gE rfl ?_)
  refine wOps.done ?_
  refine hK4 _ _ _ ?_
  clear hK4 K3
  refine WC.seq_k fun K6 hK7 => ?_
  refine WC.seq_k fun K8 hK9 => ?_
  refine WC.region ?_
  refine wU (gE rfl ?_)
  refine wU (gE rfl ?_)
  refine wOps.done ?_
  refine hK9 _ _ _ ?_
  clear hK9 K8
  refine WC.cond rfl (fun c10 => ?_) (fun c10 => ?_)
  · skip
    refine WC.seq_k fun K11 hK12 => ?_
    refine WC.region ?_
    refine wU (gE rfl ?_)
    refine wU (gE rfl ?_)
    refine wOps.done ?_
    refine hK12 _ _ _ ?_
    clear hK12 K11
    refine WC.ret ?_
    exact ⟨_, rfl, .inl ⟨rfl, by simpa using c10⟩⟩
  · skip
    refine WC.skip ?_
    refine hK7 _ _ _ ?_
    clear hK7 K6
    refine WC.seq_k fun K13 hK14 => ?_
    refine WC.region ?_
    refine wU (gE rfl ?_)
    refine wOps.done ?_
    refine hK14 _ _ _ ?_
    clear hK14 K13
    refine WC.seq_k fun K15 hK16 => ?_
    refine WC.block ?_
    have hv : ¬ v = [] := by simpa using c10
    refine WC.loopI (fun i : Nat => [(0, lsl m), (1, .str k), (2, .str v), (7, .int .i64 i)]) (fun _ => []) (fun i => m.length - i) (fun i => i ≤ m.length ∧ m.takeWhile (fun x => decide (x.1 < k)) = m.take i ++ (m.drop i).takeWhile (fun x => decide (x.1 < k))) 0 ?_ ?_ ?_ ?_
    · exact sub_cons rfl (sub_cons rfl (sub_cons rfl (sub_cons rfl (sub_nil _))))
    · exact Ent.drop (List.nil_sublist _)
    · exact ⟨Nat.zero_le _, by simp⟩
    rintro i ⟨hil, hc⟩
    unfold lsl
    refine WC.seq_k fun K17 hK18 => ?_
    refine WC.seq_k fun K19 hK20 => ?_
    refine WC.region ?_
    refine wU (gE rfl ?_)
    refine wU (gE rfl ?_)
    refine wU (gLen rfl rfl (by rw [lenFits, tslice22]; rfl) ?_)
    refine wU (gE rfl ?_)
    refine wU (gE rfl ?_)
    refine wG rfl rfl rfl rfl (by decide) (fun c21 => ?_) (fun c21 => ?_)
    · skip
      refine gE rfl ?_
      refine wY rfl (gE rfl ?_)
      have hi : i < m.length := by simpa using c21
      refine wY rfl (gIdxF tslice22 tsz51 rfl rfl (by omega) (by omega) ?_)
      refine wY rfl (gFieldF tfld51_0 tsz9 rfl ?_)
      refine wY rfl (gLoadF tagg9 rfl (lcs_fst hi) ?_)
      refine wY rfl (gE rfl ?_)
      refine wY rfl (gE rfl ?_)
      refine wU (gE rfl ?_)
      refine wOps.done ?_
      refine hK20 _ _ _ ?_
      clear hK20 K19
      refine WC.cond rfl (fun c22 => ?_) (fun c22 => ?_)
      · skip
        refine WC.skip ?_
        refine hK18 _ _ _ ?_
        clear hK18 K17
        refine WC.block ?_
        refine WC.region ?_
        refine wU (gE rfl ?_)
        refine wU (gE rfl ?_)
        refine wU (gE rfl ?_)
        refine wOps.done ?_
        have hlt : m[i].1 < k := by have := c22; exact (bl_iff _ _).1 (by simpa using this)
        have e : (m.drop i).takeWhile (fun x => decide (x.1 < k)) = m[i] :: (m.drop (i + 1)).takeWhile (fun x => decide (x.1 < k)) := by rw [List.drop_eq_getElem_cons hi, List.takeWhile_cons, if_pos (by simpa using hlt)]
        exact ⟨i + 1, rfl, by omega, ⟨by omega, by rw [hc, e, List.take_succ_eq_append_getElem hi, List.append_assoc]; rfl⟩, Ent.sub (sub_cons rfl (sub_cons rfl (sub_cons rfl (sub_cons (int_fit (by omega) (by omega) (by omega)) (sub_nil _)))))⟩
      · skip
        refine WC.exit ?_
        refine hK16 _ _ _ ?_
        clear hK18 K17 hK16 K15
        refine WC.seq_k fun K23 hK24 => ?_
        skip
        refine WC.region ?_
        refine wU (gBuildSlice (cs := []) tslice22 tsz51 tzero51 rfl (by simp [evFill, putL, zcells, vcells]) (by decide) (by decide) fun p0 hp0 => ?_)
        refine wU (gE rfl ?_)
        refine wU (gE rfl ?_)
        refine wU (gSliceF (lo := none) tslice22 tsz51 rfl rfl rfl (by simp) (by simp; omega) ?_)
        simp only [Option.getD_none, Option.getD_some, Nat.zero_mul, List.drop_zero, Nat.sub_zero, Int.toNat_natCast, lcs_take]
        refine wU (gOp (OpS.appGs (s := some (p0, 0)) (cs := []) (us := lcs (m.take i)) (hx := []) (len := 0) (m := i) (k := 2) (e := 51) ⟨rfl⟩ el22 appT22 rfl rfl rfl (fun q N e => by simp) (fun e => by simp at e) rfl (by simp only [evSrc, lcs_length, List.length_take, Nat.min_eq_left hil]; rw [if_pos (Nat.le_refl _), List.take_of_length_le (by rw [lcs_length, List.length_take]; omega)]) (lcs_leaf _) (fun h => by subst h; simp [lcs]) (by omega) fun o1 ho1 hno1 => ?_) rfl)
        have el : 0 + i = (m.take i).length := by simp; omega
        rw [el, List.nil_append, List.append_nil]
        have hmo1 : o1 = none → m.take i = [] := fun e => by have := (hno1 e).2; rw [el] at this; exact List.length_eq_zero_iff.1 this
        refine wU (gE rfl ?_)
        refine wU (gE rfl ?_)
        refine wU (gBuild rfl rfl ?_)
        refine wU (gBuildSlice (cs := [.str k, .str v]) tslice22 tsz51 tzero51 rfl (by simp [evFill, putL, zcells, vcells]) (by decide) (by decide) fun p3 hp3 => ?_)
        refine wU (gOp (OpS.appGs (s := o1) (cs := lcs (m.take i)) (us := [.str ((k, v)).1, .str ((k, v)).2]) (hx := [(p3, .cells 51 [.str ((k, v)).1, .str ((k, v)).2] 2)]) (len := (m.take i).length) (m := 1) (k := 2) (e := 51) ⟨rfl⟩ el22 appT22 rfl rfl rfl (fun q N e => by subst e; simp [gsH] at hp3; simp; exact fun e => hp3 e.symm) (fun e => by rw [hmo1 e]; exact ⟨rfl, rfl⟩) (by rw [lcs_length]) (by simp [evSrc, hget]) rfl (fun h => by simp at h) (by omega) fun o3 ho3 hno3 => ?_) rfl)
        have e1_3 : lcs (m.take i) ++ [.str ((k, v)).1, .str ((k, v)).2] = lcs (m.take i ++ [(k, v)]) := by rw [lcs_append]; rfl
        have e2_3 : (m.take i).length + 1 = (m.take i ++ [(k, v)]).length := by simp
        rw [e1_3, e2_3]
        have hmo3 : o3 = none → m.take i ++ [(k, v)] = [] := fun e => by have := (hno3 e).2; simp at this
        refine wU (gE rfl ?_)
        refine wOps.done ?_
        refine hK24 _ _ _ ?_
        clear hK24 K23
        refine WC.seq_k fun K25 hK26 => ?_
        refine WC.ent (t' := frL [(0, lsl m), (7, .int .i64 i), (8, gsV o3 (m.take i ++ [(k, v)]).length)]) (h' := gsH 51 2 o3 (lcs (m.take i ++ [(k, v)]))) ((Ent.sub (sub_cons rfl (sub_cons rfl (sub_cons rfl (sub_nil _))))).trans (Ent.drop (List.sublist_append_left _ _))) ?_
        refine WC.region ?_
        refine wU (gE rfl ?_)
        refine wU (gE rfl ?_)
        refine wU (gE rfl ?_)
        refine wU (gSliceF (hi := none) tslice22 tsz51 rfl rfl rfl (by simp; omega) (by simp) ?_)
        have ed : ((lcs m).drop (i * 2)).take ((m.length - i) * 2) = lcs (m.drop i) := by rw [lcs_drop]; exact List.take_of_length_le (by rw [lcs_length, List.length_drop]; omega)
        simp only [Option.getD_none, Option.getD_some, Int.toNat_natCast, ed]
        refine wU (gOp (OpS.appGs (s := o3) (cs := lcs (m.take i ++ [(k, v)])) (us := lcs (m.drop i)) (hx := []) (len := (m.take i ++ [(k, v)]).length) (m := m.length - i) (k := 2) (e := 51) ⟨rfl⟩ el22 appT22 rfl rfl rfl (fun q N e => by simp) (fun e => by have := hmo3 e; simp at this) (by rw [lcs_length]) (by simp only [evSrc, lcs_length, List.length_drop]; rw [if_pos (Nat.le_refl _), List.take_of_length_le (by rw [lcs_length, List.length_drop]; omega)]) (lcs_leaf _) (fun h => by rw [List.drop_of_length_le (by omega)]; rfl) (by simp only [List.length_append, List.length_take, List.length_singleton]; omega) fun o4 ho4 hno4 => ?_) rfl)
        have el2 : (m.take i ++ [(k, v)]).length + (m.length - i) = (m.take i ++ (k, v) :: m.drop i).length := by simp; omega
        have el3 : lcs (m.take i ++ [(k, v)]) ++ lcs (m.drop i) = lcs (m.take i ++ (k, v) :: m.drop i) := by rw [← lcs_append]; simp
        rw [el2, el3]
        refine wU (gE rfl ?_)
        refine wOps.done ?_
        refine hK26 _ _ _ ?_
        clear hK26 K25
        refine WC.ret ?_
        have hge : ¬ m[i].1 < k := by have := c22; intro h; rw [(bl_iff _ _).2 h] at this; simp at this
        have hT : m.takeWhile (fun x => decide (x.1 < k)) = m.take i := by rw [hc, List.drop_eq_getElem_cons hi, List.takeWhile_cons, if_neg (by simpa using hge), List.append_nil]
        have hW : insW m k v = m.take i ++ (k, v) :: m.drop i := insW_at hT
        rw [hW]
        exact ⟨_, rfl, .inr ⟨o4, _, fun e => by have h := (hno4 e).2; rw [el2] at h; simp at h, rfl, rfl, by simpa using hv⟩⟩
    · skip
      refine wN rfl ?_
      refine wN rfl ?_
      refine wN rfl ?_
      refine wN rfl ?_
      refine wN rfl ?_
      refine wN rfl ?_
      refine wU (gE rfl ?_)
      refine wOps.done ?_
      refine hK20 _ _ _ ?_
      clear hK20 K19
      first | refine WC.cond (b := false) rfl (fun hh => by simp at hh) (fun _ => ?_) | refine WC.cond rfl (fun hh => by simp_all) (fun _ => ?_)
      refine WC.exit ?_
      refine hK16 _ _ _ ?_
      clear hK18 K17 hK16 K15
      refine WC.seq_k fun K27 hK28 => ?_
      skip
      refine WC.region ?_
      refine wU (gBuildSlice (cs := []) tslice22 tsz51 tzero51 rfl (by simp [evFill, putL, zcells, vcells]) (by decide) (by decide) fun p0 hp0 => ?_)
      refine wU (gE rfl ?_)
      refine wU (gE rfl ?_)
      refine wU (gSliceF (lo := none) tslice22 tsz51 rfl rfl rfl (by simp) (by simp; omega) ?_)
      simp only [Option.getD_none, Option.getD_some, Nat.zero_mul, List.drop_zero, Nat.sub_zero, Int.toNat_natCast, lcs_take]
      refine wU (gOp (OpS.appGs (s := some (p0, 0)) (cs := []) (us := lcs (m.take i)) (hx := []) (len := 0) (m := i) (k := 2) (e := 51) ⟨rfl⟩ el22 appT22 rfl rfl rfl (fun q N e => by simp) (fun e => by simp at e) rfl (by simp only [evSrc, lcs_length, List.length_take, Nat.min_eq_left hil]; rw [if_pos (Nat.le_refl _), List.take_of_length_le (by rw [lcs_length, List.length_take]; omega)]) (lcs_leaf _) (fun h => by subst h; simp [lcs]) (by omega) fun o1 ho1 hno1 => ?_) rfl)
      have el : 0 + i = (m.take i).length := by simp; omega
      rw [el, List.nil_append, List.append_nil]
      have hmo1 : o1 = none → m.take i = [] := fun e => by have := (hno1 e).2; rw [el] at this; exact List.length_eq_zero_iff.1 this
      refine wU (gE rfl ?_)
      refine wU (gE rfl ?_)
      refine wU (gBuild rfl rfl ?_)
      refine wU (gBuildSlice (cs := [.str k, .str v]) tslice22 tsz51 tzero51 rfl (by simp [evFill, putL, zcells, vcells]) (by decide) (by decide) fun p3 hp3 => ?_)
      refine wU (gOp (OpS.appGs (s := o1) (cs := lcs (m.take i)) (us := [.str ((k, v)).1, .str ((k, v)).2]) (hx := [(p3, .cells 51 [.str ((k, v)).1, .str ((k, v)).2] 2)]) (len := (m.take i).length) (m := 1) (k := 2) (e := 51) ⟨rfl⟩ el22 appT22 rfl rfl rfl (fun q N e => by subst e; simp [gsH] at hp3; simp; exact fun e => hp3 e.symm) (fun e => by rw [hmo1 e]; exact ⟨rfl, rfl⟩) (by rw [lcs_length]) (by simp [evSrc, hget]) rfl (fun h => by simp at h) (by omega) fun o3 ho3 hno3 => ?_) rfl)
      have e1_3 : lcs (m.take i) ++ [.str ((k, v)).1, .str ((k, v)).2] = lcs (m.take i ++ [(k, v)]) := by rw [lcs_append]; rfl
      have e2_3 : (m.take i).length + 1 = (m.take i ++ [(k, v)]).length := by simp
      rw [e1_3, e2_3]
      have hmo3 : o3 = none → m.take i ++ [(k, v)] = [] := fun e => by have := (hno3 e).2; simp at this
      refine wU (gE rfl ?_)
      refine wOps.done ?_
      refine hK28 _ _ _ ?_
      clear hK28 K27
      refine WC.seq_k fun K29 hK30 => ?_
      refine WC.ent (t' := frL [(0, lsl m), (7, .int .i64 i), (8, gsV o3 (m.take i ++ [(k, v)]).length)]) (h' := gsH 51 2 o3 (lcs (m.take i ++ [(k, v)]))) ((Ent.sub (sub_cons rfl (sub_cons rfl (sub_cons rfl (sub_nil _))))).trans (Ent.drop (List.sublist_append_left _ _))) ?_
      refine WC.region ?_
      refine wU (gE rfl ?_)
      refine wU (gE rfl ?_)
      refine wU (gE rfl ?_)
      refine wU (gSliceF (hi := none) tslice22 tsz51 rfl rfl rfl (by simp; omega) (by simp) ?_)
      have ed : ((lcs m).drop (i * 2)).take ((m.length - i) * 2) = lcs (m.drop i) := by rw [lcs_drop]; exact List.take_of_length_le (by rw [lcs_length, List.length_drop]; omega)
      simp only [Option.getD_none, Option.getD_some, Int.toNat_natCast, ed]
      refine wU (gOp (OpS.appGs (s := o3) (cs := lcs (m.take i ++ [(k, v)])) (us := lcs (m.drop i)) (hx := []) (len := (m.take i ++ [(k, v)]).length) (m := m.length - i) (k := 2) (e := 51) ⟨rfl⟩ el22 appT22 rfl rfl rfl (fun q N e => by simp) (fun e => by have := hmo3 e; simp at this) (by rw [lcs_length]) (by simp only [evSrc, lcs_length, List.length_drop]; rw [if_pos (Nat.le_refl _), List.take_of_length_le (by rw [lcs_length, List.length_drop]; omega)]) (lcs_leaf _) (fun h => by rw [List.drop_of_length_le (by omega)]; rfl) (by simp only [List.length_append, List.length_take, List.length_singleton]; omega) fun o4 ho4 hno4 => ?_) rfl)
      have el2 : (m.take i ++ [(k, v)]).length + (m.length - i) = (m.take i ++ (k, v) :: m.drop i).length := by simp; omega
      have el3 : lcs (m.take i ++ [(k, v)]) ++ lcs (m.drop i) = lcs (m.take i ++ (k, v) :: m.drop i) := by rw [← lcs_append]; simp
      rw [el2, el3]
      refine wU (gE rfl ?_)
      refine wOps.done ?_
      refine hK30 _ _ _ ?_
      clear hK30 K29
      refine WC.ret ?_
      have hT : m.takeWhile (fun x => decide (x.1 < k)) = m.take i := by rw [hc, List.drop_of_length_le (by have := of_decide_eq_false c21; omega)]; simp
      have hW : insW m k v = m.take i ++ (k, v) :: m.drop i := insW_at hT
      rw [hW]
      exact ⟨_, rfl, .inr ⟨o4, _, fun e => by have h := (hno4 e).2; rw [el2] at h; simp at h, rfl, rfl, by simpa using hv⟩⟩
theorem with5_tri (l : List Lb) (k v : By) (hl : l.length ≤ 1000000) : PTri Tryz.prog 41 [lsl l, .str k, .str v] (lsl (withL l k v)) := by
  refine Tri.vent (with5_tri0 l k v hl) ?_
  rintro x h' (⟨rfl, hv⟩ | ⟨o, hx, ho, rfl, rfl, hv⟩)
  · exact ⟨_, _, .drop (List.nil_sublist _) (.refl _ _), by unfold withL; rw [if_pos hv], rfl⟩
  · refine ⟨_, _, .drop (List.sublist_append_left _ _) (?_ : VEnt _ _ (lsl (insW (dropN l k) k v)) []), by unfold withL; rw [if_neg hv], rfl⟩
    have := VEnt.gs (e := 51) (k := 2) (s := o) (cs := lcs (insW (dropN l k) k v)) (rest := []) (len := (insW (dropN l k) k v).length) (fun e => absurd e ho) (fun h => by rw [lcs_length]; omega)
    rw [List.append_nil] at this
    exact this
end Go.Proofs.YtfdmdcpopmcmcaaGreatDoor
end

section
namespace Go.Proofs.YtfdmdcpopmcmcaaGreatDoor
open Go.Fw
/-! ### Plain facts of fields: more blanks change nothing; what is read is valid -/
theorem tw_app (c : UInt8) (t : By) : ∀ s : By, (s ++ c :: t).takeWhile (· != c) = s.takeWhile (· != c)
  | [] => by simp
  | d :: s => by
    simp only [List.cons_append, List.takeWhile_cons]
    split
    · rw [tw_app c t s]
    · rfl
theorem unq_sp : ∀ (t acc : By) (i : Nat), unq (t ++ [32]) acc i = unq t acc i
  | [], acc, i => by simp [unq]
  | [c], acc, i => by
    simp only [List.cons_append, List.nil_append, unq]
    split
    · rfl
    · split
      · simp
      · simp
  | c :: d :: r, acc, i => by
    have h1 := unq_sp r (acc ++ [10]) (i + 2)
    have h2 := unq_sp r (acc ++ [d]) (i + 2)
    have h3 := unq_sp (d :: r) (acc ++ [c]) (i + 1)
    simp only [List.cons_append] at h3 ⊢
    simp only [unq]
    rw [h1, h2, h3]
theorem fieldL_sp (s : By) : fieldL (s ++ [32]) = fieldL s := by
  unfold fieldL
  rw [tw_app 32 [] s]
  have hw := tw_le (· != 32) s
  generalize s.takeWhile (· != 32) = w at hw
  simp only
  generalize w.takeWhile (· != 61) = nm
  by_cases h1 : ¬ (61 ∈ w ∧ isNm nm = true)
  · rw [if_pos h1, if_pos h1]
  rw [if_neg h1, if_neg h1]
  by_cases h2 : (w.drop (nm.length + 1)).head? = some 34
  · rw [if_pos h2, if_pos h2]
    have hk := head_len h2
    rw [List.drop_append_of_le_length (by omega), unq_sp]
    have hs := unq_size (s.drop (nm.length + 2)) [] 0
    rw [List.length_drop] at hs
    generalize unq (s.drop (nm.length + 2)) [] 0 = u at hs
    have e : (u.2.2 = false ∨ u.2.1 + (nm.length + 2) < (s ++ [32]).length ∧ (s ++ [32])[u.2.1 + (nm.length + 2)]? ≠ some 32) ↔ (u.2.2 = false ∨ u.2.1 + (nm.length + 2) < s.length ∧ s[u.2.1 + (nm.length + 2)]? ≠ some 32) := by
      have hk0 : u.2.1 + (nm.length + 2) ≤ s.length := by omega
      generalize u.2.1 + (nm.length + 2) = k at hk0 ⊢
      by_cases hk : k < s.length
      · rw [List.getElem?_append_left hk]
        have h5 : k < (s ++ [32]).length := by simp; omega
        simp only [hk, h5, true_and]
      · by_cases hk2 : k = s.length
        · subst hk2; simp
        · constructor
          · rintro (h | ⟨h, -⟩)
            · exact .inl h
            · simp at h; omega
          · rintro (h | ⟨h, -⟩)
            · exact .inl h
            · omega
    by_cases h3 : (u.2.2 = false ∨ u.2.1 + (nm.length + 2) < s.length ∧ s[u.2.1 + (nm.length + 2)]? ≠ some 32)
    · rw [if_pos h3, if_pos (e.2 h3)]
    · rw [if_neg h3, if_neg (fun h => h3 (e.1 h))]
  · rw [if_neg h2, if_neg h2]
theorem trimL_cons (s : By) : trimL (32 :: s) = trimL s := by simp [trimL]
theorem trimL_app : ∀ s : By, trimL (s ++ [32]) = trimL (trimL s ++ [32])
  | [] => rfl
  | c :: s => by
    by_cases h : c = 32
    · subst h
      rw [List.cons_append, trimL_cons, trimL_cons, trimL_app s]
    · have e : trimL (c :: s) = c :: s := by simp [trimL, List.dropWhile_cons, h]
      rw [e]
theorem trimL_id {s : By} (h : s.head? ≠ some 32) : trimL s = s := by
  cases s with
  | nil => rfl
  | cons c s =>
    have h : c ≠ 32 := by simpa using h
    simp [trimL, List.dropWhile_cons, h]
theorem flds_sp : ∀ (n : Nat) (rest : By) (f f' : Nat), rest.length ≤ n → rest.head? ≠ some 32 → rest.length ≤ f → (trimL (rest ++ [32])).length ≤ f' → fieldsF f' (trimL (rest ++ [32])) = fieldsF f rest
  | n, [], f, f', _, _, _, _ => by
    rw [fieldsF_nil]
    show fieldsF f' (trimL [32]) = []
    exact fieldsF_nil f'
  | 0, c :: r, f, f', hn, _, _, _ => by simp at hn
  | n + 1, c :: r, f, f', hn, hh, hf, hf' => by
    have et : trimL (c :: r ++ [32]) = c :: r ++ [32] := trimL_id (by simpa using hh)
    rw [et] at hf' ⊢
    obtain ⟨g, rfl⟩ : ∃ g, f = g + 1 := ⟨f - 1, by simp at hf; omega⟩
    obtain ⟨g', rfl⟩ : ∃ g', f' = g' + 1 := ⟨f' - 1, by simp at hf'; omega⟩
    rw [fieldsF, fieldsF, fieldL_sp]
    have hs := fieldL_size (c :: r)
    generalize fieldL (c :: r) = x at hs
    rw [if_neg (show ¬ (c :: r ++ [32] = []) by simp), if_neg (show ¬ (c :: r = []) by simp)]
    by_cases hok : x.2.2 = false
    · rw [if_pos hok, if_pos hok]
    · rw [if_neg hok, if_neg hok]
      have hpos := hs.2 (by simpa using hok) (by simp) hh
      congr 1
      rw [List.drop_append_of_le_length hs.1, trimL_app]
      have hl := trimL_le ((c :: r).drop x.2.1)
      rw [List.length_drop] at hl
      refine flds_sp n _ g g' (by simp at hn hl ⊢; omega) (trimL_head _) (by simp at hf hl ⊢; omega) ?_
      have := trimL_le (trimL ((c :: r).drop x.2.1) ++ [32])
      simp at this hf' hl
      omega
theorem fieldsL_sp (s : By) : fieldsL (s ++ [32]) = fieldsL s := by
  unfold fieldsL
  have := flds_sp (trimL s).length (trimL s) (trimL s).length (trimL (trimL s ++ [32])).length (Nat.le_refl _) (trimL_head s) (Nat.le_refl _) (Nat.le_refl _)
  rw [trimL_app, this]
theorem fieldsL_cons (s : By) : fieldsL (32 :: s) = fieldsL s := by unfold fieldsL; rw [trimL_cons]
theorem parseL_sp {s : By} (h : s.length ≤ 900) : parseL ([32, 32] ++ s ++ [32, 32]) = parseL s := by
  have e : [32, 32] ++ s ++ [32, 32] = 32 :: 32 :: (s ++ [32] ++ [32]) := by simp
  unfold parseL
  rw [if_neg (by simp; omega), if_neg (by omega), e, fieldsL_cons, fieldsL_cons, fieldsL_sp, fieldsL_sp]
/-- The names that are read are names. -/
theorem fieldL_nm (s : By) : (fieldL s).1.1 ≠ [] → isNm (fieldL s).1.1 = true := by
  unfold fieldL
  simp only
  split
  · simp
  · rename_i h
    have h : isNm ((s.takeWhile (· != 32)).takeWhile (· != 61)) = true := by
      have := Classical.not_not.1 h; exact this.2
    split
    · split
      · simp
      · exact fun _ => h
    · exact fun _ => h
theorem fieldsF_nm : ∀ (f : Nat) (rest : By) (x : Lb × Bool), x ∈ fieldsF f rest → x.2 = true → isNm x.1.1 = true
  | 0, rest, x, h, _ => by simp [fieldsF] at h
  | f + 1, rest, x, h, hx => by
    simp only [fieldsF] at h
    split at h
    · simp at h
    · split at h
      · simp only [List.mem_singleton] at h; subst h; simp at hx
      · rcases List.mem_append.1 h with h | h
        · split at h
          · rename_i hn
            simp only [List.mem_singleton] at h
            subst h
            exact fieldL_nm rest hn
          · simp at h
        · exact fieldsF_nm f _ x h hx
theorem parseG_nm : ∀ (st : List (Lb × Bool)) (acc l : List Lb), (∀ x ∈ st, x.2 = true → isNm x.1.1 = true) → (∀ x ∈ acc, isNm x.1 = true) → parseG acc st = some l → ∀ x ∈ l, isNm x.1 = true
  | [], acc, l, _, ha, e => by simp [parseG] at e; exact e ▸ ha
  | x :: st, acc, l, hs, ha, e => by
    simp only [parseG] at e
    split at e
    · simp at e
    · rename_i hok
      have hx : isNm x.1.1 = true := hs x (by simp) (by simpa using hok)
      split at e
      · refine parseG_nm st _ l (fun y hy => hs y (List.mem_cons_of_mem _ hy)) (fun y hy => ?_) e
        rcases List.mem_append.1 hy with hy | hy
        · exact ha y hy
        · simp only [List.mem_singleton] at hy; subst hy; exact hx
      · exact parseG_nm st acc l (fun y hy => hs y (List.mem_cons_of_mem _ hy)) ha e
/-- What is read is a valid label set. -/
theorem parseL_ok (s : By) : ((parseL s).2 = 0 ∨ (parseL s).1 = []) ∧ chkL (parseL s).1 = 0 := by
  have h0 : chkL [] = 0 := rfl
  unfold parseL
  split
  · exact ⟨.inr rfl, h0⟩
  · split
    · exact ⟨.inr rfl, h0⟩
    · rename_i l e
      split
      · exact ⟨.inr rfl, h0⟩
      · rename_i hn
        refine ⟨.inl rfl, (chkL_iff _).2 ?_⟩
        have hg := parseG_gath _ _ _ ⟨by simp, List.Pairwise.nil⟩ e
        have hm := parseG_nm _ _ _ (fun x hx => fieldsF_nm _ _ x hx) (by simp) e
        have hp := srtN_perm l
        have hn1 : ¬ 16 < l.length := fun h => hn (.inl h)
        have hn2 : ∀ x ∈ l, x.2.length ≤ 200 := fun x hx => Classical.byContradiction fun h => hn (.inr (by rw [List.any_eq_true]; exact ⟨x, hx, by simpa using h⟩))
        refine ⟨by rw [hp.length_eq]; omega, fun x hx => ?_, srtN_asc hg.2⟩
        have hx := hp.mem_iff.1 hx
        exact ⟨hm x hx, hg.1 x hx, hn2 x hx⟩
end Go.Proofs.YtfdmdcpopmcmcaaGreatDoor
end

section
namespace Go.Proofs.YtfdmdcpopmcmcaaGreatDoor
open Go.Fw
/-! ### Fields: the reference's way and the program's are one -/
theorem eqG_eq : ∀ (s pre : By), eqG pre s = if 61 ∈ s.takeWhile (· != 32) ∧ isNm (pre ++ (s.takeWhile (· != 32)).takeWhile (· != 61)) = true then ((pre ++ (s.takeWhile (· != 32)).takeWhile (· != 61)).length : Int) else -1
  | [], pre => by simp [eqG]
  | c :: r, pre => by
    simp only [eqG]
    by_cases h1 : c = 32
    · subst h1; simp
    · rw [if_neg h1]
      by_cases h2 : c = 61
      · subst h2; simp
      · rw [if_neg h2, eqG_eq r (pre ++ [c])]
        have e1 : (c :: r).takeWhile (· != 32) = c :: r.takeWhile (· != 32) := by simp [List.takeWhile_cons, h1]
        have e2 : (c :: r.takeWhile (· != 32)).takeWhile (· != 61) = c :: (r.takeWhile (· != 32)).takeWhile (· != 61) := by simp [List.takeWhile_cons, h2]
        rw [e1, e2]
        have h3 : ¬ (61 : UInt8) = c := fun e => h2 e.symm
        simp [h3]
theorem tw_mem {c : UInt8} : ∀ {s : By}, c ∈ s → (s.takeWhile (· != c)).length < s.length
  | [], h => by simp at h
  | b :: s, h => by
    by_cases e : b = c
    · subst e; simp
    · have h' : c ∈ s := by
        rcases List.mem_cons.1 h with h | h
        · exact absurd h.symm e
        · exact h
      have := tw_mem h'
      simp [List.takeWhile_cons, e]; omega
theorem take_tw (s : By) {k : Nat} (h : k ≤ (s.takeWhile (· != 32)).length) : s.take k = (s.takeWhile (· != 32)).take k := by
  have := tw_take (· != 32) s
  rw [← this, List.take_take, Nat.min_eq_left h]
/-- What the reference finds of a word. -/
theorem eq_cases (s : By) : (eqG [] s = -1 ∧ fieldL s = (([], []), (s.takeWhile (· != 32)).length, true)) ∨
    ∃ k : Nat, eqG [] s = k ∧ k + 1 ≤ (s.takeWhile (· != 32)).length ∧ (s.takeWhile (· != 32)).length ≤ s.length ∧ s.take k ≠ [] ∧
      fieldL s = if ((s.takeWhile (· != 32)).drop (k + 1)).head? = some 34 then (if quoG (s.drop (k + 2)) = true then ((s.take k, (unq (s.drop (k + 2)) [] 0).1), (unq (s.drop (k + 2)) [] 0).2.1 + (k + 2), true) else (([], []), 0, false))
        else ((s.take k, (s.takeWhile (· != 32)).drop (k + 1)), (s.takeWhile (· != 32)).length, true) := by
  rw [eqG_eq]
  unfold fieldL
  simp only [List.nil_append]
  by_cases h : 61 ∈ s.takeWhile (· != 32) ∧ isNm ((s.takeWhile (· != 32)).takeWhile (· != 61)) = true
  · right
    have hm := tw_mem h.1
    have hn := isNm_len h.2
    have ht : s.take ((s.takeWhile (· != 32)).takeWhile (· != 61)).length = (s.takeWhile (· != 32)).takeWhile (· != 61) := by
      rw [take_tw s (by omega), tw_take]
    rw [if_pos h, if_neg (by simpa using h)]
    refine ⟨_, rfl, by omega, tw_le _ _, by rw [ht]; intro e; rw [e] at hn; simp at hn, ?_⟩
    rw [ht]
    split
    · rename_i hq
      have hk : ((s.takeWhile (· != 32)).takeWhile (· != 61)).length + 2 ≤ s.length := by have := head_len hq; have := tw_le (· != 32) s; omega
      generalize ((s.takeWhile (· != 32)).takeWhile (· != 61)).length = k at hk
      have hs := unq_size (s.drop (k + 2)) [] 0
      rw [List.length_drop] at hs
      unfold quoG
      rw [List.getElem?_drop, List.length_drop]
      generalize unq (s.drop (k + 2)) [] 0 = u at hs
      have ek : k + 2 + u.2.1 = u.2.1 + (k + 2) := by omega
      rw [ek]
      by_cases h1 : u.2.2 = false
      · rw [if_pos (.inl h1), h1]; simp
      · have h1 : u.2.2 = true := by simpa using h1
        by_cases h2 : u.2.1 + (k + 2) < s.length ∧ s[u.2.1 + (k + 2)]? ≠ some 32
        · rw [if_pos (.inr h2), if_neg]
          rw [h1, Bool.true_and, Bool.or_eq_true, decide_eq_true_eq, beq_iff_eq]
          rintro (e | e)
          · omega
          · exact h2.2 e
        · rw [if_neg (by rw [h1]; rintro (e | e); simp at e; exact h2 e), if_pos]
          rw [h1, Bool.true_and, Bool.or_eq_true, decide_eq_true_eq, beq_iff_eq]
          by_cases h3 : u.2.1 + (k + 2) < s.length
          · right; exact Classical.byContradiction fun h4 => h2 ⟨h3, h4⟩
          · left; omega
    · rfl
  · left
    rw [if_neg h, if_pos (by simpa using h)]
    exact ⟨rfl, rfl⟩
theorem dw_head (s : By) : ((s.drop (s.takeWhile (· != 32)).length).head? = none) ∨ (s.drop (s.takeWhile (· != 32)).length).head? = some 32 := by
  induction s with
  | nil => simp
  | cons c r ih =>
    by_cases h : c = 32
    · subst h; simp
    · have e : (c :: r).takeWhile (· != 32) = c :: r.takeWhile (· != 32) := by simp [List.takeWhile_cons, h]
      rw [e]
      simpa using ih
theorem fieldL_end (s : By) (h : (fieldL s).2.2 = true) : (s.drop (fieldL s).2.1).head? = none ∨ (s.drop (fieldL s).2.1).head? = some 32 := by
  unfold fieldL at h ⊢
  simp only at h ⊢
  split
  · exact dw_head s
  · rename_i h1
    rw [if_neg h1] at h
    split
    · rename_i h2
      rw [if_pos h2] at h
      split
      · rename_i h3; rw [if_pos h3] at h; simp at h
      · rename_i h3
        simp only [List.head?_drop]
        simp only [not_or, not_and, Classical.not_not] at h3
        by_cases h4 : (unq (s.drop (((s.takeWhile (· != 32)).takeWhile (· != 61)).length + 2)) [] 0).2.1 + (((s.takeWhile (· != 32)).takeWhile (· != 61)).length + 2) < s.length
        · exact .inr (h3.2 h4)
        · left; rw [List.getElem?_eq_none]; omega
    · exact dw_head s
theorem trim_drop {t : By} (h : t.head? = none ∨ t.head? = some 32) : trimL (t.drop 1) = trimL t := by
  cases t with
  | nil => rfl
  | cons c r =>
    have : c = 32 := by simpa using h
    subst this
    exact (trimL_cons r).symm
/-- Where the reference stands: what is still to come. -/
def refP : Nat → By → List Lb → Bool → Option (List Lb × Bool)
  | 0, _, out, lg => some (out, lg)
  | f + 1, rest, out, lg => if rest = [] then some (out, lg) else
    if (fieldL rest).2.2 = false then none else
    if (fieldL rest).1.1 ≠ [] ∧ (fieldL rest).1.2 ≠ [] ∧ getL out (fieldL rest).1.1 = [] then refP f ((rest.drop (fieldL rest).2.1).drop 1) (withL out (fieldL rest).1.1 (fieldL rest).1.2) (lg || decide (200 < (fieldL rest).1.2.length))
    else refP f ((rest.drop (fieldL rest).2.1).drop 1) out lg
def bigA (l : List Lb) : Bool := l.any fun x => decide (200 < x.2.length)
theorem getL_new {l : List Lb} {nm : By} (h : ∀ x ∈ l, x.1 ≠ nm) : getL l nm = [] := by
  induction l with
  | nil => rfl
  | cons p l ih =>
    simp only [getL]
    rw [if_neg (by simpa using h p (by simp))]
    exact ih fun x hx => h x (List.mem_cons_of_mem _ hx)
theorem getL_srt {l : List Lb} (h : gath l) (nm : By) : getL (srtN l) nm = [] ↔ getL l nm = [] := by
  have hp := srtN_perm l
  constructor
  · intro e
    have := getL_none (fun x hx => h.1 x (hp.mem_iff.1 hx)) e
    exact getL_new fun x hx => this x (hp.mem_iff.2 hx)
  · intro e
    have := getL_none h.1 e
    exact getL_new fun x hx => this x (hp.mem_iff.1 hx)
theorem insW_asc {k v : By} : ∀ {m : List Lb}, m.Pairwise (fun x y => x.1 < y.1) → (∀ x ∈ m, x.1 ≠ k) → (insW m k v).Pairwise fun x y => x.1 < y.1
  | [], _, _ => by simp [insW]
  | y :: r, h, hn => by
    have h' := List.pairwise_cons.1 h
    by_cases hl : y.1 < k
    · have e : insW (y :: r) k v = y :: insW r k v := by simp [insW, List.takeWhile_cons, List.dropWhile_cons, hl]
      rw [e]
      refine List.pairwise_cons.2 ⟨fun z hz => ?_, insW_asc h'.2 fun x hx => hn x (List.mem_cons_of_mem _ hx)⟩
      have hz : z ∈ r ∨ z = (k, v) := by
        have h2 := List.takeWhile_append_dropWhile (p := fun x : Lb => decide (x.1 < k)) (l := r)
        unfold insW at hz
        rw [List.mem_append, List.mem_cons] at hz
        rcases hz with hz | hz | hz
        · left; rw [← h2, List.mem_append]; exact .inl hz
        · exact .inr hz
        · left; rw [← h2, List.mem_append]; exact .inr hz
      rcases hz with hz | rfl
      · exact h'.1 z hz
      · exact hl
    · have e : insW (y :: r) k v = (k, v) :: y :: r := by simp [insW, List.takeWhile_cons, List.dropWhile_cons, hl]
      rw [e]
      have hky : k < y.1 := lt_ne (by simpa using hl) fun e => hn y (by simp) e.symm
      refine List.pairwise_cons.2 ⟨fun z hz => ?_, h⟩
      rcases List.mem_cons.1 hz with rfl | hz
      · exact hky
      · exact lt_tr hky (h'.1 z hz)
theorem insW_mem {m : List Lb} {k v : By} (x : Lb) : x ∈ insW m k v ↔ x ∈ m ∨ x = (k, v) := by
  have h2 := List.takeWhile_append_dropWhile (p := fun x : Lb => decide (x.1 < k)) (l := m)
  unfold insW
  rw [List.mem_append, List.mem_cons]
  constructor
  · rintro (hz | hz | hz)
    · left; rw [← h2, List.mem_append]; exact .inl hz
    · exact .inr hz
    · left; rw [← h2, List.mem_append]; exact .inr hz
  · rintro (hz | hz)
    · rw [← h2, List.mem_append] at hz
      rcases hz with hz | hz
      · exact .inl hz
      · exact .inr (.inr hz)
    · exact .inr (.inl hz)
theorem dropN_new {m : List Lb} {k : By} (h : ∀ x ∈ m, x.1 ≠ k) : dropN m k = m := by
  unfold dropN
  rw [List.filter_eq_self]
  intro x hx
  simpa using h x hx
theorem withL_srt {l : List Lb} {k v : By} (h : gath l) (hg : getL l k = []) (hv : v ≠ []) : withL (srtN l) k v = srtN (l ++ [(k, v)]) := by
  have hp := srtN_perm l
  have hn := getL_none h.1 hg
  have hn' : ∀ x ∈ srtN l, x.1 ≠ k := fun x hx => hn x (hp.mem_iff.1 hx)
  unfold withL
  rw [if_neg hv, dropN_new hn']
  refine asc_eqL _ _ (insW_asc (srtN_asc h.2) hn') (srtN_asc (gath_add h (x := (k, v)) hv hg).2) fun x => ?_
  rw [insW_mem, (srtN_perm _).mem_iff, (srtN_perm _).mem_iff]
  simp
theorem refP_eq : ∀ (n : Nat) (rest : By) (acc : List Lb) (f g : Nat), rest.length ≤ n → rest.length ≤ f → (trimL rest).length ≤ g → gath acc →
    refP f rest (srtN acc) (bigA acc) = (parseG acc (fieldsF g (trimL rest))).map fun l => (srtN l, bigA l)
  | n, [], acc, f, g, _, _, _, _ => by
    show _ = (parseG acc (fieldsF g [])).map _
    rw [fieldsF_nil]
    cases f <;> simp [refP, parseG]
  | 0, c :: r, acc, f, g, hn, _, _, _ => by simp at hn
  | n + 1, c :: r, acc, f, g, hn, hf, hg, ha => by
    obtain ⟨f', rfl⟩ : ∃ f', f = f' + 1 := ⟨f - 1, by simp at hf; omega⟩
    simp only [List.length_cons] at hn hf
    rw [refP, if_neg (by simp)]
    by_cases hc : c = 32
    · subst hc
      have e : fieldL (32 :: r) = (([], []), 0, true) := by simp [fieldL]
      rw [e, trimL_cons]
      rw [trimL_cons] at hg
      simp only [ne_eq, not_true_eq_false, false_and, if_false, Bool.true_eq_false, List.drop_zero, List.drop_succ_cons]
      exact refP_eq n r acc f' g (by omega) (by omega) hg ha
    · have et : trimL (c :: r) = c :: r := trimL_id (by simpa using hc)
      rw [et] at hg ⊢
      simp only [List.length_cons] at hg
      obtain ⟨g', rfl⟩ : ∃ g', g = g' + 1 := ⟨g - 1, by omega⟩
      rw [fieldsF, if_neg (show ¬ (c :: r = []) by simp)]
      have hs := fieldL_size (c :: r)
      have he := fieldL_end (c :: r)
      generalize fieldL (c :: r) = x at hs he
      by_cases hok : x.2.2 = false
      · rw [if_pos hok, if_pos hok]; simp [parseG]
      · rw [if_neg hok, if_neg hok]
        have hok : x.2.2 = true := by simpa using hok
        have h1 := hs.2 hok (by simp) (by simpa using hc)
        have et := trim_drop (he hok)
        have hl2 : (((c :: r).drop x.2.1).drop 1).length ≤ r.length := by simp only [List.length_drop, List.length_cons]; omega
        have hl3 := trimL_le ((c :: r).drop x.2.1)
        rw [List.length_drop, List.length_cons] at hl3
        generalize hr : (c :: r).drop x.2.1 = t at et hl2 hl3
        by_cases h2 : x.1.1 = []
        · rw [if_neg (show ¬ (x.1.1 ≠ [] ∧ x.1.2 ≠ [] ∧ getL (srtN acc) x.1.1 = []) from fun h => h.1 h2), if_neg (show ¬ (x.1.1 ≠ []) from fun h => h h2), List.nil_append, ← et]
          exact refP_eq n _ acc f' g' (by omega) (by omega) (by rw [et]; omega) ha
        · rw [if_pos (show x.1.1 ≠ [] from h2), List.singleton_append, parseG, if_neg (show ¬ ((x.1, true).2 = false) by simp)]
          simp only
          by_cases h3 : x.1.2 ≠ [] ∧ getL acc x.1.1 = []
          · rw [if_pos h3, if_pos ⟨h2, h3.1, (getL_srt ha _).2 h3.2⟩, withL_srt ha h3.2 h3.1, ← et]
            have eb : (bigA acc || decide (200 < x.1.2.length)) = bigA (acc ++ [(x.1.1, x.1.2)]) := by simp [bigA]
            rw [eb]
            exact refP_eq n _ (acc ++ [x.1]) f' g' (by omega) (by omega) (by rw [et]; omega) (gath_add ha h3.1 h3.2)
          · rw [if_neg h3, if_neg (show ¬ (x.1.1 ≠ [] ∧ x.1.2 ≠ [] ∧ getL (srtN acc) x.1.1 = []) from fun h => h3 ⟨h.2.1, (getL_srt ha _).1 h.2.2⟩), ← et]
            exact refP_eq n _ acc f' g' (by omega) (by omega) (by rw [et]; omega) ha
theorem refP_parse (s : By) : refP s.length s [] false = (parseG [] (fieldsL s)).map fun l => (srtN l, bigA l) := by
  have h := refP_eq s.length s [] s.length (trimL s).length (Nat.le_refl _) (Nat.le_refl _) (Nat.le_refl _) ⟨by simp, List.Pairwise.nil⟩
  have e : srtN [] = [] := by simp [srtN]
  rw [e] at h
  exact h
/-- What the reference answers. -/
def refL (s : By) : List Lb × Int :=
  if 1000 < s.length then ([], 4) else
  match refP s.length s [] false with
  | none => ([], 3)
  | some o => if o.2 = true ∨ 16 < o.1.length then ([], 4) else (o.1, 0)
theorem refL_eq (s : By) : refL s = parseL s := by
  unfold refL parseL
  rw [refP_parse]
  split
  · rfl
  · cases parseG [] (fieldsL s) with
    | none => rfl
    | some l =>
      simp only [Option.map_some, (srtN_perm l).length_eq, bigA]
      by_cases h : 16 < l.length ∨ (l.any fun x => decide (200 < x.2.length)) = true
      · rw [if_pos h, if_pos (h.elim .inr .inl)]
      · rw [if_neg h, if_neg (fun h2 => h (h2.elim .inr .inl))]
end Go.Proofs.YtfdmdcpopmcmcaaGreatDoor
end

section
namespace Go.Proofs.YtfdmdcpopmcmcaaGreatDoor
open Go.Fw
variable [Gl]
set_option maxRecDepth 20000
theorem insS_mem (s : By) : ∀ (l : List By) (x : By), x ∈ insS s l ↔ x = s ∨ x ∈ l
  | [], x => by simp [insS]
  | y :: r, x => by
    simp only [insS]
    split
    · simp
    · simp only [List.mem_cons, insS_mem s r x]
      constructor
      · rintro (h | h | h) <;> simp [h]
      · rintro (h | h | h) <;> simp [h]
theorem insS_asc (s : By) : ∀ l : List By, l.Pairwise (· < ·) → s ∉ l → (insS s l).Pairwise (· < ·)
  | [], _, _ => by simp [insS]
  | y :: r, h, hn => by
    simp only [insS]
    have h' := List.pairwise_cons.1 h
    split
    · rename_i hlt
      refine List.pairwise_cons.2 ⟨fun z hz => ?_, h⟩
      rcases List.mem_cons.1 hz with rfl | hz
      · exact hlt
      · exact lt_tr hlt (h'.1 z hz)
    · rename_i hlt
      simp only [List.mem_cons, not_or] at hn
      refine List.pairwise_cons.2 ⟨fun z hz => ?_, insS_asc s r h'.2 hn.2⟩
      rcases (insS_mem s r z).1 hz with rfl | hz
      · exact lt_ne (by simpa using hlt) fun e => hn.1 e.symm
      · exact h'.1 z hz
theorem withS_mem (l : List By) (s x : By) : x ∈ withS l s ↔ x = s ∨ x ∈ l := by
  unfold withS
  split
  · rename_i h
    rw [List.contains_iff_mem] at h
    constructor
    · exact .inr
    · rintro (rfl | h')
      · exact h
      · exact h'
  · exact insS_mem s l x
theorem withS_asc {l : List By} (h : l.Pairwise (· < ·)) (s : By) : (withS l s).Pairwise (· < ·) := by
  unfold withS
  split
  · exact h
  · rename_i hc
    exact insS_asc s l h (by simpa using hc)
theorem foldW_asc : ∀ (ws l : List By), l.Pairwise (· < ·) → (ws.foldl withS l).Pairwise (· < ·)
  | [], l, h => h
  | w :: ws, l, h => foldW_asc ws _ (withS_asc h w)
theorem foldW_mem : ∀ (ws l : List By) (x : By), x ∈ ws.foldl withS l ↔ x ∈ ws ∨ x ∈ l
  | [], l, x => by simp
  | w :: ws, l, x => by
    rw [List.foldl_cons, foldW_mem ws _ x, withS_mem, List.mem_cons]
    constructor
    · rintro (h | h | h) <;> simp [h]
    · rintro ((h | h) | h) <;> simp [h]
theorem foldW_terms (s : By) : (rawTerms s).foldl withS [] = termsL s :=
  asc_eq _ _ (foldW_asc _ _ .nil) (terms_sorted s) fun x => by rw [foldW_mem, terms_mem]; simp
theorem withS_length (l : List By) (s : By) : (withS l s).length ≤ l.length + 1 := by
  unfold withS
  split
  · omega
  · rw [insS_length]; omega
/-- What is still to be added. -/
def gT (w rest : By) (acc : List By) : List By := ((wordsG tbB w rest).map tf).foldl withS acc
theorem gT_in {s w : By} {acc : List By} {i : Nat} (h : i < s.length) (ht : tbB s[i] = true) : gT w (s.drop i) acc = gT (w ++ [s[i]]) (s.drop (i + 1)) acc := by
  unfold gT
  rw [List.drop_eq_getElem_cons h, wordsG, if_pos ht]
theorem gT_out {s w : By} {acc : List By} {i : Nat} (h : i < s.length) (ht : tbB s[i] = false) : gT w (s.drop i) acc = gT [] (s.drop (i + 1)) (if w = [] then acc else withS acc (tf w)) := by
  unfold gT
  rw [List.drop_eq_getElem_cons h, wordsG, if_neg (by rw [ht]; simp), List.map_append, List.foldl_append]
  split <;> rfl
theorem gT_end {s w : By} {acc : List By} : gT w (s.drop s.length) acc = gT [] (s.drop (s.length + 1)) (if w = [] then acc else withS acc (tf w)) := by
  unfold gT
  rw [List.drop_length, List.drop_of_length_le (by omega)]
  simp only [wordsG]
  split <;> rfl
theorem tf_length (w : By) : (tf w).length = min 40 w.length := by simp [tf]
theorem tf_app {w : By} {c : UInt8} (h : w.length < 40) : tf (w ++ [c]) = tf w ++ [lowB c] := by
  unfold tf
  rw [List.take_of_length_le (by simp; omega), List.take_of_length_le (by omega)]
  simp
theorem tf_full {w : By} {c : UInt8} (h : ¬ w.length < 40) : tf (w ++ [c]) = tf w := by
  unfold tf
  rw [List.take_append_of_le_length (by omega)]
theorem tf_nil {w : By} (h : ¬ 0 < (tf w).length) : w = [] := by
  rw [tf_length] at h
  exact List.length_eq_zero_iff.1 (by omega)
theorem terms14_tri (s : By) (hs : s.length ≤ 900000) : PTri Tryz.prog 16 [.str s] (ssl (termsL s)) := by
  rw [← foldW_terms]
  refine PTri.any (Tri.of_wc Tryz.func16 rfl Tryz.results16 Tryz.ntmps16 (by simp) ?_)
  refine WC.seq_k fun K1 hK2 => ?_
  refine WC.region ?_
  refine wU (gE rfl ?_)
  refine wOps.done ?_
  refine hK2 _ _ _ ?_
  clear hK2 K1
  refine WC.seq_k fun K3 hK4 => ?_
  refine WC.region ?_
  refine wU (gBuildSlice (cs := []) tslice31 tsz9 tzero9 rfl (by simp [evFill, putL, zcells, vcells]) (by decide) (by decide) fun p0 hp0 => ?_)
  refine wU (gE rfl ?_)
  refine wOps.done ?_
  refine hK4 _ _ _ ?_
  clear hK4 K3
  refine WC.seq_k fun K5 hK6 => ?_
  refine WC.ent (Ent.gs (e := 9) (k := 1) (s := some (p0, 0)) (cs := []) (rest := []) (len := 0) (r := [(0, .str s)]) 3 rfl (fun e => by simp at e) (fun _ => rfl) (fun b ws => le_cons rfl (VLe.refl _) (le_nil _)) (le_cons rfl (VLe.refl _) (le_nil _))) ?_
  refine WC.region ?_
  refine wU (gBuildSlice (cs := []) tslice66 tsz5 tzero5 rfl (by simp [evFill, putL, zcells, vcells]) (by decide) (by decide) fun p1 hp1 => ?_)
  refine wU (gE rfl ?_)
  refine wOps.done ?_
  refine hK6 _ _ _ ?_
  clear hK6 K5
  refine WC.seq_k fun K7 hK8 => ?_
  refine WC.seq_k fun K9 hK10 => ?_
  refine WC.region ?_
  refine wU (gE rfl ?_)
  refine wOps.done ?_
  refine hK10 _ _ _ ?_
  clear hK10 K9
  refine WC.block ?_
  refine WC.loopI (α := Nat × By × List By × BS) (fun a => [(0, .str s), (3, ssl a.2.2.1), (4, bsV a.2.2.2 (tf a.2.1)), (5, .int .i64 a.1)]) (fun a => bsH 5 a.2.2.2 (tf a.2.1)) (fun a => s.length + 1 - a.1) (fun a => a.1 ≤ s.length + 1 ∧ a.2.2.1.length ≤ a.1 ∧ (a.2.2.2 = none → tf a.2.1 = []) ∧ gT a.2.1 (s.drop a.1) a.2.2.1 = gT [] s [] ∧ (a.1 = s.length + 1 → a.2.1 = [])) (0, [], [], some (p1, 0)) ?_ ?_ ?_ ?_
  · exact sub_cons rfl (sub_cons rfl (sub_cons rfl (sub_cons rfl (sub_nil _))))
  · exact Ent.refl _ _
  · exact ⟨by simp, by simp, by simp, by simp, by simp⟩
  rintro ⟨i, w, acc, o⟩ ⟨his, hal, ho, hG, hlast⟩
  simp only at his hal ho hG hlast ⊢
  refine WC.seq_k fun K11 hK12 => ?_
  refine WC.seq_k fun K13 hK14 => ?_
  refine WC.region ?_
  refine wU (gE rfl ?_)
  refine wU (gE rfl ?_)
  refine wU (gLen rfl rfl tisstr9 ?_)
  refine wU (gE rfl ?_)
  refine wOps.done ?_
  refine hK14 _ _ _ ?_
  clear hK14 K13
  refine WC.cond rfl (fun c15 => ?_) (fun c15 => ?_)
  · skip
    refine WC.skip ?_
    refine hK12 _ _ _ ?_
    clear hK12 K11
    refine WC.seq_k fun K16 hK17 => ?_
    refine WC.block ?_
    refine WC.seq_k fun K18 hK19 => ?_
    refine WC.region ?_
    refine wU (gE rfl ?_)
    refine wU (gE rfl ?_)
    refine wOps.done ?_
    refine hK19 _ _ _ ?_
    clear hK19 K18
    refine WC.seq_k fun K20 hK21 => ?_
    refine WC.seq_k fun K22 hK23 => ?_
    refine WC.region ?_
    refine wU (gE rfl ?_)
    refine wU (gE rfl ?_)
    refine wU (gLen rfl rfl tisstr9 ?_)
    refine wU (gE rfl ?_)
    refine wOps.done ?_
    refine hK23 _ _ _ ?_
    clear hK23 K22
    refine WC.cond rfl (fun c24 => ?_) (fun c24 => ?_)
    · skip
      refine WC.region ?_
      refine wU (gE rfl ?_)
      refine wU (gE rfl ?_)
      have hi : i < s.length := by simpa using c24
      refine wU (gIdxStr tisstr9 rfl rfl (by omega) (str_at hi) ?_)
      refine wU (gPure rfl isGo52 (letter2_tri s[i]) ?_)
      refine wU (gE rfl ?_)
      refine wU (gE rfl ?_)
      refine wU (gE rfl ?_)
      refine wU (gE rfl ?_)
      refine wU (gE rfl ?_)
      refine wOps.done ?_
      refine hK21 _ _ _ ?_
      clear hK21 K20
      refine WC.seq_k fun K25 hK26 => ?_
      refine WC.seq_k fun K27 hK28 => ?_
      refine WC.region ?_
      refine wU (gE rfl ?_)
      refine wU (gE rfl ?_)
      refine wG rfl rfl rfl rfl (by decide) (fun c29 => ?_) (fun c29 => ?_)
      · skip
        refine gE rfl ?_
        refine wY rfl (gLen rfl (evLen_bs ho) (lenFits_bs tslice66) ?_)
        refine wY rfl (gE rfl ?_)
        refine wU (gE rfl ?_)
        refine wOps.done ?_
        refine hK28 _ _ _ ?_
        clear hK28 K27
        refine WC.cond rfl (fun c30 => ?_) (fun c30 => ?_)
        · skip
          refine WC.region ?_
          refine wU (gE rfl ?_)
          refine wU (gE rfl ?_)
          refine wU (gBuildSlice (cs := [.int .u8 (lowB s[i]).toNat]) tslice66 tsz5 tzero5 rfl (by simp [evFill, putL, zcells, vcells]) (by decide) (by decide) fun b31 hb31 => ?_)
          have hw40 : w.length < 40 := by have := of_decide_eq_true c30; rw [tf_length] at this; omega
          refine wU (gOp (OpS.appBs (s := o) (acc := tf w) (bs := [lowB s[i]]) (hx := [(b31, .cells 5 [.int .u8 (lowB s[i]).toNat] 1)]) ⟨rfl⟩ el66 appT66 rfl rfl rfl (fun q N e => by subst e; simp [bsH] at hb31; simp; exact fun e => hb31 e.symm) ho (by simp [evSrc, hget, byteCells]) (by have := tf_len w; simp only [List.length_cons, List.length_nil]; omega) fun o2 ho2 ho3 => ?_) rfl)
          rw [← tf_app hw40] at ho3 ⊢
          refine wU (gE rfl ?_)
          refine wOps.done ?_
          refine hK26 _ _ _ ?_
          clear hK26 K25
          refine WC.seq_k fun K32 hK33 => ?_
          skip
          refine WC.region ?_
          have ht : tbB s[i] = true := by simpa using c29
          refine wU (gE (v := .bool true) (congrArg (fun b => some (V.bool b)) ht) ?_)
          refine wU (gE rfl ?_)
          refine wU (gE rfl ?_)
          refine wN rfl ?_
          refine wN rfl ?_
          refine wN rfl ?_
          refine wU (gE rfl ?_)
          refine wOps.done ?_
          refine hK33 _ _ _ ?_
          clear hK33 K32
          first | refine WC.cond (b := false) rfl (fun hh => by simp at hh) (fun _ => ?_) | refine WC.cond rfl (fun hh => by simp_all) (fun _ => ?_)
          refine WC.skip ?_
          refine hK17 _ _ _ ?_
          clear hK17 K16
          refine WC.region ?_
          refine wU (gE rfl ?_)
          refine wU (gE rfl ?_)
          refine wU (gE rfl ?_)
          refine wOps.done ?_
          have ht : tbB s[i] = true := by simpa using c29
          exact ⟨(i + 1, w ++ [s[i]], acc, o2), rfl, by simp only; omega, ⟨by simp only; omega, by simp only; omega, ho3, by rw [← hG, gT_in hi ht], fun h => by simp only at h; omega⟩, (Ent.sub (sub_cons rfl (sub_cons rfl (sub_cons rfl (sub_cons (int_fit (by omega) (by omega) (by omega)) (sub_nil _)))))).trans (Ent.drop (List.sublist_append_left _ _))⟩
        · skip
          refine WC.skip ?_
          refine hK26 _ _ _ ?_
          clear hK26 K25
          refine WC.seq_k fun K34 hK35 => ?_
          skip
          refine WC.region ?_
          have ht : tbB s[i] = true := by simpa using c29
          refine wU (gE (v := .bool true) (congrArg (fun b => some (V.bool b)) ht) ?_)
          refine wU (gE rfl ?_)
          refine wU (gE rfl ?_)
          refine wN rfl ?_
          refine wN rfl ?_
          refine wN rfl ?_
          refine wU (gE rfl ?_)
          refine wOps.done ?_
          refine hK35 _ _ _ ?_
          clear hK35 K34
          first | refine WC.cond (b := false) rfl (fun hh => by simp at hh) (fun _ => ?_) | refine WC.cond rfl (fun hh => by simp_all) (fun _ => ?_)
          refine WC.skip ?_
          refine hK17 _ _ _ ?_
          clear hK17 K16
          refine WC.region ?_
          refine wU (gE rfl ?_)
          refine wU (gE rfl ?_)
          refine wU (gE rfl ?_)
          refine wOps.done ?_
          have ht : tbB s[i] = true := by simpa using c29
          have hw40 : ¬ w.length < 40 := by have := of_decide_eq_false c30; rw [tf_length] at this; omega
          have e4 := tf_full (c := s[i]) hw40
          refine ⟨(i + 1, w ++ [s[i]], acc, o), rfl, by simp only; omega, ⟨by simp only; omega, by simp only; omega, by rw [tf_full hw40]; exact ho, by rw [← hG, gT_in hi ht], fun h => by simp only at h; omega⟩, ?_⟩
          simp only
          rw [e4]
          exact Ent.sub (sub_cons rfl (sub_cons rfl (sub_cons rfl (sub_cons (int_fit (by omega) (by omega) (by omega)) (sub_nil _)))))
      · skip
        refine wN rfl ?_
        refine wN rfl ?_
        refine wU (gE rfl ?_)
        refine wOps.done ?_
        refine hK28 _ _ _ ?_
        clear hK28 K27
        first | refine WC.cond (b := false) rfl (fun hh => by simp at hh) (fun _ => ?_) | refine WC.cond rfl (fun hh => by simp_all) (fun _ => ?_)
        refine WC.skip ?_
        refine hK26 _ _ _ ?_
        clear hK26 K25
        refine WC.seq_k fun K36 hK37 => ?_
        skip
        refine WC.region ?_
        have ht : tbB s[i] = false := by simpa using c29
        refine wU (gE (v := .bool false) (congrArg (fun b => some (V.bool b)) ht) ?_)
        refine wU (gE rfl ?_)
        refine wU (gE rfl ?_)
        refine wY rfl (gE rfl ?_)
        refine wY rfl (gLen rfl (evLen_bs ho) (lenFits_bs tslice66) ?_)
        refine wY rfl (gE rfl ?_)
        refine wU (gE rfl ?_)
        refine wOps.done ?_
        refine hK37 _ _ _ ?_
        clear hK37 K36
        refine WC.cond rfl (fun c38 => ?_) (fun c38 => ?_)
        · skip
          refine WC.seq_k fun K39 hK40 => ?_
          refine WC.region ?_
          refine wU (gE rfl ?_)
          refine wU (gE rfl ?_)
          refine wU (gOfBs (s := o) (acc := tf w) (hx := []) tslice66 tint5 tisstr9 rfl rfl (fun _ _ _ => by simp) ho ?_)
          refine wU (gPure rfl isGo53 (withS_tri acc (tf w) (by omega)) ?_)
          refine wU (gE rfl ?_)
          refine wOps.done ?_
          refine hK40 _ _ _ ?_
          clear hK40 K39
          refine WC.region ?_
          refine wU (gBuildSlice (cs := []) tslice66 tsz5 tzero5 rfl (by simp [evFill, putL, zcells, vcells]) (by decide) (by decide) fun p2 hp2 => ?_)
          refine wU (gE rfl ?_)
          refine wOps.done ?_
          refine hK17 _ _ _ ?_
          clear hK17 K16
          refine WC.region ?_
          refine wU (gE rfl ?_)
          refine wU (gE rfl ?_)
          refine wU (gE rfl ?_)
          refine wOps.done ?_
          have ht : tbB s[i] = false := by simpa using c29
          have hw : w ≠ [] := by rintro rfl; simp [tf] at c38
          have hl := withS_length acc (tf w)
          exact ⟨(i + 1, [], withS acc (tf w), some (p2, 0)), rfl, by simp only; omega, ⟨by simp only; omega, by simp only; omega, fun h => by simp at h, by rw [← hG, gT_out hi ht, if_neg hw], fun h => rfl⟩, (Ent.sub (sub_cons rfl (sub_cons rfl (sub_cons rfl (sub_cons (int_fit (by omega) (by omega) (by omega)) (sub_nil _)))))).trans (Ent.drop (.cons_cons _ (List.nil_sublist _)))⟩
        · skip
          refine WC.skip ?_
          refine hK17 _ _ _ ?_
          clear hK17 K16
          refine WC.region ?_
          refine wU (gE rfl ?_)
          refine wU (gE rfl ?_)
          refine wU (gE rfl ?_)
          refine wOps.done ?_
          have ht : tbB s[i] = false := by simpa using c29
          have hw : w = [] := tf_nil (by simpa using c38)
          subst hw
          exact ⟨(i + 1, [], acc, o), rfl, by simp only; omega, ⟨by simp only; omega, by simp only; omega, ho, by rw [← hG, gT_out hi ht, if_pos rfl], fun h => rfl⟩, Ent.sub (sub_cons rfl (sub_cons rfl (sub_cons rfl (sub_cons (int_fit (by omega) (by omega) (by omega)) (sub_nil _)))))⟩
    · skip
      refine WC.skip ?_
      refine hK21 _ _ _ ?_
      clear hK21 K20
      refine WC.seq_k fun K41 hK42 => ?_
      refine WC.seq_k fun K43 hK44 => ?_
      refine WC.region ?_
      refine wU (gE rfl ?_)
      refine wU (gE rfl ?_)
      refine wN rfl ?_
      refine wN rfl ?_
      refine wN rfl ?_
      refine wU (gE rfl ?_)
      refine wOps.done ?_
      refine hK44 _ _ _ ?_
      clear hK44 K43
      first | refine WC.cond (b := false) rfl (fun hh => by simp at hh) (fun _ => ?_) | refine WC.cond rfl (fun hh => by simp_all) (fun _ => ?_)
      refine WC.skip ?_
      refine hK42 _ _ _ ?_
      clear hK42 K41
      refine WC.seq_k fun K45 hK46 => ?_
      skip
      refine WC.region ?_
      refine wU (gE rfl ?_)
      refine wU (gE rfl ?_)
      refine wU (gE rfl ?_)
      refine wY rfl (gE rfl ?_)
      refine wY rfl (gLen rfl (evLen_bs ho) (lenFits_bs tslice66) ?_)
      refine wY rfl (gE rfl ?_)
      refine wU (gE rfl ?_)
      refine wOps.done ?_
      refine hK46 _ _ _ ?_
      clear hK46 K45
      refine WC.cond rfl (fun c47 => ?_) (fun c47 => ?_)
      · skip
        refine WC.seq_k fun K48 hK49 => ?_
        refine WC.region ?_
        refine wU (gE rfl ?_)
        refine wU (gE rfl ?_)
        refine wU (gOfBs (s := o) (acc := tf w) (hx := []) tslice66 tint5 tisstr9 rfl rfl (fun _ _ _ => by simp) ho ?_)
        refine wU (gPure rfl isGo53 (withS_tri acc (tf w) (by omega)) ?_)
        refine wU (gE rfl ?_)
        refine wOps.done ?_
        refine hK49 _ _ _ ?_
        clear hK49 K48
        refine WC.region ?_
        refine wU (gBuildSlice (cs := []) tslice66 tsz5 tzero5 rfl (by simp [evFill, putL, zcells, vcells]) (by decide) (by decide) fun p2 hp2 => ?_)
        refine wU (gE rfl ?_)
        refine wOps.done ?_
        refine hK17 _ _ _ ?_
        clear hK17 K16
        refine WC.region ?_
        refine wU (gE rfl ?_)
        refine wU (gE rfl ?_)
        refine wU (gE rfl ?_)
        refine wOps.done ?_
        have he : i = s.length := by have := of_decide_eq_false c24; have := of_decide_eq_true c15; omega
        have hw : w ≠ [] := by rintro rfl; simp [tf] at c47
        have hl := withS_length acc (tf w)
        exact ⟨(i + 1, [], withS acc (tf w), some (p2, 0)), rfl, by simp only; omega, ⟨by simp only; omega, by simp only; omega, fun h => by simp at h, by rw [← hG, he, gT_end, if_neg hw], fun h => rfl⟩, (Ent.sub (sub_cons rfl (sub_cons rfl (sub_cons rfl (sub_cons (int_fit (by omega) (by omega) (by omega)) (sub_nil _)))))).trans (Ent.drop (.cons_cons _ (List.nil_sublist _)))⟩
      · skip
        refine WC.skip ?_
        refine hK17 _ _ _ ?_
        clear hK17 K16
        refine WC.region ?_
        refine wU (gE rfl ?_)
        refine wU (gE rfl ?_)
        refine wU (gE rfl ?_)
        refine wOps.done ?_
        have he : i = s.length := by have := of_decide_eq_false c24; have := of_decide_eq_true c15; omega
        have hw : w = [] := tf_nil (by simpa using c47)
        subst hw
        exact ⟨(i + 1, [], acc, o), rfl, by simp only; omega, ⟨by simp only; omega, by simp only; omega, ho, by rw [← hG, he, gT_end, if_pos rfl], fun h => rfl⟩, Ent.sub (sub_cons rfl (sub_cons rfl (sub_cons rfl (sub_cons (int_fit (by omega) (by omega) (by omega)) (sub_nil _)))))⟩
  · skip
    refine WC.exit ?_
    refine hK8 _ _ _ ?_
    clear hK12 K11 hK8 K7
    refine WC.seq_k fun K50 hK51 => ?_
    refine WC.region ?_
    refine wU (gE rfl ?_)
    refine wU (gE rfl ?_)
    refine wOps.done ?_
    refine hK51 _ _ _ ?_
    clear hK51 K50
    refine WC.ret ?_
    have he : i = s.length + 1 := by have := of_decide_eq_false c15; omega
    have hw := hlast he
    subst hw
    rw [he] at hG
    unfold gT at hG
    rw [List.drop_of_length_le (by omega)] at hG
    exact ⟨_, rfl, by unfold rawTerms; exact congrArg ssl hG⟩
end Go.Proofs.YtfdmdcpopmcmcaaGreatDoor
end

section
namespace Go.Proofs.YtfdmdcpopmcmcaaGreatDoor
open Go.Fw
variable [Gl]
theorem isGo37 : isGo Tryz.prog 37 = true := by kernel_rfl
theorem isGo38 : isGo Tryz.prog 38 = true := by kernel_rfl
theorem isGo39 : isGo Tryz.prog 39 = true := by kernel_rfl
theorem isGo40 : isGo Tryz.prog 40 = true := by kernel_rfl
theorem isGo41 : isGo Tryz.prog 41 = true := by kernel_rfl
set_option maxRecDepth 20000
theorem VLe.emp {b o c : Nat} : VLe (.slice b o 0 c) (.fslice [] 0) := fun F x h => by
  rw [h.slice_inv]
  exact .fslice [] 0 _ _ (fun _ => undef) (Nat.zero_le _) (fun i hi => by simp at hi) (fun i v hv => by simp at hv)
def kV : Option Nat → V
  | none => .int .i64 (-1)
  | some k => .int .i64 (k : Nat)
theorem withL_len (l : List Lb) (k v : By) : (withL l k v).length ≤ l.length + 1 := by
  unfold withL
  have := dropN_len l k
  split
  · omega
  · unfold insW
    rw [List.length_append, List.length_cons, ← Nat.add_assoc, ← List.length_append, List.takeWhile_append_dropWhile]
    omega
theorem tw_head {s : By} {k : Nat} {h : k < s.length} (hk : k < (s.takeWhile (· != 32)).length) : ((s.takeWhile (· != 32)).drop k).head? = some s[k] := by
  have e := tw_take (· != 32) s
  rw [List.head?_drop, ← e, List.getElem?_take_of_lt hk, List.getElem?_eq_getElem h]
theorem refP_new {f n : Nat} {rest k v : By} {out : List Lb} {lg : Bool} (h0 : rest ≠ []) (h : fieldL rest = ((k, v), n, true)) (hk : k ≠ []) (hv : v ≠ []) (hg : getL out k = []) : refP (f + 1) rest out lg = refP f ((rest.drop n).drop 1) (withL out k v) (lg || decide (200 < v.length)) := by
  rw [refP, if_neg h0, h]
  simp only
  rw [if_neg (by simp), if_pos (And.intro hk (And.intro hv hg))]
theorem refP_old {f n : Nat} {rest k v : By} {out : List Lb} {lg : Bool} (h0 : rest ≠ []) (h : fieldL rest = ((k, v), n, true)) (hn : ¬ (k ≠ [] ∧ v ≠ [] ∧ getL out k = [])) : refP (f + 1) rest out lg = refP f ((rest.drop n).drop 1) out lg := by
  rw [refP, if_neg h0, h]
  simp only
  rw [if_neg (by simp), if_neg hn]
theorem refP_bad {f : Nat} {rest : By} {out : List Lb} {lg : Bool} (h0 : rest ≠ []) (h : fieldL rest = (([], []), 0, false)) : refP (f + 1) rest out lg = none := by
  rw [refP, if_neg h0, h]
  rfl
theorem refParse_tri0 (s : By) (hs : s.length ≤ 900000) : Tri Tryz.prog 11 [.str s] [] fun v h' => (∃ p e, v = .tup [.slice p 0 0 0, .int .i64 e] ∧ refL s = ([], e)) ∨ (∃ l, v = .tup [lsl l, .int .i64 0] ∧ refL s = (l, 0)) := by
  refine Tri.of_wc Tryz.func11 rfl Tryz.results11 Tryz.ntmps11 (by simp) ?_
  refine WC.seq_k fun K1 hK2 => ?_
  refine WC.region ?_
  refine wU (gE rfl ?_)
  refine wU (gE rfl ?_)
  refine wOps.done ?_
  refine hK2 _ _ _ ?_
  clear hK2 K1
  refine WC.seq_k fun K3 hK4 => ?_
  refine WC.seq_k fun K5 hK6 => ?_
  refine WC.region ?_
  refine wU (gE rfl ?_)
  refine wU (gLen rfl rfl tisstr9 ?_)
  refine wU (gE rfl ?_)
  refine wOps.done ?_
  refine hK6 _ _ _ ?_
  clear hK6 K5
  refine WC.cond rfl (fun c7 => ?_) (fun c7 => ?_)
  · skip
    refine WC.seq_k fun K8 hK9 => ?_
    skip
    refine WC.region ?_
    refine wU (gBuildSlice (cs := []) tslice22 tsz51 tzero51 rfl (by simp [evFill, putL, zcells, vcells]) (by decide) (by decide) fun p0 hp0 => ?_)
    refine wU (gE rfl ?_)
    refine wU (gE rfl ?_)
    refine wOps.done ?_
    refine hK9 _ _ _ ?_
    clear hK9 K8
    refine WC.ret ?_
    exact ⟨_, rfl, .inl ⟨_, 4, rfl, by unfold refL; rw [if_pos (by have := of_decide_eq_true c7; omega)]⟩⟩
  · skip
    refine WC.skip ?_
    refine hK4 _ _ _ ?_
    clear hK4 K3
    refine WC.seq_k fun K10 hK11 => ?_
    have h1000 : ¬ 1000 < s.length := by have := of_decide_eq_false c7; omega
    refine WC.region ?_
    refine wU (gBuildSlice (cs := []) tslice22 tsz51 tzero51 rfl (by simp [evFill, putL, zcells, vcells]) (by decide) (by decide) fun p1 hp1 => ?_)
    refine wU (gE rfl ?_)
    refine wOps.done ?_
    refine hK11 _ _ _ ?_
    clear hK11 K10
    refine WC.seq_k fun K12 hK13 => ?_
    refine WC.ent (t' := frL [(0, .str s), (4, lsl [])]) (h' := []) ((Ent.weak (le_cons rfl (VLe.refl _) (le_cons rfl VLe.emp (le_nil _)))).trans (Ent.drop (List.nil_sublist _))) ?_
    refine WC.region ?_
    refine wU (gE rfl ?_)
    refine wOps.done ?_
    refine hK13 _ _ _ ?_
    clear hK13 K12
    refine WC.seq_k fun K14 hK15 => ?_
    refine WC.seq_k fun K16 hK17 => ?_
    refine WC.region ?_
    refine wU (gE rfl ?_)
    refine wU (gE rfl ?_)
    refine wOps.done ?_
    refine hK17 _ _ _ ?_
    clear hK17 K16
    refine WC.block ?_
    refine WC.loopI (α := Nat × By × List Lb × Bool) (fun a => [(4, lsl a.2.2.1), (5, .bool a.2.2.2), (6, .str a.2.1)]) (fun _ => []) (fun a => a.2.1.length) (fun a => a.2.1.length ≤ a.1 ∧ a.2.1.length + a.2.2.1.length ≤ s.length ∧ refP s.length s [] false = refP a.1 a.2.1 a.2.2.1 a.2.2.2) (s.length, s, [], false) ?_ ?_ ?_ ?_
    · exact sub_cons rfl (sub_cons rfl (sub_cons rfl (sub_nil _)))
    · exact Ent.refl _ _
    · exact ⟨Nat.le_refl _, by simp, rfl⟩
    rintro ⟨f0, rest, out, lg⟩ ⟨hf0, hlen, hP⟩
    simp only at hf0 hlen hP ⊢
    refine WC.seq_k fun K18 hK19 => ?_
    refine WC.seq_k fun K20 hK21 => ?_
    refine WC.region ?_
    refine wU (gE rfl ?_)
    refine wU (gE rfl ?_)
    refine wOps.done ?_
    refine hK21 _ _ _ ?_
    clear hK21 K20
    refine WC.cond rfl (fun c22 => ?_) (fun c22 => ?_)
    · skip
      refine WC.skip ?_
      refine hK19 _ _ _ ?_
      clear hK19 K18
      refine WC.block ?_
      refine WC.seq_k fun K23 hK24 => ?_
      have hne0 : rest ≠ [] := by simpa using c22
      obtain ⟨f, rfl⟩ : ∃ f, f0 = f + 1 := ⟨f0 - 1, by have := List.length_pos_iff.2 hne0; omega⟩
      have hwl := tw_le (· != 32) rest
      refine WC.region ?_
      refine wU (gE rfl ?_)
      refine wU (gPure rfl isGo37 (equals_tri rest (by omega)) ?_)
      refine wU (gE rfl ?_)
      refine wOps.done ?_
      refine hK24 _ _ _ ?_
      clear hK24 K23
      refine WC.seq_k fun K25 hK26 => ?_
      refine WC.region ?_
      refine wU (gE rfl ?_)
      refine wU (gPure rfl isGo38 (plain_tri rest (by omega)) ?_)
      refine wU (gE rfl ?_)
      refine wU (gE rfl ?_)
      refine wOps.done ?_
      refine hK26 _ _ _ ?_
      clear hK26 K25
      refine WC.seq_k fun K27 hK28 => ?_
      refine WC.seq_k fun K29 hK30 => ?_
      rcases eq_cases rest with ⟨hk, hf⟩ | ⟨kk, hk, hk1, -, hne, hf⟩ <;> rw [hk] <;> generalize hn : (rest.takeWhile (· != 32)).length = n at *
      · skip
        skip
        refine WC.region ?_
        refine wU (gE rfl ?_)
        refine wU (gE (v := .bool false) rfl ?_)
        refine wOps.done ?_
        refine hK30 _ _ _ ?_
        clear hK30 K29
        first | refine WC.cond (b := false) rfl (fun hh => by simp at hh) (fun _ => ?_) | refine WC.cond rfl (fun hh => by simp_all) (fun _ => ?_)
        refine WC.skip ?_
        refine hK28 _ _ _ ?_
        clear hK28 K27
        refine WC.seq_cut (α := Option Nat × Nat × By) (fun a => [(4, lsl out), (5, .bool lg), (6, .str rest), (7, kV a.1), (8, .int .i64 (a.2.1 : Nat)), (9, .str a.2.2)]) (fun _ => []) (fun a => (match a.1 with | none => fieldL rest = (([], a.2.2), a.2.1, true) | some kk => fieldL rest = ((rest.take kk, a.2.2), a.2.1, true) ∧ rest.take kk ≠ [] ∧ kk ≤ rest.length) ∧ a.2.1 ≤ rest.length) ?_ ?_
        · skip
          refine WC.seq_k fun K31 hK32 => ?_
          refine WC.region ?_
          refine wU (gE rfl ?_)
          refine wU (gE (v := .bool false) rfl ?_)
          refine wU (gE rfl ?_)
          refine wN rfl ?_
          refine wN rfl ?_
          refine wN rfl ?_
          refine wN rfl ?_
          refine wU (gE rfl ?_)
          refine wU (gE rfl ?_)
          refine wN rfl ?_
          refine wN rfl ?_
          refine wN rfl ?_
          refine wN rfl ?_
          refine wN rfl ?_
          refine wU (gE rfl ?_)
          refine wOps.done ?_
          refine hK32 _ _ _ ?_
          clear hK32 K31
          first | refine WC.cond (b := false) rfl (fun hh => by simp at hh) (fun _ => ?_) | refine WC.cond rfl (fun hh => by simp_all) (fun _ => ?_)
          refine WC.skip ?_
          exact ⟨(none, n, []), rfl, ⟨hf, hwl⟩, Ent.sub (sub_cons rfl (sub_cons rfl (sub_cons rfl (sub_cons rfl (sub_cons rfl (sub_cons rfl (sub_nil _)))))))⟩
        rintro ⟨ko, n, value⟩ ⟨hI, hnl⟩
        simp only at hI hnl ⊢
        refine WC.seq_cut (α := List Lb × Bool) (fun a => [(4, lsl a.1), (5, .bool a.2), (6, .str rest), (8, .int .i64 (n : Nat))]) (fun _ => []) (fun a => refP (f + 1) rest out lg = refP f ((rest.drop n).drop 1) a.1 a.2 ∧ a.1.length ≤ out.length + 1) ?_ ?_
        · skip
          refine WC.seq_k fun K33 hK34 => ?_
          rcases ko with _ | kk <;> simp only [kV] at hI ⊢
          · skip
            skip
            refine WC.region ?_
            refine wU (gE rfl ?_)
            refine wU (gE (v := .bool false) rfl ?_)
            refine wU (gE rfl ?_)
            refine wN rfl ?_
            refine wN rfl ?_
            refine wU (gE rfl ?_)
            refine wU (gE rfl ?_)
            refine wN rfl ?_
            refine wN rfl ?_
            refine wN rfl ?_
            refine wN rfl ?_
            refine wN rfl ?_
            refine wN rfl ?_
            refine wU (gE rfl ?_)
            refine wOps.done ?_
            refine hK34 _ _ _ ?_
            clear hK34 K33
            first | refine WC.cond (b := false) rfl (fun hh => by simp at hh) (fun _ => ?_) | refine WC.cond rfl (fun hh => by simp_all) (fun _ => ?_)
            refine WC.skip ?_
            exact ⟨(out, lg), rfl, ⟨refP_old hne0 hI (fun h => h.1 rfl), by simp only; omega⟩, Ent.sub (sub_cons rfl (sub_cons rfl (sub_cons rfl (sub_cons rfl (sub_nil _)))))⟩
          · skip
            skip
            refine WC.region ?_
            refine wU (gE rfl ?_)
            refine wU (gE (v := .bool true) (show some (V.bool (decide ((0 : Int) ≤ (kk : Int)))) = some (V.bool true) by simp) ?_)
            refine wU (gE rfl ?_)
            refine wY rfl (gE rfl ?_)
            refine wY rfl (gE rfl ?_)
            refine wU (gE rfl ?_)
            refine wU (gE rfl ?_)
            refine wG rfl rfl rfl rfl (by decide) (fun c35 => ?_) (fun c35 => ?_)
            · skip
              refine gE rfl ?_
              refine wY rfl (gE rfl ?_)
              refine wY rfl (gE rfl ?_)
              refine wY rfl (gSliceStr (lo := none) tisstr9 rfl rfl rfl (by simp) (by simp; omega) ?_)
              simp only [Option.getD_none, Option.getD_some, List.drop_zero, Nat.sub_zero, Int.toNat_natCast]
              refine wY rfl (gPure rfl isGo40 (get5_tri out (rest.take kk) (by omega)) ?_)
              refine wY rfl (gE rfl ?_)
              refine wU (gE rfl ?_)
              refine wOps.done ?_
              refine hK34 _ _ _ ?_
              clear hK34 K33
              refine WC.cond rfl (fun c36 => ?_) (fun c36 => ?_)
              · skip
                refine WC.seq_k fun K37 hK38 => ?_
                cases lg
                · skip
                  skip
                  skip
                  refine WC.region ?_
                  refine wU (gE rfl ?_)
                  refine wU (gE rfl ?_)
                  refine wY rfl (gE rfl ?_)
                  refine wY rfl (gLen rfl rfl tisstr9 ?_)
                  refine wY rfl (gE rfl ?_)
                  refine wU (gE rfl ?_)
                  refine wU (gE rfl ?_)
                  refine wOps.done ?_
                  refine hK38 _ _ _ ?_
                  clear hK38 K37
                  refine WC.region ?_
                  refine wU (gE rfl ?_)
                  refine wU (gE rfl ?_)
                  refine wU (gE rfl ?_)
                  refine wU (gSliceStr (lo := none) tisstr9 rfl rfl rfl (by simp) (by simp; omega) ?_)
                  simp only [Option.getD_none, Option.getD_some, List.drop_zero, Nat.sub_zero, Int.toNat_natCast]
                  refine wU (gE rfl ?_)
                  refine wU (gPure rfl isGo41 (with5_tri out (rest.take kk) value (by omega)) ?_)
                  refine wU (gE rfl ?_)
                  refine wOps.done ?_
                  have hval : value ≠ [] := by simpa using c35
                  have hget0 : getL out (rest.take kk) = [] := by simpa using c36
                  have hwlen := withL_len out (rest.take kk) value
                  exact ⟨(withL out (rest.take kk) value, decide (200 < value.length)), rfl, ⟨refP_new hne0 hI.1 hI.2.1 hval hget0, hwlen⟩, Ent.sub (sub_cons rfl (sub_cons (congrArg (fun b => some (V.bool b)) (by rw [decide_eq_decide]; omega)) (sub_cons rfl (sub_cons rfl (sub_nil _)))))⟩
                · skip
                  skip
                  skip
                  refine WC.region ?_
                  refine wU (gE rfl ?_)
                  refine wU (gE rfl ?_)
                  refine wN rfl ?_
                  refine wN rfl ?_
                  refine wN rfl ?_
                  refine wU (gE rfl ?_)
                  refine wU (gE rfl ?_)
                  refine wOps.done ?_
                  refine hK38 _ _ _ ?_
                  clear hK38 K37
                  refine WC.region ?_
                  refine wU (gE rfl ?_)
                  refine wU (gE rfl ?_)
                  refine wU (gE rfl ?_)
                  refine wU (gSliceStr (lo := none) tisstr9 rfl rfl rfl (by simp) (by simp; omega) ?_)
                  simp only [Option.getD_none, Option.getD_some, List.drop_zero, Nat.sub_zero, Int.toNat_natCast]
                  refine wU (gE rfl ?_)
                  refine wU (gPure rfl isGo41 (with5_tri out (rest.take kk) value (by omega)) ?_)
                  refine wU (gE rfl ?_)
                  refine wOps.done ?_
                  have hval : value ≠ [] := by simpa using c35
                  have hget0 : getL out (rest.take kk) = [] := by simpa using c36
                  have hwlen := withL_len out (rest.take kk) value
                  exact ⟨(withL out (rest.take kk) value, true), rfl, ⟨refP_new hne0 hI.1 hI.2.1 hval hget0, hwlen⟩, Ent.sub (sub_cons rfl (sub_cons rfl (sub_cons rfl (sub_cons rfl (sub_nil _)))))⟩
              · skip
                refine WC.skip ?_
                exact ⟨(out, lg), rfl, ⟨refP_old hne0 hI.1 (fun h => (show ¬ getL out (rest.take kk) = [] by simpa using c36) h.2.2), by simp only; omega⟩, Ent.sub (sub_cons rfl (sub_cons rfl (sub_cons rfl (sub_cons rfl (sub_nil _)))))⟩
            · skip
              refine wN rfl ?_
              refine wN rfl ?_
              refine wN rfl ?_
              refine wN rfl ?_
              refine wN rfl ?_
              refine wU (gE rfl ?_)
              refine wOps.done ?_
              refine hK34 _ _ _ ?_
              clear hK34 K33
              first | refine WC.cond (b := false) rfl (fun hh => by simp at hh) (fun _ => ?_) | refine WC.cond rfl (fun hh => by simp_all) (fun _ => ?_)
              refine WC.skip ?_
              exact ⟨(out, lg), rfl, ⟨refP_old hne0 hI.1 (fun h => h.2.1 (by simpa using c35)), by simp only; omega⟩, Ent.sub (sub_cons rfl (sub_cons rfl (sub_cons rfl (sub_cons rfl (sub_nil _)))))⟩
        rintro ⟨out2, lg2⟩ ⟨hI2, hl2⟩
        simp only at hI2 hl2 ⊢
        refine WC.seq_k fun K39 hK40 => ?_
        refine WC.region ?_
        refine wU (gE rfl ?_)
        refine wU (gE rfl ?_)
        refine wU (gSliceStr (hi := none) tisstr9 rfl rfl rfl (by simp; omega) (by simp) ?_)
        have ev3 : (rest.drop n).take (rest.length - n) = rest.drop n := List.take_of_length_le (by simp)
        simp only [Option.getD_none, Option.getD_some, List.drop_zero, Nat.sub_zero, Int.toNat_natCast, ev3]
        refine wU (gE rfl ?_)
        refine wOps.done ?_
        refine hK40 _ _ _ ?_
        clear hK40 K39
        refine WC.seq_k fun K41 hK42 => ?_
        refine WC.region ?_
        refine wU (gE rfl ?_)
        refine wU (gE rfl ?_)
        refine wOps.done ?_
        refine hK42 _ _ _ ?_
        clear hK42 K41
        refine WC.cond rfl (fun c43 => ?_) (fun c43 => ?_)
        · skip
          refine WC.region ?_
          refine wU (gE rfl ?_)
          have hd1 : 1 ≤ (rest.drop n).length := by have h0 : rest.drop n ≠ [] := (by simpa using c43); have := List.length_pos_iff.2 h0; omega
          refine wU (gSliceStr (l := some 1) (hi := none) tisstr9 rfl rfl rfl hd1 (Nat.le_refl _) ?_)
          have ev4 : ((rest.drop n).drop 1).take ((rest.drop n).length - 1) = (rest.drop n).drop 1 := List.take_of_length_le (by simp only [List.length_drop]; omega)
          simp only [Option.getD_none, Option.getD_some, List.drop_zero, Nat.sub_zero, Int.toNat_natCast, ev4]
          refine wU (gE rfl ?_)
          refine wOps.done ?_
          have hpos := List.length_pos_iff.2 hne0
          have hl3 : ((rest.drop n).drop 1).length < rest.length := by simp only [List.length_drop]; omega
          exact ⟨(f, (rest.drop n).drop 1, out2, lg2), rfl, hl3, ⟨by simp only; omega, by simp only; omega, hP.trans hI2⟩, Ent.sub (sub_cons rfl (sub_cons rfl (sub_cons rfl (sub_nil _))))⟩
        · skip
          refine WC.skip ?_
          have hpos := List.length_pos_iff.2 hne0
          have hl3 : ((rest.drop n).drop 1).length < rest.length := by simp only [List.length_drop]; omega
          have h0 : rest.drop n = [] := by simpa using c43
          exact ⟨(f, (rest.drop n).drop 1, out2, lg2), rfl, hl3, ⟨by simp only; omega, by simp only; omega, hP.trans hI2⟩, Ent.sub (sub_cons rfl (sub_cons rfl (sub_cons (show some (V.str (rest.drop n)) = some (V.str ((rest.drop n).drop 1)) by rw [h0]; rfl) (sub_nil _))))⟩
      · skip
        skip
        refine WC.region ?_
        refine wU (gE rfl ?_)
        refine wU (gE (v := .bool true) (show some (V.bool (decide ((0 : Int) ≤ (kk : Int)))) = some (V.bool true) by simp) ?_)
        refine wOps.done ?_
        refine hK30 _ _ _ ?_
        clear hK30 K29
        first | refine WC.cond (b := true) rfl (fun _ => ?_) (fun hh => by simp at hh) | refine WC.cond rfl (fun _ => ?_) (fun hh => by simp_all)
        refine WC.region ?_
        refine wU (gE rfl ?_)
        refine wU (gE rfl ?_)
        refine wU (gE (v := .int .i64 ((kk + 1 : Nat) : Int)) (int_fit (by omega) (by omega) (by omega)) ?_)
        refine wU (gE rfl ?_)
        refine wU (gSliceStr tisstr9 rfl rfl rfl (by simp; omega) (by simp; omega) ?_)
        have ev : (rest.drop (kk + 1)).take (n - (kk + 1)) = (rest.takeWhile (· != 32)).drop (kk + 1) := by rw [← List.drop_take, ← hn, tw_take]
        simp only [Option.getD_none, Option.getD_some, List.drop_zero, Nat.sub_zero, Int.toNat_natCast, ev]
        refine wU (gE rfl ?_)
        refine wOps.done ?_
        refine hK28 _ _ _ ?_
        clear hK28 K27
        refine WC.seq_cut (α := Option Nat × Nat × By) (fun a => [(4, lsl out), (5, .bool lg), (6, .str rest), (7, kV a.1), (8, .int .i64 (a.2.1 : Nat)), (9, .str a.2.2)]) (fun _ => []) (fun a => (match a.1 with | none => fieldL rest = (([], a.2.2), a.2.1, true) | some kk => fieldL rest = ((rest.take kk, a.2.2), a.2.1, true) ∧ rest.take kk ≠ [] ∧ kk ≤ rest.length) ∧ a.2.1 ≤ rest.length) ?_ ?_
        · skip
          refine WC.seq_k fun K44 hK45 => ?_
          refine WC.region ?_
          refine wU (gE rfl ?_)
          refine wU (gE (v := .bool true) (show some (V.bool (decide ((0 : Int) ≤ (kk : Int)))) = some (V.bool true) by simp) ?_)
          refine wU (gE rfl ?_)
          refine wY rfl (gE rfl ?_)
          refine wY rfl (gE (v := .int .i64 ((kk + 1 : Nat) : Int)) (int_fit (by omega) (by omega) (by omega)) ?_)
          refine wY rfl (gE rfl ?_)
          refine wY rfl (gE rfl ?_)
          refine wU (gE rfl ?_)
          refine wU (gE rfl ?_)
          refine wG rfl rfl rfl rfl (by decide) (fun c46 => ?_) (fun c46 => ?_)
          · skip
            refine gE rfl ?_
            refine wY rfl (gE rfl ?_)
            refine wY rfl (gE (v := .int .i64 ((kk + 1 : Nat) : Int)) (int_fit (by omega) (by omega) (by omega)) ?_)
            have hlt : kk + 1 < n := by have := of_decide_eq_true c46; omega
            have hlr : kk + 1 < rest.length := by omega
            refine wY rfl (gIdxStr tisstr9 rfl rfl (by omega) (str_at hlr) ?_)
            refine wY rfl (gE rfl ?_)
            refine wU (gE rfl ?_)
            refine wOps.done ?_
            refine hK45 _ _ _ ?_
            clear hK45 K44
            refine WC.cond rfl (fun c47 => ?_) (fun c47 => ?_)
            · skip
              refine WC.seq_k fun K48 hK49 => ?_
              refine WC.region ?_
              refine wU (gE rfl ?_)
              refine wU (gE rfl ?_)
              refine wU (gE (v := .int .i64 ((kk + 2 : Nat) : Int)) (int_fit (by omega) (by omega) (by omega)) ?_)
              refine wU (gSliceStr (hi := none) tisstr9 rfl rfl rfl (by simp; omega) (by simp) ?_)
              have ev2 : (rest.drop (kk + 2)).take (rest.length - (kk + 2)) = rest.drop (kk + 2) := List.take_of_length_le (by simp)
              simp only [Option.getD_none, Option.getD_some, List.drop_zero, Nat.sub_zero, Int.toNat_natCast, ev2]
              have h34 : rest[kk + 1] = 34 := by simpa [u8_34] using c47
              have hq34 : ((rest.takeWhile (· != 32)).drop (kk + 1)).head? = some 34 := (tw_head (h := hlr) (by omega)).trans (congrArg some h34)
              refine wU (gCall (by rfl) (@CallS.mono _ Tryz.prog 39 _ _ _ _ (@CallS.of_tri _ Tryz.prog 39 _ _ _ isGo39 (quoted_tri (rest.drop (kk + 2)) (by simp; omega))) ?_))
              rintro v1 h1 ⟨x, m, rfl, hqx⟩
              refine wU (gE rfl ?_)
              refine wU (gE rfl ?_)
              refine wU (gE rfl ?_)
              refine wU (gE rfl ?_)
              refine wU (gE rfl ?_)
              refine wU (gE rfl ?_)
              refine wU (gE rfl ?_)
              refine wOps.done ?_
              refine hK49 _ _ _ ?_
              clear hK49 K48
              refine WC.seq_k fun K50 hK51 => ?_
              refine WC.seq_k fun K52 hK53 => ?_
              refine WC.region ?_
              refine wU (gE rfl ?_)
              refine wU (gE rfl ?_)
              refine wOps.done ?_
              refine hK53 _ _ _ ?_
              clear hK53 K52
              refine WC.cond rfl (fun c54 => ?_) (fun c54 => ?_)
              · skip
                refine WC.seq_k fun K55 hK56 => ?_
                skip
                refine WC.region ?_
                refine wU (gBuildSlice (cs := []) tslice22 tsz51 tzero51 rfl (by simp [evFill, putL, zcells, vcells]) (by decide) (by decide) fun p2 hp2 => ?_)
                refine wU (gE rfl ?_)
                refine wU (gE rfl ?_)
                refine wOps.done ?_
                refine hK56 _ _ _ ?_
                clear hK56 K55
                refine WC.ret ?_
                have hqf : quoG (rest.drop (kk + 2)) = false := by simpa using c54
                rw [if_pos hq34, if_neg (by rw [hqf]; simp)] at hf
                have hnone : refP s.length s [] false = none := hP.trans (refP_bad hne0 hf)
                exact ⟨_, rfl, .inl ⟨_, 3, rfl, by unfold refL; rw [if_neg h1000, hnone]⟩⟩
              · skip
                refine WC.skip ?_
                refine hK51 _ _ _ ?_
                clear hK51 K50
                skip
                refine WC.region ?_
                refine wU (gE rfl ?_)
                refine wU (gE (v := .int .i64 ((kk + 2 : Nat) : Int)) (int_fit (by omega) (by omega) (by omega)) ?_)
                refine wU (gE rfl ?_)
                have hqt : quoG (rest.drop (kk + 2)) = true := by simpa using c54
                obtain ⟨rfl, rfl⟩ := hqx hqt
                have hus := (unq_size (rest.drop (kk + 2)) [] 0).2
                rw [List.length_drop] at hus
                refine wU (gE (v := .int .i64 (((unq (rest.drop (kk + 2)) [] 0).2.1 + (kk + 2) : Nat) : Int)) (int_fit (by omega) (by omega) (by omega)) ?_)
                refine wU (gE rfl ?_)
                refine wU (gE rfl ?_)
                refine wU (gE rfl ?_)
                refine wOps.done ?_
                rw [if_pos hq34, if_pos hqt] at hf
                exact ⟨(some kk, (unq (rest.drop (kk + 2)) [] 0).2.1 + (kk + 2), (unq (rest.drop (kk + 2)) [] 0).1), rfl, ⟨⟨hf, hne, by omega⟩, by simp only; omega⟩, (Ent.sub (sub_cons rfl (sub_cons rfl (sub_cons rfl (sub_cons rfl (sub_cons rfl (sub_cons rfl (sub_nil _)))))))).trans (Ent.drop (List.nil_sublist _))⟩
            · skip
              refine WC.skip ?_
              have h34 : rest[kk + 1] ≠ 34 := by simpa [u8_34] using c47
              have hnq : ((rest.takeWhile (· != 32)).drop (kk + 1)).head? ≠ some 34 := by rw [tw_head (h := hlr) (by omega)]; simpa using h34
              rw [if_neg hnq] at hf
              exact ⟨(some kk, n, (rest.takeWhile (· != 32)).drop (kk + 1)), rfl, ⟨⟨hf, hne, by omega⟩, hwl⟩, Ent.sub (sub_cons rfl (sub_cons rfl (sub_cons rfl (sub_cons rfl (sub_cons rfl (sub_cons rfl (sub_nil _)))))))⟩
          · skip
            refine wN rfl ?_
            refine wN rfl ?_
            refine wN rfl ?_
            refine wN rfl ?_
            refine wU (gE rfl ?_)
            refine wOps.done ?_
            refine hK45 _ _ _ ?_
            clear hK45 K44
            first | refine WC.cond (b := false) rfl (fun hh => by simp at hh) (fun _ => ?_) | refine WC.cond rfl (fun hh => by simp_all) (fun _ => ?_)
            refine WC.skip ?_
            have hnq : ((rest.takeWhile (· != 32)).drop (kk + 1)).head? ≠ some 34 := by rw [List.drop_of_length_le (by have := of_decide_eq_false c46; omega)]; simp
            rw [if_neg hnq] at hf
            exact ⟨(some kk, n, (rest.takeWhile (· != 32)).drop (kk + 1)), rfl, ⟨⟨hf, hne, by omega⟩, hwl⟩, Ent.sub (sub_cons rfl (sub_cons rfl (sub_cons rfl (sub_cons rfl (sub_cons rfl (sub_cons rfl (sub_nil _)))))))⟩
        rintro ⟨ko, n, value⟩ ⟨hI, hnl⟩
        simp only at hI hnl ⊢
        refine WC.seq_cut (α := List Lb × Bool) (fun a => [(4, lsl a.1), (5, .bool a.2), (6, .str rest), (8, .int .i64 (n : Nat))]) (fun _ => []) (fun a => refP (f + 1) rest out lg = refP f ((rest.drop n).drop 1) a.1 a.2 ∧ a.1.length ≤ out.length + 1) ?_ ?_
        · skip
          refine WC.seq_k fun K57 hK58 => ?_
          rcases ko with _ | kk <;> simp only [kV] at hI ⊢
          · skip
            skip
            refine WC.region ?_
            refine wU (gE rfl ?_)
            refine wU (gE (v := .bool false) rfl ?_)
            refine wU (gE rfl ?_)
            refine wN rfl ?_
            refine wN rfl ?_
            refine wU (gE rfl ?_)
            refine wU (gE rfl ?_)
            refine wN rfl ?_
            refine wN rfl ?_
            refine wN rfl ?_
            refine wN rfl ?_
            refine wN rfl ?_
            refine wN rfl ?_
            refine wU (gE rfl ?_)
            refine wOps.done ?_
            refine hK58 _ _ _ ?_
            clear hK58 K57
            first | refine WC.cond (b := false) rfl (fun hh => by simp at hh) (fun _ => ?_) | refine WC.cond rfl (fun hh => by simp_all) (fun _ => ?_)
            refine WC.skip ?_
            exact ⟨(out, lg), rfl, ⟨refP_old hne0 hI (fun h => h.1 rfl), by simp only; omega⟩, Ent.sub (sub_cons rfl (sub_cons rfl (sub_cons rfl (sub_cons rfl (sub_nil _)))))⟩
          · skip
            skip
            refine WC.region ?_
            refine wU (gE rfl ?_)
            refine wU (gE (v := .bool true) (show some (V.bool (decide ((0 : Int) ≤ (kk : Int)))) = some (V.bool true) by simp) ?_)
            refine wU (gE rfl ?_)
            refine wY rfl (gE rfl ?_)
            refine wY rfl (gE rfl ?_)
            refine wU (gE rfl ?_)
            refine wU (gE rfl ?_)
            refine wG rfl rfl rfl rfl (by decide) (fun c59 => ?_) (fun c59 => ?_)
            · skip
              refine gE rfl ?_
              refine wY rfl (gE rfl ?_)
              refine wY rfl (gE rfl ?_)
              refine wY rfl (gSliceStr (lo := none) tisstr9 rfl rfl rfl (by simp) (by simp; omega) ?_)
              simp only [Option.getD_none, Option.getD_some, List.drop_zero, Nat.sub_zero, Int.toNat_natCast]
              refine wY rfl (gPure rfl isGo40 (get5_tri out (rest.take kk) (by omega)) ?_)
              refine wY rfl (gE rfl ?_)
              refine wU (gE rfl ?_)
              refine wOps.done ?_
              refine hK58 _ _ _ ?_
              clear hK58 K57
              refine WC.cond rfl (fun c60 => ?_) (fun c60 => ?_)
              · skip
                refine WC.seq_k fun K61 hK62 => ?_
                cases lg
                · skip
                  skip
                  skip
                  refine WC.region ?_
                  refine wU (gE rfl ?_)
                  refine wU (gE rfl ?_)
                  refine wY rfl (gE rfl ?_)
                  refine wY rfl (gLen rfl rfl tisstr9 ?_)
                  refine wY rfl (gE rfl ?_)
                  refine wU (gE rfl ?_)
                  refine wU (gE rfl ?_)
                  refine wOps.done ?_
                  refine hK62 _ _ _ ?_
                  clear hK62 K61
                  refine WC.region ?_
                  refine wU (gE rfl ?_)
                  refine wU (gE rfl ?_)
                  refine wU (gE rfl ?_)
                  refine wU (gSliceStr (lo := none) tisstr9 rfl rfl rfl (by simp) (by simp; omega) ?_)
                  simp only [Option.getD_none, Option.getD_some, List.drop_zero, Nat.sub_zero, Int.toNat_natCast]
                  refine wU (gE rfl ?_)
                  refine wU (gPure rfl isGo41 (with5_tri out (rest.take kk) value (by omega)) ?_)
                  refine wU (gE rfl ?_)
                  refine wOps.done ?_
                  have hval : value ≠ [] := by simpa using c59
                  have hget0 : getL out (rest.take kk) = [] := by simpa using c60
                  have hwlen := withL_len out (rest.take kk) value
                  exact ⟨(withL out (rest.take kk) value, decide (200 < value.length)), rfl, ⟨refP_new hne0 hI.1 hI.2.1 hval hget0, hwlen⟩, Ent.sub (sub_cons rfl (sub_cons (congrArg (fun b => some (V.bool b)) (by rw [decide_eq_decide]; omega)) (sub_cons rfl (sub_cons rfl (sub_nil _)))))⟩
                · skip
                  skip
                  skip
                  refine WC.region ?_
                  refine wU (gE rfl ?_)
                  refine wU (gE rfl ?_)
                  refine wN rfl ?_
                  refine wN rfl ?_
                  refine wN rfl ?_
                  refine wU (gE rfl ?_)
                  refine wU (gE rfl ?_)
                  refine wOps.done ?_
                  refine hK62 _ _ _ ?_
                  clear hK62 K61
                  refine WC.region ?_
                  refine wU (gE rfl ?_)
                  refine wU (gE rfl ?_)
                  refine wU (gE rfl ?_)
                  refine wU (gSliceStr (lo := none) tisstr9 rfl rfl rfl (by simp) (by simp; omega) ?_)
                  simp only [Option.getD_none, Option.getD_some, List.drop_zero, Nat.sub_zero, Int.toNat_natCast]
                  refine wU (gE rfl ?_)
                  refine wU (gPure rfl isGo41 (with5_tri out (rest.take kk) value (by omega)) ?_)
                  refine wU (gE rfl ?_)
                  refine wOps.done ?_
                  have hval : value ≠ [] := by simpa using c59
                  have hget0 : getL out (rest.take kk) = [] := by simpa using c60
                  have hwlen := withL_len out (rest.take kk) value
                  exact ⟨(withL out (rest.take kk) value, true), rfl, ⟨refP_new hne0 hI.1 hI.2.1 hval hget0, hwlen⟩, Ent.sub (sub_cons rfl (sub_cons rfl (sub_cons rfl (sub_cons rfl (sub_nil _)))))⟩
              · skip
                refine WC.skip ?_
                exact ⟨(out, lg), rfl, ⟨refP_old hne0 hI.1 (fun h => (show ¬ getL out (rest.take kk) = [] by simpa using c60) h.2.2), by simp only; omega⟩, Ent.sub (sub_cons rfl (sub_cons rfl (sub_cons rfl (sub_cons rfl (sub_nil _)))))⟩
            · skip
              refine wN rfl ?_
              refine wN rfl ?_
              refine wN rfl ?_
              refine wN rfl ?_
              refine wN rfl ?_
              refine wU (gE rfl ?_)
              refine wOps.done ?_
              refine hK58 _ _ _ ?_
              clear hK58 K57
              first | refine WC.cond (b := false) rfl (fun hh => by simp at hh) (fun _ => ?_) | refine WC.cond rfl (fun hh => by simp_all) (fun _ => ?_)
              refine WC.skip ?_
              exact ⟨(out, lg), rfl, ⟨refP_old hne0 hI.1 (fun h => h.2.1 (by simpa using c59)), by simp only; omega⟩, Ent.sub (sub_cons rfl (sub_cons rfl (sub_cons rfl (sub_cons rfl (sub_nil _)))))⟩
        rintro ⟨out2, lg2⟩ ⟨hI2, hl2⟩
        simp only at hI2 hl2 ⊢
        refine WC.seq_k fun K63 hK64 => ?_
        refine WC.region ?_
        refine wU (gE rfl ?_)
        refine wU (gE rfl ?_)
        refine wU (gSliceStr (hi := none) tisstr9 rfl rfl rfl (by simp; omega) (by simp) ?_)
        have ev3 : (rest.drop n).take (rest.length - n) = rest.drop n := List.take_of_length_le (by simp)
        simp only [Option.getD_none, Option.getD_some, List.drop_zero, Nat.sub_zero, Int.toNat_natCast, ev3]
        refine wU (gE rfl ?_)
        refine wOps.done ?_
        refine hK64 _ _ _ ?_
        clear hK64 K63
        refine WC.seq_k fun K65 hK66 => ?_
        refine WC.region ?_
        refine wU (gE rfl ?_)
        refine wU (gE rfl ?_)
        refine wOps.done ?_
        refine hK66 _ _ _ ?_
        clear hK66 K65
        refine WC.cond rfl (fun c67 => ?_) (fun c67 => ?_)
        · skip
          refine WC.region ?_
          refine wU (gE rfl ?_)
          have hd1 : 1 ≤ (rest.drop n).length := by have h0 : rest.drop n ≠ [] := (by simpa using c67); have := List.length_pos_iff.2 h0; omega
          refine wU (gSliceStr (l := some 1) (hi := none) tisstr9 rfl rfl rfl hd1 (Nat.le_refl _) ?_)
          have ev4 : ((rest.drop n).drop 1).take ((rest.drop n).length - 1) = (rest.drop n).drop 1 := List.take_of_length_le (by simp only [List.length_drop]; omega)
          simp only [Option.getD_none, Option.getD_some, List.drop_zero, Nat.sub_zero, Int.toNat_natCast, ev4]
          refine wU (gE rfl ?_)
          refine wOps.done ?_
          have hpos := List.length_pos_iff.2 hne0
          have hl3 : ((rest.drop n).drop 1).length < rest.length := by simp only [List.length_drop]; omega
          exact ⟨(f, (rest.drop n).drop 1, out2, lg2), rfl, hl3, ⟨by simp only; omega, by simp only; omega, hP.trans hI2⟩, Ent.sub (sub_cons rfl (sub_cons rfl (sub_cons rfl (sub_nil _))))⟩
        · skip
          refine WC.skip ?_
          have hpos := List.length_pos_iff.2 hne0
          have hl3 : ((rest.drop n).drop 1).length < rest.length := by simp only [List.length_drop]; omega
          have h0 : rest.drop n = [] := by simpa using c67
          exact ⟨(f, (rest.drop n).drop 1, out2, lg2), rfl, hl3, ⟨by simp only; omega, by simp only; omega, hP.trans hI2⟩, Ent.sub (sub_cons rfl (sub_cons rfl (sub_cons (show some (V.str (rest.drop n)) = some (V.str ((rest.drop n).drop 1)) by rw [h0]; rfl) (sub_nil _))))⟩
    · skip
      refine WC.exit ?_
      refine hK15 _ _ _ ?_
      clear hK19 K18 hK15 K14
      refine WC.seq_k fun K68 hK69 => ?_
      refine WC.seq_k fun K70 hK71 => ?_
      cases lg
      · skip
        skip
        refine WC.region ?_
        refine wU (gE rfl ?_)
        refine wU (gE rfl ?_)
        refine wY rfl (gE rfl ?_)
        refine wY rfl (gLen rfl rfl (by show lenFits Tryz.prog 22 (.fslice (lcs out) out.length) = true; rw [lenFits, tslice22]; rfl) ?_)
        refine wY rfl (gE rfl ?_)
        refine wU (gE rfl ?_)
        refine wOps.done ?_
        refine hK71 _ _ _ ?_
        clear hK71 K70
        refine WC.cond rfl (fun c72 => ?_) (fun c72 => ?_)
        · skip
          refine WC.seq_k fun K73 hK74 => ?_
          skip
          refine WC.region ?_
          refine wU (gBuildSlice (cs := []) tslice22 tsz51 tzero51 rfl (by simp [evFill, putL, zcells, vcells]) (by decide) (by decide) fun p3 hp3 => ?_)
          refine wU (gE rfl ?_)
          refine wU (gE rfl ?_)
          refine wOps.done ?_
          refine hK74 _ _ _ ?_
          clear hK74 K73
          refine WC.ret ?_
          have hr : rest = [] := by simpa using c22
          have hsome : refP s.length s [] false = some (out, false) := by rw [hP, hr]; cases f0 <;> simp [refP]
          exact ⟨_, rfl, .inl ⟨_, 4, rfl, by unfold refL; rw [if_neg h1000, hsome]; exact if_pos (.inr (by have := of_decide_eq_true c72; simp only; omega))⟩⟩
        · skip
          refine WC.skip ?_
          refine hK69 _ _ _ ?_
          clear hK69 K68
          refine WC.seq_k fun K75 hK76 => ?_
          refine WC.region ?_
          refine wU (gE rfl ?_)
          refine wU (gE rfl ?_)
          refine wU (gE rfl ?_)
          refine wOps.done ?_
          refine hK76 _ _ _ ?_
          clear hK76 K75
          refine WC.ret ?_
          have hr : rest = [] := by simpa using c22
          have hsome : refP s.length s [] false = some (out, false) := by rw [hP, hr]; cases f0 <;> simp [refP]
          exact ⟨_, rfl, .inr ⟨_, rfl, by unfold refL; rw [if_neg h1000, hsome]; exact if_neg (by have := of_decide_eq_false c72; rintro (h | h); simp at h; simp only at h; omega)⟩⟩
      · skip
        skip
        refine WC.region ?_
        refine wU (gE rfl ?_)
        refine wU (gE rfl ?_)
        refine wN rfl ?_
        refine wN rfl ?_
        refine wN rfl ?_
        refine wU (gE rfl ?_)
        refine wOps.done ?_
        refine hK71 _ _ _ ?_
        clear hK71 K70
        first | refine WC.cond (b := true) rfl (fun _ => ?_) (fun hh => by simp at hh) | refine WC.cond rfl (fun _ => ?_) (fun hh => by simp_all)
        refine WC.seq_k fun K77 hK78 => ?_
        skip
        refine WC.region ?_
        refine wU (gBuildSlice (cs := []) tslice22 tsz51 tzero51 rfl (by simp [evFill, putL, zcells, vcells]) (by decide) (by decide) fun p3 hp3 => ?_)
        refine wU (gE rfl ?_)
        refine wU (gE rfl ?_)
        refine wOps.done ?_
        refine hK78 _ _ _ ?_
        clear hK78 K77
        refine WC.ret ?_
        have hr : rest = [] := by simpa using c22
        have hsome : refP s.length s [] false = some (out, true) := by rw [hP, hr]; cases f0 <;> simp [refP]
        exact ⟨_, rfl, .inl ⟨_, 4, rfl, by unfold refL; rw [if_neg h1000, hsome]; exact if_pos (.inl rfl)⟩⟩
theorem refParse_tri (s : By) (hs : s.length ≤ 900000) : PTri Tryz.prog 11 [.str s] (.tup [lsl (parseL s).1, .int .i64 (parseL s).2]) := by
  refine Tri.vent (refParse_tri0 s hs) ?_
  rw [← refL_eq]
  rintro v h' (⟨p, e, rfl, he⟩ | ⟨l, rfl, he⟩)
  · rw [he]
    exact ⟨_, _, .drop (List.nil_sublist _) (.weak (VLe.tup2 VLe.emp (VLe.refl _)) (.refl _ _)), rfl, rfl⟩
  · rw [he]
    exact ⟨_, _, .drop (List.nil_sublist _) (.refl _ _), rfl, rfl⟩
end Go.Proofs.YtfdmdcpopmcmcaaGreatDoor
end

section
namespace Go.Proofs.YtfdmdcpopmcmcaaGreatDoor
open Go.Fw
/-! ### Lists of entries -/
def eCells (e : En) : List V := [.int .i64 e.1, lsl e.2.1, .str e.2.2.1, lsl e.2.2.2.1, .int .i64 e.2.2.2.2]
def ecs (l : List En) : List V := l.flatMap eCells
def esl (l : List En) : V := .fslice (ecs l) l.length
theorem ecs_nil : ecs [] = [] := rfl
theorem ecs_cons (x : En) (l : List En) : ecs (x :: l) = eCells x ++ ecs l := rfl
theorem ecs_append (l m : List En) : ecs (l ++ m) = ecs l ++ ecs m := by simp [ecs]
theorem eCells_length (e : En) : (eCells e).length = 5 := rfl
theorem ecs_length : ∀ l : List En, (ecs l).length = l.length * 5
  | [] => rfl
  | x :: l => by rw [ecs_cons, List.length_append, ecs_length l, eCells_length, List.length_cons]; omega
theorem ecs_drop : ∀ (l : List En) (i : Nat), (ecs l).drop (i * 5) = ecs (l.drop i)
  | [], i => by simp [ecs]
  | x :: l, 0 => by simp
  | x :: l, i + 1 => by
    have e : (i + 1) * 5 = (eCells x).length + i * 5 := by rw [eCells_length]; omega
    rw [ecs_cons, e, ← List.drop_drop, List.drop_left, ecs_drop l i, List.drop_succ_cons]
theorem ecs_take : ∀ (l : List En) (i : Nat), (ecs l).take (i * 5) = ecs (l.take i)
  | [], i => by simp [ecs]
  | x :: l, 0 => by simp [ecs]
  | x :: l, i + 1 => by
    have e : (i + 1) * 5 = (eCells x).length + i * 5 := by rw [eCells_length]; omega
    rw [ecs_cons, e, List.take_length_add_append, ecs_take l i, List.take_succ_cons, ecs_cons]
theorem ecs_part {l : List En} {i : Nat} (h : i < l.length) : ((ecs l).drop (((i : Nat) : Int).toNat * 5)).take 5 = eCells l[i] := by
  rw [Int.toNat_natCast, ecs_drop, List.drop_eq_getElem_cons h, ecs_cons]
  exact List.take_left' rfl
theorem ecs_line {l : List En} {i : Nat} (h : i < l.length) : (ecs l)[((i : Nat) : Int).toNat * 5 + 2]? = some (.str l[i].2.2.1) := by
  rw [Int.toNat_natCast, ← List.getElem?_drop, ecs_drop, List.drop_eq_getElem_cons h, ecs_cons]
  rfl
theorem eCells_leaf (e : En) : (eCells e).all leafV = true := rfl
theorem ecs_leaf : ∀ l : List En, (ecs l).all leafV = true
  | [] => rfl
  | x :: l => by rw [ecs_cons, List.all_append, eCells_leaf, ecs_leaf l]; rfl
theorem frzL_app (b : Nat) (cs : List V) : ∀ (l m : List V), frzL b cs (l ++ m) = frzL b cs l ++ frzL b cs m
  | [], m => rfl
  | x :: l, m => by simp [frzL, frzL_app b cs l m]
theorem frzL_eCells [Gl] (b : Nat) (cs : List V) (e : En) : frzL b cs (eCells e) = eCells e := by
  simp [eCells, frzL, frzV, lsl]
  exact ⟨frzL_lcs _ _ _, frzL_lcs _ _ _⟩
theorem frzL_ecs [Gl] (b : Nat) (cs : List V) : ∀ l : List En, frzL b cs (ecs l) = ecs l
  | [] => rfl
  | x :: l => by rw [ecs_cons, frzL_app, frzL_eCells, frzL_ecs b cs l]
/-! ### What Insert answers -/
/-- Each is below the next. -/
def ascE : List En → Bool
  | [] => true
  | [_] => true
  | x :: y :: r => decide (cmpE x y < 0) && ascE (y :: r)
theorem ascE_at {l : List En} {i : Nat} (h : i + 1 < l.length) : ascE (l.drop i) = (decide (cmpE (l[i]'(by omega)) l[i + 1] < 0) && ascE (l.drop (i + 1))) := by
  rw [List.drop_eq_getElem_cons (by omega : i < l.length), List.drop_eq_getElem_cons h, ascE]
theorem ascE_end {l : List En} {i : Nat} (h : l.length ≤ i + 1) : ascE (l.drop i) = true := by
  by_cases h1 : i < l.length
  · rw [List.drop_eq_getElem_cons h1, List.drop_of_length_le (by omega : l.length ≤ i + 1)]; rfl
  · rw [List.drop_of_length_le (by omega)]; rfl
theorem cmpE_lt_tr {a b c : En} (h1 : cmpE a b < 0) (h2 : cmpE b c < 0) : cmpE a c < 0 := ordE.strict (by omega) (by omega) (.inl h1)
theorem ascE_iff : ∀ l : List En, ascE l = true ↔ l.Pairwise fun a b => cmpE a b < 0
  | [] => by simp [ascE]
  | [x] => by simp [ascE]
  | x :: y :: r => by
    rw [ascE, Bool.and_eq_true, decide_eq_true_eq, ascE_iff (y :: r)]
    constructor
    · rintro ⟨h1, h2⟩
      refine List.pairwise_cons.2 ⟨fun z hz => ?_, h2⟩
      rcases List.mem_cons.1 hz with rfl | hz
      · exact h1
      · exact cmpE_lt_tr h1 ((List.pairwise_cons.1 h2).1 z hz)
    · intro h
      have h := List.pairwise_cons.1 h
      exact ⟨h.1 y (by simp), h.2⟩
def belowX (x : En) (y : En) : Bool := decide (cmpE y x < 0)
def cntE (l : List En) (x : En) : Nat := (l.takeWhile (belowX x)).length
theorem twlen {α : Type} (p : α → Bool) : ∀ l : List α, (l.takeWhile p).length ≤ l.length
  | [] => by simp
  | x :: l => by
    rw [List.takeWhile_cons]
    split
    · have := twlen p l; simp only [List.length_cons]; omega
    · simp
theorem cntE_le (l : List En) (x : En) : cntE l x ≤ l.length := twlen _ _
theorem cntE_iff {l : List En} (hs : l.Pairwise fun a b => cmpE a b < 0) (x : En) : ∀ {k : Nat} (h : k < l.length), cmpE l[k] x < 0 ↔ k < cntE l x := by
  induction l with
  | nil => intro k h; simp at h
  | cons y r ih =>
    intro k h
    have hp := List.pairwise_cons.1 hs
    unfold cntE
    rw [List.takeWhile_cons]
    by_cases hy : cmpE y x < 0
    · have hb : belowX x y = true := by simpa [belowX] using hy
      rw [hb, if_pos rfl]
      cases k with
      | zero => simp [hy]
      | succ k =>
        have := ih hp.2 (k := k) (by simpa using h)
        simp only [List.getElem_cons_succ, List.length_cons]
        rw [this]; unfold cntE; omega
    · have hb : ¬ belowX x y = true := by simpa [belowX] using hy
      rw [if_neg hb]
      simp only [List.length_nil, Nat.not_lt_zero, iff_false]
      cases k with
      | zero => simpa using hy
      | succ k =>
        intro h2
        have h1 := hp.1 _ (List.getElem_mem (by simpa using h : k < r.length))
        exact hy (cmpE_lt_tr h1 (by simpa using h2))
def foundE (l : List En) (x : En) : Bool := l.any fun y => decide (cmpE y x = 0)
theorem found_iff {l : List En} (hs : l.Pairwise fun a b => cmpE a b < 0) (x : En) : foundE l x = true ↔ ∃ h : cntE l x < l.length, cmpE (l[cntE l x]'h) x = 0 := by
  unfold foundE
  rw [List.any_eq_true]
  constructor
  · rintro ⟨y, hy, h⟩
    obtain ⟨k, hk, rfl⟩ := List.getElem_of_mem hy
    have h : cmpE l[k] x = 0 := by simpa using h
    have h1 : ¬ k < cntE l x := fun hlt => by have := (cntE_iff hs x hk).2 hlt; omega
    have h2 : k = cntE l x := by
      by_cases h3 : cntE l x < k
      · have h4 : cntE l x < l.length := by omega
        have h5 : ¬ cmpE l[cntE l x] x < 0 := fun h6 => by have := (cntE_iff hs x h4).1 h6; omega
        have h6 := List.pairwise_iff_getElem.1 hs _ _ h4 hk h3
        rw [(ordE.zero _ _).1 h] at h6
        exact absurd h6 h5
      · omega
    exact ⟨by omega, by simpa [← h2] using h⟩
  · rintro ⟨h, e⟩
    exact ⟨_, List.getElem_mem h, by simpa using e⟩
def insX (l : List En) (x : En) : List En := l.take (cntE l x) ++ x :: l.drop (cntE l x)
def insE (l : List En) (x : En) : List En × Int :=
  if ascE l = false then ([], 9) else if chkE x ≠ 0 then ([], chkE x) else if foundE l x = true then ([], 6) else if 1000 ≤ l.length then ([], 4) else (insX l x, 0)
end Go.Proofs.YtfdmdcpopmcmcaaGreatDoor
end
