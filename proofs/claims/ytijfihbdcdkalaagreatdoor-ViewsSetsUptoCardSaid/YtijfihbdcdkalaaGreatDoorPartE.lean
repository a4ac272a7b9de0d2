/- A part of the proof: V88, V89, V90, V91 -/
import Derived.Test.YtijfihbdcdkalaaGreatDoorPartD
set_option linter.all false
set_option linter.unusedSectionVars false
set_option linter.unusedVariables false
set_option linter.unusedSimpArgs false
section
namespace Go.Proofs.YtijfihbdcdkalaaGreatDoor
open Go.Fw
variable [Gl]
set_option maxRecDepth 20000
set_option maxHeartbeats 4000000
def insV (l : List Vw) (i : Nat) (x : Vw) : List Vw := l.take i ++ x :: l.drop i
def insΦ (l : List Vw) (i : Nat) (x : Vw) (u : V) (h : Hp) (nx : Nat) : Prop :=
  ∃ N', l.length + 1 ≤ N' ∧ ((u = .slice 0 0 (l.length + 1) N' ∧ h = [(0, .cells 47 (cat vwC (insV l i x)) (N' * 17))] ∧ nx = 2) ∨ (u = .slice 2 0 (l.length + 1) N' ∧ h = [(2, .cells 47 (cat vwC (insV l i x)) (N' * 17))] ∧ nx = 3))
theorem ovl119 : IsOverlaps Tryz.prog 119 22 4 47 17 := ⟨⟨_, Tryz.func119, rfl, rfl, rfl, rfl⟩, rfl, rfl⟩
theorem putL_mid {A vs Z : List V} {o : Nat} (h : A.length = o) : putL (A ++ Z) o vs = A ++ vs ++ Z.drop vs.length := by
  subst h
  unfold putL
  rw [List.take_left' rfl, ← List.drop_drop, List.drop_left' rfl]
theorem vw_insert (l : List Vw) (x : Vw) (i N : Nat) (hi : i ≤ l.length) (hl : l.length ≤ 1000) (hN : l.length ≤ N) :
    TriL Tryz.prog 77 [.slice 0 0 l.length N, nI i, .slice 1 0 1 1] [(1, .cells 47 (vwC x) 17), (0, .cells 47 (cat vwC l) (N * 17))] 2 (insΦ l i x) := by
  have hins : cat vwC l ++ vwC x = cat vwC (insV l l.length x) := by simp [insV, cat]
  have w1 : IntKind.i64.wrap ((l.length : Int) + ((1 : Nat) : Int)) = (l.length : Int) + ((1 : Nat) : Int) := wrap64_fit (by omega) (by omega)
  have w2 : (some (IntKind.i64.wrap ((i : Int) + ((1 : Nat) : Int))) : Option Int).getD ((0 : Nat) : Int) = ((i + 1 : Nat) : Int) := by
    show IntKind.i64.wrap ((i : Int) + ((1 : Nat) : Int)) = _
    rw [wrap64_fit (by omega) (by omega)]; omega
  have w3 : (some (IntKind.i64.wrap ((l.length : Int) + ((1 : Nat) : Int))) : Option Int).getD (l.length : Int) = ((l.length + 1 : Nat) : Int) := by
    show IntKind.i64.wrap ((l.length : Int) + ((1 : Nat) : Int)) = _
    rw [w1]; omega
  have tk1 : ((cat vwC l).drop (i * 17)).take ((l.length - i) * 17) = cat vwC (l.drop i) := by
    rw [cat_drop vwC_len]
    exact List.take_of_length_le (by rw [cat_length vwC_len, List.length_drop]; exact Nat.le_refl _)
  have hxl : ∀ k, (((vwC x).drop 0).take k).all leafV = true := fun k => List.all_eq_true.2 fun v hv => List.all_eq_true.1 (show (vwC x).all leafV = true from rfl) v (List.mem_of_mem_take hv)
  have hll : ∀ j k, (((cat vwC l).drop j).take k).all leafV = true := fun j k => List.all_eq_true.2 fun v hv => List.all_eq_true.1 (dryL1_leaf (catVw_dry l)) v (List.mem_of_mem_drop (List.mem_of_mem_take hv))
  refine TriL.of_safeN Tryz.func77 rfl Tryz.results77 Tryz.ntmps77 rfl ?_
  refine go 99 rfl ?_
  refine Safe.slO i l.length hi hN rfl rfl rfl rfl ?_
  refine go 99 rfl ?_
  first | refine Safe.gsK true rfl rfl ?_ | refine Safe.gsK false rfl rfl ?_ | refine Safe.brT rfl rfl ?_ | refine Safe.brF rfl rfl ?_
  refine go 99 rfl ?_
  refine go 99 rfl ?_
  refine Safe.br rfl (fun c => ?_) (fun c => ?_)
  · have c1 : i = l.length := by have := (by simpa using c : (i : Int) = l.length); omega
    refine go 99 rfl ?_
    refine Safe.appS (us := (vwC x)) rfl rfl rfl rfl rfl rfl (rfl) rfl (hins) (rfl) (cat_length vwC_len l) (rfl) (rfl) (by omega) (fun N' hN' => ?_)
    refine go 99 rfl ?_
    exact ⟨.inr rfl, trivial, .done rfl ⟨sgI 3, .slice 2 0 (l.length + 1) N', [(2, .cells 47 (cat vwC (insV l l.length x)) (N' * 17))], 3, ⟨⟨fit rfl, trivial⟩, ⟨_, .refl _, subK rfl (renO_dry (catVw_d _)) subN⟩, rfl⟩, N', hN', .inr ⟨rfl, by rw [c1], rfl⟩⟩⟩
  · have c1 : i < l.length := by
      have : ¬ (i : Int) = l.length := by simpa using c
      omega
    refine go 99 rfl ?_
    refine Safe.capO rfl rfl rfl rfl ?_
    refine go 99 rfl ?_
    refine Safe.br rfl (fun d => ?_) (fun d => ?_)
    · have d1 : N < l.length + 1 := by
        have := of_decide_eq_true d
        rw [wrap64_fit (by omega) (by omega)] at this; omega
      refine go 5 rfl ?_
      refine Safe.slO 0 i (Nat.zero_le _) (by omega) rfl rfl rfl rfl ?_
      refine Safe.eqv (v' := .slice 0 0 i N) (by rw [Nat.zero_mul, Nat.add_zero, ite_self]; rfl) ?_
      refine go 99 rfl ?_
      refine Safe.appZ (j := l.length + 1 - i) rfl rfl rfl rfl rfl (by rw [w1, wrap64_fit (by omega) (by omega)]; omega) rfl (by rw [cat_length vwC_len]; show 0 + i * 17 ≤ l.length * 17; omega) (by omega) (by omega) (by omega) rfl rfl (fun N2 hN2 => ?_)
      refine Safe.eqv (v' := .slice 2 0 (l.length + 1) N2) (by rw [show i + (l.length + 1 - i) = l.length + 1 by omega]) ?_
      generalize hZ0 : zcells _ ((l.length + 1 - i) * _) = Z
      have hN2' : l.length + 1 ≤ N2 := by omega
      have hZ : Z.length = (l.length + 1 - i) * 17 := by rw [← hZ0, zcells_length]; rfl
      have hZd : Z.all dry = true := by rw [← hZ0]; exact zcells_dry rfl _
      refine Safe.hpO (h' := [(2, .cells 47 (cat vwC (l.take i) ++ Z) (N2 * 17)), (1, .cells 47 (vwC x) 17), (0, .cells 47 (cat vwC l) (N * 17))]) (by rw [← cat_take vwC_len]; rfl) ?_
      refine go 99 rfl ?_
      refine Safe.slO i (l.length + 1) (by omega) hN2' rfl rfl rfl rfl ?_
      refine Safe.eqv (v' := .slice 2 (i * 17) (l.length + 1 - i) (N2 - i)) (by rw [if_neg (by omega), Nat.zero_add]; rfl) ?_
      refine go 99 rfl ?_
      have m1 : min 1 (l.length + 1 - i) = 1 := by omega
      have r1 : putL (cat vwC (l.take i) ++ Z) (i * 17) (((vwC x).drop 0).take (min 1 (l.length + 1 - i) * 17)) = cat vwC (l.take i ++ [x]) ++ Z.drop 17 := by
        rw [m1, putL_mid (by rw [cat_length vwC_len, List.length_take]; omega), cat_append]
        show cat vwC (l.take i) ++ vwC x ++ Z.drop 17 = cat vwC (l.take i) ++ cat vwC [x] ++ Z.drop 17
        simp [cat]
      refine Safe.cpS rfl rfl rfl rfl rfl rfl rfl rfl (by show 0 + min 1 (l.length + 1 - i) * 17 ≤ 17; omega) (by rw [List.length_append, cat_length vwC_len, List.length_take, hZ]; omega) (by show i * 17 + min 1 (l.length + 1 - i) * 17 ≤ N2 * 17; omega) (hxl _) ?_
      refine Safe.hpO (h' := [(2, .cells 47 (cat vwC (l.take i ++ [x]) ++ Z.drop 17) (N2 * 17)), (1, .cells 47 (vwC x) 17), (0, .cells 47 (cat vwC l) (N * 17))]) (congrArg (fun r => [(2, AObj.cells 47 r (N2 * 17)), (1, .cells 47 (vwC x) 17), (0, .cells 47 (cat vwC l) (N * 17))]) r1) ?_
      refine go 99 rfl ?_
      refine Safe.drawP mixed [0, 1, 2, 3, 4, 5, 6, 7, 8] [(true, true), (true, true), (true, true), (true, true), (true, true), (true, true), (true, true), (true, true), (true, true)] (by kernel_rfl) ?_
      refine go 99 rfl ?_
      refine Safe.slO (i + 1) (l.length + 1) (by omega) hN2' rfl w2 rfl rfl ?_
      refine Safe.eqv (v' := .slice 2 ((i + 1) * 17) (l.length + 1 - (i + 1)) (N2 - (i + 1))) (by rw [if_neg (by omega), Nat.zero_add]; rfl) ?_
      refine go 99 rfl ?_
      refine Safe.slO i l.length (by omega) hN rfl rfl rfl rfl ?_
      refine Safe.eqv (v' := .slice 0 (i * 17) (l.length - i) (N - i)) (by rw [if_neg (by omega), Nat.zero_add]; rfl) ?_
      refine Safe.tail (by kernel_rfl) ?_
      refine go 99 rfl ?_
      have m2 : min (l.length - i) (l.length + 1 - (i + 1)) = l.length - i := by omega
      have r2 : putL (cat vwC (l.take i ++ [x]) ++ Z.drop 17) ((i + 1) * 17) (((cat vwC l).drop (i * 17)).take (min (l.length - i) (l.length + 1 - (i + 1)) * 17)) = cat vwC (insV l i x) := by
        have e2 : (Z.drop 17).drop (cat vwC (l.drop i)).length = [] := List.drop_eq_nil_of_le (by rw [List.length_drop, hZ, cat_length vwC_len, List.length_drop]; omega)
        rw [m2, tk1, putL_mid (by rw [cat_length vwC_len]; simp; omega), e2]
        simp [insV, cat]
      refine Safe.cpS rfl rfl rfl rfl rfl rfl rfl rfl (by rw [cat_length vwC_len]; show i * 17 + min (l.length - i) (l.length + 1 - (i + 1)) * 17 ≤ l.length * 17; omega) (by rw [List.length_append, cat_length vwC_len, List.length_drop, hZ]; simp; omega) (by show (i + 1) * 17 + min (l.length - i) (l.length + 1 - (i + 1)) * 17 ≤ N2 * 17; omega) (hll _ _) ?_
      refine Safe.hpO (h' := [(2, .cells 47 (cat vwC (insV l i x)) (N2 * 17)), (1, .cells 47 (vwC x) 17), (0, .cells 47 (cat vwC l) (N * 17))]) (congrArg (fun r => [(2, AObj.cells 47 r (N2 * 17)), (1, .cells 47 (vwC x) 17), (0, .cells 47 (cat vwC l) (N * 17))]) r2) ?_
      refine go 99 rfl ?_
      exact ⟨.inr rfl, trivial, .done rfl ⟨sgI 3, .slice 2 0 (l.length + 1) N2, [(2, .cells 47 (cat vwC (insV l i x)) (N2 * 17))], 3, ⟨⟨fit rfl, trivial⟩, ⟨_, .refl _, subK rfl (renO_dry (catVw_d _)) subN⟩, rfl⟩, N2, hN2', .inr ⟨rfl, rfl, rfl⟩⟩⟩
    · have d1 : l.length + 1 ≤ N := by
        have := of_decide_eq_false d
        rw [wrap64_fit (by omega) (by omega)] at this; omega
      refine go 6 rfl ?_
      refine Safe.slO 0 (l.length + 1) (Nat.zero_le _) d1 rfl rfl w3 rfl ?_
      refine Safe.eqv (v' := .slice 0 0 (l.length + 1) N) (by rw [Nat.zero_mul, Nat.add_zero, ite_self]; rfl) ?_
      refine go 99 rfl ?_
      refine Safe.slO (i + 1) (l.length + 1) (by omega) d1 rfl w2 rfl rfl ?_
      refine Safe.eqv (v' := .slice 0 ((i + 1) * 17) (l.length + 1 - (i + 1)) (N - (i + 1))) (by rw [if_neg (by omega), Nat.zero_add]; rfl) ?_
      refine Safe.ovl ovl119 rfl rfl (fun ρ ht => ?_) rfl rfl (by decide) (by omega) (by omega) (by decide) ?_
      · obtain ⟨q1, h1⟩ := ht 61 _ rfl
        obtain ⟨q2, h2⟩ := ht 66 _ rfl
        exact ⟨q1, q2, h1, h2⟩
      refine go 99 rfl ?_
      first | refine Safe.gsK true rfl rfl ?_ | refine Safe.gsK false rfl rfl ?_ | refine Safe.brT rfl rfl ?_ | refine Safe.brF rfl rfl ?_
      refine go 99 rfl ?_
      refine go 99 rfl ?_
      refine Safe.drawP mixed [0, 1, 2, 3, 4, 5, 6, 7, 8] [(true, true), (true, true), (true, true), (true, true), (true, true), (true, true), (true, true), (true, true), (true, true)] (by kernel_rfl) ?_
      refine go 99 rfl ?_
      refine Safe.slO (i + 1) (l.length + 1) (by omega) d1 rfl w2 rfl rfl ?_
      refine Safe.eqv (v' := .slice 0 ((i + 1) * 17) (l.length + 1 - (i + 1)) (N - (i + 1))) (by rw [if_neg (by omega), Nat.zero_add]; rfl) ?_
      refine go 99 rfl ?_
      refine Safe.slO i (l.length + 1) (by omega) d1 rfl rfl rfl rfl ?_
      refine Safe.eqv (v' := .slice 0 (i * 17) (l.length + 1 - i) (N - i)) (by rw [if_neg (by omega), Nat.zero_add]; rfl) ?_
      refine Safe.tail (by kernel_rfl) ?_
      refine go 99 rfl ?_
      have m2 : min (l.length + 1 - i) (l.length + 1 - (i + 1)) = l.length - i := by omega
      have r3 : putL (cat vwC l) ((i + 1) * 17) (((cat vwC l).drop (i * 17)).take (min (l.length + 1 - i) (l.length + 1 - (i + 1)) * 17)) = cat vwC (l.take (i + 1) ++ l.drop i) := by
        have e0 : cat vwC l = cat vwC (l.take (i + 1)) ++ cat vwC (l.drop (i + 1)) := by rw [← cat_append, List.take_append_drop]
        have e2 : (cat vwC (l.drop (i + 1))).drop (cat vwC (l.drop i)).length = [] := List.drop_eq_nil_of_le (by rw [cat_length vwC_len, cat_length vwC_len, List.length_drop, List.length_drop]; omega)
        rw [m2, tk1, e0, putL_mid (by rw [cat_length vwC_len, List.length_take]; omega), e2, List.append_nil, cat_append]
      refine Safe.cpS rfl rfl rfl rfl rfl rfl rfl rfl (by rw [cat_length vwC_len]; show i * 17 + min (l.length + 1 - i) (l.length + 1 - (i + 1)) * 17 ≤ l.length * 17; omega) (by rw [cat_length vwC_len]; show (i + 1) * 17 ≤ l.length * 17; omega) (by show (i + 1) * 17 + min (l.length + 1 - i) (l.length + 1 - (i + 1)) * 17 ≤ N * 17; omega) (hll _ _) ?_
      refine Safe.hpO (h' := [(1, .cells 47 (vwC x) 17), (0, .cells 47 (cat vwC (l.take (i + 1) ++ l.drop i)) (N * 17))]) (congrArg (fun r => [(1, AObj.cells 47 (vwC x) 17), (0, .cells 47 r (N * 17))]) r3) ?_
      refine go 99 rfl ?_
      refine Safe.slO i (l.length + 1) (by omega) d1 rfl rfl rfl rfl ?_
      refine Safe.eqv (v' := .slice 0 (i * 17) (l.length + 1 - i) (N - i)) (by rw [if_neg (by omega), Nat.zero_add]; rfl) ?_
      refine go 99 rfl ?_
      have m1 : min 1 (l.length + 1 - i) = 1 := by omega
      have hlt : i < (l.take (i + 1) ++ l.drop i).length := by simp; omega
      have r4 : putL (cat vwC (l.take (i + 1) ++ l.drop i)) (i * 17) (((vwC x).drop 0).take (min 1 (l.length + 1 - i) * 17)) = cat vwC (insV l i x) := by
        rw [m1]
        show putL (cat vwC (l.take (i + 1) ++ l.drop i)) (i * 17) (vwC x) = _
        rw [cat_put vwC_len hlt]
        congr 1
        have e3 : (l.take (i + 1)).set i x = l.take i ++ [x] := by
          rw [List.take_succ_eq_append_getElem c1, List.set_append_right _ _ (by simp; omega)]
          have : i - (l.take i).length = 0 := by simp; omega
          rw [this]; rfl
        rw [List.set_append_left _ _ (by simp; omega), e3, insV, List.append_assoc]; rfl
      refine Safe.cpS rfl rfl rfl rfl rfl rfl rfl rfl (by show 0 + min 1 (l.length + 1 - i) * 17 ≤ 17; omega) (by rw [cat_length vwC_len]; show i * 17 ≤ (l.take (i + 1) ++ l.drop i).length * 17; omega) (by show i * 17 + min 1 (l.length + 1 - i) * 17 ≤ N * 17; omega) (hxl _) ?_
      refine Safe.hpO (h' := [(1, .cells 47 (vwC x) 17), (0, .cells 47 (cat vwC (insV l i x)) (N * 17))]) (congrArg (fun r => [(1, AObj.cells 47 (vwC x) 17), (0, .cells 47 r (N * 17))]) r4) ?_
      refine go 99 rfl ?_
      exact ⟨.inr rfl, trivial, .done rfl ⟨sgI 2, .slice 0 0 (l.length + 1) N, [(0, .cells 47 (cat vwC (insV l i x)) (N * 17))], 2, ⟨⟨fit rfl, trivial⟩, ⟨_, .refl _, subD (subK rfl (renO_dry (catVw_d _)) subN)⟩, rfl⟩, N, d1, .inl ⟨rfl, rfl, rfl⟩⟩⟩
end Go.Proofs.YtijfihbdcdkalaaGreatDoor
end

section
namespace Go.Proofs.YtijfihbdcdkalaaGreatDoor
open Go.Fw
variable [Gl]
set_option maxRecDepth 20000
set_option maxHeartbeats 4000000
theorem setP_fd {x : Vw} {l : List Vw} (h : fdV x.name l = true) : lbV x.name l < l.length ∧ setP x l = l.set (lbV x.name l) x := by
  unfold fdV at h
  unfold setP
  cases hv : l[lbV x.name l]? with
  | none => rw [hv] at h; cases h
  | some v =>
    rw [hv] at h
    have hn : v.name = x.name := by simpa using h
    exact ⟨(List.getElem?_eq_some_iff.1 hv).1, by simp only [if_pos hn]⟩
theorem setP_nf {x : Vw} {l : List Vw} (h : fdV x.name l = false) : setP x l = insV l (lbV x.name l) x := by
  unfold fdV at h
  unfold setP insV
  cases hv : l[lbV x.name l]? with
  | none => rfl
  | some v =>
    rw [hv] at h
    have hn : ¬ v.name = x.name := by simpa using h
    simp only [if_neg hn]
theorem setL_len2 (x : Vw) (l : List Vw) : (setL x false l).length ≤ l.length + 1 := by
  rw [setL_flen]
  have := List.length_filter_le (fun v : Vw => !(v.name == x.name)) l
  simp; omega
theorem vw_insertNil (x : Vw) : TriL Tryz.prog 77 [.nilslice, nI (0 : Nat), .slice 0 0 1 1] [(0, .cells 47 (vwC x) 17)] 1 (fun u h nx => ∃ N', 1 ≤ N' ∧ u = .slice 1 0 1 N' ∧ h = [(1, .cells 47 (vwC x) (N' * 17))] ∧ nx = 2) := by
  refine TriL.of_safeN Tryz.func77 rfl Tryz.results77 Tryz.ntmps77 rfl ?_
  refine go 99 rfl ?_
  refine Safe.slN rfl rfl rfl rfl rfl rfl rfl ?_
  refine go 99 rfl ?_
  first | refine Safe.gsK true rfl rfl ?_ | refine Safe.gsK false rfl rfl ?_ | refine Safe.brT rfl rfl ?_ | refine Safe.brF rfl rfl ?_
  refine go 99 rfl ?_
  refine go 99 rfl ?_
  first | refine Safe.gsK true rfl rfl ?_ | refine Safe.gsK false rfl rfl ?_ | refine Safe.brT rfl rfl ?_ | refine Safe.brF rfl rfl ?_
  refine go 99 rfl ?_
  refine go 99 rfl ?_
  refine Safe.appN (us := (vwC x)) rfl rfl rfl rfl rfl (rfl) rfl (by omega) (rfl) (by decide) (fun N hN => ?_)
  refine go 99 rfl ?_
  exact ⟨.inr rfl, trivial, .done rfl ⟨sgI 2, .slice 1 0 1 N, [(1, .cells 47 (vwC x) (N * 17))], 2, ⟨⟨fit rfl, trivial⟩, ⟨_, .refl _, subK rfl rfl subN⟩, rfl⟩, N, hN, rfl, rfl, rfl⟩⟩
theorem vw_Set (hG : GTab) (l : List Vw) (x : Vw) (ho : okVs l) (hx : x.name.length ≤ big ∧ okE x.expr) : Go.Fw.PTri Tryz.prog 36 [slV vwC l, vwV x] (.tup [slV vwC (setR rxC l x).1, nI (setR rxC l x).2]) := by
  refine PTri.of_safe Tryz.func36 rfl Tryz.results36 Tryz.ntmps36 rfl ?_
  refine go 99 rfl ?_
  refine Safe.call (vw_Check hG l ho) rfl rfl rfl ?_
  refine go 99 rfl ?_
  refine Safe.br rfl (fun c => ?_) (fun c => ?_)
  · have c1 : chkV rxC l ≠ 0 := by simpa using c
    rw [setR, if_pos c1]
    refine go 99 rfl ?_
    exact ⟨.inr rfl, trivial, .weak rfl rfl (wkE rfl)⟩
  · have c1 : chkV rxC l = 0 := by simpa using c
    have hV := chkV_ok c1
    have h50 := hV.len
    have hse := set_eq (x := x) hV.asc
    have hRno : chkV rxC (setL x false l) ≠ 0 → setR rxC l x = ([], chkV rxC (setL x false l)) := fun h => by rw [setR, if_neg (by simp [c1]), if_pos h]
    have hRok : chkV rxC (setL x false l) = 0 → setR rxC l x = (setL x false l, 0) := fun h => by rw [setR, if_neg (by simp [c1]), if_neg (by simp [h])]
    have hokL : okVs (setL x false l) := ⟨Nat.le_trans (setL_len2 x l) (by have := h50; simp only [big]; omega), fun v hv => by
      rcases setL_mem hv with rfl | h
      · exact hx
      · exact ho.2 v h⟩
    rw [hse] at hRno hRok hokL
    refine go 99 rfl ?_
    refine Safe.call (vw_bsearch l x.name h50 hV.ascV) rfl rfl rfl ?_
    refine go 99 rfl ?_
    refine Safe.callL (rest := [(0, .cells 47 (vwC x) 17)]) [] (vw_clone l (by omega)) rfl rfl rfl rfl (.refl _) (fun v h' nx' q => ?_)
    rcases q with ⟨N, hN, rfl, rfl, rfl⟩ | ⟨h1, h2, rfl, rfl, rfl⟩
    · refine Safe.hpO (h' := [(1, .cells 47 (cat vwC l) (N * 17)), (0, .cells 47 (vwC x) 17)]) (congrArg (fun o => (1, o) :: [(0, AObj.cells 47 (vwC x) 17)]) (renO_dry (catVw_d _))) ?_
      refine go 99 rfl ?_
      refine Safe.cutC (α := Nat) [] (fun q => [(9, .slice 1 0 (setP x l).length q)]) (fun q => [(1, .cells 47 (cat vwC (setP x l)) (q * 17))]) 2 (fun q => True) ?_ ?_
      · refine Safe.br rfl (fun f => ?_) (fun f => ?_)
        · obtain ⟨p1, p2⟩ := setP_fd f
          refine go 5 rfl ?_
          refine Safe.idxO p1 rfl rfl rfl ?_
          refine Safe.stO (v := vwV x) rfl rfl rfl rfl rfl rfl (by rw [cat_length vwC_len]; show 0 + lbV x.name l * 17 + 17 ≤ l.length * 17; omega) rfl ?_
          refine Safe.hpO (h' := [(1, .cells 47 (cat vwC (setP x l)) (N * 17)), (0, .cells 47 (vwC x) 17)]) (by rw [p2, ← cat_put vwC_len p1]; simp only [Nat.zero_add]; rfl) ?_
          refine go 99 rfl ?_
          exact ⟨sgI 2, N, trivial, rfl, rfl, ⟨fit (by rw [p2, List.length_set]; rfl), trivial⟩, ⟨_, .refl _, subK rfl (renO_dry (catVw_d _)) subN⟩, rfl⟩
        · have f1 := setP_nf f
          have hle := lbV_le x.name l
          have hins : (setP x l).length = l.length + 1 := by rw [f1, insV]; simp; omega
          refine go 99 rfl ?_
          refine Safe.callL (rest := [(0, .cells 47 (vwC x) 17)]) [(0, 1), (1, 2)] (vw_insert l x (lbV x.name l) N hle (by omega) hN) rfl rfl rfl rfl (List.Perm.of_eq (by simp only [relH, sgF, cond_true, cond_false, renO_dry (catVw_d _), Nat.beq]; rfl)) (fun v h' nx' q => ?_)
          obtain ⟨N2, hN2, ⟨rfl, rfl, rfl⟩ | ⟨rfl, rfl, rfl⟩⟩ := q
          · rw [← f1, ← hins]
            refine Safe.hpO (h' := [(1, .cells 47 (cat vwC (setP x l)) (N2 * 17)), (0, .cells 47 (vwC x) 17)]) (congrArg (fun o => (1, o) :: [(0, AObj.cells 47 (vwC x) 17)]) (renO_dry (catVw_d _))) ?_
            refine go 99 rfl ?_
            exact ⟨sgI 2, N2, trivial, rfl, rfl, ⟨fit rfl, trivial⟩, ⟨_, .refl _, subK rfl (renO_dry (catVw_d _)) subN⟩, rfl⟩
          · rw [← f1, ← hins]
            refine Safe.hpO (h' := [(3, .cells 47 (cat vwC (setP x l)) (N2 * 17)), (0, .cells 47 (vwC x) 17)]) (congrArg (fun o => (3, o) :: [(0, AObj.cells 47 (vwC x) 17)]) (renO_dry (catVw_d _))) ?_
            refine go 99 rfl ?_
            exact ⟨[(1, 3), (0, 0)], N2, trivial, rfl, rfl, ⟨fit rfl, trivial⟩, ⟨_, .refl _, subK rfl (renO_dry (catVw_d _)) subN⟩, rfl⟩
      · rintro N2 _
        refine go 99 rfl ?_
        refine Safe.callF 1 (vw_Check hG (setP x l) hokL) rfl rfl rfl rfl (catVw_d _) rfl ?_
        refine go 99 rfl ?_
        refine Safe.br rfl (fun e => ?_) (fun e => ?_)
        · have e1 : chkV rxC (setP x l) ≠ 0 := by simpa using e
          rw [hRno e1]
          refine go 99 rfl ?_
          exact ⟨.inr rfl, trivial, .weak rfl rfl (wkE rfl)⟩
        · have e1 : chkV rxC (setP x l) = 0 := by simpa using e
          rw [hRok e1]
          refine go 99 rfl ?_
          exact ⟨.inr rfl, trivial, .frz 1 rfl (catVw_dry _) (.done rfl rfl)⟩
    · have hl0 : l = [] := List.length_eq_zero_iff.1 h2
      subst hl0
      refine go 99 rfl ?_
      refine Safe.brF rfl rfl ?_
      refine go 99 rfl ?_
      refine Safe.callL (rest := [(0, .cells 47 (vwC x) 17)]) [(0, 1)] (vw_insertNil x) rfl rfl rfl rfl (.refl _) (fun v h' nx' q => ?_)
      obtain ⟨N2, hN2, rfl, rfl, rfl⟩ := q
      refine Safe.hpO (h' := [(2, .cells 47 (cat vwC (setP x [])) (N2 * 17)), (0, .cells 47 (vwC x) 17)]) rfl ?_
      refine go 99 rfl ?_
      refine Safe.callF 2 (vw_Check hG (setP x []) hokL) rfl rfl rfl rfl (catVw_d _) rfl ?_
      refine go 99 rfl ?_
      refine Safe.br rfl (fun e => ?_) (fun e => ?_)
      · have e1 : chkV rxC (setP x []) ≠ 0 := by simpa using e
        rw [hRno e1]
        refine go 99 rfl ?_
        exact ⟨.inr rfl, trivial, .weak rfl rfl (wkE rfl)⟩
      · have e1 : chkV rxC (setP x []) = 0 := by simpa using e
        rw [hRok e1]
        refine go 99 rfl ?_
        exact ⟨.inr rfl, trivial, .frz 2 rfl (catVw_dry _) (.done rfl rfl)⟩
end Go.Proofs.YtijfihbdcdkalaaGreatDoor
end

section
namespace Go.Proofs.YtijfihbdcdkalaaGreatDoor
open Go.Fw
variable [Gl]
set_option maxRecDepth 20000
set_option maxHeartbeats 4000000
theorem okVs_one {x : Vw} (hx : x.name.length ≤ big ∧ okE x.expr) : okVs [x] := ⟨by simp [big], fun v hv => by rw [List.mem_singleton.1 hv]; exact hx⟩
theorem setR_okVs {l : List Vw} {x : Vw} (ho : okVs l) (hx : x.name.length ≤ big ∧ okE x.expr) : okVs (setR rxC l x).1 := by
  unfold setR
  split
  · exact ⟨by simp [big], fun v hv => by simp at hv⟩
  · rename_i h1
    have h50 := (chkV_ok (by simpa using h1)).len
    split
    · exact ⟨by simp [big], fun v hv => by simp at hv⟩
    · exact ⟨Nat.le_trans (setL_len2 x l) (by simp only [big]; omega), fun v hv => by
        rcases setL_mem hv with rfl | h
        · exact hx
        · exact ho.2 v h⟩
theorem setR_sm (l : List Vw) (x : Vw) : smV (setR rxC l x).1 (setR rxC l x).1 = true := by
  by_cases h : (setR rxC l x).2 = 0
  · obtain ⟨_, h2, h3⟩ := setR_ok h
    rw [h3]; exact smV_self h2.ck
  · rw [setR_no h]; rfl
theorem ordR_big {l : List Vw} (ho : okVs l) : (ordR rxC l).1.length ≤ big := by
  unfold ordR
  split
  · simp [big]
  · rename_i h1
    have hV := chkV_ok (by simpa using h1)
    have := hV.olen
    exact Nat.le_trans (Nat.le_of_eq this) ho.1
end Go.Proofs.YtijfihbdcdkalaaGreatDoor
end

section
namespace Go.Proofs.YtijfihbdcdkalaaGreatDoor
open Go.Fw
variable [Gl]
set_option maxRecDepth 20000
set_option maxHeartbeats 4000000
abbrev r9 (x y : Vw) : Hp := [(3, .cells 47 (vwC y) 17), (2, .cells 47 (vwC x) 17), (1, .cells 47 (vwC y) 17)]
abbrev nx9 (x v : Vw) : Bool := v.name == x.name
theorem go41 : isGo Tryz.prog 41 = true := by kernel_rfl
theorem go42 : isGo Tryz.prog 42 = true := by kernel_rfl
theorem go44 : isGo Tryz.prog 44 = true := by kernel_rfl
theorem vw_containsP (f : FuncId) (hgo : isGo Tryz.prog f = true) (X : List V) (p : Vw → Bool) (l : List Vw) (hl : l.length < 4611686018427387904) (hp : ∀ x ∈ l, Go.Fw.PTri Tryz.prog f [vwV x, .fptr X 0] (.bool (p x))) : Go.Fw.PTri Tryz.prog 43 [slV vwC l, .clo f [.fptr X 0]] (.bool (l.any p)) := by
  refine PTri.of_safe Tryz.func43 rfl Tryz.results43 Tryz.ntmps43 rfl ?_
  refine go 99 rfl ?_
  refine Safe.call (vw_indexP f hgo X p l hl hp) rfl rfl rfl ?_
  refine go 99 rfl ?_
  exact ⟨.inr rfl, trivial, .done (bIeq (ixP_any p l 0)) rfl⟩
theorem law_Sets9 (hG : GTab) (l : List Vw) (x y : Vw) (ho : okVs l) (hx : x.name.length ≤ big ∧ okE x.expr) (hy : y.name.length ≤ big ∧ okE y.expr) : Go.Fw.PTri Tryz.prog 9 [slV vwC l, vwV x, vwV y] (.bool true) := by
  have hl := ho.1
  simp only [big] at hl
  refine PTri.of_safe Tryz.func9 rfl Tryz.results9 Tryz.ntmps9 rfl ?_
  refine go 99 rfl ?_
  refine Safe.call (law_great46 l ho) rfl rfl rfl ?_
  refine go 99 rfl ?_
  refine Safe.gs rfl (fun c1 => ?_) (fun c1 => ?_)
  · refine go 99 rfl ?_
    refine Safe.call (law_awake hG) rfl rfl rfl ?_
    refine go 99 rfl ?_
    exact ⟨.inr rfl, trivial, .done (rfl) rfl⟩
  · refine go 99 rfl ?_
    refine Safe.callF 2 (law_great46 [x] (okVs_one hx)) rfl rfl rfl rfl rfl rfl ?_
    refine go 99 rfl ?_
    refine Safe.gs rfl (fun c2 => ?_) (fun c2 => ?_)
    · refine go 99 rfl ?_
      refine Safe.call (law_awake hG) rfl rfl rfl ?_
      refine go 99 rfl ?_
      exact ⟨.inr rfl, trivial, .done (rfl) rfl⟩
    · refine go 99 rfl ?_
      refine Safe.callF 3 (law_great46 [y] (okVs_one hy)) rfl rfl rfl rfl rfl rfl ?_
      refine go 99 rfl ?_
      refine Safe.br rfl (fun c3 => ?_) (fun c3 => ?_)
      · refine go 99 rfl ?_
        refine Safe.call (law_awake hG) rfl rfl rfl ?_
        refine go 99 rfl ?_
        exact ⟨.inr rfl, trivial, .done (rfl) rfl⟩
      · have hS := vw_Set hG l x ho hx
        by_cases h1 : (setR rxC l x).2 = 0
        · obtain ⟨hV, hVM, hEq⟩ := setR_ok h1
          have hokM : okVs (setL x false l) := by have := setR_okVs ho hx; rw [hEq] at this; exact this
          have h50 := hV.len
          have h50M := hVM.len
          have hxm : x ∈ setL x false l := setL_iff.2 (.inl ⟨rfl, rfl⟩)
          have hMn : (setL x false l).length ≠ 0 := fun h => by rw [List.length_eq_zero_iff.1 h] at hxm; simp at hxm
          have hC := vw_Check hG (setL x false l) hokM
          rw [chkV_of hVM] at hC
          have hcx := hVM.ck x hxm
          have hK := alg_check hG x.expr hx.2
          rw [hcx] at hK
          rw [hEq] at hS
          have hW0 : okVs (dlV (nx9 x) l) := ⟨Nat.le_trans (List.length_filter_le _ _) ho.1, fun v hv => ho.2 v (List.mem_filter.1 hv).1⟩
          have hW := ref_Same46 _ _ hW0 hW0
          rw [show smV (dlV (nx9 x) l) (dlV (nx9 x) l) = true from smV_self (fun v hv => hV.ck v (List.mem_filter.1 hv).1)] at hW
          have hA := vw_containsP 44 go44 (vwC x) (fun v => v.name == x.name && eqE rxC v.expr x.expr) (setL x false l) (by omega) (fun v hv => law_same44 v x (hokM.2 v hv).2 hx.2)
          rw [show (setL x false l).any (fun v => v.name == x.name && eqE rxC v.expr x.expr) = true from List.any_eq_true.2 ⟨x, hxm, by simp [eqE_self hcx]⟩] at hA
          have hlen : (setL x false l).length = (dlV (nx9 x) l).length + 1 := setL_flen false l
          have hS2 := vw_Set hG (setL x false l) y hokM hy
          have hS3 := vw_Set hG l y ho hy
          have hok3 := setR_okVs ho hy
          have hS4 := vw_Set hG (setR rxC l y).1 x hok3 hx
          have hfin : (setR rxC (setL x false l) y).2 = 0 → (setR rxC l y).2 = 0 → (setR rxC (setR rxC l y).1 x).2 = 0 → x.name ≠ y.name → Go.Fw.PTri Tryz.prog 39 [slV vwC (setR rxC (setL x false l) y).1, slV vwC (setR rxC (setR rxC l y).1 x).1] (.bool true) := fun e2 e3 e4 hn => by
            have h := ref_Same46 _ _ (setR_okVs hokM hy) (setR_okVs hok3 hx)
            obtain ⟨_, a2, a3⟩ := setR_ok e2
            obtain ⟨_, b2, b3⟩ := setR_ok e3
            rw [b3] at e4
            obtain ⟨_, d2, d3⟩ := setR_ok e4
            rw [a3, b3] at h ⊢
            dsimp only at h d3 ⊢
            rw [d3] at h ⊢
            dsimp only at h ⊢
            rw [← set_set a2 d2 hn] at h ⊢
            rw [smV_self a2.ck] at h
            exact h
          refine go 99 rfl ?_
          refine Safe.call (hS) rfl rfl rfl ?_
          refine go 99 rfl ?_
          first | refine Safe.gsK true rfl rfl ?_ | refine Safe.gsK false rfl rfl ?_ | refine Safe.brT rfl rfl ?_ | refine Safe.brF rfl rfl ?_
          refine go 99 rfl ?_
          refine go 99 rfl ?_
          refine Safe.call (hC) rfl rfl rfl ?_
          refine go 99 rfl ?_
          first | refine Safe.gsK true rfl rfl ?_ | refine Safe.gsK false rfl rfl ?_ | refine Safe.brT rfl rfl ?_ | refine Safe.brF rfl rfl ?_
          refine go 99 rfl ?_
          refine go 99 rfl ?_
          refine Safe.call (hK) rfl rfl rfl ?_
          refine go 99 rfl ?_
          first | refine Safe.gsK true rfl rfl ?_ | refine Safe.gsK false rfl rfl ?_ | refine Safe.brT rfl rfl ?_ | refine Safe.brF rfl rfl ?_
          refine go 99 rfl ?_
          refine go 99 rfl ?_
          refine Safe.frzO 0 rfl rfl ?_
          refine Safe.callL (rest := (r9 x y)) [] (vw_clone l (by omega)) rfl rfl rfl rfl (.refl _) (fun v h' nx' q => ?_)
          rcases q with ⟨N, hN, rfl, rfl, rfl⟩ | ⟨g1, g2, rfl, rfl, rfl⟩
          · refine Safe.hpO (h' := (4, .cells 47 (cat vwC l) (N * 17)) :: (r9 x y)) (congrArg (fun o => (4, o) :: r9 x y) (renO_dry (catVw_d _))) ?_
            refine go 99 rfl ?_
            have hD := vw_deleteFn 41 go41 (vwC x) (nx9 x) l N (N * 17) (by omega) hN (fun v _ => law_same41 v x)
            refine Safe.callL (rest := (r9 x y)) [(0, 4)] hD rfl rfl rfl rfl (List.Perm.of_eq (congrArg (fun o => (4, o) :: r9 x y) (renO_dry (catVw_d _)))) (fun v h' nx' q => ?_)
            obtain ⟨rfl, rfl, rfl⟩ := q
            refine Safe.hpO (h' := (4, .cells 47 (cat vwC (dlV (nx9 x) l)) (N * 17)) :: (r9 x y)) (congrArg (fun o => (4, o) :: r9 x y) (renO_dry (catVw_d _))) ?_
            refine Safe.frzO 4 rfl (catVw_dry _) ?_
            refine go 99 rfl ?_
            refine Safe.callL (rest := (r9 x y)) [] (vw_clone (setL x false l) (by omega)) rfl rfl rfl rfl (.refl _) (fun v h' nx' q => ?_)
            rcases q with ⟨N2, hN2, rfl, rfl, rfl⟩ | ⟨g1, g2, rfl, rfl, rfl⟩
            · refine Safe.hpO (h' := (5, .cells 47 (cat vwC (setL x false l)) (N2 * 17)) :: (r9 x y)) (congrArg (fun o => (5, o) :: r9 x y) (renO_dry (catVw_d _))) ?_
              refine go 99 rfl ?_
              have hD2 := vw_deleteFn 42 go42 (vwC x) (nx9 x) (setL x false l) N2 (N2 * 17) (by omega) hN2 (fun v _ => law_same42 v x)
              rw [show dlV (nx9 x) (setL x false l) = dlV (nx9 x) l from setL_filter] at hD2
              refine Safe.callL (rest := (r9 x y)) [(0, 5)] hD2 rfl rfl rfl rfl (List.Perm.of_eq (congrArg (fun o => (5, o) :: r9 x y) (renO_dry (catVw_d _)))) (fun v h' nx' q => ?_)
              obtain ⟨rfl, rfl, rfl⟩ := q
              refine Safe.hpO (h' := (5, .cells 47 (cat vwC (dlV (nx9 x) l)) (N2 * 17)) :: (r9 x y)) (congrArg (fun o => (5, o) :: r9 x y) (renO_dry (catVw_d _))) ?_
              refine Safe.frzO 5 rfl (catVw_dry _) ?_
              refine go 99 rfl ?_
              refine Safe.call (hW) rfl rfl rfl ?_
              refine go 99 rfl ?_
              first | refine Safe.gsK true rfl rfl ?_ | refine Safe.gsK false rfl rfl ?_ | refine Safe.brT rfl rfl ?_ | refine Safe.brF rfl rfl ?_
              refine go 99 rfl ?_
              refine go 99 rfl ?_
              refine Safe.call (hA) rfl rfl rfl ?_
              refine go 99 rfl ?_
              first | refine Safe.gsK true rfl rfl ?_ | refine Safe.gsK false rfl rfl ?_ | refine Safe.brT rfl rfl ?_ | refine Safe.brF rfl rfl ?_
              refine go 99 rfl ?_
              refine go 99 rfl ?_
              refine Safe.brF rfl (by rw [wrap64_fit (by omega) (by omega), hlen]; simp) ?_
              refine go 99 rfl ?_
              refine Safe.call (hS2) rfl rfl rfl ?_
              refine go 99 rfl ?_
              refine Safe.call (hS3) rfl rfl rfl ?_
              refine go 99 rfl ?_
              refine Safe.ldF (v := vwV x) rfl rfl rfl rfl ?_
              refine go 99 rfl ?_
              refine Safe.call (hS4) rfl rfl rfl ?_
              refine go 99 rfl ?_
              refine Safe.gs rfl (fun u1 => ?_) (fun u1 => ?_)
              · refine go 99 rfl ?_
                refine Safe.call (law_awake hG) rfl rfl rfl ?_
                refine go 99 rfl ?_
                exact ⟨.inr rfl, trivial, .done (rfl) rfl⟩
              · refine go 99 rfl ?_
                refine Safe.gs rfl (fun u2 => ?_) (fun u2 => ?_)
                · refine go 99 rfl ?_
                  refine Safe.call (law_awake hG) rfl rfl rfl ?_
                  refine go 99 rfl ?_
                  exact ⟨.inr rfl, trivial, .done (rfl) rfl⟩
                · refine go 99 rfl ?_
                  refine Safe.gs rfl (fun u3 => ?_) (fun u3 => ?_)
                  · refine go 99 rfl ?_
                    refine Safe.call (law_awake hG) rfl rfl rfl ?_
                    refine go 99 rfl ?_
                    exact ⟨.inr rfl, trivial, .done (rfl) rfl⟩
                  · refine go 99 rfl ?_
                    refine Safe.ldF (v := .str x.name) rfl rfl rfl rfl ?_
                    refine go 99 rfl ?_
                    refine Safe.br rfl (fun u4 => ?_) (fun u4 => ?_)
                    · refine go 99 rfl ?_
                      refine Safe.call (law_awake hG) rfl rfl rfl ?_
                      refine go 99 rfl ?_
                      exact ⟨.inr rfl, trivial, .done (rfl) rfl⟩
                    · have hE := hfin (by simpa using u1) (by simpa using u2) (by simpa using u3) (by simpa using u4)
                      refine go 99 rfl ?_
                      refine Safe.call (hE) rfl rfl rfl ?_
                      refine go 99 rfl ?_
                      first | refine Safe.gsK true rfl rfl ?_ | refine Safe.gsK false rfl rfl ?_ | refine Safe.brT rfl rfl ?_ | refine Safe.brF rfl rfl ?_
                      refine go 99 rfl ?_
                      refine go 99 rfl ?_
                      refine Safe.call (law_awake hG) rfl rfl rfl ?_
                      refine go 99 rfl ?_
                      exact ⟨.inr rfl, trivial, .done (rfl) rfl⟩
            · exact absurd g2 hMn
          · have hl0 : l = [] := List.length_eq_zero_iff.1 g2
            refine Safe.hpO (h' := (r9 x y)) rfl ?_
            refine go 99 rfl ?_
            refine Safe.call (vw_deleteNil 41 go41 (vwC x) (nx9 x) (fun v hv => by simp at hv)) rfl rfl rfl ?_
            refine Safe.wkO (i := 56) rfl ?_
            refine Safe.eqv (v' := slV vwC (dlV (nx9 x) l)) (by rw [hl0]; rfl) ?_
            refine go 99 rfl ?_
            refine Safe.callL (rest := (r9 x y)) [] (vw_clone (setL x false l) (by omega)) rfl rfl rfl rfl (.refl _) (fun v h' nx' q => ?_)
            rcases q with ⟨N2, hN2, rfl, rfl, rfl⟩ | ⟨g1, g2, rfl, rfl, rfl⟩
            · refine Safe.hpO (h' := (4, .cells 47 (cat vwC (setL x false l)) (N2 * 17)) :: (r9 x y)) (congrArg (fun o => (4, o) :: r9 x y) (renO_dry (catVw_d _))) ?_
              refine go 99 rfl ?_
              have hD2 := vw_deleteFn 42 go42 (vwC x) (nx9 x) (setL x false l) N2 (N2 * 17) (by omega) hN2 (fun v _ => law_same42 v x)
              rw [show dlV (nx9 x) (setL x false l) = dlV (nx9 x) l from setL_filter] at hD2
              refine Safe.callL (rest := (r9 x y)) [(0, 4)] hD2 rfl rfl rfl rfl (List.Perm.of_eq (congrArg (fun o => (4, o) :: r9 x y) (renO_dry (catVw_d _)))) (fun v h' nx' q => ?_)
              obtain ⟨rfl, rfl, rfl⟩ := q
              refine Safe.hpO (h' := (4, .cells 47 (cat vwC (dlV (nx9 x) l)) (N2 * 17)) :: (r9 x y)) (congrArg (fun o => (4, o) :: r9 x y) (renO_dry (catVw_d _))) ?_
              refine Safe.frzO 4 rfl (catVw_dry _) ?_
              refine go 99 rfl ?_
              refine Safe.call (hW) rfl rfl rfl ?_
              refine go 99 rfl ?_
              first | refine Safe.gsK true rfl rfl ?_ | refine Safe.gsK false rfl rfl ?_ | refine Safe.brT rfl rfl ?_ | refine Safe.brF rfl rfl ?_
              refine go 99 rfl ?_
              refine go 99 rfl ?_
              refine Safe.call (hA) rfl rfl rfl ?_
              refine go 99 rfl ?_
              first | refine Safe.gsK true rfl rfl ?_ | refine Safe.gsK false rfl rfl ?_ | refine Safe.brT rfl rfl ?_ | refine Safe.brF rfl rfl ?_
              refine go 99 rfl ?_
              refine go 99 rfl ?_
              refine Safe.brF rfl (by rw [wrap64_fit (by omega) (by omega), hlen]; simp) ?_
              refine go 99 rfl ?_
              refine Safe.call (hS2) rfl rfl rfl ?_
              refine go 99 rfl ?_
              refine Safe.call (hS3) rfl rfl rfl ?_
              refine go 99 rfl ?_
              refine Safe.ldF (v := vwV x) rfl rfl rfl rfl ?_
              refine go 99 rfl ?_
              refine Safe.call (hS4) rfl rfl rfl ?_
              refine go 99 rfl ?_
              refine Safe.gs rfl (fun u1 => ?_) (fun u1 => ?_)
              · refine go 99 rfl ?_
                refine Safe.call (law_awake hG) rfl rfl rfl ?_
                refine go 99 rfl ?_
                exact ⟨.inr rfl, trivial, .done (rfl) rfl⟩
              · refine go 99 rfl ?_
                refine Safe.gs rfl (fun u2 => ?_) (fun u2 => ?_)
                · refine go 99 rfl ?_
                  refine Safe.call (law_awake hG) rfl rfl rfl ?_
                  refine go 99 rfl ?_
                  exact ⟨.inr rfl, trivial, .done (rfl) rfl⟩
                · refine go 99 rfl ?_
                  refine Safe.gs rfl (fun u3 => ?_) (fun u3 => ?_)
                  · refine go 99 rfl ?_
                    refine Safe.call (law_awake hG) rfl rfl rfl ?_
                    refine go 99 rfl ?_
                    exact ⟨.inr rfl, trivial, .done (rfl) rfl⟩
                  · refine go 99 rfl ?_
                    refine Safe.ldF (v := .str x.name) rfl rfl rfl rfl ?_
                    refine go 99 rfl ?_
                    refine Safe.br rfl (fun u4 => ?_) (fun u4 => ?_)
                    · refine go 99 rfl ?_
                      refine Safe.call (law_awake hG) rfl rfl rfl ?_
                      refine go 99 rfl ?_
                      exact ⟨.inr rfl, trivial, .done (rfl) rfl⟩
                    · have hE := hfin (by simpa using u1) (by simpa using u2) (by simpa using u3) (by simpa using u4)
                      refine go 99 rfl ?_
                      refine Safe.call (hE) rfl rfl rfl ?_
                      refine go 99 rfl ?_
                      first | refine Safe.gsK true rfl rfl ?_ | refine Safe.gsK false rfl rfl ?_ | refine Safe.brT rfl rfl ?_ | refine Safe.brF rfl rfl ?_
                      refine go 99 rfl ?_
                      refine go 99 rfl ?_
                      refine Safe.call (law_awake hG) rfl rfl rfl ?_
                      refine go 99 rfl ?_
                      exact ⟨.inr rfl, trivial, .done (rfl) rfl⟩
            · exact absurd g2 hMn
        · have hno := setR_no h1
          generalize hr : setR rxC l x = r at hS h1 hno
          obtain ⟨a, z⟩ := r
          dsimp only at hno h1
          subst hno
          refine go 99 rfl ?_
          refine Safe.call (hS) rfl rfl rfl ?_
          refine go 99 rfl ?_
          refine Safe.brT rfl (by simpa using h1) ?_
          refine go 99 rfl ?_
          first | refine Safe.gsK true rfl rfl ?_ | refine Safe.gsK false rfl rfl ?_ | refine Safe.brT rfl rfl ?_ | refine Safe.brF rfl rfl ?_
          refine go 99 rfl ?_
          refine go 99 rfl ?_
          refine Safe.call (law_awake hG) rfl rfl rfl ?_
          refine go 99 rfl ?_
          exact ⟨.inr rfl, trivial, .done (rfl) rfl⟩
end Go.Proofs.YtijfihbdcdkalaaGreatDoor
end
