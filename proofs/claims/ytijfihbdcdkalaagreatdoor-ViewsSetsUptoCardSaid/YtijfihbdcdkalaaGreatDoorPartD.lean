/- A part of the proof: V31, V36, V63, V64, V65, P1, P2, P3, P4, P5, P6, P7, RD, RB, V66, V67, V68, V69, V70, V71, V72, V73, V74, V75, V76, V77, V78, V79, V80, V81, V82, V83, V84, V85, V86, V87 -/
import Derived.Test.YtijfihbdcdkalaaGreatDoorPartC
import Derived.Test.YtijfihbdcdkalaaGreatDoorCards
import Derived.Test.YtijfihbdcdkalaaGreatDoorTie
import Derived.WalkKit
import Derived.ProofKit
import Derived.OpenShut
import Derived.Deep.DeepHandedRow
import Derived.Deep.SlicePairs
import Derived.Carry
import Derived.Lib.LaidTab
import Derived.Deep.DeepLaidRun
import Derived.Deep.DeepWitnessRowRef
import Derived.Shelf.Slices.In.SortNone
set_option linter.all false
set_option linter.unusedSectionVars false
set_option linter.unusedVariables false
set_option linter.unusedSimpArgs false
section
namespace Go.Proofs.YtijfihbdcdkalaaGreatDoor
open Go.Fw
variable [Gl]
set_option maxRecDepth 20000
set_option maxHeartbeats 4000000
variable {rx : By → Int}
theorem take_eq_step {α : Type} {a b : List α} {i : Nat} (ha : i < a.length) (hb : i < b.length) (h : a.take i = b.take i) (he : a[i] = b[i]) : a.take (i + 1) = b.take (i + 1) := by
  rw [take_succ_get ha, take_succ_get hb, h, he]
theorem ref_same (a b : List By) (ha : a.length ≤ big) (hb : b.length ≤ big) : PTri Tryz.prog 21 [slV strC a, slV strC b] (.bool (a == b)) := by
  simp only [big] at ha hb
  refine PTri.of_safe Tryz.func21 rfl Tryz.results21 Tryz.ntmps21 rfl ?_
  refine go 99 rfl ?_
  refine Safe.br rfl (fun c => ?_) (fun c => ?_)
  · have c1 : a.length ≠ b.length := by simp at c; omega
    refine go 99 rfl ?_
    exact ⟨.inr rfl, trivial, .done (bIeq (by rw [eq_comm, beq_eq_false_iff_ne]; exact fun e => c1 (by rw [e]))) rfl⟩
  · have c1 : a.length = b.length := by simp at c; omega
    refine go 99 rfl ?_
    refine Safe.loop (α := Nat) (fun i => [(0, slV strC a), (1, slV strC b), (5, nI i)]) (fun i => []) 0 (fun i => a.length - i) (fun i => i ≤ a.length ∧ a.take i = b.take i) 0 (sgI 0) ⟨⟨fit rfl, fit rfl, fit rfl, trivial⟩, ⟨_, .refl _, List.nil_sublist _⟩, rfl⟩ ⟨Nat.zero_le _, rfl⟩ ?_
    rintro i ⟨hi, he⟩
    refine go 99 rfl ?_
    refine Safe.br rfl (fun c2 => ?_) (fun c2 => ?_)
    · have hi : i < a.length := ltc c2
      have hi' : i < b.length := by omega
      refine go 99 rfl ?_
      refine Safe.drawP mixed [0, 1, 2, 3, 4, 5, 6, 7, 8] [(true, true), (true, true), (true, true), (true, true), (true, true), (true, true), (true, true), (true, true), (true, true)] (by kernel_rfl) ?_
      refine go 99 rfl ?_
      refine Safe.idxF hi rfl rfl rfl ?_
      refine go 99 rfl ?_
      refine Safe.ldF (ldStr hi) rfl rfl rfl ?_
      refine go 99 rfl ?_
      refine Safe.idxF hi' rfl rfl rfl ?_
      refine go 99 rfl ?_
      refine Safe.ldF (ldStr hi') rfl rfl rfl ?_
      refine go 99 rfl ?_
      refine Safe.br rfl (fun d => ?_) (fun d => ?_)
      · have d1 : a[i] ≠ b[i] := by simpa using d
        refine go 99 rfl ?_
        exact ⟨.inr rfl, trivial, .done (bIeq (by rw [eq_comm, beq_eq_false_iff_ne]; exact fun e => d1 (by simp only [e]))) rfl⟩
      · have d1 : a[i] = b[i] := by simpa using d
        refine go 99 rfl ?_
        exact ⟨sgI 0, i + 1, ⟨hi, take_eq_step hi hi' he d1⟩, mlt hi, rfl, rfl, ⟨fit rfl, fit rfl, fit (isucc (by first | omega | (dsimp only; omega))), trivial⟩, ⟨_, .refl _, List.nil_sublist _⟩, rfl⟩
    · have hi2 : i = a.length := Nat.le_antisymm hi (gec c2)
      rw [hi2, List.take_length, c1, List.take_length] at he
      refine go 99 rfl ?_
      exact ⟨.inr rfl, trivial, .done (bIeq (by rw [he]; simp)) rfl⟩
def setL (x : Vw) : Bool → List Vw → List Vw
  | dn, [] => if dn = true then [] else [x]
  | dn, v :: r => (if dn = false ∧ Op.bytesLess v.name x.name = false then [x] else []) ++ ((if v.name ≠ x.name then [v] else []) ++ setL x (dn || !Op.bytesLess v.name x.name) r)
def setR (rx : By → Int) (l : List Vw) (x : Vw) : List Vw × Int := if chkV rx l ≠ 0 then ([], chkV rx l) else if chkV rx (setL x false l) ≠ 0 then ([], chkV rx (setL x false l)) else (setL x false l, 0)
theorem setL_mem {x : Vw} : ∀ {dn : Bool} {l : List Vw} {v : Vw}, v ∈ setL x dn l → v = x ∨ v ∈ l
  | dn, [], v, h => by simp only [setL] at h; split at h <;> simp_all
  | dn, a :: r, v, h => by
    simp only [setL, List.mem_append] at h
    rcases h with h | h | h
    · split at h <;> simp_all
    · split at h <;> simp_all
    · rcases setL_mem h with h | h
      · exact .inl h
      · exact .inr (List.mem_cons_of_mem _ h)
theorem setL_len {x : Vw} : ∀ (dn : Bool) (l : List Vw), (setL x dn l).length ≤ l.length + (if dn = true then 0 else 1)
  | dn, [] => by simp only [setL]; cases dn <;> simp
  | dn, a :: r => by
    have := setL_len (x := x) (dn || !Op.bytesLess a.name x.name) r
    simp only [setL, List.length_append, List.length_cons]
    cases dn <;> cases hb : Op.bytesLess a.name x.name <;> simp_all <;> split <;> simp_all <;> omega
theorem setL_ok {x : Vw} {l : List Vw} (ho : okVs l) (h50 : l.length ≤ 50) (hx : x.name.length ≤ big ∧ okE x.expr) : okVs (setL x false l) ∧ (setL x false l).length ≤ 51 := by
  have h1 := setL_len (x := x) false l
  simp only [if_neg (show ¬ (false = true) by simp)] at h1
  refine ⟨⟨by simp only [big]; omega, fun v hv => ?_⟩, by omega⟩
  rcases setL_mem hv with rfl | h
  · exact hx
  · exact ho.2 v h
theorem ref_Set (H : RefRx rx) (l : List Vw) (x : Vw) (ho : okVs l) (hx : x.name.length ≤ big ∧ okE x.expr) : PTri Tryz.prog 37 [slV vwC l, vwV x] (.tup [slV vwC (setR rx l x).1, nI (setR rx l x).2]) := by
  have hE := setR.eq_1 rx l x
  refine PTri.of_safe Tryz.func37 rfl Tryz.results37 Tryz.ntmps37 rfl ?_
  refine go 99 rfl ?_
  refine Safe.call (ref_vcheck H l ho) rfl rfl rfl ?_
  refine go 99 rfl ?_
  refine Safe.br rfl (fun d => ?_) (fun d => ?_)
  · have d1 : chkV rx l ≠ 0 := by simpa using d
    rw [if_pos d1] at hE
    rw [hE]
    refine go 99 rfl ?_
    exact ⟨.inr rfl, trivial, .frz 1 rfl rfl (.done rfl rfl)⟩
  · have d1 : chkV rx l = 0 := by simpa using d
    rw [if_neg (by simp [d1])] at hE
    obtain ⟨hsm, h50⟩ := chkV_sm d1
    obtain ⟨hok, h51⟩ := setL_ok ho h50 hx
    refine go 99 rfl ?_
    refine Safe.loop (α := (Nat × Bool × List Vw × Nat)) (fun a => [(0, slV vwC l), (3, .ptr 0 0), (7, .slice 1 0 a.2.2.1.length a.2.2.2), (8, .bool a.2.1), (9, nI a.1)]) (fun a => [(1, .cells 47 (cat vwC a.2.2.1) (a.2.2.2 * 17)), (0, .cells 47 (vwC x) 17)]) 2 (fun a => l.length - a.1) (fun a => a.1 ≤ l.length ∧ setL x false l = a.2.2.1 ++ setL x a.2.1 (l.drop a.1) ∧ a.2.2.1.length ≤ 2 * a.1) (0, false, [], 0) (sgI 2) ⟨⟨fit rfl, fit rfl, fit rfl, fit rfl, fit rfl, trivial⟩, ⟨_, .refl _, .refl _⟩, rfl⟩ ⟨Nat.zero_le _, rfl, by simp⟩ ?_
    rintro ⟨i, dn, acc, N⟩ ⟨hi, ha, hal⟩
    dsimp only at hi ha hal
    refine go 99 rfl ?_
    refine Safe.br rfl (fun c1 => ?_) (fun c1 => ?_)
    · have hi : i < l.length := ltc c1
      rw [drop_get hi, setL] at ha
      refine go 99 rfl ?_
      refine Safe.ccut1 (α := (List Vw × Nat × Bool)) (fun b => [(0, slV vwC l), (3, .ptr 0 0), (7, .slice 1 0 b.1.length b.2.1), (8, .bool b.2.2), (9, nI i)]) (fun b => [(1, .cells 47 (cat vwC b.1) (b.2.1 * 17)), (0, .cells 47 (vwC x) 17)]) 2 (fun b => b.1 = acc ++ (if dn = false ∧ Op.bytesLess l[i].name x.name = false then [x] else []) ∧ b.2.2 = (dn || !Op.bytesLess l[i].name x.name)) ?_ ?_
      · cases dn with
        | true =>
          refine Safe.drawP mixed [0, 1, 2, 3, 4, 5, 6, 7, 8, 9, 10, 11] [(true, true), (true, true), (true, true), (true, true), (true, true), (true, true), (true, true), (true, true), (true, true), (true, true), (true, true), (true, true)] (by kernel_rfl) ?_
          refine go 99 rfl ?_
          first | refine Safe.gsK true rfl rfl ?_ | refine Safe.gsK false rfl rfl ?_ | refine Safe.brT rfl rfl ?_ | refine Safe.brF rfl rfl ?_
          refine go 99 rfl ?_
          refine go 99 rfl ?_
          exact ⟨sgI 2, (acc, N, true), ⟨by simp, by simp⟩, rfl, rfl, ⟨fit rfl, fit rfl, fit rfl, fit rfl, fit rfl, trivial⟩, ⟨_, .refl _, subK rfl (renO_dry (catVw_d _)) (subK rfl rfl subN)⟩, rfl⟩
        | false =>
          refine Safe.drawP mixed [0, 1, 2, 3, 4, 5, 6, 7, 8, 9, 10, 11] [(true, true), (true, true), (true, true), (true, true), (true, true), (true, true), (true, true), (true, true), (true, true), (true, true), (true, true), (true, true)] (by kernel_rfl) ?_
          refine go 99 rfl ?_
          first | refine Safe.gsK true rfl rfl ?_ | refine Safe.gsK false rfl rfl ?_ | refine Safe.brT rfl rfl ?_ | refine Safe.brF rfl rfl ?_
          refine go 99 rfl ?_
          refine Safe.idxF hi rfl rfl rfl ?_
          refine go 99 rfl ?_
          refine Safe.ldF (ldVwN hi) rfl rfl rfl ?_
          refine go 99 rfl ?_
          refine Safe.br rfl (fun e => ?_) (fun e => ?_)
          · have e1 : Op.bytesLess l[i].name x.name = false := by simpa using e
            refine go 99 rfl ?_
            refine Safe.appS (us := vwC x) rfl rfl rfl rfl rfl rfl (rfl) rfl (catVw_app _ _) ((by simp : acc.length + 1 = (acc ++ [x]).length)) (catVw_len _) (rfl) (rfl) (by first | omega | (dsimp only; omega) | (simp; omega)) (fun N' hN' => ?_)
            refine go 99 rfl ?_
            exact ⟨[(0, 0), (1, 3)], (acc ++ [x], N', true), ⟨by simp [e1], by simp [e1]⟩, rfl, rfl, ⟨fit rfl, fit rfl, fit rfl, fit rfl, fit rfl, trivial⟩, ⟨_, .refl _, subK rfl (renO_dry (catVw_d _)) (subD (subK rfl rfl subN))⟩, rfl⟩
          · have e1 : Op.bytesLess l[i].name x.name = true := by simpa using e
            refine go 99 rfl ?_
            exact ⟨sgI 2, (acc, N, false), ⟨by simp [e1], by simp [e1]⟩, rfl, rfl, ⟨fit rfl, fit rfl, fit rfl, fit rfl, fit rfl, trivial⟩, ⟨_, .refl _, subK rfl (renO_dry (catVw_d _)) (subK rfl rfl subN)⟩, rfl⟩
      · rintro ⟨acc2, N2, dn2⟩ ⟨h1, h2⟩
        dsimp only at h1 h2
        rw [← List.append_assoc, ← h1, ← h2] at ha
        have hal2 : acc2.length ≤ 2 * i + 1 := by rw [h1]; split <;> simp <;> omega
        refine go 99 rfl ?_
        refine Safe.drawP mixed [0, 1, 2, 3, 4, 5, 6, 7] [(true, true), (true, true), (true, true), (true, true), (true, true), (true, true), (true, true), (true, true)] (by kernel_rfl) ?_
        refine go 99 rfl ?_
        refine Safe.idxF hi rfl rfl rfl ?_
        refine go 99 rfl ?_
        refine Safe.ldF (ldVwN hi) rfl rfl rfl ?_
        refine go 99 rfl ?_
        refine Safe.br rfl (fun e => ?_) (fun e => ?_)
        · have e1 : l[i].name ≠ x.name := by simpa using e
          rw [if_pos e1, ← List.append_assoc] at ha
          refine go 99 rfl ?_
          refine Safe.idxF hi rfl rfl rfl ?_
          refine go 99 rfl ?_
          refine Safe.ldF (ldVw hi) rfl rfl rfl ?_
          refine go 99 rfl ?_
          refine Safe.appS (us := vwC l[i]) rfl rfl rfl rfl rfl rfl (rfl) rfl (catVw_app _ _) ((by simp : acc2.length + 1 = (acc2 ++ [l[i]]).length)) (catVw_len _) (rfl) (rfl) (by first | omega | (dsimp only; omega) | (simp; omega)) (fun N' hN' => ?_)
          refine go 99 rfl ?_
          exact ⟨[(0, 0), (1, 3)], (i + 1, dn2, acc2 ++ [l[i]], N'), ⟨hi, ha, by simp; omega⟩, mlt hi, rfl, rfl, ⟨fit rfl, fit rfl, fit rfl, fit rfl, fit (isucc (by first | omega | (dsimp only; omega))), trivial⟩, ⟨_, .refl _, subK rfl (renO_dry (catVw_d _)) (subD (subK rfl rfl subN))⟩, rfl⟩
        · have e1 : ¬ l[i].name ≠ x.name := by simpa using e
          rw [if_neg e1, List.nil_append] at ha
          refine go 99 rfl ?_
          exact ⟨sgI 2, (i + 1, dn2, acc2, N2), ⟨hi, ha, by dsimp only; omega⟩, mlt hi, rfl, rfl, ⟨fit rfl, fit rfl, fit rfl, fit rfl, fit (isucc (by first | omega | (dsimp only; omega))), trivial⟩, ⟨_, .refl _, subK rfl (renO_dry (catVw_d _)) (subK rfl rfl subN)⟩, rfl⟩
    · have hi2 : i = l.length := Nat.le_antisymm hi (gec c1)
      rw [hi2, List.drop_length, setL] at ha
      refine go 99 rfl ?_
      refine Safe.cut (α := (List Vw × Nat)) (fun b => [(7, .slice 1 0 b.1.length b.2)]) (fun b => [(1, .cells 47 (cat vwC b.1) (b.2 * 17))]) 2 (fun b => b.1 = setL x false l) ?_ ?_
      · cases dn with
        | true =>
          first | refine Safe.gsK true rfl rfl ?_ | refine Safe.gsK false rfl rfl ?_ | refine Safe.brT rfl rfl ?_ | refine Safe.brF rfl rfl ?_
          refine go 99 rfl ?_
          exact ⟨sgI 2, (acc, N), (by rw [ha]; simp), rfl, rfl, ⟨fit rfl, trivial⟩, ⟨_, .refl _, subK rfl (renO_dry (catVw_d _)) subN⟩, rfl⟩
        | false =>
          first | refine Safe.gsK true rfl rfl ?_ | refine Safe.gsK false rfl rfl ?_ | refine Safe.brT rfl rfl ?_ | refine Safe.brF rfl rfl ?_
          refine go 99 rfl ?_
          refine Safe.appS (us := vwC x) rfl rfl rfl rfl rfl rfl (rfl) rfl (catVw_app _ _) ((by simp : acc.length + 1 = (acc ++ [x]).length)) (catVw_len _) (rfl) (rfl) (by first | omega | (dsimp only; omega) | (simp; omega)) (fun N' hN' => ?_)
          refine go 99 rfl ?_
          exact ⟨[(0, 0), (1, 3)], (acc ++ [x], N'), (by rw [ha]; simp), rfl, rfl, ⟨fit rfl, trivial⟩, ⟨_, .refl _, subK rfl (renO_dry (catVw_d _)) subN⟩, rfl⟩
      · rintro ⟨acc3, N3⟩ h3
        dsimp only at h3
        subst h3
        refine go 99 rfl ?_
        refine Safe.callF 1 (ref_vcheck H (setL x false l) hok) rfl rfl rfl rfl ?_ rfl ?_
        · exact catVw_d _
        refine go 99 rfl ?_
        refine Safe.br rfl (fun d => ?_) (fun d => ?_)
        · have d2 : chkV rx (setL x false l) ≠ 0 := by simpa using d
          rw [if_pos d2] at hE
          rw [hE]
          refine go 99 rfl ?_
          exact ⟨.inr rfl, trivial, .frz 2 rfl rfl (.done rfl rfl)⟩
        · have d2 : chkV rx (setL x false l) = 0 := by simpa using d
          rw [if_neg (by simp [d2])] at hE
          rw [hE]
          refine go 99 rfl ?_
          exact ⟨.inr rfl, trivial, .frz 1 rfl (catVw_dry _) (.done rfl rfl)⟩
end Go.Proofs.YtijfihbdcdkalaaGreatDoor
end

section
namespace Go.Proofs.YtijfihbdcdkalaaGreatDoor
open Go.Fw
variable [Gl]
set_option maxRecDepth 20000
set_option maxHeartbeats 4000000
variable {rx : By → Int}
theorem errG_zero {α : Type} {f : α → Int} : ∀ {l : List α}, errG f l = 0 → ∀ x ∈ l, f x = 0
  | [], _, x, hx => by simp at hx
  | a :: r, h, x, hx => by
    simp only [errG] at h
    split at h
    · exact absurd h (by assumption)
    · rename_i h1
      rcases List.mem_cons.1 hx with rfl | hx
      · simpa using h1
      · exact errG_zero h x hx
theorem mat_ok {x : Mat} (h : matE rx x = 0) : vM x := by
  unfold matE at h
  split at h
  · cases h
  · unfold vM; omega
theorem mats_ok {l : List Mat} (h : matsE rx l = 0) : ∀ x ∈ l, vM x := by
  unfold matsE at h
  split at h
  · cases h
  · exact fun x hx => mat_ok (errG_zero h x hx)
theorem stg_ok {x : Stg} (h : stgE rx x = 0) : vS x := by
  unfold stgE at h
  split at h
  · cases h
  · split at h
    · cases h
    · split at h
      · cases h
      · split at h
        · rename_i h2; exact absurd h h2.2
        · split at h
          · rename_i h3; exact absurd h h3
          · rename_i h1 _ _ _ h5
            exact ⟨by omega, by omega, mats_ok (rx := rx) (by simpa using h5)⟩
theorem stgs_ok {l : List Stg} (h : stgsE rx l = 0) : l.length ≤ 100 ∧ ∀ x ∈ l, vS x := by
  unfold stgsE at h
  split at h
  · cases h
  · exact ⟨by omega, fun x hx => stg_ok (errG_zero h x hx)⟩
theorem cnd_ok {c : Cnd} (h : cndE rx c = 0) : 0 ≤ c.op ∧ c.op ≤ 6 := by
  unfold cndE at h
  split at h
  · split at h
    · cases h
    · omega
  · split at h
    · cases h
    · split at h
      · cases h
      · omega
theorem pat1_ok {k : Int} {cs : List Cnd} {na : Nat} (h : patE1 rx k cs na = 0) : 0 ≤ k ∧ k ≤ 9 ∧ cs.length ≤ 16 ∧ na ≤ 2 ∧ ∀ c ∈ cs, 0 ≤ c.op ∧ c.op ≤ 6 := by
  unfold patE1 at h
  by_cases h1 : k < 1 ∨ 9 < k
  · rw [if_pos h1] at h; cases h
  rw [if_neg h1] at h
  by_cases h2 : (na : Int) ≠ (if k = 1 then 0 else if k = 9 then 1 else 2) ∨ (k ≠ 1 ∧ 0 < cs.length)
  · rw [if_pos h2] at h; cases h
  rw [if_neg h2] at h
  by_cases h3 : 16 < cs.length
  · rw [if_pos h3] at h; cases h
  rw [if_neg h3] at h
  refine ⟨by omega, by omega, by omega, ?_, fun c hc => cnd_ok (errG_zero h c hc)⟩
  have h4 : (na : Int) = (if k = 1 then 0 else if k = 9 then 1 else 2) := Classical.byContradiction fun e => h2 (.inl e)
  split at h4
  · omega
  · split at h4 <;> omega
mutual
theorem pat_ok : ∀ p : Pat, patE rx p = 0 → vP p
  | ⟨k, cs, l⟩, h => by
    simp only [patE] at h
    split at h
    · exact absurd h (by assumption)
    · rename_i h1
      obtain ⟨a, b, c, d, e⟩ := pat1_ok (rx := rx) (by simpa using h1)
      exact ⟨a, b, c, d, e, pats_ok l h⟩
theorem pats_ok : ∀ l : List Pat, patEs rx l = 0 → vPs l
  | [], _ => trivial
  | a :: r, h => by
    simp only [patEs] at h
    split at h
    · exact absurd h (by assumption)
    · rename_i h1
      exact ⟨pat_ok a (by simpa using h1), pats_ok r h⟩
end
theorem one_ok {e : Ex} (h : oneE rx e = 0) : vX e := by
  unfold oneE at h
  split at h
  · cases h
  rename_i h1
  split at h
  · cases h
  rename_i h2
  split at h
  · cases h
  split at h
  · exact absurd h (by assumption)
  rename_i h4
  split at h
  · cases h
  split at h
  · rename_i h6; exact absurd h h6.2
  split at h
  · exact absurd h (by assumption)
  split at h
  · cases h
  rename_i h8
  split at h
  · exact absurd h (by assumption)
  rename_i h9
  have hst := stgs_ok (rx := rx) (by simpa using h9)
  have hk : okK e.kind := Classical.not_not.1 h1
  unfold badF at h2
  have hp : hP e.kind = true → patK rx e.pat = 0 := fun hp => by
    split at h
    · rename_i h10; exact absurd h h10.2
    · rename_i h10; exact Classical.byContradiction fun hne => h10 ⟨hp, hne⟩
  unfold okK at hk
  refine ⟨by omega, by omega, fun hn => ?_, by omega, mats_ok (rx := rx) (by simpa using h4), hst.1, hst.2, fun hP => ?_⟩
  · have := fun hh => h2 ⟨hn, hh⟩
    omega
  · have := hp hP
    unfold patK at this
    split at this
    · cases this
    · split at this
      · cases this
      · exact ⟨pat_ok _ this, by omega⟩
mutual
theorem all_ok : ∀ e : Ex, allE rx e = 0 → vA e
  | ⟨k, fn, ms, rg, off, num, den, names, wo, mt, st, pat, tx, l⟩, h => by
    simp only [allE] at h
    split at h
    · exact absurd h (by assumption)
    · rename_i h1
      exact ⟨one_ok (rx := rx) (by simpa using h1), alls_ok l h⟩
theorem alls_ok : ∀ l : List Ex, allEs rx l = 0 → vAs l
  | [], _ => trivial
  | a :: r, h => by
    simp only [allEs] at h
    split at h
    · exact absurd h (by assumption)
    · rename_i h1
      exact ⟨all_ok a (by simpa using h1), alls_ok r h⟩
end
theorem chk_ok {e : Ex} (h : chkE rx e = 0) : vA e ∧ szE e ≤ 100 := by
  refine ⟨?_, chkE_sz h⟩
  unfold chkE at h
  split at h
  · cases h
  · split at h
    · cases h
    · exact all_ok e h
def prtR (rx : By → Int) (e : Ex) : By × Int := if chkE rx e ≠ 0 then ([], chkE rx e) else (txtS e, 0)
theorem ref_Print (H : RefRx rx) (e : Ex) (ho : okE e) : PTri Tryz.prog 64 [exV e] (.tup [.str (prtR rx e).1, nI (prtR rx e).2]) := by
  have hE := prtR.eq_1 rx e
  refine PTri.of_safe Tryz.func64 rfl Tryz.results64 Tryz.ntmps64 rfl ?_
  refine go 99 rfl ?_
  refine Safe.call (ref_chk H e ho) rfl rfl rfl ?_
  refine go 99 rfl ?_
  refine Safe.br rfl (fun d => ?_) (fun d => ?_)
  · have d1 : chkE rx e ≠ 0 := by simpa using d
    rw [if_pos d1] at hE
    rw [hE]
    refine go 99 rfl ?_
    exact ⟨.inr rfl, trivial, .done (rfl) rfl⟩
  · have d1 : chkE rx e = 0 := by simpa using d
    rw [if_neg (by simp [d1])] at hE
    rw [hE]
    obtain ⟨h1, h2⟩ := chk_ok d1
    refine go 99 rfl ?_
    refine Safe.call (ref_textS _ e (Nat.le_refl _) h2 ho h1) rfl rfl rfl ?_
    refine go 99 rfl ?_
    exact ⟨.inr rfl, trivial, .done (rfl) rfl⟩
def eqE (rx : By → Int) (a b : Ex) : Bool := (prtR rx a).2 == 0 && (prtR rx b).2 == 0 && (prtR rx a).1 == (prtR rx b).1
theorem eqE_self {a : Ex} (h : chkE rx a = 0) : eqE rx a a = true := by
  simp [eqE, prtR, h]
theorem ref_Equal (H : RefRx rx) (a b : Ex) (ha : okE a) (hb : okE b) : PTri Tryz.prog 19 [exV a, exV b] (.bool (eqE rx a b)) := by
  refine PTri.of_safe Tryz.func19 rfl Tryz.results19 Tryz.ntmps19 rfl ?_
  refine go 99 rfl ?_
  refine Safe.call (ref_Print H a ha) rfl rfl rfl ?_
  refine go 99 rfl ?_
  refine Safe.call (ref_Print H b hb) rfl rfl rfl ?_
  refine go 99 rfl ?_
  refine Safe.gs rfl (fun x => ?_) (fun x => ?_)
  · refine go 99 rfl ?_
    refine Safe.gs rfl (fun y => ?_) (fun y => ?_)
    · refine go 99 rfl ?_
      exact ⟨.inr rfl, trivial, .done (bIeq (by simp only [eqE]; rw [x, y]; simp)) rfl⟩
    · refine go 99 rfl ?_
      exact ⟨.inr rfl, trivial, .done (bIeq (by simp only [eqE]; rw [y]; simp)) rfl⟩
  · refine go 99 rfl ?_
    exact ⟨.inr rfl, trivial, .done (bIeq (by simp only [eqE]; rw [x]; simp)) rfl⟩
end Go.Proofs.YtijfihbdcdkalaaGreatDoor
end

section
namespace Go.Proofs.YtijfihbdcdkalaaGreatDoor
open Go.Fw
variable [Gl]
set_option maxRecDepth 20000
set_option maxHeartbeats 4000000
theorem law_same41 (x y : Vw) : Go.Fw.PTri Tryz.prog 41 [vwV x, .fptr (vwC y) 0] (.bool (x.name == y.name)) := by
  refine PTri.of_safe Tryz.func41 rfl Tryz.results41 Tryz.ntmps41 rfl ?_
  refine go 99 rfl ?_
  refine Safe.ldF (rfl) rfl rfl rfl ?_
  refine go 99 rfl ?_
  exact ⟨.inr rfl, trivial, .done (rfl) rfl⟩
theorem law_same42 (x y : Vw) : Go.Fw.PTri Tryz.prog 42 [vwV x, .fptr (vwC y) 0] (.bool (x.name == y.name)) := by
  refine PTri.of_safe Tryz.func42 rfl Tryz.results42 Tryz.ntmps42 rfl ?_
  refine go 99 rfl ?_
  refine Safe.ldF (rfl) rfl rfl rfl ?_
  refine go 99 rfl ?_
  exact ⟨.inr rfl, trivial, .done (rfl) rfl⟩
theorem law_same44 (x y : Vw) (hx : okE x.expr) (hy : okE y.expr) : Go.Fw.PTri Tryz.prog 44 [vwV x, .fptr (vwC y) 0] (.bool (x.name == y.name && eqE rxC x.expr y.expr)) := by
  refine PTri.of_safe Tryz.func44 rfl Tryz.results44 Tryz.ntmps44 rfl ?_
  refine go 99 rfl ?_
  refine Safe.ldF (rfl) rfl rfl rfl ?_
  refine go 99 rfl ?_
  refine Safe.gs rfl (fun c => ?_) (fun c => ?_)
  · replace c : (x.name == y.name) = true := c
    refine go 99 rfl ?_
    refine Safe.ldF (rfl) rfl rfl rfl ?_
    refine go 99 rfl ?_
    refine Safe.call (ref_Equal ref_rx x.expr y.expr hx hy) rfl rfl rfl ?_
    refine go 99 rfl ?_
    exact ⟨.inr rfl, trivial, .done (bIeq (by rw [c]; rfl)) rfl⟩
  · replace c : (x.name == y.name) = false := c
    refine go 99 rfl ?_
    exact ⟨.inr rfl, trivial, .done (bIeq (by rw [c]; rfl)) rfl⟩
def smv (x y : Vw) : Bool := x.name == y.name && eqE rxC x.expr y.expr
def smV (l m : List Vw) : Bool := decide (l.length = m.length) && (l.zip m).all fun p => smv p.1 p.2
theorem smV_drop {l m : List Vw} {i : Nat} (h : i < l.length) (h2 : i < m.length) : ((l.drop i).zip (m.drop i)).all (fun p => smv p.1 p.2) = (smv l[i] m[i] && ((l.drop (i + 1)).zip (m.drop (i + 1))).all fun p => smv p.1 p.2) := by
  rw [List.drop_eq_getElem_cons h, List.drop_eq_getElem_cons h2]; rfl
theorem ref_Same46 (l m : List Vw) (hl : okVs l) (hm : okVs m) : Go.Fw.PTri Tryz.prog 39 [slV vwC l, slV vwC m] (.bool (smV l m)) := by
  have hl1 := hl.1
  simp only [big] at hl1
  refine PTri.of_safe Tryz.func39 rfl Tryz.results39 Tryz.ntmps39 rfl ?_
  refine go 99 rfl ?_
  refine Safe.br rfl (fun a => ?_) (fun a => ?_)
  · have a1 : ¬ l.length = m.length := fun h => by rw [h] at a; simp at a
    refine go 99 rfl ?_
    exact ⟨.inr rfl, trivial, .done (bIeq (by rw [smV, decide_eq_false a1]; rfl)) rfl⟩
  · have a1 : l.length = m.length := by have := of_decide_eq_true (p := (l.length : Int) = m.length) (by simpa using a); omega
    have hE : smV l m = (l.zip m).all fun p => smv p.1 p.2 := by rw [smV, decide_eq_true a1]; rfl
    refine go 99 rfl ?_
    refine Safe.loop (α := Nat) (fun i => [(0, slV vwC l), (1, slV vwC m), (5, nI i)]) (fun i => []) 0 (fun i => l.length - i) (fun i => i ≤ l.length ∧ smV l m = ((l.drop i).zip (m.drop i)).all fun p => smv p.1 p.2) 0 (sgI 0) ⟨⟨fit rfl, fit rfl, fit rfl, trivial⟩, ⟨_, .refl _, List.nil_sublist _⟩, rfl⟩ ⟨Nat.zero_le _, hE⟩ ?_
    rintro i ⟨hi, ha⟩
    refine go 99 rfl ?_
    refine Safe.br rfl (fun u => ?_) (fun u => ?_)
    · have hi : i < l.length := ltc u
      have hi2 : i < m.length := by omega
      rw [smV_drop hi hi2] at ha
      refine go 99 rfl ?_
      refine Safe.drawP mixed [0, 1, 2, 3, 4, 5, 6, 7, 8, 9, 10, 11, 12, 13, 14, 15, 16, 17, 18, 19, 20, 21, 22, 23, 24] [(true, true), (true, true), (true, true), (true, true), (true, true), (true, true), (true, true), (true, true), (true, true), (true, true), (true, true), (true, true), (true, true), (true, true), (true, true), (true, true), (true, true), (true, true), (true, true), (true, true), (true, true), (true, true), (true, true), (true, true), (true, true)] (by kernel_rfl) ?_
      refine go 99 rfl ?_
      refine Safe.idxF hi rfl rfl rfl ?_
      refine go 99 rfl ?_
      refine Safe.ldF (ldVwN hi) rfl rfl rfl ?_
      refine go 99 rfl ?_
      refine Safe.idxF hi2 rfl rfl rfl ?_
      refine go 99 rfl ?_
      refine Safe.ldF (ldVwN hi2) rfl rfl rfl ?_
      refine go 99 rfl ?_
      have hx := (hl.2 _ (List.getElem_mem hi)).2
      have hy := (hm.2 _ (List.getElem_mem hi2)).2
      refine Safe.gs rfl (fun c => ?_) (fun c => ?_)
      · have c1 : (l[i].name == m[i].name) = false := by simpa using c
        rw [smv, c1, Bool.false_and, Bool.false_and] at ha
        refine go 99 rfl ?_
        exact ⟨.inr rfl, trivial, .done (bIeq ha.symm) rfl⟩
      · have c1 : (l[i].name == m[i].name) = true := by simpa using c
        refine go 99 rfl ?_
        refine Safe.idxF hi rfl rfl rfl ?_
        refine go 99 rfl ?_
        refine Safe.ldF (ldVwE hi) rfl rfl rfl ?_
        refine go 99 rfl ?_
        refine Safe.idxF hi2 rfl rfl rfl ?_
        refine go 99 rfl ?_
        refine Safe.ldF (ldVwE hi2) rfl rfl rfl ?_
        refine go 99 rfl ?_
        refine Safe.call (ref_Equal ref_rx l[i].expr m[i].expr hx hy) rfl rfl rfl ?_
        refine go 99 rfl ?_
        refine Safe.br rfl (fun d => ?_) (fun d => ?_)
        · have d1 : eqE rxC l[i].expr m[i].expr = false := by simpa using d
          rw [smv, d1, Bool.and_false, Bool.false_and] at ha
          refine go 99 rfl ?_
          exact ⟨.inr rfl, trivial, .done (bIeq ha.symm) rfl⟩
        · have d1 : eqE rxC l[i].expr m[i].expr = true := by simpa using d
          rw [smv, c1, d1, Bool.true_and, Bool.true_and] at ha
          refine go 99 rfl ?_
          exact ⟨sgI 0, i + 1, ⟨hi, ha⟩, mlt hi, rfl, rfl, ⟨fit rfl, fit rfl, fit (isucc (by omega)), trivial⟩, ⟨_, .refl _, List.nil_sublist _⟩, rfl⟩
    · have hi2 : i = l.length := Nat.le_antisymm hi (gec u)
      subst hi2
      rw [List.drop_length] at ha
      refine go 99 rfl ?_
      exact ⟨.inr rfl, trivial, .done (bIeq (by rw [ha]; rfl)) rfl⟩
end Go.Proofs.YtijfihbdcdkalaaGreatDoor
end

section
namespace Go.Proofs.YtijfihbdcdkalaaGreatDoor
open Go.Fw
variable [Gl]
set_option maxRecDepth 20000
set_option maxHeartbeats 4000000
end Go.Proofs.YtijfihbdcdkalaaGreatDoor
end

section
namespace Go.Proofs.YtijfihbdcdkalaaGreatDoor
open Go.Fw
variable [Gl]
set_option maxRecDepth 20000
set_option maxHeartbeats 4000000
def ixP {α : Type} (p : α → Bool) : Nat → List α → Int
  | _, [] => -1
  | i, a :: r => if p a = true then (i : Int) else ixP p (i + 1) r
theorem ixP_any {α : Type} (p : α → Bool) : ∀ (l : List α) (i : Nat), decide (0 ≤ ixP p i l) = l.any p
  | [], i => by simp [ixP]
  | a :: r, i => by
    rw [List.any_cons]
    by_cases h : p a = true
    · have e : ixP p i (a :: r) = (i : Int) := by simp only [ixP, if_pos h]
      rw [h, Bool.true_or, decide_eq_true (by rw [e]; omega)]
    · have e : ixP p i (a :: r) = ixP p (i + 1) r := by simp only [ixP, if_neg h]
      rw [show p a = false by simpa using h, Bool.false_or, ← ixP_any p r (i + 1)]
      simp only [e]
end Go.Proofs.YtijfihbdcdkalaaGreatDoor
end

section
namespace Go.Proofs.YtijfihbdcdkalaaGreatDoor
open Go.Fw
variable [Gl]
variable {rx : By → Int}
mutual
def usE : Ex → List By
  | ⟨k, _, _, _, _, _, _, _, _, _, _, _, tx, l⟩ => if k = 13 then [tx] else usEs l
def usEs : List Ex → List By
  | [] => []
  | a :: r => usE a ++ usEs r
end
theorem usE_eq (e : Ex) : usE e = if e.kind = 13 then [e.text] else usEs e.args := by cases e; rfl
mutual
def wfE : Ex → Prop
  | ⟨k, _, _, _, _, _, _, _, _, _, _, _, _, l⟩ => (k = 13 → l = []) ∧ wfEs l
def wfEs : List Ex → Prop
  | [] => True
  | a :: r => wfE a ∧ wfEs r
end
theorem one_wf {e : Ex} (h : oneE rx e = 0) (hk : e.kind = 13) : e.args = [] := by
  unfold oneE at h
  split at h
  · cases h
  split at h
  · cases h
  split at h
  · cases h
  · rename_i h3
    have h4 : frE e = false := by simpa using h3
    simp only [frE, fr3, Bool.or_eq_false_iff] at h4
    have h5 := h4.2.2
    rw [hk] at h5
    have : (e.args.length : Int) = 0 := by simpa [hA] using h5
    exact List.length_eq_zero_iff.1 (by omega)
mutual
theorem all_wf : ∀ e : Ex, allE rx e = 0 → wfE e
  | ⟨k, fn, ms, rg, off, num, den, names, wo, mt, st, pat, tx, l⟩, h => by
    simp only [allE] at h
    split at h
    · exact absurd h (by assumption)
    · rename_i h1
      exact ⟨fun hk => one_wf (rx := rx) (by simpa using h1) hk, alls_wf l h⟩
theorem alls_wf : ∀ l : List Ex, allEs rx l = 0 → wfEs l
  | [], _ => trivial
  | a :: r, h => by
    simp only [allEs] at h
    split at h
    · exact absurd h (by assumption)
    · rename_i h1
      exact ⟨all_wf a (by simpa using h1), alls_wf r h⟩
end
theorem chkE_all {e : Ex} (h : chkE rx e = 0) : allE rx e = 0 := by
  unfold chkE at h
  split at h
  · cases h
  · split at h
    · cases h
    · exact h
theorem chk_wf {e : Ex} (h : chkE rx e = 0) : wfE e := all_wf e (chkE_all h)
theorem mem_insB (s t : By) : ∀ l : List By, t ∈ insB s l ↔ t = s ∨ t ∈ l
  | [] => by simp [insB]
  | a :: r => by
    have ih := mem_insB s t r
    simp only [insB]
    split
    · simp
    · simp only [List.mem_cons, ih]
      constructor
      · rintro (h | h | h) <;> simp [h]
      · rintro (h | h | h) <;> simp [h]
theorem mem_wth (l : List By) (s t : By) : t ∈ wth l s ↔ t = s ∨ t ∈ l := by
  unfold wth
  split
  · rename_i h
    have : s ∈ l := by simpa using h
    constructor
    · exact .inr
    · rintro (rfl | h) <;> assumption
  · exact mem_insB s t l
theorem mem_fold (t : By) : ∀ (l acc : List By), t ∈ l.foldl wth acc ↔ t ∈ acc ∨ t ∈ l
  | [], acc => by simp
  | a :: r, acc => by
    rw [List.foldl_cons, mem_fold t r, mem_wth]
    simp only [List.mem_cons]
    constructor
    · rintro ((h | h) | h) <;> simp [h]
    · rintro (h | h | h) <;> simp [h]
mutual
theorem mem_dir (t : By) : ∀ e : Ex, wfE e → (t ∈ dirE e ↔ t ∈ usE e)
  | ⟨k, fn, ms, rg, off, num, den, names, wo, mt, st, pat, tx, l⟩, h => by
    simp only [dirE, usE]
    rw [mem_dirs t l _ h.2]
    by_cases hk : k = 13
    · rw [if_pos hk, if_pos hk, h.1 hk]
      simp [usEs]
    · rw [if_neg hk, if_neg hk]
      simp
theorem mem_dirs (t : By) : ∀ (l : List Ex) (acc : List By), wfEs l → (t ∈ dirEs l acc ↔ t ∈ acc ∨ t ∈ usEs l)
  | [], acc, _ => by simp [dirEs, usEs]
  | a :: r, acc, h => by
    simp only [dirEs, usEs]
    rw [mem_dirs t r _ h.2, mem_fold, mem_dir t a h.1, List.mem_append]
    constructor
    · rintro ((h | h) | h) <;> simp [h]
    · rintro (h | h | h) <;> simp [h]
end
theorem all_mem {l m : List By} {p : By → Bool} (h : ∀ t, t ∈ l ↔ t ∈ m) : l.all p = m.all p := by
  rw [Bool.eq_iff_iff, List.all_eq_true, List.all_eq_true]
  exact ⟨fun q x hx => q x ((h x).2 hx), fun q x hx => q x ((h x).1 hx)⟩
theorem cov_us {e : Ex} (h : wfE e) (l : List By) : covE e l = (usE e).all (inL l) := all_mem fun t => mem_dir t e h
theorem usEs_flat : ∀ l : List Ex, usEs l = l.flatMap usE
  | [] => rfl
  | a :: r => by rw [usEs, List.flatMap_cons, usEs_flat r]
mutual
def rplE (M : By → Ex) : Ex → Ex
  | ⟨k, fn, ms, rg, off, num, den, names, wo, mt, st, pat, tx, l⟩ => if k = 13 then M tx else ⟨k, fn, ms, rg, off, num, den, names, wo, mt, st, pat, tx, rplEs M l⟩
def rplEs (M : By → Ex) : List Ex → List Ex
  | [] => []
  | a :: r => rplE M a :: rplEs M r
end
theorem rplEs_map (M : By → Ex) : ∀ l, rplEs M l = l.map (rplE M)
  | [] => rfl
  | a :: r => by rw [rplEs, rplEs_map M r]; rfl
theorem rplE_eq (M : By → Ex) (e : Ex) : rplE M e = if e.kind = 13 then M e.text else { e with args := e.args.map (rplE M) } := by
  rw [← rplEs_map]; cases e; rfl
mutual
theorem rpl_congr {M N : By → Ex} : ∀ e : Ex, (∀ t ∈ usE e, M t = N t) → rplE M e = rplE N e
  | ⟨k, fn, ms, rg, off, num, den, names, wo, mt, st, pat, tx, l⟩, h => by
    simp only [rplE]
    simp only [usE] at h
    split
    · rename_i hk
      rw [if_pos hk] at h
      exact h tx (by simp)
    · rename_i hk
      rw [if_neg hk] at h
      rw [rpls_congr l h]
theorem rpls_congr {M N : By → Ex} : ∀ l : List Ex, (∀ t ∈ usEs l, M t = N t) → rplEs M l = rplEs N l
  | [], _ => rfl
  | a :: r, h => by
    simp only [usEs, List.mem_append] at h
    rw [rplEs, rplEs, rpl_congr a fun t ht => h t (.inl ht), rpls_congr r fun t ht => h t (.inr ht)]
end
end Go.Proofs.YtijfihbdcdkalaaGreatDoor
end

section
namespace Go.Proofs.YtijfihbdcdkalaaGreatDoor
open Go.Fw
variable [Gl]
variable {rx : By → Int}
theorem nodup_le : ∀ {a b : List By}, a.Nodup → (∀ x ∈ a, x ∈ b) → a.length ≤ b.length
  | [], b, _, _ => by simp
  | x :: r, b, hn, hs => by
    rw [List.nodup_cons] at hn
    have hx := hs x (by simp)
    have h1 : ∀ y ∈ r, y ∈ b.erase x := fun y hy => (List.mem_erase_of_ne (fun e => hn.1 (by rw [← e]; exact hy))).2 (hs y (List.mem_cons_of_mem _ hy))
    have h2 := nodup_le hn.2 h1
    have h3 := List.length_erase_of_mem hx
    have h4 : 0 < b.length := List.length_pos_of_mem hx
    simp only [List.length_cons]
    omega
theorem nodup_all {a b : List By} (hn : a.Nodup) (hs : ∀ x ∈ a, x ∈ b) (hl : b.length ≤ a.length) : ∀ x ∈ b, x ∈ a := fun x hx => Classical.byContradiction fun hc => by
  have h1 : ∀ y ∈ a, y ∈ b.erase x := fun y hy => (List.mem_erase_of_ne (fun e => hc (by rw [← e]; exact hy))).2 (hs y hy)
  have h2 := nodup_le hn h1
  have h3 := List.length_erase_of_mem hx
  have h4 : 0 < b.length := List.length_pos_of_mem hx
  omega
theorem inL_mem {l : List By} {s : By} : inL l s = true ↔ s ∈ l := by simp [inL]
theorem inL_no {l : List By} {s : By} : inL l s = false ↔ s ∉ l := by rw [← inL_mem]; simp
structure OrdOk (l : List Vw) (out : List By) : Prop where
  nd : out.Nodup
  sub : ∀ s ∈ out, s ∈ nmsV l
  dep : ∀ (k : Nat) (h : k < out.length), ∃ v ∈ l, v.name = out[k] ∧ covE v.expr (out.take k) = true
theorem OrdOk.nil (l : List Vw) : OrdOk l [] := ⟨.nil, fun s h => by simp at h, fun k h => by simp at h⟩
theorem OrdOk.step {l : List Vw} {out : List By} (h : OrdOk l out) {v : Vw} (hv : v ∈ l) (hn : nxtB out v = true) : OrdOk l (out ++ [v.name]) := by
  simp only [nxtB, Bool.and_eq_true, Bool.not_eq_true'] at hn
  have h0 := inL_no.1 hn.1
  refine ⟨?_, ?_, ?_⟩
  · rw [List.nodup_append]
    exact ⟨h.nd, by simp, fun a ha b hb e => by simp at hb; subst hb; subst e; exact h0 ha⟩
  · intro s hs
    rcases List.mem_append.1 hs with hs | hs
    · exact h.sub s hs
    · simp only [List.mem_singleton] at hs
      subst hs
      exact List.mem_map_of_mem hv
  · intro k hk
    by_cases hlt : k < out.length
    · obtain ⟨u, hu, e, hc⟩ := h.dep k hlt
      refine ⟨u, hu, by rw [List.getElem_append_left hlt]; exact e, ?_⟩
      rw [List.take_append_of_le_length (by omega)]; exact hc
    · have hk2 : k = out.length := by simp at hk; omega
      subst hk2
      refine ⟨v, hv, by simp, ?_⟩
      rw [List.take_append_of_le_length (Nat.le_refl _), List.take_length]
      exact hn.2
theorem nxt_some {l : List Vw} {out : List By} {i : Nat} (h : nxtV l out = some i) : ∃ hi : i < l.length, nxtB out l[i] = true := by
  rw [nxtV, List.findIdx?_eq_some_iff_getElem] at h
  obtain ⟨hi, h1, _⟩ := h
  exact ⟨hi, h1⟩
theorem ordF_ok {l : List Vw} : ∀ (f : Nat) (out : List By), OrdOk l out → OrdOk l (ordF l f out)
  | 0, out, h => h
  | f + 1, out, h => by
    simp only [ordF]
    cases hx : nxtV l out with
    | none => exact h
    | some i =>
      obtain ⟨hi, h1⟩ := nxt_some hx
      simp only [List.getElem?_eq_getElem hi]
      exact ordF_ok f _ (h.step (List.getElem_mem hi) h1)
theorem ordV_ok (l : List Vw) : OrdOk l (ordV l) := ordF_ok _ _ (.nil l)
theorem vwE_each : ∀ {l : List Vw} {prev : Option By}, vwE rx prev l = 0 → (∀ v ∈ l, isVw v.name = true ∧ chkE rx v.expr = 0 ∧ lateN prev v.name = false) ∧ (nmsV l).Pairwise (fun a b => a < b)
  | [], prev, _ => ⟨fun v hv => by simp at hv, .nil⟩
  | a :: r, prev, h => by
    simp only [vwE] at h
    split at h
    · cases h
    split at h
    · cases h
    split at h
    · exact absurd h (by assumption)
    rename_i h1 h2 h3
    obtain ⟨k1, k2⟩ := vwE_each h
    have h3 : chkE rx a.expr = 0 := by simpa using h3
    have hlt : ∀ v ∈ r, a.name < v.name := fun v hv => by
      have := (k1 v hv).2.2
      simp only [lateN, Bool.not_eq_false'] at this
      exact (bl_iff _ _).1 this
    refine ⟨fun v hv => ?_, ?_⟩
    · rcases List.mem_cons.1 hv with rfl | hv
      · exact ⟨by simpa using h1, h3, by simpa using h2⟩
      · refine ⟨(k1 v hv).1, (k1 v hv).2.1, ?_⟩
        cases prev with
        | none => rfl
        | some p =>
          simp only [lateN, Bool.not_eq_true, Bool.not_eq_false'] at h2 ⊢
          exact (bl_iff _ _).2 (List.lt_trans ((bl_iff _ _).1 h2) (hlt v hv))
    · simp only [nmsV, List.map_cons]
      refine List.pairwise_cons.2 ⟨fun s hs => ?_, k2⟩
      obtain ⟨v, hv, rfl⟩ := List.mem_map.1 hs
      exact hlt v hv
structure VOk (rx : By → Int) (l : List Vw) : Prop where
  len : l.length ≤ 50
  nm : ∀ v ∈ l, isVw v.name = true
  ck : ∀ v ∈ l, chkE rx v.expr = 0
  asc : (nmsV l).Pairwise (fun a b => a < b)
  cov : ∀ v ∈ l, ∀ t ∈ usE v.expr, t ∈ nmsV l
  all : ∀ v ∈ l, v.name ∈ ordV l
theorem VOk.wf {l : List Vw} (h : VOk rx l) {v : Vw} (hv : v ∈ l) : wfE v.expr := chk_wf (h.ck v hv)
theorem cov_iff {e : Ex} (h : wfE e) (l : List By) : covE e l = true ↔ ∀ t ∈ usE e, t ∈ l := by
  rw [cov_us h, List.all_eq_true]
  exact ⟨fun q t ht => inL_mem.1 (q t ht), fun q t ht => inL_mem.2 (q t ht)⟩
theorem chkV_ok {l : List Vw} (h : chkV rx l = 0) : VOk rx l := by
  unfold chkV at h
  split at h
  · cases h
  split at h
  · exact absurd h (by assumption)
  split at h
  · cases h
  split at h
  · cases h
  rename_i h1 h2 h3 h4
  obtain ⟨k1, k2⟩ := vwE_each (rx := rx) (prev := none) (l := l) (by simpa using h2)
  have h3 : ∀ v ∈ l, covE v.expr (nmsV l) = true := List.all_eq_true.1 (by simpa using h3)
  have ho := ordV_ok l
  have hall := nodup_all ho.nd ho.sub (by simp only [nmsV, List.length_map]; omega)
  exact ⟨by omega, fun v hv => (k1 v hv).1, fun v hv => (k1 v hv).2.1, k2, fun v hv => (cov_iff (chk_wf (k1 v hv).2.1) _).1 (h3 v hv), fun v hv => hall _ (List.mem_map_of_mem hv)⟩
theorem asc_nd {l : List By} (h : l.Pairwise (fun a b => a < b)) : l.Nodup := h.imp fun hab e => by rw [e] at hab; exact List.lt_irrefl _ hab
theorem VOk.nd {l : List Vw} (h : VOk rx l) : (nmsV l).Nodup := asc_nd h.asc
theorem VOk.uniq {l : List Vw} (h : VOk rx l) {v w : Vw} (hv : v ∈ l) (hw : w ∈ l) (e : v.name = w.name) : v = w := by
  have hn := h.nd
  unfold nmsV at hn
  clear h
  induction l with
  | nil => simp at hv
  | cons a r ih =>
    rw [List.map_cons, List.nodup_cons] at hn
    rcases List.mem_cons.1 hv with h1 | h1 <;> rcases List.mem_cons.1 hw with h2 | h2
    · rw [h1, h2]
    · exact absurd (by rw [← h1, e]; exact List.mem_map_of_mem h2) hn.1
    · exact absurd (by rw [← h2, ← e]; exact List.mem_map_of_mem h1) hn.1
    · exact ih h1 h2 hn.2
theorem VOk.olen {l : List Vw} (h : VOk rx l) : (ordV l).length = l.length := by
  have ho := ordV_ok l
  have h1 := nodup_le ho.nd ho.sub
  have h2 := nodup_le (b := ordV l) h.nd fun x hx => by obtain ⟨v, hv, rfl⟩ := List.mem_map.1 hx; exact h.all v hv
  simp only [nmsV, List.length_map] at h1 h2
  omega
end Go.Proofs.YtijfihbdcdkalaaGreatDoor
end

section
namespace Go.Proofs.YtijfihbdcdkalaaGreatDoor
open Go.Fw
variable [Gl]
variable {rx : By → Int}
def xmpA (l : List Vw) (M : List (By × Ex)) : List (By × Ex) := l.foldl (fun M v => putM v.name v.expr M) M
def xmp (l : List Vw) : List (By × Ex) := xmpA l []
theorem xmpA_no {z : Ex} {t : By} : ∀ {l : List Vw} {M : List (By × Ex)}, t ∉ nmsV l → getM z t (xmpA l M) = getM z t M
  | [], M, _ => rfl
  | a :: r, M, h => by
    simp only [nmsV, List.map_cons, List.mem_cons, not_or] at h
    show getM z t (xmpA r _) = _
    rw [xmpA_no h.2, getM_put, if_neg h.1]
theorem xmpA_at {z : Ex} : ∀ {l : List Vw} {M : List (By × Ex)} {v : Vw}, (nmsV l).Nodup → v ∈ l → getM z v.name (xmpA l M) = v.expr
  | [], M, v, _, h => by simp at h
  | a :: r, M, v, hn, h => by
    simp only [nmsV, List.map_cons, List.nodup_cons] at hn
    show getM z v.name (xmpA r _) = _
    rcases List.mem_cons.1 h with rfl | h
    · rw [xmpA_no hn.1, getM_put, if_pos rfl]
    · exact xmpA_at hn.2 h
theorem xmp_at {l : List Vw} (h : VOk rx l) {v : Vw} (hv : v ∈ l) : getM zroE v.name (xmp l) = v.expr := xmpA_at h.nd hv
theorem xmpA_has {t : By} : ∀ {l : List Vw} {M : List (By × Ex)}, (ixM t (xmpA l M)).isSome = (inL (nmsV l) t || (ixM t M).isSome)
  | [], M => by simp [xmpA, nmsV, inL]
  | a :: r, M => by
    show (ixM t (xmpA r _)).isSome = _
    rw [xmpA_has, ixM_put]
    simp only [nmsV, List.map_cons, inL, List.contains_cons]
    cases (t == a.name) <;> cases (List.contains (List.map (·.name) r) t) <;> simp
theorem xmp_has (l : List Vw) (t : By) : (ixM t (xmp l)).isSome = inL (nmsV l) t := by rw [xmp, xmpA_has]; simp [ixM]
def xpn (X : List (By × Ex)) : List By → List (By × Ex) → List (By × Ex)
  | [], M => M
  | n :: r, M => xpn X r (putM n (rplE (fun s => getM zroE s M) (getM zroE n X)) M)
def fM (l : List Vw) (s : By) : Ex := getM zroE s (xpn (xmp l) (ordV l) [])
def full (l : List Vw) (e : Ex) : Ex := rplE (fM l) e
theorem xpn_app (X : List (By × Ex)) : ∀ (a b : List By) (M : List (By × Ex)), xpn X (a ++ b) M = xpn X b (xpn X a M)
  | [], b, M => rfl
  | x :: r, b, M => xpn_app X r b _
theorem xpn_no (X : List (By × Ex)) {t : By} : ∀ {o : List By} {M : List (By × Ex)}, t ∉ o → getM zroE t (xpn X o M) = getM zroE t M
  | [], M, _ => rfl
  | a :: r, M, h => by
    simp only [List.mem_cons, not_or] at h
    rw [xpn, xpn_no X h.2, getM_put, if_neg h.1]
theorem VOk.at_ {l : List Vw} (h : VOk rx l) {v : Vw} (hv : v ∈ l) : ∃ k, ∃ hk : k < (ordV l).length, (ordV l)[k] = v.name ∧ ∀ t ∈ usE v.expr, t ∈ (ordV l).take k := by
  obtain ⟨k, hk, e⟩ := List.getElem_of_mem (h.all v hv)
  refine ⟨k, hk, e, ?_⟩
  obtain ⟨u, hu, e2, hc⟩ := (ordV_ok l).dep k hk
  obtain rfl := h.uniq hu hv (by rw [e2, e])
  exact (cov_iff (h.wf hu) _).1 hc
theorem take_drop_nd {o : List By} (hn : o.Nodup) {k : Nat} {t : By} (ht : t ∈ o.take k) : t ∉ o.drop k := fun h => by
  rw [← List.take_append_drop k o, List.nodup_append] at hn
  exact hn.2.2 t ht t h rfl
theorem fM_at {l : List Vw} (h : VOk rx l) {v : Vw} (hv : v ∈ l) : fM l v.name = full l v.expr := by
  obtain ⟨k, hk, e, hu⟩ := h.at_ hv
  have hn := (ordV_ok l).nd
  have hs : ordV l = (ordV l).take k ++ (v.name :: (ordV l).drop (k + 1)) := by
    rw [← e, ← List.drop_eq_getElem_cons hk, List.take_append_drop]
  have h2 : v.name ∉ (ordV l).drop (k + 1) := by
    have := hn
    rw [hs, List.nodup_append, List.nodup_cons] at this
    exact this.2.1.1
  have e1 : fM l v.name = rplE (fun s => getM zroE s (xpn (xmp l) ((ordV l).take k) [])) v.expr := by
    unfold fM
    conv => lhs; rw [hs, xpn_app, xpn, xpn_no _ h2, getM_put, if_pos rfl]
    rw [xmp_at h hv]
  rw [e1, full]
  refine rpl_congr _ fun t ht => ?_
  have ht2 := take_drop_nd hn (hu t ht)
  show _ = getM zroE t (xpn (xmp l) (ordV l) [])
  conv => rhs; rw [← List.take_append_drop k (ordV l), xpn_app, xpn_no _ ht2]
theorem ord_ind {l : List Vw} (h : VOk rx l) {p : Vw → Prop} (hs : ∀ v ∈ l, (∀ t ∈ usE v.expr, ∀ u ∈ l, u.name = t → p u) → p v) : ∀ v ∈ l, p v := by
  have key : ∀ k, ∀ v ∈ l, v.name ∈ (ordV l).take k → p v := by
    intro k
    induction k with
    | zero => intro v _ h; simp at h
    | succ k ih =>
      intro v hv hm
      refine hs v hv fun t ht u hu e => ih u hu ?_
      obtain ⟨j, hj, e1, h1⟩ := h.at_ hv
      have hjk : j ≤ k := by
        refine Classical.byContradiction fun hc => ?_
        have : v.name ∈ (ordV l).drop j := by rw [List.drop_eq_getElem_cons hj, e1]; exact List.mem_cons_self ..
        have h3 : v.name ∈ (ordV l).take j := (List.take_subset_take_left _ (by omega)) hm
        exact take_drop_nd (ordV_ok l).nd h3 this
      rw [e]
      exact (List.take_subset_take_left _ hjk) (h1 t ht)
  exact fun v hv => key (ordV l).length v hv (by rw [List.take_length]; exact h.all v hv)
def expP (rx : By → Int) (l : List Vw) (e : Ex) : Ex × Int := if chkV rx l ≠ 0 then (zroE, chkV rx l) else if chkE rx e ≠ 0 then (zroE, chkE rx e) else if covE e (nmsV l) = false then (zroE, 7)
  else if chkE rx (full l e) ≠ 0 then (zroE, chkE rx (full l e)) else (full l e, 0)
end Go.Proofs.YtijfihbdcdkalaaGreatDoor
end

section
namespace Go.Proofs.YtijfihbdcdkalaaGreatDoor
open Go.Fw
variable [Gl]
variable {rx : By → Int}
theorem bl_tri {a b : By} (h : Op.bytesLess a b = false) (hne : a ≠ b) : b < a := by
  have := le_nl b a
  rw [h] at this
  simp only [Bool.not_false, Bool.or_eq_true, beq_iff_eq] at this
  rcases this with h | h
  · exact (bl_iff _ _).1 h
  · exact absurd h.symm hne
theorem asc_ins {s : By} : ∀ {l : List By}, l.Pairwise (fun a b => a < b) → s ∉ l → (insB s l).Pairwise (fun a b => a < b)
  | [], _, _ => List.pairwise_singleton _ _
  | a :: r, h, hs => by
    rw [List.pairwise_cons] at h
    simp only [List.mem_cons, not_or] at hs
    simp only [insB]
    split
    · rename_i hb
      have hsa := (bl_iff _ _).1 hb
      refine List.pairwise_cons.2 ⟨fun x hx => ?_, List.pairwise_cons.2 h⟩
      rcases List.mem_cons.1 hx with rfl | hx
      · exact hsa
      · exact List.lt_trans hsa (h.1 x hx)
    · rename_i hb
      have has := bl_tri (by simpa using hb) hs.1
      refine List.pairwise_cons.2 ⟨fun x hx => ?_, asc_ins h.2 hs.2⟩
      rcases (mem_insB s x r).1 hx with rfl | hx
      · exact has
      · exact h.1 x hx
theorem asc_wth {l : List By} (h : l.Pairwise (fun a b => a < b)) (s : By) : (wth l s).Pairwise (fun a b => a < b) := by
  unfold wth
  split
  · exact h
  · rename_i hc
    exact asc_ins h (by simpa using hc)
theorem asc_fold : ∀ (l acc : List By), acc.Pairwise (fun a b => a < b) → (l.foldl wth acc).Pairwise (fun a b => a < b)
  | [], acc, h => h
  | a :: r, acc, h => asc_fold r _ (asc_wth h a)
theorem asc_dirs : ∀ (l : List Ex) (acc : List By), acc.Pairwise (fun a b => a < b) → (dirEs l acc).Pairwise (fun a b => a < b)
  | [], acc, h => h
  | a :: r, acc, h => by rw [dirEs]; exact asc_dirs r _ (asc_fold _ _ h)
theorem asc_dir (e : Ex) : (dirE e).Pairwise (fun a b => a < b) := by
  rw [dirE_eq]
  exact asc_dirs _ _ (by split <;> simp)
theorem asc_step {out : List By} (h : out.Pairwise (fun a b => a < b)) (v : Vw) : (usStep out v).Pairwise (fun a b => a < b) := by
  unfold usStep
  split
  · exact asc_fold _ _ h
  · exact h
theorem asc_all : ∀ (l : List Vw) {out : List By}, out.Pairwise (fun a b => a < b) → (usAll l out).Pairwise (fun a b => a < b)
  | [], out, h => h
  | a :: r, out, h => asc_all r (asc_step h a)
theorem asc_it (l : List Vw) : ∀ (n : Nat) {out : List By}, out.Pairwise (fun a b => a < b) → (usIt l n out).Pairwise (fun a b => a < b)
  | 0, out, h => h
  | n + 1, out, h => asc_it l n (asc_all l h)
theorem asc_ext : ∀ {a b : List By}, a.Pairwise (fun x y => x < y) → b.Pairwise (fun x y => x < y) → (∀ t, t ∈ a ↔ t ∈ b) → a = b
  | [], [], _, _, _ => rfl
  | [], y :: b, _, _, h => absurd ((h y).2 (by simp)) (by simp)
  | x :: a, [], _, _, h => absurd ((h x).1 (by simp)) (by simp)
  | x :: a, y :: b, ha, hb, h => by
    rw [List.pairwise_cons] at ha hb
    have hxy : x = y := by
      rcases List.mem_cons.1 ((h x).1 (by simp)) with h1 | h1
      · exact h1
      · rcases List.mem_cons.1 ((h y).2 (by simp)) with h2 | h2
        · exact h2.symm
        · exact absurd (List.lt_trans (ha.1 y h2) (hb.1 x h1)) (List.lt_irrefl _)
    subst hxy
    congr 1
    refine asc_ext ha.2 hb.2 fun t => ⟨fun ht => ?_, fun ht => ?_⟩
    · rcases List.mem_cons.1 ((h t).1 (List.mem_cons_of_mem _ ht)) with h1 | h1
      · rw [h1] at ht; exact absurd (ha.1 _ ht) (List.lt_irrefl _)
      · exact h1
    · rcases List.mem_cons.1 ((h t).2 (List.mem_cons_of_mem _ ht)) with h1 | h1
      · rw [h1] at ht; exact absurd (hb.1 _ ht) (List.lt_irrefl _)
      · exact h1
theorem srt_asc {l : List By} (h : l.Nodup) : (l.mergeSort fun x y => decide (x ≤ y)).Pairwise (fun a b => a < b) := by
  have h1 := List.pairwise_mergeSort (le := fun x y : By => decide (x ≤ y)) (fun a b c h1 h2 => by simp only [decide_eq_true_eq] at *; exact List.le_trans h1 h2) (fun a b => by simp only [Bool.or_eq_true, decide_eq_true_eq]; exact List.le_total a b) l
  have h2 : (l.mergeSort fun x y => decide (x ≤ y)).Nodup := (List.mergeSort_perm l _).nodup_iff.2 h
  refine (h1.and h2).imp fun {a b} ⟨hle, hne⟩ => ?_
  have hle : a ≤ b := by simpa using hle
  cases hb : Op.bytesLess a b with
  | true => exact (bl_iff _ _).1 hb
  | false => exact absurd (bl_tri hb hne) (by simpa using hle)
inductive Rch (l : List Vw) (e : Ex) : By → Prop where
  | base {t : By} (h : t ∈ usE e) : Rch l e t
  | step {t : By} {v : Vw} (h : Rch l e v.name) (hv : v ∈ l) (ht : t ∈ usE v.expr) : Rch l e t
theorem Rch.nm {l : List Vw} {e : Ex} (h : VOk rx l) (he : ∀ t ∈ usE e, t ∈ nmsV l) {t : By} (hr : Rch l e t) : t ∈ nmsV l := by
  cases hr with
  | base h => exact he t h
  | step _ hv ht => exact h.cov _ hv t ht
theorem step_mem {out : List By} {v : Vw} (hw : wfE v.expr) (t : By) : t ∈ usStep out v ↔ t ∈ out ∨ (v.name ∈ out ∧ t ∈ usE v.expr) := by
  unfold usStep
  split
  · rename_i hc
    rw [mem_fold, mem_dir t _ hw]
    exact ⟨fun h => h.imp id fun h => ⟨inL_mem.1 hc, h⟩, fun h => h.imp id fun h => h.2⟩
  · rename_i hc
    have hc : v.name ∉ out := inL_no.1 (by simpa using hc)
    exact ⟨.inl, fun h => h.elim id fun h => absurd h.1 hc⟩
theorem all_sub : ∀ (L : List Vw) (out : List By), (∀ v ∈ L, wfE v.expr) → ∀ t ∈ out, t ∈ usAll L out
  | [], out, _, t, h => h
  | a :: r, out, hw, t, h => all_sub r _ (fun v hv => hw v (List.mem_cons_of_mem _ hv)) t ((step_mem (hw a (by simp)) t).2 (.inl h))
theorem all_has : ∀ (L : List Vw) (out : List By), (∀ v ∈ L, wfE v.expr) → ∀ v ∈ L, v.name ∈ out → ∀ t ∈ usE v.expr, t ∈ usAll L out
  | [], out, _, v, h, _, _, _ => by simp at h
  | a :: r, out, hw, v, hv, hn, t, ht => by
    have hw' := fun v hv => hw v (List.mem_cons_of_mem a hv)
    rcases List.mem_cons.1 hv with rfl | hv
    · exact all_sub r _ hw' t ((step_mem (hw _ (by simp)) t).2 (.inr ⟨hn, ht⟩))
    · exact all_has r _ hw' v hv ((step_mem (hw a (by simp)) _).2 (.inl hn)) t ht
theorem all_snd {l : List Vw} {e : Ex} : ∀ (L : List Vw) (out : List By), (∀ v ∈ L, wfE v.expr ∧ v ∈ l) → (∀ t ∈ out, Rch l e t) → ∀ t ∈ usAll L out, Rch l e t
  | [], out, _, ho, t, h => ho t h
  | a :: r, out, hw, ho, t, h => all_snd r _ (fun v hv => hw v (List.mem_cons_of_mem _ hv)) (fun t ht => by
      rcases (step_mem (hw a (by simp)).1 t).1 ht with h | ⟨h1, h2⟩
      · exact ho t h
      · exact .step (ho _ h1) (hw a (by simp)).2 h2) t h
theorem it_snd {l : List Vw} {e : Ex} (hw : ∀ v ∈ l, wfE v.expr) : ∀ (n : Nat) (out : List By), (∀ t ∈ out, Rch l e t) → ∀ t ∈ usIt l n out, Rch l e t
  | 0, out, ho, t, h => ho t h
  | n + 1, out, ho, t, h => it_snd hw n _ (all_snd l out (fun v hv => ⟨hw v hv, hv⟩) ho) t h
theorem it_succ (l : List Vw) : ∀ (n : Nat) (out : List By), usIt l (n + 1) out = usAll l (usIt l n out)
  | 0, out => rfl
  | n + 1, out => by
    rw [usIt, it_succ l n]; rfl
theorem it_sub {l : List Vw} (hw : ∀ v ∈ l, wfE v.expr) (out : List By) : ∀ (n : Nat), ∀ t ∈ out, t ∈ usIt l n out
  | 0, t, h => h
  | n + 1, t, h => by rw [it_succ]; exact all_sub l _ hw t (it_sub hw out n t h)
theorem it_has {l : List Vw} (h : VOk rx l) {e : Ex} (hwe : wfE e) (he : ∀ t ∈ usE e, t ∈ nmsV l) : ∀ (k : Nat) {t : By}, Rch l e t → t ∉ (ordV l).take (l.length - k) → t ∈ usIt l k (dirE e)
  | 0, t, hr, hn => by
    rw [Nat.sub_zero, ← h.olen, List.take_length] at hn
    obtain ⟨v, hv, rfl⟩ := List.mem_map.1 (hr.nm h he)
    exact absurd (h.all v hv) hn
  | k + 1, t, hr, hn => by
    rw [it_succ]
    cases hr with
    | base hb => exact all_sub l _ (fun v hv => h.wf hv) t (it_sub (fun v hv => h.wf hv) _ k t ((mem_dir t e hwe).2 hb))
    | step hs hv ht =>
      rename_i v
      obtain ⟨j, hj, e1, hu⟩ := h.at_ hv
      have h1 : ¬ j ≤ l.length - (k + 1) := fun hc => hn ((List.take_subset_take_left _ hc) (hu t ht))
      have h2 : v.name ∉ (ordV l).take (l.length - k) := fun hm => by
        have h3 : v.name ∈ (ordV l).drop j := by rw [List.drop_eq_getElem_cons hj, e1]; exact List.mem_cons_self ..
        exact take_drop_nd (ordV_ok l).nd ((List.take_subset_take_left _ (by omega)) hm) h3
      exact all_has l _ (fun v hv => h.wf hv) v hv (it_has h hwe he k hs h2) t ht
theorem usR_mem {l : List Vw} (h : VOk rx l) {e : Ex} (hwe : wfE e) (he : ∀ t ∈ usE e, t ∈ nmsV l) (t : By) : t ∈ usR l e ↔ Rch l e t :=
  ⟨it_snd (fun v hv => h.wf hv) _ _ (fun t ht => .base ((mem_dir t e hwe).1 ht)) t, fun hr => it_has h hwe he l.length hr (by simp)⟩
theorem usR_asc (l : List Vw) (e : Ex) : (usR l e).Pairwise (fun a b => a < b) := asc_it l _ (asc_dir e)
def fndA (ns : List By) (F : List (By × Bool)) : List (By × Bool) := ns.foldl (fun F s => putM s true F) F
theorem fndA_get (t : By) : ∀ (ns : List By) (F : List (By × Bool)), getM false t (fndA ns F) = (inL ns t || getM false t F)
  | [], F => by simp [fndA, inL]
  | a :: r, F => by
    show getM false t (fndA r _) = _
    rw [fndA_get t r, getM_put]
    simp only [inL, List.contains_cons]
    by_cases h : t = a
    · simp [h]
    · have : (t == a) = false := by simpa using h
      rw [if_neg h, this]; simp
def usW (X : List (By × Ex)) : List By → List (By × Bool) → List By → List By
  | [], F, acc => acc
  | n :: r, F, acc => if getM false n F = true then usW X r (fndA (usE (getM zroE n X)) F) (acc ++ [n]) else usW X r F acc
def usL (l : List Vw) (e : Ex) : List By := usW (xmp l) (ordV l).reverse (fndA (usE e) []) []
theorem usW_mem {l : List Vw} (h : VOk rx l) {e : Ex} (he : ∀ t ∈ usE e, t ∈ nmsV l) : ∀ (i : Nat) (F : List (By × Bool)) (acc : List By), i ≤ (ordV l).length → (∀ t, getM false t F = true → Rch l e t) → (∀ t ∈ usE e, getM false t F = true) →
    (∀ v ∈ l, Rch l e v.name → v.name ∉ (ordV l).take i → ∀ t ∈ usE v.expr, getM false t F = true) → acc.Nodup → (∀ t, t ∈ acc ↔ Rch l e t ∧ t ∉ (ordV l).take i) →
    (usW (xmp l) ((ordV l).take i).reverse F acc).Nodup ∧ ∀ t, t ∈ usW (xmp l) ((ordV l).take i).reverse F acc ↔ Rch l e t
  | 0, F, acc, hi, h1, h2, h3, h4, h5 => by
    simp only [List.take_zero, List.reverse_nil, usW]
    exact ⟨h4, fun t => by rw [h5 t]; simp⟩
  | i + 1, F, acc, hi, h1, h2, h3, h4, h5 => by
    have hn := (ordV_ok l).nd
    have htk : (ordV l).take (i + 1) = (ordV l).take i ++ [(ordV l)[i]] := by rw [List.take_add_one, List.getElem?_eq_getElem (by omega)]; rfl
    obtain ⟨v, hv, e1⟩ := List.mem_map.1 ((ordV_ok l).sub _ (List.getElem_mem (show i < (ordV l).length by omega)))
    have hni : v.name ∉ (ordV l).take i := fun hm => by
      have h3 : v.name ∈ (ordV l).drop i := by rw [List.drop_eq_getElem_cons (by omega), e1]; exact List.mem_cons_self ..
      exact take_drop_nd hn hm h3
    have hiff : getM false v.name F = true ↔ Rch l e v.name := ⟨h1 _, fun hr => by
      generalize hx : v.name = x at hr
      cases hr with
      | base hb => exact h2 _ hb
      | step hs hw ht =>
        rename_i w
        obtain ⟨j, hj, e2, hu⟩ := h.at_ hw
        have hji : ¬ j ≤ i := fun hc => hni (by rw [hx]; exact (List.take_subset_take_left _ hc) (hu x ht))
        refine h3 w hw hs (fun hm => ?_) x ht
        have h6 : w.name ∈ (ordV l).drop j := by rw [List.drop_eq_getElem_cons hj, e2]; exact List.mem_cons_self ..
        exact take_drop_nd hn ((List.take_subset_take_left _ (by omega)) hm) h6⟩
    rw [htk, List.reverse_append]
    simp only [List.reverse_singleton, List.singleton_append, usW, ← e1]
    have hmem : ∀ t, t ∉ (ordV l).take i ↔ (t ∉ (ordV l).take (i + 1) ∨ t = v.name) := fun t => by
      rw [htk, ← e1]
      simp only [List.mem_append, List.mem_singleton, not_or]
      by_cases ht : t = v.name
      · subst ht; simp [hni]
      · simp [ht]
    split
    · rename_i hF
      have hr := hiff.1 hF
      rw [xmp_at h hv]
      refine usW_mem h he i _ _ (by omega) (fun t ht => ?_) (fun t ht => ?_) (fun w hw hrw hwn t ht => ?_) ?_ (fun t => ?_)
      · rw [fndA_get, Bool.or_eq_true] at ht
        rcases ht with ht | ht
        · exact .step hr hv (inL_mem.1 ht)
        · exact h1 t ht
      · rw [fndA_get, h2 t ht]; simp
      · rw [fndA_get]
        rcases (hmem w.name).1 hwn with hwn | hwn
        · rw [h3 w hw hrw hwn t ht]; simp
        · obtain rfl := h.uniq hw hv hwn
          rw [inL_mem.2 ht]; rfl
      · rw [List.nodup_append]
        refine ⟨h4, by simp, fun a ha b hb e => ?_⟩
        simp only [List.mem_singleton] at hb
        subst hb; subst e
        have := ((h5 _).1 ha).2
        rw [htk, ← e1] at this
        simp at this
      · rw [List.mem_append, h5 t, List.mem_singleton, hmem t]
        constructor
        · rintro (⟨a, b⟩ | rfl)
          · exact ⟨a, .inl b⟩
          · exact ⟨hr, .inr rfl⟩
        · rintro ⟨a, b | b⟩
          · exact .inl ⟨a, b⟩
          · exact .inr b
    · rename_i hF
      have hr : ¬ Rch l e v.name := fun hr => hF (hiff.2 hr)
      refine usW_mem h he i _ _ (by omega) h1 h2 (fun w hw hrw hwn t ht => ?_) h4 (fun t => ?_)
      · rcases (hmem w.name).1 hwn with hwn | hwn
        · exact h3 w hw hrw hwn t ht
        · obtain rfl := h.uniq hw hv hwn
          exact absurd hrw hr
      · rw [h5 t, hmem t]
        constructor
        · rintro ⟨a, b⟩; exact ⟨a, .inl b⟩
        · rintro ⟨a, b | b⟩
          · exact ⟨a, b⟩
          · rw [b] at a; exact absurd a hr
theorem usL_mem {l : List Vw} (h : VOk rx l) {e : Ex} (he : ∀ t ∈ usE e, t ∈ nmsV l) : (usL l e).Nodup ∧ ∀ t, t ∈ usL l e ↔ Rch l e t := by
  have key := usW_mem h he (ordV l).length (fndA (usE e) []) [] (Nat.le_refl _) (fun t ht => by
      rw [fndA_get] at ht
      simp only [getM, Bool.or_false] at ht
      exact .base (inL_mem.1 ht)) (fun t ht => by rw [fndA_get, inL_mem.2 ht]; rfl) (fun v hv _ hn => absurd (h.all v hv) (by rwa [List.take_length] at hn)) .nil (fun t => by
      rw [List.take_length]
      refine ⟨fun ht => by simp at ht, fun ⟨hr, hn⟩ => ?_⟩
      obtain ⟨v, hv, rfl⟩ := List.mem_map.1 (hr.nm h he)
      exact absurd (h.all v hv) hn)
  rw [List.take_length] at key
  exact key
theorem us_eq {l : List Vw} (h : VOk rx l) {e : Ex} (hwe : wfE e) (he : ∀ t ∈ usE e, t ∈ nmsV l) : (usL l e).mergeSort (fun x y => decide (x ≤ y)) = usR l e := by
  obtain ⟨h1, h2⟩ := usL_mem h he
  refine asc_ext (srt_asc h1) (usR_asc l e) fun t => ?_
  rw [(List.mergeSort_perm _ _).mem_iff, h2 t, usR_mem h hwe he]
end Go.Proofs.YtijfihbdcdkalaaGreatDoor
end

section
namespace Go.Proofs.YtijfihbdcdkalaaGreatDoor
open Go.Fw
variable [Gl]
variable {rx : By → Int}
def vwX (s : By) : Ex := ⟨13, 0, [], 0, 0, 0, 0, [], false, 0, [], ⟨0, [], []⟩, s, []⟩
theorem expP_at {l : List Vw} {e : Ex} (h1 : chkV rx l = 0) (h2 : chkE rx e = 0) (h3 : ∀ t ∈ usE e, t ∈ nmsV l) : expP rx l e = if chkE rx (full l e) ≠ 0 then (zroE, chkE rx (full l e)) else (full l e, 0) := by
  have c : covE e (nmsV l) = true := (cov_iff (chk_wf h2) _).2 h3
  unfold expP
  rw [if_neg (by simp [h1]), if_neg (by simp [h2]), if_neg (by simp [c])]
theorem usesR_at {l : List Vw} (h : chkV rx l = 0) {e : Ex} (he : chkE rx e = 0) (hu : ∀ t ∈ usE e, t ∈ nmsV l) : usesR rx l e = (usR l e, 0) := by
  unfold usesR
  rw [if_neg (by simp [h]), if_neg (by simp [he]), if_neg (by simp [(cov_iff (chk_wf he) _).2 hu])]
end Go.Proofs.YtijfihbdcdkalaaGreatDoor
end

section
namespace Go.Proofs.YtijfihbdcdkalaaGreatDoor
open Go.Fw
variable [Gl]
variable {rx : By → Int}
theorem vwE_of : ∀ {L : List Vw} {prev : Option By}, (∀ v ∈ L, isVw v.name = true) → (∀ v ∈ L, chkE rx v.expr = 0) → (nmsV L).Pairwise (fun a b => a < b) → (∀ p, prev = some p → ∀ v ∈ L, p < v.name) → vwE rx prev L = 0
  | [], prev, _, _, _, _ => rfl
  | a :: r, prev, h1, h2, h3, h4 => by
    simp only [nmsV, List.map_cons, List.pairwise_cons] at h3
    simp only [vwE]
    rw [if_neg (by simp [h1 a (by simp)])]
    have hl : lateN prev a.name = false := by
      cases prev with
      | none => rfl
      | some p => simp only [lateN, Bool.not_eq_false']; exact (bl_iff _ _).2 (h4 p rfl a (by simp))
    rw [if_neg (by simp [hl]), if_neg (by simp [h2 a (by simp)])]
    refine vwE_of (fun v hv => h1 v (List.mem_cons_of_mem _ hv)) (fun v hv => h2 v (List.mem_cons_of_mem _ hv)) h3.2 fun p hp v hv => ?_
    obtain rfl := Option.some.inj hp
    exact h3.1 _ (List.mem_map_of_mem hv)
theorem chkV_of {L : List Vw} (h : VOk rx L) : chkV rx L = 0 := by
  have h1 : vwE rx none L = 0 := vwE_of h.nm h.ck h.asc (fun p hp => by cases hp)
  have h2 : L.all (fun v => covE v.expr (nmsV L)) = true := List.all_eq_true.2 fun v hv => (cov_iff (h.wf hv) _).2 (h.cov v hv)
  have h3 := h.len
  unfold chkV
  rw [if_neg (by omega), if_neg (by simp [h1]), if_neg (by simp [h2]), if_neg (by rw [h.olen]; omega)]
end Go.Proofs.YtijfihbdcdkalaaGreatDoor
end

section
namespace Go.Proofs.YtijfihbdcdkalaaGreatDoor
open Go.Fw
variable [Gl]
variable {rx : By → Int}
def lbV (x : By) : List Vw → Nat
  | [] => 0
  | v :: r => if Op.bytesLess v.name x = true then lbV x r + 1 else 0
def setP (x : Vw) (l : List Vw) : List Vw := match l[lbV x.name l]? with
  | some v => if v.name = x.name then l.set (lbV x.name l) x else l.take (lbV x.name l) ++ x :: l.drop (lbV x.name l)
  | none => l.take (lbV x.name l) ++ x :: l.drop (lbV x.name l)
theorem setL_true {x : Vw} : ∀ {l : List Vw}, (∀ v ∈ l, v.name ≠ x.name) → setL x true l = l
  | [], _ => rfl
  | v :: r, h => by
    simp only [setL]
    rw [if_neg (by simp), if_pos (h v (by simp)), Bool.true_or, setL_true fun v hv => h v (List.mem_cons_of_mem _ hv)]
    rfl
theorem set_eq {x : Vw} : ∀ {l : List Vw}, (nmsV l).Pairwise (fun a b => a < b) → setL x false l = setP x l
  | [], _ => rfl
  | v :: r, h => by
    simp only [nmsV, List.map_cons, List.pairwise_cons] at h
    cases hb : Op.bytesLess v.name x.name with
    | true =>
      have ih := set_eq (x := x) (l := r) h.2
      have hne : v.name ≠ x.name := fun e => by rw [e] at hb; exact List.lt_irrefl _ ((bl_iff _ _).1 hb)
      simp only [setL, hb]
      rw [if_neg (by simp), if_pos hne]
      simp only [Bool.not_true, Bool.or_false, ih, List.nil_append, List.singleton_append]
      unfold setP
      rw [lbV, if_pos hb, List.getElem?_cons_succ]
      cases r[lbV x.name r]? with
      | none => rfl
      | some w => dsimp only; split <;> rfl
    | false =>
      have hgt : ∀ w ∈ r, w.name ≠ x.name := fun w hw e => by
        have h1 := h.1 _ (List.mem_map_of_mem hw)
        rw [e] at h1
        exact absurd h1 (List.not_lt.2 ((bl_no _ _).1 hb))
      have hl : lbV x.name (v :: r) = 0 := by simp [lbV, hb]
      have hs : setL x false (v :: r) = x :: ((if v.name ≠ x.name then [v] else []) ++ r) := by
        simp only [setL, hb, Bool.not_false, Bool.or_true, setL_true hgt]; simp
      rw [hs]
      unfold setP
      rw [hl, List.getElem?_cons_zero]
      dsimp only
      by_cases hne : v.name = x.name
      · simp [hne]
      · simp [hne]
theorem setL_iff {x v : Vw} : ∀ {dn : Bool} {l : List Vw}, v ∈ setL x dn l ↔ (dn = false ∧ v = x) ∨ (v ∈ l ∧ v.name ≠ x.name)
  | dn, [] => by cases dn <;> simp [setL]
  | dn, a :: r => by
    simp only [setL, List.mem_append, setL_iff (dn := dn || !Op.bytesLess a.name x.name) (l := r), List.mem_cons]
    constructor
    · rintro (h | h | h | h)
      · split at h
        · rename_i hc; exact .inl ⟨hc.1, by simpa using h⟩
        · simp at h
      · split at h
        · rename_i hc
          simp only [List.mem_singleton] at h
          subst h
          exact .inr ⟨.inl rfl, hc⟩
        · simp at h
      · simp only [Bool.or_eq_false_iff] at h
        exact .inl ⟨h.1.1, h.2⟩
      · exact .inr ⟨.inr h.1, h.2⟩
    · rintro (⟨rfl, rfl⟩ | ⟨rfl | h, hn⟩)
      · cases hb : Op.bytesLess a.name v.name with
        | true => exact .inr (.inr (.inl ⟨rfl, rfl⟩))
        | false => left; rw [if_pos ⟨rfl, rfl⟩]; simp
      · right; left; rw [if_pos hn]; simp
      · exact .inr (.inr (.inr ⟨h, hn⟩))
theorem setL_filter {x : Vw} : ∀ {dn : Bool} {l : List Vw}, (setL x dn l).filter (fun v => !(v.name == x.name)) = l.filter (fun v => !(v.name == x.name))
  | dn, [] => by cases dn <;> simp [setL]
  | dn, a :: r => by
    simp only [setL, List.filter_append, setL_filter (dn := dn || !Op.bytesLess a.name x.name) (l := r)]
    have e1 : List.filter (fun v : Vw => !(v.name == x.name)) (if dn = false ∧ Op.bytesLess a.name x.name = false then [x] else []) = [] := by split <;> simp
    rw [e1, List.filter_cons]
    by_cases hn : a.name = x.name
    · rw [if_neg (by simp [hn])]; simp [hn]
    · rw [if_pos hn]; simp [hn]
theorem setL_flen {x : Vw} : ∀ (dn : Bool) (l : List Vw), (setL x dn l).length = (l.filter (fun v => !(v.name == x.name))).length + (if dn = true then 0 else 1)
  | dn, [] => by cases dn <;> simp [setL]
  | dn, a :: r => by
    have ih := setL_flen (x := x) (dn || !Op.bytesLess a.name x.name) r
    simp only [setL, List.length_append, ih, List.filter_cons]
    by_cases hn : a.name = x.name
    · rw [if_neg (show ¬ (a.name ≠ x.name) by simp [hn])]
      have hb : Op.bytesLess a.name x.name = false := by
        cases hb : Op.bytesLess a.name x.name with
        | false => rfl
        | true => rw [hn] at hb; exact absurd ((bl_iff _ _).1 hb) (List.lt_irrefl _)
      rw [hb]
      cases dn <;> simp [hn] <;> omega
    · rw [if_pos hn]
      cases dn <;> cases hb : Op.bytesLess a.name x.name <;> simp [hn] <;> omega
theorem asc_extV : ∀ {a b : List Vw}, a.Pairwise (fun x y => x.name < y.name) → b.Pairwise (fun x y => x.name < y.name) → (∀ t, t ∈ a ↔ t ∈ b) → a = b
  | [], [], _, _, _ => rfl
  | [], y :: b, _, _, h => absurd ((h y).2 (by simp)) (by simp)
  | x :: a, [], _, _, h => absurd ((h x).1 (by simp)) (by simp)
  | x :: a, y :: b, ha, hb, h => by
    rw [List.pairwise_cons] at ha hb
    have hxy : x = y := by
      rcases List.mem_cons.1 ((h x).1 (by simp)) with h1 | h1
      · exact h1
      · rcases List.mem_cons.1 ((h y).2 (by simp)) with h2 | h2
        · exact h2.symm
        · exact absurd (List.lt_trans (ha.1 y h2) (hb.1 x h1)) (List.lt_irrefl _)
    subst hxy
    congr 1
    refine asc_extV ha.2 hb.2 fun t => ⟨fun ht => ?_, fun ht => ?_⟩
    · rcases List.mem_cons.1 ((h t).1 (List.mem_cons_of_mem _ ht)) with h1 | h1
      · rw [h1] at ht; exact absurd (ha.1 _ ht) (List.lt_irrefl _)
      · exact h1
    · rcases List.mem_cons.1 ((h t).2 (List.mem_cons_of_mem _ ht)) with h1 | h1
      · rw [h1] at ht; exact absurd (hb.1 _ ht) (List.lt_irrefl _)
      · exact h1
theorem VOk.ascV {l : List Vw} (h : VOk rx l) : l.Pairwise fun x y => x.name < y.name := by
  have := h.asc
  rwa [nmsV, List.pairwise_map] at this
theorem smv_self {v : Vw} (h : chkE rxC v.expr = 0) : smv v v = true := by simp [smv, eqE_self h]
theorem smV_self : ∀ {l : List Vw}, (∀ v ∈ l, chkE rxC v.expr = 0) → smV l l = true
  | [], _ => rfl
  | a :: r, h => by
    have ih := smV_self (l := r) fun v hv => h v (List.mem_cons_of_mem _ hv)
    simp only [smV, decide_true, Bool.true_and] at ih ⊢
    rw [List.zip_cons_cons, List.all_cons, ih, smv_self (h a (by simp))]; rfl
theorem setR_ok {l : List Vw} {x : Vw} (h : (setR rx l x).2 = 0) : VOk rx l ∧ VOk rx (setL x false l) ∧ setR rx l x = (setL x false l, 0) := by
  unfold setR at h ⊢
  by_cases h1 : chkV rx l = 0
  · rw [if_neg (by simp [h1])] at h ⊢
    by_cases h2 : chkV rx (setL x false l) = 0
    · rw [if_neg (by simp [h2])]
      exact ⟨chkV_ok h1, chkV_ok h2, rfl⟩
    · rw [if_pos h2] at h; exact absurd h h2
  · rw [if_pos h1] at h; exact absurd h h1
theorem setR_no {l : List Vw} {x : Vw} (h : (setR rx l x).2 ≠ 0) : (setR rx l x).1 = [] := by
  unfold setR at h ⊢
  split
  · rfl
  · split
    · rfl
    · rename_i h1 h2
      rw [if_neg h1, if_neg h2] at h
      exact absurd rfl h
theorem set_set {l : List Vw} {x y : Vw} (h1 : VOk rx (setL y false (setL x false l))) (h2 : VOk rx (setL x false (setL y false l))) (hne : x.name ≠ y.name) : setL y false (setL x false l) = setL x false (setL y false l) := by
  refine asc_extV h1.ascV h2.ascV fun v => ?_
  simp only [setL_iff, true_and]
  constructor
  · rintro (rfl | ⟨rfl | ⟨a, b⟩, c⟩)
    · exact .inr ⟨.inl rfl, fun e => hne e.symm⟩
    · exact .inl rfl
    · exact .inr ⟨.inr ⟨a, c⟩, b⟩
  · rintro (rfl | ⟨rfl | ⟨a, b⟩, c⟩)
    · exact .inr ⟨.inl rfl, hne⟩
    · exact .inl rfl
    · exact .inr ⟨.inr ⟨a, c⟩, b⟩
end Go.Proofs.YtijfihbdcdkalaaGreatDoor
end

section
namespace Go.Proofs.YtijfihbdcdkalaaGreatDoor
open Go.Deep Go.ChangeShapes Go.WideShapes Go.ChangeAt Go.RowKit Go.Fw Go.ChangeMaps
section
variable {H : Type} {enc : TypeId × Value → H} {W : World} {base : Nat} {sp : Nat → Bool} {held : Bool}
def RcAt (W : World) (vs : List V) (cs : List Value) (off : Nat) : Prop := ∀ i v, vs[i]? = some v → ∃ x, cs[off + i]? = some x ∧ VR (fun b => W.heap[b]?) v x
def Rc (W : World) (vs : List V) (cs : List Value) : Prop := cs.length = vs.length ∧ RcAt W vs cs 0
theorem RcAt.app {a b : List V} {cs : List Value} {off : Nat} (h1 : RcAt W a cs off) (h2 : RcAt W b cs (off + a.length)) : RcAt W (a ++ b) cs off := fun i v hv => by
  by_cases hi : i < a.length
  · rw [List.getElem?_append_left hi] at hv
    exact h1 i v hv
  · rw [List.getElem?_append_right (by omega)] at hv
    obtain ⟨x, hx, r⟩ := h2 _ v hv
    exact ⟨x, by rw [← hx]; congr 1; omega, r⟩
theorem RcAt.of {a : List V} {cs : List Value} {off n : Nat} (h : Rc W a ((cs.drop off).take n)) : RcAt W a cs off := fun i v hv => by
  obtain ⟨x, hx, r⟩ := h.2 i v hv
  rw [Nat.zero_add] at hx
  have hn : i < n := by
    have := (List.getElem?_eq_some_iff.1 hx).1
    simp at this; omega
  rw [List.getElem?_take_of_lt hn, List.getElem?_drop] at hx
  exact ⟨x, hx, r⟩
def RdT {H : Type} (enc : TypeId × Value → H) (W : World) (base : Nat) (sp : Nat → Bool) (held : Bool) (T : TypeId) (n : Nat) {α : Type} (e : α → List V) (ok : α → Prop) : Prop :=
  ∀ cs (x : DataW H × List MemPlace), DataW.trod enc Tryz.prog W base sp held n T cs = some x → Rows.uptoBulk x.1 ≤ 1048576 → ∃ a, Rc W (e a) cs ∧ ok a
theorem rc_one {v : V} {x : Value} (h : VR (fun b => W.heap[b]?) v x) : Rc W [v] [x] := ⟨rfl, fun i u hu => by
  cases i with
  | zero => simp at hu; subst hu; exact ⟨x, rfl, h⟩
  | succ i => simp at hu⟩
theorem rd_str {T n : Nat} (hT : Tryz.prog.underlying T = some .string) : RdT enc W base sp held T n strC (fun s => s.length ≤ big) := fun cs x h hb => by
  obtain ⟨s, rfl, rfl, _⟩ := DataW.trod_string hT h
  refine ⟨s.data.toList, rc_one (.str _), ?_⟩
  simp only [Rows.uptoBulk] at hb
  simp only [big]; omega
theorem rd_int {T n : Nat} {k : IntKind} (hT : Tryz.prog.underlying T = some (.int k)) : RdT enc W base sp held T n (fun z : Int => [V.int k z]) (fun _ => True) := fun cs x h hb => by
  obtain ⟨z, rfl, rfl, _⟩ := DataW.trod_int hT h
  exact ⟨z, rc_one (.int _ _), trivial⟩
theorem rd_bool {T n : Nat} (hT : Tryz.prog.underlying T = some .bool) : RdT enc W base sp held T n (fun z : Bool => [V.bool z]) (fun _ => True) := fun cs x h hb => by
  obtain ⟨z, rfl, rfl⟩ := DataW.trod_bool hT h
  exact ⟨z, rc_one (.bool _), trivial⟩
theorem bulk_part {d : DataW H} : ∀ {l : List (DataW H)}, d ∈ l → Rows.uptoBulk d ≤ Rows.uptoBulkAll l
  | x :: r, h => by
    simp only [Rows.uptoBulkAll]
    rcases List.mem_cons.1 h with rfl | h
    · omega
    · have := bulk_part h; omega
theorem bulk_pos (d : DataW H) : 1 ≤ Rows.uptoBulk d := by
  cases d with
  | lit y => cases y <;> simp [Rows.uptoBulk]
  | _ => simp [Rows.uptoBulk]
theorem bulk_len : ∀ ls : List (DataW H), ls.length ≤ Rows.uptoBulkAll ls
  | [] => by simp [Rows.uptoBulkAll]
  | d :: r => by
    have := bulk_pos d
    have := bulk_len r
    simp only [Rows.uptoBulkAll, List.length_cons]; omega
theorem list_choose {α : Type} {p : Nat → α → Prop} : ∀ (n : Nat), (∀ i, i < n → ∃ a, p i a) → ∃ l : List α, l.length = n ∧ ∀ i (h : i < l.length), p i l[i]
  | 0, _ => ⟨[], rfl, fun i h => by simp at h⟩
  | n + 1, hp => by
    obtain ⟨l, hl, hi⟩ := list_choose n fun i h => hp i (by omega)
    obtain ⟨a, ha⟩ := hp n (by omega)
    refine ⟨l ++ [a], by simp [hl], fun i h => ?_⟩
    by_cases hil : i < l.length
    · rw [List.getElem_append_left hil]; exact hi i hil
    · have : i = l.length := by simp at h; omega
      subst this
      simp only [List.getElem_concat_length]
      rw [hl]; exact ha
theorem rd_slice {α : Type} {T e k n : Nat} {en : α → List V} {ok : α → Prop} (hT : Tryz.prog.underlying T = some (.slice e)) (hk : Tryz.prog.cellsOf e = k) (hlen : ∀ a, (en a).length = k) (he : ∀ m, m < n → RdT enc W base sp held e m en ok) :
    RdT enc W base sp held T n (fun l : List α => [slV en l]) (fun l => l.length ≤ big ∧ ∀ a ∈ l, ok a) := fun cs x h hb => by
  letI := glOf W
  rcases DataW.trod_slice hT h with ⟨rfl, rfl⟩ | ⟨a, len, cap, elems, rest, m, rfl, rfl, rfl, hbs, hl, hm, hlen', hel, -, -⟩
  · exact ⟨[], rc_one .fnil, by simp, fun a ha => by simp at ha⟩
  · simp only [Rows.uptoBulk] at hb
    obtain ⟨l, hll, hi⟩ := list_choose (α := α) (p := fun i x => ∃ cs', W.cells? base (a.add (i * k)) k = some cs' ∧ Rc W (en x) cs' ∧ ok x) len fun i hil => by
      have h1 := hel i hil
      rw [hk, List.getElem?_eq_getElem (by omega)] at h1
      obtain ⟨cs', h2, h3⟩ := Option.bind_eq_some_iff.1 h1
      have h4 := bulk_part (d := elems[i].1) (l := elems.map (·.1)) (List.mem_map_of_mem (List.getElem_mem _))
      obtain ⟨x, h5, h6⟩ := he m (by omega) cs' _ h3 (by omega)
      exact ⟨x, cs', h2, h5, h6⟩
    refine ⟨l, rc_one ?_, ?_, fun x hx => ?_⟩
    · have hcell : ∀ j r (hj : j < l.length), r < k → ∃ u, W.cell? (a.add (j * k + r)) = some u ∧ ∀ v, (en l[j])[r]? = some v → VR (fun b => W.heap[b]?) v u := fun j r hj hr => by
        obtain ⟨cs', h2, h5, _⟩ := hi j hj
        obtain ⟨_, hlc, hc⟩ := World.cells?_some h2
        have h7 := hc r hr
        rw [List.getElem?_eq_getElem (by omega), Go.Deep.add_add] at h7
        refine ⟨_, h7, fun v hv => ?_⟩
        obtain ⟨u, hu, q⟩ := h5.2 r v hv
        rw [Nat.zero_add, List.getElem?_eq_getElem (by omega), Option.some.injEq] at hu
        rw [hu]; exact q
      have := VR.fslice (F := fun b => W.heap[b]?) (cat en l) l.length a cap (fun i => (W.cell? (a.add i)).getD undef) (by omega) (fun i hil => ?_) (fun i v hv => ?_)
      · unfold slV; rw [← hll]; exact this
      · rw [cat_length hlen] at hil
        have hkp : 0 < k := Nat.pos_of_ne_zero fun e => by subst e; simp at hil
        have hj : i / k < l.length := Nat.div_lt_of_lt_mul (by rw [Nat.mul_comm]; exact hil)
        obtain ⟨u, hu, _⟩ := hcell (i / k) (i % k) hj (Nat.mod_lt _ hkp)
        have e1 : i / k * k + i % k = i := by rw [Nat.mul_comm]; exact Nat.div_add_mod i k
        rw [e1] at hu
        show W.cell? (a.add i) = _
        rw [hu]; rfl
      · have hil := (List.getElem?_eq_some_iff.1 hv).1
        rw [cat_length hlen] at hil
        have hkp : 0 < k := Nat.pos_of_ne_zero fun e => by subst e; simp at hil
        have hj : i / k < l.length := Nat.div_lt_of_lt_mul (by rw [Nat.mul_comm]; exact hil)
        obtain ⟨u, hu, hq⟩ := hcell (i / k) (i % k) hj (Nat.mod_lt _ hkp)
        have e1 : i / k * k + i % k = i := by rw [Nat.mul_comm]; exact Nat.div_add_mod i k
        rw [e1] at hu
        rw [hu]
        refine hq v ?_
        rw [← cat_get hlen hj (Nat.mod_lt _ hkp), e1, hv]
    · have := bulk_len (elems.map (·.1))
      rw [List.length_map] at this
      simp only [big]; omega
    · obtain ⟨i, hil, rfl⟩ := List.getElem_of_mem hx
      obtain ⟨_, _, _, h6⟩ := hi i hil
      exact h6
theorem rd_field {n i : Nat} {f : Field} {fs : Array Field} {xs : List (DataW H × List MemPlace)} {cs : List Value} {α : Type} {e : α → List V} {ok : α → Prop} (hf : ∀ (i : Nat) (f : Field), fs[i]? = some f → DataW.trod enc Tryz.prog W base sp held n f.type ((cs.drop f.offset).take (Tryz.prog.cellsOf f.type)) = xs[i]?) (hlen : xs.length = fs.size)
    (hb : Rows.uptoBulk (.agg (xs.map (·.1))) ≤ 1048576) (hi : fs[i]? = some f) (hr : RdT enc W base sp held f.type n e ok) : ∃ a, RcAt W (e a) cs f.offset ∧ ok a := by
  have h1 := hf i f hi
  have hlt : i < xs.length := by rw [hlen]; exact (Array.getElem?_eq_some_iff.1 hi).1
  rw [List.getElem?_eq_getElem hlt] at h1
  have h2 := bulk_part (d := xs[i].1) (l := xs.map (·.1)) (List.mem_map_of_mem (List.getElem_mem _))
  simp only [Rows.uptoBulk] at hb
  obtain ⟨a, ha, hok⟩ := hr _ _ h1 (by omega)
  exact ⟨a, .of ha, hok⟩
theorem rd_strs {n : Nat} : RdT enc W base sp held 26 n (fun l : List By => [slV strC l]) okN := rd_slice (k := 1) Tryz.underlying26 (by kernel_rfl) (fun _ => rfl) fun m _ => rd_str Tryz.underlying9
theorem rd_mat {n : Nat} : RdT enc W base sp held 118 n matC okM := fun cs x h hb => by
  obtain ⟨xs, m, rfl, rfl, hl, hlen, hf⟩ := DataW.trod_struct Tryz.underlying118 h
  obtain ⟨a0, r0, o0⟩ := rd_field (i := 0) hf hlen hb rfl (rd_int Tryz.underlying3)
  obtain ⟨a1, r1, o1⟩ := rd_field (i := 1) hf hlen hb rfl (rd_str Tryz.underlying9)
  obtain ⟨a2, r2, o2⟩ := rd_field (i := 2) hf hlen hb rfl (rd_str Tryz.underlying9)
  exact ⟨⟨a0, a1, a2⟩, ⟨hl.trans (by kernel_rfl), r0.app (r1.app r2)⟩, o1, o2⟩
theorem rd_mats {n : Nat} : RdT enc W base sp held 23 n (fun l : List Mat => [slV matC l]) okMs := rd_slice (k := 3) Tryz.underlying23 (by kernel_rfl) (fun _ => rfl) fun m _ => rd_mat
theorem rd_stg {n : Nat} : RdT enc W base sp held 162 n stgC okS := fun cs x h hb => by
  obtain ⟨xs, m, rfl, rfl, hl, hlen, hf⟩ := DataW.trod_struct Tryz.underlying162 h
  obtain ⟨a0, r0, o0⟩ := rd_field (i := 0) hf hlen hb rfl (rd_int Tryz.underlying3)
  obtain ⟨a1, r1, o1⟩ := rd_field (i := 1) hf hlen hb rfl (rd_str Tryz.underlying9)
  obtain ⟨a2, r2, o2⟩ := rd_field (i := 2) hf hlen hb rfl rd_mats
  obtain ⟨a3, r3, o3⟩ := rd_field (i := 3) hf hlen hb rfl rd_strs
  exact ⟨⟨a0, a1, a2, a3⟩, ⟨hl.trans (by kernel_rfl), r0.app (r1.app (r2.app r3))⟩, o1, o2, o3⟩
theorem rd_stgs {n : Nat} : RdT enc W base sp held 27 n (fun l : List Stg => [slV stgC l]) okSs := rd_slice (k := 4) Tryz.underlying27 (by kernel_rfl) (fun _ => rfl) fun m _ => rd_stg
theorem rd_cnd {n : Nat} : RdT enc W base sp held 170 n cndC okC := fun cs x h hb => by
  obtain ⟨xs, m, rfl, rfl, hl, hlen, hf⟩ := DataW.trod_struct Tryz.underlying170 h
  obtain ⟨a0, r0, o0⟩ := rd_field (i := 0) hf hlen hb rfl (rd_str Tryz.underlying9)
  obtain ⟨a1, r1, o1⟩ := rd_field (i := 1) hf hlen hb rfl (rd_int Tryz.underlying3)
  obtain ⟨a2, r2, o2⟩ := rd_field (i := 2) hf hlen hb rfl (rd_str Tryz.underlying9)
  obtain ⟨a3, r3, o3⟩ := rd_field (i := 3) hf hlen hb rfl (rd_int Tryz.underlying3)
  exact ⟨⟨a0, a1, a2, a3⟩, ⟨hl.trans (by kernel_rfl), r0.app (r1.app (r2.app r3))⟩, o0, o2⟩
theorem okPs_of : ∀ {l : List Pat}, (∀ a ∈ l, okP a) → okPs l
  | [], _ => trivial
  | a :: r, h => ⟨h a (by simp), okPs_of fun b hb => h b (List.mem_cons_of_mem _ hb)⟩
theorem okEs_of : ∀ {l : List Ex}, (∀ a ∈ l, okE a) → okEs l
  | [], _ => trivial
  | a :: r, h => ⟨h a (by simp), okEs_of fun b hb => h b (List.mem_cons_of_mem _ hb)⟩
theorem rd_pat : ∀ (n : Nat), RdT enc W base sp held 31 n patC okP := by
  intro n
  induction n using Nat.strongRecOn with
  | _ n ih =>
    letI := glOf W
    intro cs x h hb
    obtain ⟨xs, m, rfl, rfl, hl, hlen, hf⟩ := DataW.trod_struct Tryz.underlying31 h
    obtain ⟨a0, r0, o0⟩ := rd_field (i := 0) hf hlen hb rfl (rd_int Tryz.underlying3)
    obtain ⟨a1, r1, o1⟩ := rd_field (i := 1) hf hlen hb rfl (rd_slice (k := 4) (en := cndC) (ok := okC) Tryz.underlying28 (by kernel_rfl) (fun _ => rfl) fun m _ => rd_cnd)
    obtain ⟨a2, r2, o2⟩ := rd_field (i := 2) hf hlen hb rfl (rd_slice (k := 3) (en := patL) (ok := okP) Tryz.underlying29 (by kernel_rfl) patL_len fun k hk => by rw [show patL = patC from funext patL_eq]; exact ih k (by omega))
    exact ⟨⟨a0, a1, a2⟩, ⟨hl.trans (by kernel_rfl), r0.app (r1.app r2)⟩, o1, o2.1, okPs_of o2.2⟩
theorem rd_ratio {n : Nat} : RdT enc W base sp held 25 n (fun p : Int × Int => [nI p.1, nI p.2]) (fun _ => True) := fun cs x h hb => by
  obtain ⟨xs, m, rfl, rfl, hl, hlen, hf⟩ := DataW.trod_struct Tryz.underlying25 h
  obtain ⟨a0, r0, o0⟩ := rd_field (i := 0) hf hlen hb rfl (rd_int Tryz.underlying3)
  obtain ⟨a1, r1, o1⟩ := rd_field (i := 1) hf hlen hb rfl (rd_int Tryz.underlying3)
  exact ⟨(a0, a1), ⟨hl.trans (by kernel_rfl), r0.app r1⟩, trivial⟩
theorem rd_ex : ∀ (n : Nat), RdT enc W base sp held 34 n exC okE := by
  intro n
  induction n using Nat.strongRecOn with
  | _ n ih =>
    letI := glOf W
    intro cs x h hb
    obtain ⟨xs, m, rfl, rfl, hl, hlen, hf⟩ := DataW.trod_struct Tryz.underlying34 h
    obtain ⟨a0, r0, o0⟩ := rd_field (i := 0) hf hlen hb rfl (rd_int Tryz.underlying3)
    obtain ⟨a1, r1, o1⟩ := rd_field (i := 1) hf hlen hb rfl (rd_int Tryz.underlying3)
    obtain ⟨a2, r2, o2⟩ := rd_field (i := 2) hf hlen hb rfl rd_mats
    obtain ⟨a3, r3, o3⟩ := rd_field (i := 3) hf hlen hb rfl (rd_int Tryz.underlying3)
    obtain ⟨a4, r4, o4⟩ := rd_field (i := 4) hf hlen hb rfl (rd_int Tryz.underlying3)
    obtain ⟨a5, r5, o5⟩ := rd_field (i := 5) hf hlen hb rfl (rd_ratio)
    obtain ⟨a6, r6, o6⟩ := rd_field (i := 6) hf hlen hb rfl rd_strs
    obtain ⟨a7, r7, o7⟩ := rd_field (i := 7) hf hlen hb rfl (rd_bool Tryz.underlying4)
    obtain ⟨a8, r8, o8⟩ := rd_field (i := 8) hf hlen hb rfl (rd_int Tryz.underlying3)
    obtain ⟨a9, r9, o9⟩ := rd_field (i := 9) hf hlen hb rfl rd_stgs
    obtain ⟨a10, r10, o10⟩ := rd_field (i := 10) hf hlen hb rfl (rd_pat _)
    obtain ⟨a11, r11, o11⟩ := rd_field (i := 11) hf hlen hb rfl (rd_str Tryz.underlying9)
    obtain ⟨a12, r12, o12⟩ := rd_field (i := 12) hf hlen hb rfl (rd_slice (k := 16) (en := exL) (ok := okE) Tryz.underlying32 (by kernel_rfl) exL_len fun k hk => by rw [show exL = exC from funext exL_eq]; exact ih k (by omega))
    exact ⟨⟨a0, a1, a2, a3, a4, a5.1, a5.2, a6, a7, a8, a9, a10, a11, a12⟩, ⟨hl.trans (by kernel_rfl), r0.app (r1.app (r2.app (r3.app (r4.app (r5.app (r6.app (r7.app (r8.app (r9.app (r10.app (r11.app r12)))))))))))⟩, o2, o6, o9, o10, o11, o12.1, okEs_of o12.2⟩
theorem rd_vw {n : Nat} : RdT enc W base sp held 47 n vwC (fun v => v.name.length ≤ big ∧ okE v.expr) := fun cs x h hb => by
  obtain ⟨xs, m, rfl, rfl, hl, hlen, hf⟩ := DataW.trod_struct Tryz.underlying47 h
  obtain ⟨a0, r0, o0⟩ := rd_field (i := 0) hf hlen hb rfl (rd_str Tryz.underlying9)
  obtain ⟨a1, r1, o1⟩ := rd_field (i := 1) hf hlen hb rfl (rd_ex _)
  exact ⟨⟨a0, a1⟩, ⟨hl.trans (by kernel_rfl), r0.app r1⟩, o0, o1⟩
theorem rd_vws {n : Nat} : RdT enc W base sp held 22 n (fun l : List Vw => [slV vwC l]) okVs := letI := glOf W; rd_slice (k := 17) Tryz.underlying22 (by kernel_rfl) vwC_len fun m _ => rd_vw
end
end Go.Proofs.YtijfihbdcdkalaaGreatDoor
end

section
namespace Go.Proofs.YtijfihbdcdkalaaGreatDoor
open Go.Deep Go.ChangeShapes Go.WideShapes Go.ChangeAt Go.RowKit Go.Fw Go.ChangeMaps
theorem vrs_two {F : Froz} {a b : V} {x y : Value} (h1 : VR F a x) (h2 : VR F b y) : VRs F [a, b] #[x, y] := ⟨rfl, fun i v hv => by
  match i with
  | 0 => simp at hv; subst hv; simpa using h1
  | 1 => simp at hv; subst hv; simpa using h2
  | i + 2 => simp at hv⟩
theorem band {a b : Bool} (h : a = true) (h2 : b = true) : (a && b) = true := by rw [h, h2]; rfl
theorem laidOut : laidOutB Tryz.prog = true := by kernel_rfl
theorem own : ownKnob Tryz.prog.godebug = none := by kernel_rfl
noncomputable def laidWorld (os : Os) : World :=
  let w0 := World.holding Tryz.prog os ⟨#[], #[], []⟩
  let put (h : Array Obj) (g : Nat) (cs : Array Value) : Array Obj := h.modify g fun
    | .cells _ t frozen => .cells cs t frozen
    | o => o
  let h1 := put w0.heap 1 (Lib.asciiSpaceTab.map fun z => Value.int .u8 z).toArray
  let h2 := put h1 2 #[.pointer (some ⟨h1.size, 0, none⟩)]
  let h3 := h2.push (.cells #[.slice (some ⟨h1.size + 1, 0, none⟩) 7 7, .slice none 0 0, .int .i64 2] 243 (0, 0))
  let h4 := h3.push (.cells (([9, 13, 1, 32, 133, 101, 160, 5760, 5600, 8192, 8202, 1, 8232, 8233, 1, 8239, 8287, 48, 12288, 12288, 1] : List Int).map fun z => Value.int .u16 z).toArray 246 (0, 0))
  { w0 with heap := h4 }
theorem laid_met (os : Os) (args : Array Value) : laidMet Tryz.prog [("unicode.White_Space", Rows.laid_unicode_White_Space), ("strings.asciiSpace", Rows.laid_strings_asciiSpace)] ((laidWorld os).forCall (fun _ _ => 0) ⟨#[], args, []⟩).memory :=
  laidMet_of_run3 8 (by kernel_rfl) (by kernel_rfl) (by kernel_rfl)
theorem ascii_tab : (Rows.laid_strings_asciiSpace : DataW Unit) = Lib.tabData .u8 Lib.asciiSpaceTab := by kernel_rfl
theorem gtab_start {W : World} (h : laidMet Tryz.prog [("unicode.White_Space", Rows.laid_unicode_White_Space), ("strings.asciiSpace", Rows.laid_strings_asciiSpace)] W) : @GTab (glOf W) := by
  obtain ⟨ps, ⟨g0, t0, cs0, fuel0, p0, q0, _, _, _, _, ⟨g', t', cs, fuel, p, q, hg', ht', hvar, hd, _, _⟩, _⟩, _⟩ := h
  have hg : Tryz.prog.globalNamed "strings.asciiSpace" = some 1 := by kernel_rfl
  have hty : (Tryz.prog.globals[1]?).map (·.type) = some 194 := by kernel_rfl
  obtain rfl := Option.some.inj (hg.symm.trans hg')
  obtain rfl := Option.some.inj (hty.symm.trans ht')
  rw [ascii_tab] at hd
  have hc := Lib.cells_of_tab Tryz.underlying194 Tryz.underlying5 (by kernel_rfl) (by kernel_rfl) hd
  have hv : W.var? Tryz.prog "strings.asciiSpace" = some (Lib.asciiSpaceTab.map fun z => Value.int .u8 z).toArray := by rw [hvar, ← hc]
  letI := glOf W
  intro F w ho
  show w.var? Tryz.prog "strings.asciiSpace" = _
  unfold World.var? at hv ⊢
  rw [hg] at hv ⊢
  simp only [Option.bind_some] at hv ⊢
  cases hb : W.heap[1]? with
  | none => rw [hb] at hv; cases hv
  | some o =>
    have hF : F 1 = some o := ho.gl 1 o hb
    rw [ho.frz 1 o hF]
    rw [hb] at hv
    exact hv
section
variable {H : Type} {enc : TypeId × Value → H} {W : World} {base b0 : Nat} {r : Reach} {sp : Nat → Bool} {held : Bool} {v : Value} {d : DataW H} {p : List MemPlace}
theorem vr_of_rc {vs : List V} {cs : Array Value} (h : Rc W vs cs.toList) : VR (fun b => W.heap[b]?) (.agg vs) (.agg cs) := by
  letI := glOf W
  refine .agg _ _ (by simpa using h.1) fun i v hv => ?_
  obtain ⟨x, hx, q⟩ := h.2 i v hv
  rw [Nat.zero_add] at hx
  have : cs[i]? = some x := by simpa using hx
  rw [Array.getD_eq_getD_getElem?, this]; exact q
set_option maxRecDepth 100000 in
theorem open_view (hval : Value.okWide Tryz.prog W r b0 47 v) (hd : DataW.Trod enc Tryz.prog W base sp held 47 v d p) (hb : Rows.uptoBulk d ≤ 1048576) : ∃ x : Vw, VR (fun b => W.heap[b]?) (vwV x) v ∧ (x.name.length ≤ big ∧ okE x.expr) := by
  obtain ⟨cs, rfl, hsz⟩ := okWide_struct Tryz.underlying47 hval
  obtain ⟨fuel, hf⟩ := hd
  obtain ⟨e, he, ho⟩ := rd_vw (n := fuel) _ (d, p) hf hb
  exact ⟨e, vr_of_rc he, ho⟩
set_option maxRecDepth 100000 in
theorem open_views (hval : Value.okWide Tryz.prog W r b0 22 v) (hd : DataW.Trod enc Tryz.prog W base sp held 22 v d p) (hb : Rows.uptoBulk d ≤ 1048576) : ∃ l : List Vw, VR (fun b => W.heap[b]?) (slV vwC l) v ∧ okVs l := by
  obtain ⟨a, len, cap, rfl⟩ := okWide_slice Tryz.underlying22 hval
  obtain ⟨fuel, hf⟩ := hd
  obtain ⟨l, hl, ho⟩ := rd_vws (n := fuel) _ (d, p) hf hb
  obtain ⟨x, hx, q⟩ := hl.2 0 _ rfl
  have : x = .slice a len cap := by simpa [Value.cells] using hx.symm
  rw [this] at q
  exact ⟨l, q, ho⟩
end
end Go.Proofs.YtijfihbdcdkalaaGreatDoor
end

section
namespace Go.Proofs.YtijfihbdcdkalaaGreatDoor
open Go.Fw
variable [Gl]
set_option maxRecDepth 20000
set_option maxHeartbeats 4000000
end Go.Proofs.YtijfihbdcdkalaaGreatDoor
end

section
namespace Go.Proofs.YtijfihbdcdkalaaGreatDoor
open Go.Fw
variable [Gl]
set_option maxRecDepth 20000
set_option maxHeartbeats 4000000
end Go.Proofs.YtijfihbdcdkalaaGreatDoor
end

section
namespace Go.Proofs.YtijfihbdcdkalaaGreatDoor
open Go.Fw
variable [Gl]
set_option maxRecDepth 20000
set_option maxHeartbeats 4000000
theorem vw_used (e : Ex) : Go.Fw.PTri Tryz.prog 60 [exV e] (.clo 99 [.fptr (exC e) 0]) := by
  refine PTri.of_safe Tryz.func60 rfl Tryz.results60 Tryz.ntmps60 rfl ?_
  refine go 99 rfl ?_
  exact ⟨.inr rfl, trivial, .frz 0 rfl rfl (.done rfl rfl)⟩
end Go.Proofs.YtijfihbdcdkalaaGreatDoor
end

section
namespace Go.Proofs.YtijfihbdcdkalaaGreatDoor
open Go.Fw
variable [Gl]
set_option maxRecDepth 20000
set_option maxHeartbeats 4000000
def WalkC (e : Ex) : Prop := ∀ (l : Nat) (J : Nat → Hp → Prop) (S : Hp → Prop) (b : Nat), (∀ i s h, (usE e)[i]? = some s → J (b + i) h → YieldS Tryz.prog l [.str s] h fun v h' => (v = .bool true ∧ J (b + i + 1) h') ∨ (v = .bool false ∧ S h')) →
  ∀ h, J b h → Go.Fw.Tri Tryz.prog 100 [exV e, .yield l] h fun v h' => (v = .bool true ∧ J (b + (usE e).length) h') ∨ (v = .bool false ∧ S h')
theorem usEs_at {l : List Ex} {i j : Nat} {s : By} (hi : i < l.length) (h : (usE l[i])[j]? = some s) : (usEs l)[(usEs (l.take i)).length + j]? = some s := by
  rw [usEs_flat, usEs_flat]
  have hl : l = l.take i ++ (l[i] :: l.drop (i + 1)) := by rw [← List.drop_eq_getElem_cons hi, List.take_append_drop]
  conv => lhs; arg 1; rw [hl]
  rw [List.flatMap_append, List.flatMap_cons, List.getElem?_append_right (by omega), Nat.add_sub_cancel_left, List.getElem?_append_left (List.getElem?_eq_some_iff.1 h).1]
  exact h
theorem usEs_tk {l : List Ex} {i : Nat} (hi : i < l.length) : (usEs (l.take (i + 1))).length = (usEs (l.take i)).length + (usE l[i]).length := by
  rw [usEs_flat, usEs_flat, take_succ_get hi, List.flatMap_append, List.length_append]; simp
theorem vw_walk : ∀ (k : Nat) (e : Ex), depE e ≤ k → okE e → WalkC e := by
  intro k
  induction k with
  | zero => intro e hb _; rw [depE_eq] at hb; omega
  | succ k ih =>
    intro e hb ho l J S b hy h hJ
    rw [depE_eq] at hb
    rw [okE_eq] at ho
    obtain ⟨_, _, _, _, _, hl, hos⟩ := ho
    simp only [big] at hl
    have hu := usE_eq e
    refine Tri.of_safeY Tryz.func100 rfl Tryz.results100 Tryz.ntmps100 rfl ?_
    refine go 99 rfl ?_
    refine Safe.br rfl (fun c => ?_) (fun c => ?_)
    · have c1 : e.kind = 13 := by simpa using c
      rw [if_pos c1] at hu
      rw [hu] at hy ⊢
      refine go 99 rfl ?_
      refine Safe.yield (hy 0 e.text h rfl hJ) rfl rfl rfl (fun v hf1 hv => ?_)
      rcases hv with ⟨rfl, hJ⟩ | ⟨rfl, hS⟩
      · refine ⟨rfl, ?_⟩
        refine go 99 rfl ?_
        exact ⟨.inr rfl, rfl, _, .done rfl rfl, .inl ⟨rfl, hJ⟩⟩
      · refine ⟨rfl, ?_⟩
        refine go 99 rfl ?_
        exact ⟨.inr rfl, rfl, _, .done rfl rfl, .inr ⟨rfl, hS⟩⟩
    · have c1 : ¬ e.kind = 13 := by simpa using c
      rw [if_neg c1] at hu
      rw [hu] at hy ⊢
      refine go 99 rfl ?_
      refine Safe.loopH (α := Nat) (fun i => [(1, .yield l), (15, slV exL e.args), (16, nI e.args.length), (17, nI i)]) (fun i => []) 0 (fun i => e.args.length - i) (fun i => i ≤ e.args.length) (fun i hf dl => J (b + (usEs (e.args.take i)).length) hf ∧ dl = []) 0 (sgI 0) ⟨⟨fit rfl, fit rfl, fit rfl, fit rfl, trivial⟩, ⟨_, .refl _, List.nil_sublist _⟩, rfl⟩ (Nat.zero_le _) ⟨by simpa [usEs] using hJ, rfl⟩ ?_
      rintro i hi hf dl ⟨hJi, rfl⟩
      refine go 99 rfl ?_
      refine Safe.br rfl (fun d => ?_) (fun d => ?_)
      · have hi : i < e.args.length := ltc d
        refine go 99 rfl ?_
        refine Safe.idxF hi rfl rfl rfl ?_
        refine go 99 rfl ?_
        refine Safe.ldF (ldEx hi) rfl rfl rfl ?_
        refine go 99 rfl ?_
        refine Safe.callY (ih e.args[i] (by have := depEs_mem hi; omega) (okEs_get hos hi) l J S (b + (usEs (e.args.take i)).length) (fun j s h hs hj => by have := hy ((usEs (e.args.take i)).length + j) s h (usEs_at hi hs); rw [← Nat.add_assoc] at this; exact this hj) hf hJi) rfl rfl rfl (fun v hf1 hv => ?_)
        rcases hv with ⟨rfl, hJ2⟩ | ⟨rfl, hS⟩
        · refine ⟨rfl, ?_⟩
          refine go 99 rfl ?_
          refine Safe.brF rfl rfl ?_
          refine go 99 rfl ?_
          exact ⟨sgI 0, i + 1, hi, mlt hi, ⟨by rw [usEs_tk hi, ← Nat.add_assoc]; exact hJ2, rfl⟩, ⟨fit rfl, fit rfl, fit rfl, fit (isucc (by omega)), trivial⟩, ⟨_, .refl _, List.nil_sublist _⟩, rfl⟩
        · refine ⟨rfl, ?_⟩
          refine go 99 rfl ?_
          refine Safe.brT rfl rfl ?_
          refine go 99 rfl ?_
          exact ⟨.inr rfl, rfl, _, .done rfl rfl, .inr ⟨rfl, hS⟩⟩
      · have hi2 : i = e.args.length := Nat.le_antisymm hi (gec d)
        rw [hi2, List.take_length] at hJi
        refine go 99 rfl ?_
        exact ⟨.inr rfl, rfl, _, .done rfl rfl, .inl ⟨rfl, hJi⟩⟩
def itX (e : Ex) : List (List V) := (usE e).map fun s => [.str s]
theorem itX_ok (e : Ex) : ∀ a, a ∈ itX e → a.length = 1 ∧ a.all dry = true := fun a ha => by
  obtain ⟨s, _, rfl⟩ := List.mem_map.1 ha
  exact ⟨rfl, rfl⟩
theorem itX_len (e : Ex) : (itX e).length = (usE e).length := by simp [itX]
theorem itX_at {e : Ex} {k : Nat} (hk : k < (itX e).length) : (itX e)[k] = [.str ((usE e)[k]'(by simpa [itX] using hk))] := by simp [itX]
theorem it_used (e : Ex) (ho : okE e) : IterC Tryz.prog 99 [.fptr (exC e) 0] (itX e) := by
  intro l J S hy h hJ
  refine Tri.of_safeY Tryz.func99 rfl Tryz.results99 Tryz.ntmps99 rfl ?_
  refine go 99 rfl ?_
  refine Safe.ldF ((rfl : ldAt Tryz.prog 34 (exC e) 0 = some (exV e))) rfl rfl rfl ?_
  refine go 99 rfl ?_
  have hy2 : ∀ i s h, (usE e)[i]? = some s → J (0 + i) h → YieldS Tryz.prog l [.str s] h fun v h' => (v = .bool true ∧ J (0 + i + 1) h') ∨ (v = .bool false ∧ S h') := fun i s h hs hj => by
    have hk : i < (itX e).length := by rw [itX_len]; exact (List.getElem?_eq_some_iff.1 hs).1
    have := hy i hk h (by simpa using hj)
    rw [itX_at hk, (List.getElem?_eq_some_iff.1 hs).2] at this
    simpa using this
  refine Safe.callY (vw_walk _ e (Nat.le_refl _) ho l J S 0 hy2 h hJ) rfl rfl rfl (fun v hf1 hv => ?_)
  rw [Nat.zero_add, ← itX_len] at hv
  rcases hv with ⟨rfl, hJ⟩ | ⟨rfl, hS⟩
  · refine ⟨rfl, ?_⟩
    refine go 99 rfl ?_
    exact ⟨.inl rfl, rfl, _, .done rfl rfl, .inl hJ⟩
  · refine ⟨rfl, ?_⟩
    refine go 99 rfl ?_
    exact ⟨.inl rfl, rfl, _, .done rfl rfl, .inr hS⟩
end Go.Proofs.YtijfihbdcdkalaaGreatDoor
end

section
namespace Go.Proofs.YtijfihbdcdkalaaGreatDoor
open Go.Fw
variable [Gl]
set_option maxRecDepth 20000
set_option maxHeartbeats 4000000
abbrev stM (M : List (By × Bool)) : List (V × V) := mpM V.bool M
theorem stM_dry (M : List (By × Bool)) : dryM (stM M) = true := dryM_mpM _ (fun _ => rfl) M
def covM (e : Ex) (M : List (By × Bool)) : Bool := (usE e).all fun s => getM false s M
theorem vw_allIn (e : Ex) (M : List (By × Bool)) (ho : okE e) : TriL Tryz.prog 105 [exV e, .map 0] [(0, .map (stM M))] 1 (fun v h nx => v = .bool (covM e M) ∧ h = [(0, .map (stM M))] ∧ nx = 1) := by
  refine TriL.of_safeN Tryz.func105 rfl Tryz.results105 Tryz.ntmps105 rfl ?_
  refine go 99 rfl ?_
  refine Safe.call (vw_used e) rfl rfl rfl ?_
  refine go 99 rfl ?_
  refine Safe.range (α := Bool) (fun b => [(3, .cells 4 [.bool b] 1), (2, .cells 92 [.map 0] 1), (1, .cells 34 (exC e) 16), (0, .map (stM M))]) (fun k b => b = false ∧ ((usE e).take k).all (fun s => getM false s M) = true) (fun c b => c = .ret ∧ b = false ∧ covM e M = false) false (it_used e ho) rfl rfl (itX_ok e) rfl (⟨rfl, rfl⟩) ?_ ?_ ?_
  · rintro l k hk b ⟨rfl, hb⟩
    have hk2 : k < (usE e).length := by rw [← itX_len]; exact hk
    rw [itX_at hk]
    refine go 99 rfl ?_
    refine Safe.toBody ?_
    refine go 99 rfl ?_
    refine Safe.lookup (mix_mpM V.bool (usE e)[k] M) (lkM_1 V.bool false (usE e)[k] M) rfl rfl rfl rfl rfl rfl rfl rfl (stM_dry M) rfl rfl ?_
    refine go 99 rfl ?_
    refine Safe.br rfl (fun c => ?_) (fun c => ?_)
    · have c1 : getM false (usE e)[k] M = false := by simpa using c
      refine go 99 rfl ?_
      exact ⟨rfl, false, ⟨rfl, rfl, all_no hk2 c1⟩, trivial, ⟨_, .refl _, subK rfl rfl (subK rfl rfl (subK rfl rfl (subK rfl (renO_map (stM_dry M)) subN)))⟩, rfl⟩
    · have c1 : getM false (usE e)[k] M = true := by simpa using c
      refine go 99 rfl ?_
      exact ⟨rfl, false, ⟨rfl, all_take hk2 hb c1⟩, trivial, ⟨_, .refl _, subK rfl rfl (subK rfl rfl (subK rfl rfl (subK rfl (renO_map (stM_dry M)) subN)))⟩, rfl⟩
  · rintro r b ⟨rfl, hb⟩
    rw [itX_len, List.take_length] at hb
    refine go 99 rfl ?_
    exact ⟨.inr rfl, dlOk_1 trivial, .done rfl ⟨sgI 1, .bool true, [(0, .map (stM M))], 1, ⟨⟨fit rfl, trivial⟩, ⟨_, .refl _, subD (subD (subD (subK rfl (renO_map (stM_dry M)) subN)))⟩, rfl⟩, by rw [covM, hb], rfl, rfl⟩⟩
  · rintro r b c ⟨rfl, rfl, hb⟩
    refine go 99 rfl ?_
    exact ⟨.inr rfl, dlOk_1 trivial, .done rfl ⟨sgI 1, .bool false, [(0, .map (stM M))], 1, ⟨⟨fit rfl, trivial⟩, ⟨_, .refl _, subD (subD (subD (subK rfl (renO_map (stM_dry M)) subN)))⟩, rfl⟩, by rw [hb], rfl, rfl⟩⟩
end Go.Proofs.YtijfihbdcdkalaaGreatDoor
end

section
namespace Go.Proofs.YtijfihbdcdkalaaGreatDoor
open Go.Fw
variable [Gl]
set_option maxRecDepth 20000
set_option maxHeartbeats 4000000
abbrev tkH (M : List (By × Bool)) : Hp := [(1, .cells 92 [.map 0] 1), (0, .map (stM M))]
def freeV (M : List (By × Bool)) (v : Vw) : Bool := !getM false v.name M && covM v.expr M
theorem permL {a b : Hp} : (a ++ b).Perm (b ++ a) := List.perm_append_comm
theorem vw_free (v : Vw) (M : List (By × Bool)) (ho : okE v.expr) : TriL Tryz.prog 106 [vwV v, .ptr 1 0] (tkH M) 2 (fun u h nx => u = .bool (freeV M v) ∧ h = tkH M ∧ nx = 2) := by
  refine TriL.of_safeN Tryz.func106 rfl Tryz.results106 Tryz.ntmps106 rfl ?_
  refine go 99 rfl ?_
  refine Safe.lookup (mix_mpM V.bool v.name M) (lkM_1 V.bool false v.name M) rfl rfl rfl rfl rfl rfl rfl rfl (stM_dry M) rfl rfl ?_
  refine go 99 rfl ?_
  refine Safe.gs rfl (fun c => ?_) (fun c => ?_)
  · have c1 : getM false v.name M = false := by simpa using c
    refine go 99 rfl ?_
    refine Safe.callU (rest := [(2, .cells 47 (vwC v) 17), (1, .cells 92 [.map 0] 1)]) [(0, 0)] (vw_allIn v.expr M ho) rfl rfl rfl rfl (mapR (stM_dry M) rfl) (mapE (stM_dry M) rfl) rfl permL ?_
    refine go 99 rfl ?_
    exact ⟨.inr rfl, trivial, .done rfl ⟨sgI 2, .bool (covM v.expr M), tkH M, 2, ⟨⟨fit rfl, trivial⟩, ⟨_, .refl _, subD (subK rfl rfl (subK rfl (renO_map (stM_dry M)) subN))⟩, rfl⟩, by rw [freeV, c1]; rfl, rfl, rfl⟩⟩
  · have c1 : getM false v.name M = true := by simpa using c
    refine go 99 rfl ?_
    exact ⟨.inr rfl, trivial, .done rfl ⟨sgI 2, .bool false, tkH M, 2, ⟨⟨fit rfl, trivial⟩, ⟨_, .refl _, subD (subK rfl rfl (subK rfl (renO_map (stM_dry M)) subN))⟩, rfl⟩, by rw [freeV, c1]; rfl, rfl, rfl⟩⟩
theorem tkE {s : Nat → Option Nat} (M : List (By × Bool)) (h0 : s 0 = some 0) (h1 : s 1 = some 1) : renH s (tkH M) = tkH M := by
  show [(ky s 1, renO s (.cells 92 [.map 0] 1)), (ky s 0, renO s (.map (stM M)))] = _
  rw [renO_map (stM_dry M)]
  simp only [ky, h0, h1, Option.getD_some, renO, renL, renV]
theorem vw_indexFn (l : List Vw) (M : List (By × Bool)) (ho : okVs l) : TriL Tryz.prog 71 [slV vwC l, .clo 106 [.ptr 1 0]] (tkH M) 2 (fun u h nx => u = nI (ixP (freeV M) 0 l) ∧ h = tkH M ∧ nx = 2) := by
  have hl := ho.1
  simp only [big] at hl
  refine TriL.of_safeN Tryz.func71 rfl Tryz.results71 Tryz.ntmps71 rfl ?_
  refine go 99 rfl ?_
  refine Safe.loop (α := Nat) (fun i => [(0, slV vwC l), (1, .clo 106 [.ptr 1 0]), (7, nI l.length), (8, nI i)]) (fun i => [(1, .cells 92 [.map 0] 1), (0, .map (stM M))]) 2 (fun i => l.length - i) (fun i => i ≤ l.length ∧ ixP (freeV M) 0 l = ixP (freeV M) i (l.drop i)) 0 (sgI 2) ⟨⟨fit rfl, fit rfl, fit rfl, fit rfl, trivial⟩, ⟨_, .refl _, subK rfl rfl (subK rfl (renO_map (stM_dry M)) subN)⟩, rfl⟩ ⟨Nat.zero_le _, rfl⟩ ?_
  rintro i ⟨hi, ha⟩
  refine go 99 rfl ?_
  refine Safe.br rfl (fun c1 => ?_) (fun c1 => ?_)
  · have hi : i < l.length := ltc c1
    rw [List.drop_eq_getElem_cons hi] at ha
    refine go 99 rfl ?_
    refine Safe.idxF hi rfl rfl rfl ?_
    refine go 99 rfl ?_
    refine Safe.ldF (ldVw hi) rfl rfl rfl ?_
    refine go 99 rfl ?_
    refine Safe.callU (rest := []) [(0, 0), (1, 1)] (vw_free l[i] M (ho.2 _ (List.getElem_mem hi)).2) rfl rfl rfl rfl (h1 := tkH M) (by simp only [tkH, relH, sgF]; rw [renO_map (stM_dry M)]; rfl) (tkE M rfl rfl) rfl (by rw [List.append_nil]) ?_
    refine go 99 rfl ?_
    refine Safe.br rfl (fun d => ?_) (fun d => ?_)
    · have d1 : freeV M l[i] = true := d
      simp only [ixP, if_pos d1] at ha
      refine go 99 rfl ?_
      exact ⟨.inr rfl, trivial, .done rfl ⟨sgI 2, nI i, tkH M, 2, ⟨⟨fit rfl, trivial⟩, ⟨_, .refl _, subK rfl rfl (subK rfl (renO_map (stM_dry M)) subN)⟩, rfl⟩, by rw [ha], rfl, rfl⟩⟩
    · have d1 : ¬ freeV M l[i] = true := by simpa using d
      simp only [ixP, if_neg d1] at ha
      refine go 99 rfl ?_
      exact ⟨sgI 2, i + 1, ⟨hi, ha⟩, mlt hi, rfl, rfl, ⟨fit rfl, fit rfl, fit rfl, fit (isucc (by omega)), trivial⟩, ⟨_, .refl _, subK rfl rfl (subK rfl (renO_map (stM_dry M)) subN)⟩, rfl⟩
  · have hi2 : i = l.length := Nat.le_antisymm hi (gec c1)
    subst hi2
    rw [List.drop_length] at ha
    refine go 99 rfl ?_
    exact ⟨.inr rfl, trivial, .done rfl ⟨sgI 2, nI (-1), tkH M, 2, ⟨⟨fit rfl, trivial⟩, ⟨_, .refl _, subK rfl rfl (subK rfl (renO_map (stM_dry M)) subN)⟩, rfl⟩, by rw [ha]; rfl, rfl, rfl⟩⟩
end Go.Proofs.YtijfihbdcdkalaaGreatDoor
end

section
namespace Go.Proofs.YtijfihbdcdkalaaGreatDoor
open Go.Fw
variable [Gl]
set_option maxRecDepth 20000
set_option maxHeartbeats 4000000
theorem fndA_snoc (l : List By) (s : By) (F : List (By × Bool)) : fndA (l ++ [s]) F = putM s true (fndA l F) := by simp [fndA]
def nmM (l : List Vw) (i : Nat) : List (By × Bool) := fndA ((nmsV l).take i) []
theorem nmM_s {l : List Vw} {i : Nat} (h : i < l.length) : nmM l (i + 1) = putM l[i].name true (nmM l i) := by
  have h2 : i < (nmsV l).length := by simpa [nmsV] using h
  rw [nmM, take_succ_get h2, fndA_snoc]; simp [nmM, nmsV]
theorem setE {M M' : List (By × Bool)} {s : By} (h : M' = putM s true M) : mput (.str s) (.bool true) (stM M) = some (stM M') := by rw [h]; exact mput_mpM V.bool s true M
theorem getM_nms (l : List Vw) (t : By) : getM false t (nmM l l.length) = inL (nmsV l) t := by
  rw [nmM, fndA_get, List.take_of_length_le (by simp [nmsV])]; simp [getM]
theorem covM_nms {l : List Vw} {e : Ex} (hw : wfE e) : covM e (nmM l l.length) = covE e (nmsV l) := by
  rw [cov_us hw, covM]
  congr 1; funext t; exact getM_nms l t
theorem covM_out {out : List By} {e : Ex} (hw : wfE e) : covM e (fndA out []) = covE e out := by
  rw [cov_us hw, covM]
  congr 1; funext t; rw [fndA_get]; simp [getM]
theorem ixP_nxt {l : List Vw} {out : List By} (hw : ∀ v ∈ l, wfE v.expr) : ∀ (n : Nat), ixP (freeV (fndA out [])) n l = match l.findIdx? (nxtB out) with
    | some i => ((n + i : Nat) : Int)
    | none => -1 := by
  induction l with
  | nil => intro n; rfl
  | cons a r ih =>
    intro n
    have ha : freeV (fndA out []) a = nxtB out a := by
      rw [freeV, covM_out (hw a (by simp)), fndA_get]
      simp [getM, nxtB]
    simp only [ixP, List.findIdx?_cons, ha]
    cases hb : nxtB out a with
    | true => rfl
    | false =>
      rw [if_neg (by simp), ih (fun v hv => hw v (List.mem_cons_of_mem _ hv))]
      cases List.findIdx? (nxtB out) r with
      | none => rfl
      | some i => simp only [Option.map_some, Bool.false_eq_true, if_false]; rw [show n + 1 + i = n + (i + 1) by omega]
theorem nxt_full {l : List Vw} {out : List By} (h : OrdOk l out) (hl : l.length ≤ out.length) : nxtV l out = none := by
  have := nodup_all h.nd h.sub (by simpa [nmsV] using hl)
  rw [nxtV, List.findIdx?_eq_none_iff]
  intro v hv
  rw [nxtB, inL_mem.2 (this _ (List.mem_map_of_mem hv))]; rfl
theorem catStr_app1 (l : List By) (s : By) : cat strC l ++ strC s = cat strC (l ++ [s]) := by rw [cat_append]; simp [cat]
theorem catStr_len1 (l : List By) : (cat strC l).length = l.length * 1 := cat_length (k := 1) (fun _ => rfl) l
theorem vw_sorted (hG : GTab) (l : List Vw) (ho : okVs l) : Go.Fw.PTri Tryz.prog 68 [slV vwC l] (.tup [slV strC (ordR rxC l).1, nI (ordR rxC l).2]) := by
  have hE := ordR.eq_1 rxC l
  have hl := ho.1
  simp only [big] at hl
  refine PTri.of_safe Tryz.func68 rfl Tryz.results68 Tryz.ntmps68 rfl ?_
  refine go 99 rfl ?_
  refine Safe.br rfl (fun a => ?_) (fun a => ?_)
  · have a1 : 50 < l.length := ltc a
    have h4 : chkV rxC l = 4 := by rw [chkV, if_pos a1]
    rw [h4] at hE
    rw [hE]
    refine go 99 rfl ?_
    exact ⟨.inr rfl, trivial, .weak rfl rfl (wkE rfl)⟩
  · have a1 : l.length ≤ 50 := gec a
    have hC : chkV rxC l = if vwE rxC none l ≠ 0 then vwE rxC none l else if l.all (fun v => covE v.expr (nmsV l)) = false then 7 else if (ordV l).length < l.length then 27 else 0 := by simp only [chkV]; rw [if_neg (by omega)]
    refine go 99 rfl ?_
    refine Safe.mkMap rfl rfl ?_
    refine go 99 rfl ?_
    refine Safe.loop (α := Nat) (fun i => [(0, slV vwC l), (4, .map 0), (17, slV vwC l), (18, nI l.length), (19, nI i)]) (fun i => [(0, .map (stM (nmM l i)))]) 1 (fun i => l.length - i) (fun i => i ≤ l.length ∧ vwE rxC none l = vwE rxC (prvW l i) (l.drop i) ∧ (∀ j, j < i → (h : j < l.length) → chkE rxC l[j].expr = 0)) 0 (sgI 1) ⟨⟨fit rfl, fit rfl, fit rfl, fit rfl, fit rfl, trivial⟩, ⟨_, .refl _, .refl _⟩, rfl⟩ ⟨Nat.zero_le _, rfl, fun j hj => by omega⟩ ?_
    rintro i ⟨hi, ha, hz⟩
    refine go 99 rfl ?_
    refine Safe.br rfl (fun c1 => ?_) (fun c1 => ?_)
    · have hi : i < l.length := ltc c1
      have hv := ho.2 _ (List.getElem_mem hi)
      rw [drop_get hi, vwE] at ha
      have hret : ∀ z, vwE rxC none l = z → z ≠ 0 → ordR rxC l = ([], z) := fun z h1 h2 => by
        have : chkV rxC l = z := by rw [hC, if_pos (by rw [h1]; exact h2), h1]
        rw [hE, this, if_pos h2]
      refine go 99 rfl ?_
      refine Safe.idxF hi rfl rfl rfl ?_
      refine go 99 rfl ?_
      refine Safe.ldF (ldVw hi) rfl rfl rfl ?_
      refine go 99 rfl ?_
      refine Safe.call (vw_name l[i].name hv.1) rfl rfl rfl ?_
      refine go 99 rfl ?_
      refine Safe.br rfl (fun d => ?_) (fun d => ?_)
      · rw [if_pos (by simpa using d)] at ha
        rw [hret _ ha (by decide)]
        refine go 99 rfl ?_
        exact ⟨.inr rfl, trivial, .weak rfl rfl (wkE rfl)⟩
      · rw [if_neg (by simp at d; simp [d])] at ha
        refine go 99 rfl ?_
        refine Safe.ccut1 (α := Unit) (fun _ => [(0, slV vwC l), (4, .map 0), (6, .ptr 1 0), (17, slV vwC l), (18, nI l.length), (19, nI i)]) (fun _ => [(1, .cells 47 (vwC l[i]) 17), (0, .map (stM (nmM l i)))]) 2 (fun _ => lateN (prvW l i) l[i].name = false) ?_ ?_
        · refine Safe.drawP mixed [0, 1, 2, 3, 4, 5, 6, 7, 8, 9, 10, 11, 12] [(true, true), (true, true), (true, true), (true, true), (true, true), (true, true), (true, true), (true, true), (true, true), (true, true), (true, true), (true, true), (true, true)] (by kernel_rfl) ?_
          refine go 99 rfl ?_
          refine Safe.gs rfl (fun c => ?_) (fun c => ?_)
          · have h0 : 0 < i := by have := of_decide_eq_true c; omega
            rw [prvW_pos h0 hi] at ha
            have hb : i ≤ 50 := by omega
            refine go 99 rfl ?_
            refine Safe.idxF (i := i - 1) (by omega) (isub h0 (by omega)) rfl rfl ?_
            refine go 99 rfl ?_
            refine Safe.ldF (ldVwN (by omega)) rfl rfl rfl ?_
            refine go 99 rfl ?_
            refine Safe.br rfl (fun e => ?_) (fun e => ?_)
            · rw [if_pos (by rw [lateN, ← le_nl]; exact e)] at ha
              rw [hret _ ha (by decide)]
              refine go 99 rfl ?_
              exact ⟨.inr rfl, trivial, .weak rfl rfl (wkE rfl)⟩
            · refine go 99 rfl ?_
              exact ⟨sgI 2, (), (by rw [prvW_pos h0 hi, lateN, ← le_nl]; exact e), rfl, rfl, ⟨fit rfl, fit rfl, fit rfl, fit rfl, fit rfl, fit rfl, trivial⟩, ⟨_, .refl _, subK rfl rfl (subK rfl (renO_map (stM_dry _)) subN)⟩, rfl⟩
          · have h0 : i = 0 := by have := of_decide_eq_false c; omega
            refine go 99 rfl ?_
            exact ⟨sgI 2, (), (by simp [prvW, h0, lateN]), rfl, rfl, ⟨fit rfl, fit rfl, fit rfl, fit rfl, fit rfl, fit rfl, trivial⟩, ⟨_, .refl _, subK rfl rfl (subK rfl (renO_map (stM_dry _)) subN)⟩, rfl⟩
        · rintro - h1
          rw [if_neg (by simp [h1])] at ha
          refine go 99 rfl ?_
          refine Safe.call (alg_check hG l[i].expr hv.2) rfl rfl rfl ?_
          refine go 99 rfl ?_
          refine Safe.br rfl (fun e => ?_) (fun e => ?_)
          · have e1 : chkE rxC l[i].expr ≠ 0 := by simpa using e
            rw [if_pos e1] at ha
            rw [hret _ ha e1]
            refine go 99 rfl ?_
            exact ⟨.inr rfl, trivial, .weak rfl rfl (wkE rfl)⟩
          · have e1 : chkE rxC l[i].expr = 0 := by simpa using e
            rw [if_neg (by simp [e1])] at ha
            refine go 99 rfl ?_
            refine Safe.mapSet (setE (nmM_s hi)) (.inl rfl) rfl rfl rfl rfl rfl rfl rfl (stM_dry _) rfl rfl (stM_dry _) ?_
            refine go 99 rfl ?_
            exact ⟨sgI 1, i + 1, ⟨hi, by rw [ha, prvW_s hi], forall_lt (p := fun v => chkE rxC v.expr = 0) hi hz e1⟩, mlt hi, rfl, rfl, ⟨fit rfl, fit rfl, fit rfl, fit rfl, fit (isucc (by omega)), trivial⟩, ⟨_, .refl _, subD (subK rfl (renO_map (stM_dry _)) subN)⟩, rfl⟩
    · have hi2 : i = l.length := Nat.le_antisymm hi (gec c1)
      rw [hi2, List.drop_length, vwE] at ha
      rw [if_neg (by simp [ha])] at hC
      rw [hi2]
      have hwf : ∀ v ∈ l, wfE v.expr := fun v hv => by
        obtain ⟨j, hj, rfl⟩ := List.getElem_of_mem hv
        exact chk_wf (hz j (by omega) hj)
      refine go 99 rfl ?_
      refine Safe.loop (α := Nat) (fun i => [(0, slV vwC l), (4, .map 0), (51, slV vwC l), (52, nI l.length), (53, nI i)]) (fun i => [(0, .map (stM (nmM l l.length)))]) 1 (fun i => l.length - i) (fun i => i ≤ l.length ∧ (l.take i).all (fun v => covE v.expr (nmsV l)) = true) 0 (sgI 1) ⟨⟨fit rfl, fit rfl, fit rfl, fit rfl, fit rfl, trivial⟩, ⟨_, .refl _, subK rfl (renO_map (stM_dry _)) subN⟩, rfl⟩ ⟨Nat.zero_le _, rfl⟩ ?_
      rintro i ⟨hi, hc⟩
      refine go 99 rfl ?_
      refine Safe.br rfl (fun c2 => ?_) (fun c2 => ?_)
      · have hi : i < l.length := ltc c2
        have hv := ho.2 _ (List.getElem_mem hi)
        refine go 99 rfl ?_
        refine Safe.idxF hi rfl rfl rfl ?_
        refine go 99 rfl ?_
        refine Safe.ldF (ldVw hi) rfl rfl rfl ?_
        refine go 99 rfl ?_
        refine Safe.callU (rest := [(1, .cells 47 (vwC l[i]) 17)]) [(0, 0)] (vw_allIn l[i].expr (nmM l l.length) hv.2) rfl rfl rfl rfl (mapR (stM_dry _) rfl) (mapE (stM_dry _) rfl) rfl permL ?_
        rw [covM_nms (hwf _ (List.getElem_mem hi))]
        refine go 99 rfl ?_
        refine Safe.br rfl (fun d => ?_) (fun d => ?_)
        · have d1 : covE l[i].expr (nmsV l) = false := by simpa using d
          rw [if_pos (all_no hi d1)] at hC
          rw [hC] at hE
          rw [hE]
          refine go 99 rfl ?_
          exact ⟨.inr rfl, trivial, .weak rfl rfl (wkE rfl)⟩
        · have d1 : covE l[i].expr (nmsV l) = true := by simpa using d
          refine go 99 rfl ?_
          exact ⟨sgI 1, i + 1, ⟨hi, all_take hi hc d1⟩, mlt hi, rfl, rfl, ⟨fit rfl, fit rfl, fit rfl, fit rfl, fit (isucc (by omega)), trivial⟩, ⟨_, .refl _, subD (subK rfl (renO_map (stM_dry _)) subN)⟩, rfl⟩
      · have hi2 : i = l.length := Nat.le_antisymm hi (gec c2)
        rw [hi2, List.take_length] at hc
        rw [if_neg (by simp only [hc]; simp)] at hC
        refine go 99 rfl ?_
        refine Safe.mkMap rfl rfl ?_
        refine go 99 rfl ?_
        refine Safe.make0 (c := l.length) rfl rfl rfl rfl rfl (by omega) ?_
        refine go 99 rfl ?_
        refine Safe.loop (α := (List By × Nat × Nat)) (fun a => [(0, slV vwC l), (10, .ptr 1 0), (11, .slice 2 0 a.1.length a.2.1)]) (fun a => [(2, .cells 9 (cat strC a.1) (a.2.1 * 1)), (1, .cells 92 [.map 0] 1), (0, .map (stM (fndA a.1 [])))]) 3 (fun a => a.2.2) (fun a => OrdOk l a.1 ∧ ordV l = ordF l a.2.2 a.1 ∧ lft l a.1 < a.2.2 ∧ a.1.length ≤ 50) ([], l.length, l.length + 1) [(0, 1), (1, 2), (2, 3)] ⟨⟨fit rfl, fit rfl, fit rfl, trivial⟩, ⟨_, .refl _, subK rfl rfl (subK rfl rfl (subK rfl rfl subN))⟩, rfl⟩ ⟨.nil l, rfl, Nat.lt_succ_of_le (lft_le _ _), Nat.zero_le _⟩ ?_
        rintro ⟨out, N, f⟩ ⟨hok, hf, hlt, hle⟩
        dsimp only at hok hf hlt hle
        refine go 99 rfl ?_
        refine Safe.br rfl (fun c3 => ?_) (fun c3 => ?_)
        · have c4 : out.length < l.length := ltc c3
          refine go 99 rfl ?_
          refine Safe.callU (rest := [(2, .cells 9 (cat strC out) (N * 1))]) [(0, 0), (1, 1)] (vw_indexFn l (fndA out []) ho) rfl rfl rfl rfl (h1 := tkH (fndA out [])) (by simp only [tkH, relH, sgF]; rw [renO_map (stM_dry _)]; rfl) (tkE _ rfl rfl) rfl permL ?_
          have hx := ixP_nxt (out := out) hwf 0
          rw [show l.findIdx? (nxtB out) = nxtV l out from rfl] at hx
          obtain ⟨f, rfl⟩ : ∃ g, f = g + 1 := ⟨f - 1, by omega⟩
          cases hn : nxtV l out with
          | none =>
            rw [hn] at hx
            dsimp only at hx
            rw [hx]
            have h27 : ordV l = out := by rw [hf, ordF, hn]
            rw [h27, if_pos c4] at hC
            rw [hC] at hE
            rw [hE]
            refine go 99 rfl ?_
            first | refine Safe.gsK true rfl rfl ?_ | refine Safe.gsK false rfl rfl ?_ | refine Safe.brT rfl rfl ?_ | refine Safe.brF rfl rfl ?_
            refine go 99 rfl ?_
            refine go 99 rfl ?_
            exact ⟨.inr rfl, trivial, .weak rfl rfl (wkE rfl)⟩
          | some j =>
            rw [hn] at hx
            dsimp only at hx
            rw [Nat.zero_add] at hx
            rw [hx]
            obtain ⟨hj, hB⟩ := nxt_some hn
            rw [ordF, hn] at hf
            simp only [List.getElem?_eq_getElem hj] at hf
            have hB2 := hB
            simp only [nxtB, Bool.and_eq_true, Bool.not_eq_true'] at hB2
            have hlf := lft_lt hj hB2.1
            refine go 99 rfl ?_
            refine Safe.brF rfl (decide_eq_false (Int.not_lt.2 (Int.natCast_nonneg j))) ?_
            refine go 99 rfl ?_
            refine Safe.drawP mixed [0, 1, 2, 3, 4, 5, 6] [(true, true), (true, true), (true, true), (true, true), (true, true), (true, true), (true, true)] (by kernel_rfl) ?_
            refine go 99 rfl ?_
            refine Safe.idxF hj rfl rfl rfl ?_
            refine go 99 rfl ?_
            refine Safe.ldF (ldVwN hj) rfl rfl rfl ?_
            refine Safe.tail (by kernel_rfl) ?_
            refine go 99 rfl ?_
            refine Safe.mapSet (setE (fndA_snoc out l[j].name [])) (.inl rfl) rfl rfl rfl rfl rfl rfl rfl (stM_dry _) rfl rfl (stM_dry _) ?_
            refine go 99 rfl ?_
            refine Safe.idxF hj rfl rfl rfl ?_
            refine go 99 rfl ?_
            refine Safe.ldF (ldVwN hj) rfl rfl rfl ?_
            refine go 99 rfl ?_
            refine Safe.appS (us := strC l[j].name) rfl rfl rfl rfl rfl rfl (rfl) rfl (catStr_app1 _ _) ((by simp : out.length + 1 = (out ++ [l[j].name]).length)) (catStr_len1 _) (rfl) (rfl) (by first | omega | (dsimp only; omega) | (simp; omega)) (fun N' hN' => ?_)
            refine go 99 rfl ?_
            exact ⟨[(0, 0), (1, 1), (2, 4)], (out ++ [l[j].name], N', f), ⟨hok.step (List.getElem_mem hj) hB, hf, by dsimp only; omega, by simp; omega⟩, Nat.lt_succ_self f, rfl, rfl, ⟨fit rfl, fit rfl, fit rfl, trivial⟩, ⟨_, .refl _, subK rfl (renO_dry (catStr_d _)) (subD (subK rfl rfl (subK rfl (renO_map (stM_dry _)) subN)))⟩, rfl⟩
        · have c4 : l.length ≤ out.length := gec c3
          have ho2 : ordV l = out := by
            obtain ⟨f, rfl⟩ : ∃ g, f = g + 1 := ⟨f - 1, by omega⟩
            rw [hf, ordF, nxt_full hok c4]
          rw [ho2, if_neg (by omega)] at hC
          rw [hC, ho2] at hE
          rw [hE]
          refine go 99 rfl ?_
          exact ⟨.inr rfl, trivial, .frz 2 rfl (catStr_dry _) (.done rfl rfl)⟩
end Go.Proofs.YtijfihbdcdkalaaGreatDoor
end

section
namespace Go.Proofs.YtijfihbdcdkalaaGreatDoor
open Go.Fw
variable [Gl]
set_option maxRecDepth 20000
set_option maxHeartbeats 4000000
theorem ordR_2 (l : List Vw) : (ordR rxC l).2 = chkV rxC l := by
  unfold ordR; split
  · rfl
  · rename_i h; simpa using (Classical.not_not.1 h).symm
theorem vw_Order (hG : GTab) (l : List Vw) (ho : okVs l) : Go.Fw.PTri Tryz.prog 25 [slV vwC l] (.tup [slV strC (ordR rxC l).1, nI (ordR rxC l).2]) := by
  refine PTri.of_safe Tryz.func25 rfl Tryz.results25 Tryz.ntmps25 rfl ?_
  refine go 99 rfl ?_
  refine Safe.call (vw_sorted hG l ho) rfl rfl rfl ?_
  refine go 99 rfl ?_
  exact ⟨.inr rfl, trivial, .done (rfl) rfl⟩
theorem vw_Check (hG : GTab) (l : List Vw) (ho : okVs l) : Go.Fw.PTri Tryz.prog 26 [slV vwC l] (nI (chkV rxC l)) := by
  refine PTri.of_safe Tryz.func26 rfl Tryz.results26 Tryz.ntmps26 rfl ?_
  refine go 99 rfl ?_
  refine Safe.call (vw_sorted hG l ho) rfl rfl rfl ?_
  refine go 99 rfl ?_
  exact ⟨.inr rfl, trivial, .done (nIeq (ordR_2 l)) rfl⟩
abbrev exM (M : List (By × Ex)) : List (V × V) := mpM exV M
theorem exM_dry (M : List (By × Ex)) : dryM (exM M) = true := dryM_mpM _ (fun _ => rfl) M
abbrev exMH (M : List (By × Ex)) : Hp := [(0, .map (exM M))]
def lkX (M : List (By × Ex)) (s : By) : Ex := getM zroE s M
def hasK (M : List (By × Ex)) (e : Ex) : Prop := ∀ t ∈ usE e, (ixM t M).isSome = true
theorem vw_replace (M : List (By × Ex)) : ∀ (k : Nat) (e : Ex), depE e ≤ k → okE e → hasK M e → TriL Tryz.prog 56 [exV e, .map 0] (exMH M) 1 (fun v h nx => v = exV (rplE (lkX M) e) ∧ h = exMH M ∧ nx = 1) := by
  intro k
  induction k with
  | zero => intro e hb _; rw [depE_eq] at hb; omega
  | succ k ih =>
    intro e hb ho hK
    rw [depE_eq] at hb
    rw [okE_eq] at ho
    obtain ⟨_, _, _, _, _, hl, hos⟩ := ho
    simp only [big] at hl
    have hE := rplE_eq (lkX M) e
    have hu := usE_eq e
    refine TriL.of_safeN Tryz.func56 rfl Tryz.results56 Tryz.ntmps56 rfl ?_
    refine go 99 rfl ?_
    refine Safe.br rfl (fun c => ?_) (fun c => ?_)
    · have c1 : e.kind = 13 := by simpa using c
      rw [if_pos c1] at hE hu
      have h1 : (ixM e.text M).isSome = true := hK _ (by rw [hu]; simp)
      rw [hE]
      refine go 99 rfl ?_
      refine Safe.lookup (mix_mpM exV e.text M) (lkM_h1 exV zroE _ e.text M h1) rfl rfl rfl rfl rfl rfl rfl rfl (exM_dry M) rfl rfl ?_
      refine go 99 rfl ?_
      exact ⟨.inr rfl, trivial, .done rfl ⟨sgI 1, exV (lkX M e.text), exMH M, 1, ⟨⟨fit rfl, trivial⟩, ⟨_, .refl _, subD (subD (subK rfl (renO_map (exM_dry M)) subN))⟩, rfl⟩, rfl, rfl, rfl⟩⟩
    · have c1 : ¬ e.kind = 13 := by simpa using c
      rw [if_neg c1] at hE hu
      rw [hE]
      refine go 99 rfl ?_
      refine Safe.br rfl (fun d => ?_) (fun d => ?_)
      · have d1 : e.args = [] := by
          have : (e.args.length : Int) = 0 := of_decide_eq_true (by simpa using d)
          exact List.length_eq_zero_iff.1 (by omega)
        have hse : ({ e with args := e.args.map (rplE (lkX M)) } : Ex) = e := by rw [d1]; cases e; simp_all
        rw [hse]
        refine go 99 rfl ?_
        exact ⟨.inr rfl, trivial, .done rfl ⟨sgI 1, exV e, exMH M, 1, ⟨⟨fit rfl, trivial⟩, ⟨_, .refl _, subD (subD (subK rfl (renO_map (exM_dry M)) subN))⟩, rfl⟩, rfl, rfl, rfl⟩⟩
      · refine go 99 rfl ?_
        refine Safe.make0 (c := e.args.length) rfl rfl rfl rfl rfl (by omega) ?_
        refine go 99 rfl ?_
        refine Safe.loop (α := (Nat × List Ex × Nat)) (fun a => [(1, .map 0), (2, .ptr 1 0), (4, .ptr 2 0), (5, .slice 3 0 a.2.1.length a.2.2), (25, slV exL e.args), (26, nI e.args.length), (27, nI a.1)]) (fun a => [(3, .cells 34 (cat exL a.2.1) (a.2.2 * 16)), (2, .cells 34 exZ 16), (1, .cells 34 (exC e) 16), (0, .map (exM M))]) 4 (fun a => e.args.length - a.1) (fun a => a.1 ≤ e.args.length ∧ a.2.1 = (e.args.take a.1).map (rplE (lkX M))) (0, [], e.args.length) (sgI 4) ⟨⟨fit rfl, fit rfl, fit rfl, fit rfl, fit rfl, fit rfl, fit rfl, trivial⟩, ⟨_, .refl _, subK rfl rfl (subK rfl rfl (subK rfl rfl (subK rfl (renO_map (exM_dry M)) subN)))⟩, rfl⟩ ⟨Nat.zero_le _, rfl⟩ ?_
        rintro ⟨i, acc, N⟩ ⟨hi, ha⟩
        dsimp only at hi ha
        have hal : acc.length = i := by rw [ha]; simp; omega
        refine go 99 rfl ?_
        refine Safe.br rfl (fun c2 => ?_) (fun c2 => ?_)
        · have hi : i < e.args.length := ltc c2
          refine go 99 rfl ?_
          refine Safe.idxF hi rfl rfl rfl ?_
          refine go 99 rfl ?_
          refine Safe.ldF (ldEx hi) rfl rfl rfl ?_
          refine go 99 rfl ?_
          refine Safe.callU (rest := [(4, .cells 34 (exC e.args[i]) 16), (3, .cells 34 (cat exL acc) (N * 16)), (2, .cells 34 exZ 16), (1, .cells 34 (exC e) 16)]) [(0, 0)] (ih e.args[i] (by have := depEs_mem hi; omega) (okEs_get hos hi) (fun t ht => hK t (by rw [hu, usEs_flat]; exact List.mem_flatMap.2 ⟨_, List.getElem_mem hi, ht⟩))) rfl rfl rfl rfl (mapR (exM_dry _) rfl) (mapE (exM_dry _) rfl) rfl permL ?_
          refine go 99 rfl ?_
          refine Safe.appS (us := exC (rplE (lkX M) e.args[i])) rfl rfl rfl rfl rfl rfl (rfl) rfl (catEx_app _ _) ((by simp : acc.length + 1 = (acc ++ [rplE (lkX M) e.args[i]]).length)) (catEx_len _) (rfl) (rfl) (by first | omega | (dsimp only; omega) | (simp; omega)) (fun N' hN' => ?_)
          refine go 99 rfl ?_
          exact ⟨[(0, 0), (1, 1), (2, 2), (3, 6)], (i + 1, acc ++ [rplE (lkX M) e.args[i]], N'), ⟨hi, by rw [ha, take_succ_get hi, List.map_append]; rfl⟩, mlt hi, rfl, rfl, ⟨fit rfl, fit rfl, fit rfl, fit rfl, fit rfl, fit rfl, fit (isucc (by omega)), trivial⟩, ⟨_, .refl _, subK rfl (renO_dry (catEx_d _)) (subD (subD (subK rfl rfl (subK rfl rfl (subK rfl (renO_map (exM_dry M)) subN)))))⟩, rfl⟩
        · have hi2 : i = e.args.length := Nat.le_antisymm hi (gec c2)
          rw [hi2, List.take_length] at ha
          rw [← ha]
          refine Safe.frzC 3 rfl (catEx_dry _) ?_
          refine go 99 rfl ?_
          exact ⟨.inr rfl, trivial, .done rfl ⟨sgI 1, exV { e with args := acc }, exMH M, 1, ⟨⟨fit rfl, trivial⟩, ⟨_, .refl _, subD (subD (subK rfl (renO_mapF (exM_dry M)) subN))⟩, rfl⟩, rfl, rfl, rfl⟩⟩
end Go.Proofs.YtijfihbdcdkalaaGreatDoor
end

section
namespace Go.Proofs.YtijfihbdcdkalaaGreatDoor
open Go.Fw
variable [Gl]
set_option maxRecDepth 20000
set_option maxHeartbeats 4000000
def prpE (l : List Vw) (e : Ex) : Int := if chkV rxC l ≠ 0 then chkV rxC l else if chkE rxC e ≠ 0 then chkE rxC e else if covE e (nmsV l) = false then 7 else 0
def prpΦ (l : List Vw) (e : Ex) (v : V) (h : Hp) (nx : Nat) : Prop :=
  (prpE l e ≠ 0 ∧ v = .tup [.nilslice, .nilmap, nI (prpE l e)] ∧ h = [] ∧ nx = 0) ∨ (prpE l e = 0 ∧ v = .tup [slV strC (ordV l), .map 0, nI 0] ∧ h = exMH (xmp l) ∧ nx = 1)
theorem xmpA_s {l : List Vw} {i : Nat} (h : i < l.length) : xmpA (l.take (i + 1)) [] = putM l[i].name l[i].expr (xmpA (l.take i) []) := by
  rw [xmpA, take_succ_get h, List.foldl_append]; rfl
theorem setX {M M' : List (By × Ex)} {s : By} {x : Ex} (h : M' = putM s x M) : mput (.str s) (exV x) (exM M) = some (exM M') := by rw [h]; exact mput_mpM exV s x M
theorem ordR_1 {l : List Vw} (h : chkV rxC l = 0) : (ordR rxC l).1 = ordV l := by rw [ordR, if_neg (by simp [h])]
theorem ordR_e {l : List Vw} (h : chkV rxC l ≠ 0) : ordR rxC l = ([], chkV rxC l) := by rw [ordR, if_pos h]
theorem prp_bad {l : List Vw} {e : Ex} {z : Int} {m : Fl} {h : Hp} {nx : Nat} {rs : List ResultVar} (h1 : prpE l e = z) (h2 : z ≠ 0) (hr : resA Tryz.prog m h rs = some (.tup [.nilslice, .nilmap, nI z])) : FinN 0 Tryz.prog rs (prpΦ l e) m h nx :=
  .done hr ⟨[], .tup [.nilslice, .nilmap, nI z], [], 0, ⟨⟨fit rfl, trivial⟩, ⟨_, .refl _, List.nil_sublist _⟩, rfl⟩, .inl ⟨by rw [h1]; exact h2, by rw [h1], rfl, rfl⟩⟩
theorem vw_prepare (hG : GTab) (l : List Vw) (e : Ex) (ho : okVs l) (hoe : okE e) : TriL Tryz.prog 55 [slV vwC l, exV e] [] 0 (prpΦ l e) := by
  have hE := prpE.eq_1 l e
  have hl := ho.1
  simp only [big] at hl
  refine TriL.of_safeN Tryz.func55 rfl Tryz.results55 Tryz.ntmps55 rfl ?_
  refine go 99 rfl ?_
  refine Safe.call (vw_sorted hG l ho) rfl rfl rfl ?_
  refine go 99 rfl ?_
  refine Safe.br rfl (fun a => ?_) (fun a => ?_)
  · have a1 : chkV rxC l ≠ 0 := by rw [← ordR_2]; simpa using a
    rw [if_pos a1] at hE
    rw [ordR_e a1]
    refine go 99 rfl ?_
    exact ⟨.inr rfl, trivial, prp_bad hE a1 rfl⟩
  · have a1 : chkV rxC l = 0 := by rw [← ordR_2]; simpa using a
    obtain ⟨hsm, h50⟩ := chkV_sm a1
    rw [if_neg (by simp [a1])] at hE
    rw [ordR_1 a1]
    refine go 99 rfl ?_
    refine Safe.call (alg_check hG e hoe) rfl rfl rfl ?_
    refine go 99 rfl ?_
    refine Safe.br rfl (fun b => ?_) (fun b => ?_)
    · have b1 : chkE rxC e ≠ 0 := by simpa using b
      rw [if_pos b1] at hE
      refine go 99 rfl ?_
      exact ⟨.inr rfl, trivial, prp_bad hE b1 rfl⟩
    · have b1 : chkE rxC e = 0 := by simpa using b
      have hwf := chk_wf b1
      rw [if_neg (by simp [b1])] at hE
      refine go 99 rfl ?_
      refine Safe.mkMap rfl rfl ?_
      refine go 99 rfl ?_
      refine Safe.loop (α := Nat) (fun i => [(0, slV vwC l), (3, .ptr 0 0), (4, .ptr 1 0), (5, .ptr 2 0), (6, .ptr 3 0), (7, slV strC (ordV l)), (10, .ptr 5 0), (30, slV vwC l), (31, nI l.length), (32, nI i)]) (fun i => [(5, .cells 84 [.map 4] 1), (4, .map (exM (xmpA (l.take i) []))), (3, .cells 38 [nI 0] 1), (2, .cells 84 [.nilmap] 1), (1, .cells 26 [.nilslice] 1), (0, .cells 34 (exC e) 16)]) 6 (fun i => l.length - i) (fun i => i ≤ l.length) 0 (sgI 6) ⟨⟨fit rfl, fit rfl, fit rfl, fit rfl, fit rfl, fit rfl, fit rfl, fit rfl, fit rfl, fit rfl, trivial⟩, ⟨_, .refl _, subK rfl rfl (subK rfl rfl (subK rfl rfl (subK rfl rfl (subK rfl rfl (subK rfl rfl subN)))))⟩, rfl⟩ (Nat.zero_le _) ?_
      rintro i hi
      refine go 99 rfl ?_
      refine Safe.br rfl (fun c1 => ?_) (fun c1 => ?_)
      · have hi : i < l.length := ltc c1
        refine go 99 rfl ?_
        refine Safe.idxF hi rfl rfl rfl ?_
        refine go 99 rfl ?_
        refine Safe.ldF (ldVw hi) rfl rfl rfl ?_
        refine go 99 rfl ?_
        refine Safe.mapSet (setX (xmpA_s hi)) (.inl rfl) rfl rfl rfl rfl rfl rfl rfl (exM_dry _) rfl rfl (exM_dry _) ?_
        refine go 99 rfl ?_
        exact ⟨sgI 6, i + 1, hi, mlt hi, rfl, rfl, ⟨fit rfl, fit rfl, fit rfl, fit rfl, fit rfl, fit rfl, fit rfl, fit rfl, fit rfl, fit (isucc (by omega)), trivial⟩, ⟨_, .refl _, subD (subK rfl rfl (subK rfl (renO_map (exM_dry _)) (subK rfl rfl (subK rfl rfl (subK rfl rfl (subK rfl rfl subN))))))⟩, rfl⟩
      · have hi2 : i = l.length := Nat.le_antisymm hi (gec c1)
        rw [hi2, List.take_length]
        refine go 99 rfl ?_
        refine Safe.call (vw_used e) rfl rfl rfl ?_
        refine go 99 rfl ?_
        refine Safe.range (α := Int) (fun z => [(5, .cells 84 [.map 4] 1), (4, .map (exM (xmp l))), (3, .cells 38 [nI z] 1), (2, .cells 84 [.nilmap] 1), (1, .cells 26 [.nilslice] 1), (0, .cells 34 (exC e) 16)]) (fun k z => z = 0 ∧ ((usE e).take k).all (inL (nmsV l)) = true) (fun c z => c = .ret ∧ z = 7 ∧ covE e (nmsV l) = false) 0 (it_used e hoe) rfl rfl (itX_ok e) rfl (⟨rfl, rfl⟩) ?_ ?_ ?_
        · rintro lb k hk z ⟨rfl, hz⟩
          have hk2 : k < (usE e).length := by rw [← itX_len]; exact hk
          rw [itX_at hk]
          have hx := xmp_has l (usE e)[k]
          refine go 99 rfl ?_
          refine Safe.toBody ?_
          refine go 99 rfl ?_
          cases hb : inL (nmsV l) (usE e)[k] with
          | false =>
            rw [hb] at hx
            refine Safe.lookup (mix_mpM exV (usE e)[k] (xmp l)) (lkM_n2 exV _ (usE e)[k] (xmp l) hx) rfl rfl rfl rfl rfl rfl rfl rfl (exM_dry _) rfl rfl ?_
            refine go 99 rfl ?_
            first | refine Safe.gsK true rfl rfl ?_ | refine Safe.gsK false rfl rfl ?_ | refine Safe.brT rfl rfl ?_ | refine Safe.brF rfl rfl ?_
            refine go 99 rfl ?_
            exact ⟨rfl, 7, ⟨rfl, rfl, by rw [cov_us hwf]; exact all_no hk2 hb⟩, trivial, ⟨_, .refl _, subD (subK rfl rfl (subK rfl (renO_map (exM_dry _)) (subK rfl rfl (subK rfl rfl (subK rfl rfl (subK rfl rfl subN))))))⟩, rfl⟩
          | true =>
            rw [hb] at hx
            refine Safe.lookup (mix_mpM exV (usE e)[k] (xmp l)) (lkM_h2 exV zroE _ (usE e)[k] (xmp l) hx) rfl rfl rfl rfl rfl rfl rfl rfl (exM_dry _) rfl rfl ?_
            refine go 99 rfl ?_
            first | refine Safe.gsK true rfl rfl ?_ | refine Safe.gsK false rfl rfl ?_ | refine Safe.brT rfl rfl ?_ | refine Safe.brF rfl rfl ?_
            refine go 99 rfl ?_
            exact ⟨rfl, 0, ⟨rfl, all_take hk2 hz hb⟩, trivial, ⟨_, .refl _, subD (subK rfl rfl (subK rfl (renO_map (exM_dry _)) (subK rfl rfl (subK rfl rfl (subK rfl rfl (subK rfl rfl subN))))))⟩, rfl⟩
        · rintro r z ⟨rfl, hz⟩
          rw [itX_len, List.take_length, ← cov_us hwf] at hz
          rw [if_neg (by simp [hz])] at hE
          refine go 99 rfl ?_
          refine Safe.draw mixed ?_
          refine DS.fork2 (i := 0) (j := 1) (by kernel_rfl) rfl rfl (DStp.val rfl rfl rfl ?_) (DStp.val rfl rfl rfl ?_)
          · refine DS.fork2 (i := 1) (j := 2) (by kernel_rfl) rfl rfl (DStp.val rfl rfl rfl ?_) (DStp.st rfl rfl rfl rfl rfl rfl rfl rfl ?_)
            · refine DS.fork1 (i := 2) (by kernel_rfl) rfl (DStp.st rfl rfl rfl rfl rfl rfl rfl rfl ?_)
              refine DS.fork1 (i := 3) (by kernel_rfl) rfl (DStp.st rfl rfl rfl rfl rfl rfl rfl rfl ?_)
              refine DS.fork1 (i := 4) (by kernel_rfl) rfl (DStp.st rfl rfl rfl rfl rfl rfl rfl rfl ?_)
              refine DS.fin (by kernel_rfl) rfl ?_
              refine go 99 rfl ?_
              exact ⟨.inr rfl, dlOk_1 trivial, .done rfl ⟨[(0, 4)], .tup [slV strC (ordV l), .map 0, nI 0], exMH (xmp l), 1, ⟨⟨fit rfl, trivial⟩, ⟨_, .refl _, subD (subK rfl (renO_map (exM_dry _)) subN)⟩, rfl⟩, .inr ⟨hE, rfl, rfl, rfl⟩⟩⟩
            · refine DS.fork1 (i := 1) (by kernel_rfl) rfl (DStp.val rfl rfl rfl ?_)
              refine DS.fork1 (i := 3) (by kernel_rfl) rfl (DStp.st rfl rfl rfl rfl rfl rfl rfl rfl ?_)
              refine DS.fork1 (i := 4) (by kernel_rfl) rfl (DStp.st rfl rfl rfl rfl rfl rfl rfl rfl ?_)
              refine DS.fin (by kernel_rfl) rfl ?_
              refine go 99 rfl ?_
              exact ⟨.inr rfl, dlOk_1 trivial, .done rfl ⟨[(0, 4)], .tup [slV strC (ordV l), .map 0, nI 0], exMH (xmp l), 1, ⟨⟨fit rfl, trivial⟩, ⟨_, .refl _, subD (subK rfl (renO_map (exM_dry _)) subN)⟩, rfl⟩, .inr ⟨hE, rfl, rfl, rfl⟩⟩⟩
          · refine DS.fork1 (i := 0) (by kernel_rfl) rfl (DStp.val rfl rfl rfl ?_)
            refine DS.fork1 (i := 2) (by kernel_rfl) rfl (DStp.st rfl rfl rfl rfl rfl rfl rfl rfl ?_)
            refine DS.fork1 (i := 3) (by kernel_rfl) rfl (DStp.st rfl rfl rfl rfl rfl rfl rfl rfl ?_)
            refine DS.fork1 (i := 4) (by kernel_rfl) rfl (DStp.st rfl rfl rfl rfl rfl rfl rfl rfl ?_)
            refine DS.fin (by kernel_rfl) rfl ?_
            refine go 99 rfl ?_
            exact ⟨.inr rfl, dlOk_1 trivial, .done rfl ⟨[(0, 4)], .tup [slV strC (ordV l), .map 0, nI 0], exMH (xmp l), 1, ⟨⟨fit rfl, trivial⟩, ⟨_, .refl _, subD (subK rfl (renO_map (exM_dry _)) subN)⟩, rfl⟩, .inr ⟨hE, rfl, rfl, rfl⟩⟩⟩
        · rintro r z c ⟨rfl, rfl, hz⟩
          rw [if_pos hz] at hE
          refine go 99 rfl ?_
          exact ⟨.inr rfl, dlOk_1 trivial, prp_bad hE (by decide) rfl⟩
end Go.Proofs.YtijfihbdcdkalaaGreatDoor
end

section
namespace Go.Proofs.YtijfihbdcdkalaaGreatDoor
open Go.Fw
variable [Gl]
set_option maxRecDepth 20000
set_option maxHeartbeats 4000000
theorem prp_ok {l : List Vw} {e : Ex} (h : prpE l e = 0) : chkV rxC l = 0 ∧ chkE rxC e = 0 ∧ covE e (nmsV l) = true := by
  unfold prpE at h
  split at h
  · exact absurd h (by assumption)
  split at h
  · exact absurd h (by assumption)
  split at h
  · cases h
  · rename_i h1 h2 h3
    exact ⟨by simpa using h1, by simpa using h2, by simpa using h3⟩
theorem expP_prp {l : List Vw} {e : Ex} (h : prpE l e ≠ 0) : expP rxC l e = (zroE, prpE l e) := by
  unfold prpE at h
  unfold expP prpE
  by_cases h1 : chkV rxC l = 0
  · simp only [h1, ne_eq, not_true_eq_false, if_false] at h ⊢
    by_cases h2 : chkE rxC e = 0
    · simp only [h2, not_true_eq_false, if_false] at h ⊢
      by_cases h3 : covE e (nmsV l) = false
      · simp only [h3, if_true]
      · simp only [h3] at h; exact absurd rfl h
    · simp only [h2, not_false_eq_true, if_true]
  · simp only [h1, ne_eq, not_false_eq_true, if_true]
mutual
theorem okE_rpl {M : By → Ex} : ∀ e : Ex, okE e → (∀ t ∈ usE e, okE (M t)) → okE (rplE M e)
  | ⟨k, fn, ms, rg, off, num, den, names, wo, mt, st, pat, tx, l⟩, h, h2 => by
    simp only [rplE]
    simp only [usE] at h2
    split
    · rename_i hk
      rw [if_pos hk] at h2
      exact h2 tx (by simp)
    · rename_i hk
      rw [if_neg hk] at h2
      obtain ⟨o1, o2, o3, o4, o5, o6, o7⟩ := h
      exact ⟨o1, o2, o3, o4, o5, by rw [rplEs_map]; simpa using o6, okEs_rpl l o7 h2⟩
theorem okEs_rpl {M : By → Ex} : ∀ l : List Ex, okEs l → (∀ t ∈ usEs l, okE (M t)) → okEs (rplEs M l)
  | [], _, _ => trivial
  | a :: r, h, h2 => by
    simp only [usEs, List.mem_append] at h2
    exact ⟨okE_rpl a h.1 fun t ht => h2 t (.inl ht), okEs_rpl r h.2 fun t ht => h2 t (.inr ht)⟩
end
theorem okE_full {l : List Vw} (h : VOk rxC l) (ho : okVs l) {e : Ex} (hoe : okE e) (he : ∀ t ∈ usE e, t ∈ nmsV l) : okE (full l e) := by
  have key := ord_ind h (p := fun v => okE (full l v.expr)) fun v hv ih => okE_rpl _ (ho.2 _ hv).2 fun t ht => by
    obtain ⟨u, hu, e⟩ := List.mem_map.1 (h.cov v hv t ht)
    rw [← e, fM_at h hu]
    exact ih t ht u hu e
  refine okE_rpl _ hoe fun t ht => ?_
  obtain ⟨u, hu, rfl⟩ := List.mem_map.1 (he t ht)
  rw [fM_at h hu]
  exact key u hu
theorem xpn_has (X : List (By × Ex)) (t : By) : ∀ (o : List By) (M : List (By × Ex)), (ixM t (xpn X o M)).isSome = (inL o t || (ixM t M).isSome)
  | [], M => by simp [xpn, inL]
  | a :: r, M => by
    rw [xpn, xpn_has X t r, ixM_put]
    simp only [inL, List.contains_cons]
    cases (t == a) <;> cases (List.contains r t) <;> simp
abbrev xpT (l : List Vw) (i : Nat) : List (By × Ex) := xpn (xmp l) ((ordV l).take i) []
theorem xpT_has {l : List Vw} {i : Nat} {e : Ex} (h : ∀ t ∈ usE e, t ∈ (ordV l).take i) : hasK (xpT l i) e := fun t ht => by
  rw [xpn_has, inL_mem.2 (h t ht)]; rfl
theorem xpT_s {l : List Vw} {i : Nat} {v : Vw} (h : VOk rxC l) (hv : v ∈ l) (hi : i < (ordV l).length) (he : v.name = (ordV l)[i]) : xpT l (i + 1) = putM (ordV l)[i] (rplE (lkX (xpT l i)) v.expr) (xpT l i) := by
  rw [xpT, take_succ_get hi, xpn_app, xpn, ← he, xmp_at h hv]; rfl
theorem vw_Expand (hG : GTab) (l : List Vw) (e : Ex) (ho : okVs l) (hoe : okE e) : Go.Fw.PTri Tryz.prog 15 [slV vwC l, exV e] (.tup [exV (expP rxC l e).1, nI (expP rxC l e).2]) := by
  refine PTri.of_safe Tryz.func15 rfl Tryz.results15 Tryz.ntmps15 rfl ?_
  refine go 99 rfl ?_
  refine Safe.callL (rest := [(1, .cells 34 exZ 16), (0, .cells 34 (exC e) 16)]) [] (vw_prepare hG l e ho hoe) rfl rfl rfl rfl (.refl _) (fun v h' nx' q => ?_)
  rcases q with ⟨hne, rfl, rfl, rfl⟩ | ⟨h0, rfl, rfl, rfl⟩
  · rw [expP_prp hne]
    refine go 99 rfl ?_
    refine Safe.br rfl (fun a => ?_) (fun a => ?_)
    · refine go 99 rfl ?_
      exact ⟨.inr rfl, trivial, .weak rfl rfl (wkE rfl)⟩
    · exact absurd (by simpa using a) hne
  · obtain ⟨h1, h2, h3⟩ := prp_ok h0
    have hV := chkV_ok h1
    have h3' := (cov_iff (chk_wf h2) _).1 h3
    have hE := expP_at h1 h2 h3'
    have h50 := hV.len
    have hol := hV.olen
    refine Safe.hpO (h' := [(2, .map (exM (xmp l))), (1, .cells 34 exZ 16), (0, .cells 34 (exC e) 16)]) (congrArg (· ++ [(1, AObj.cells 34 exZ 16), (0, AObj.cells 34 (exC e) 16)]) (mapE (s := sgS [] 0 2) (k := 0) (j := 2) (exM_dry (xmp l)) rfl)) ?_
    refine go 99 rfl ?_
    first | refine Safe.gsK true rfl rfl ?_ | refine Safe.gsK false rfl rfl ?_ | refine Safe.brT rfl rfl ?_ | refine Safe.brF rfl rfl ?_
    refine go 99 rfl ?_
    refine Safe.mkMap rfl rfl ?_
    refine go 99 rfl ?_
    refine Safe.loop (α := Nat) (fun i => [(3, .ptr 0 0), (4, .ptr 1 0), (7, .map 2), (9, .map 3), (27, slV strC (ordV l)), (28, nI (ordV l).length), (29, nI i)]) (fun i => [(3, .map (exM (xpT l i))), (2, .map (exM (xmp l))), (1, .cells 34 exZ 16), (0, .cells 34 (exC e) 16)]) 4 (fun i => (ordV l).length - i) (fun i => i ≤ (ordV l).length) 0 (sgI 4) ⟨⟨fit rfl, fit rfl, fit rfl, fit rfl, fit rfl, fit rfl, fit rfl, trivial⟩, ⟨_, .refl _, subK rfl rfl (subK rfl (renO_map (exM_dry _)) (subK rfl rfl (subK rfl rfl subN)))⟩, rfl⟩ (Nat.zero_le _) ?_
    rintro i hi
    refine go 99 rfl ?_
    refine Safe.br rfl (fun c1 => ?_) (fun c1 => ?_)
    · have hi : i < (ordV l).length := ltc c1
      obtain ⟨v, hv, hn, hc⟩ := (ordV_ok l).dep i hi
      have hK : hasK (xpT l i) v.expr := xpT_has ((cov_iff (hV.wf hv) _).1 hc)
      have hx : (ixM (ordV l)[i] (xmp l)).isSome = true := by rw [xmp_has, ← hn]; exact inL_mem.2 (List.mem_map_of_mem hv)
      have hg : exV (getM zroE (ordV l)[i] (xmp l)) = exV v.expr := by rw [← hn, xmp_at hV hv]
      refine go 99 rfl ?_
      refine Safe.idxF hi rfl rfl rfl ?_
      refine go 99 rfl ?_
      refine Safe.ldF (ldStr hi) rfl rfl rfl ?_
      refine go 99 rfl ?_
      refine Safe.lookup (mix_mpM exV (ordV l)[i] (xmp l)) ((lkM_h1 exV zroE _ (ordV l)[i] (xmp l) hx).trans hg) rfl rfl rfl rfl rfl rfl rfl rfl (exM_dry _) rfl rfl ?_
      refine go 99 rfl ?_
      refine Safe.callU (rest := [(2, .map (exM (xmp l))), (1, .cells 34 exZ 16), (0, .cells 34 (exC e) 16)]) [(0, 3)] (vw_replace (xpT l i) _ v.expr (Nat.le_refl _) (ho.2 _ hv).2 hK) rfl rfl rfl rfl (mapR (exM_dry _) rfl) (mapE (exM_dry _) rfl) rfl (.refl _) ?_
      refine go 99 rfl ?_
      refine Safe.mapSet (setX (xpT_s hV hv hi hn)) (.inl rfl) rfl rfl rfl rfl rfl rfl rfl (exM_dry _) rfl rfl (exM_dry _) ?_
      refine go 99 rfl ?_
      exact ⟨sgI 4, i + 1, hi, mlt hi, rfl, rfl, ⟨fit rfl, fit rfl, fit rfl, fit rfl, fit rfl, fit rfl, fit (isucc (by omega)), trivial⟩, ⟨_, .refl _, subD (subK rfl (renO_map (exM_dry _)) (subK rfl (renO_map (exM_dry _)) (subK rfl rfl (subK rfl rfl subN))))⟩, rfl⟩
    · have hi2 : i = (ordV l).length := Nat.le_antisymm hi (gec c1)
      have hK : hasK (xpT l i) e := xpT_has fun t ht => by
        rw [hi2, List.take_length]
        obtain ⟨v, hv, rfl⟩ := List.mem_map.1 (h3' t ht)
        exact hV.all v hv
      have hF : rplE (lkX (xpT l i)) e = full l e := by rw [hi2, xpT, List.take_length]; rfl
      refine go 99 rfl ?_
      refine Safe.callU (rest := [(2, .map (exM (xmp l))), (1, .cells 34 exZ 16), (0, .cells 34 (exC e) 16)]) [(0, 3)] (vw_replace (xpT l i) _ e (Nat.le_refl _) hoe hK) rfl rfl rfl rfl (mapR (exM_dry _) rfl) (mapE (exM_dry _) rfl) rfl (.refl _) ?_
      rw [hF]
      refine go 99 rfl ?_
      refine Safe.call (alg_check hG (full l e) (okE_full hV ho hoe h3')) rfl rfl rfl ?_
      refine go 99 rfl ?_
      refine Safe.br rfl (fun d => ?_) (fun d => ?_)
      · have d1 : chkE rxC (full l e) ≠ 0 := by simpa using d
        rw [if_pos d1] at hE
        rw [hE]
        refine go 99 rfl ?_
        exact ⟨.inr rfl, trivial, .weak rfl rfl (wkE rfl)⟩
      · have d1 : chkE rxC (full l e) = 0 := by simpa using d
        rw [if_neg (by simp [d1])] at hE
        rw [hE]
        refine go 99 rfl ?_
        exact ⟨.inr rfl, trivial, .done (rfl) rfl⟩
end Go.Proofs.YtijfihbdcdkalaaGreatDoor
end

section
namespace Go.Proofs.YtijfihbdcdkalaaGreatDoor
open Go.Fw Go.Sort Go.RowKit
variable [Gl]
set_option maxRecDepth 20000
set_option maxHeartbeats 4000000
def srtB (l : List By) : List By := l.mergeSort fun x y => decide (x ≤ y)
theorem srtB_len (l : List By) : (srtB l).length = l.length := by simp [srtB]
theorem sl_sort (ss : List By) (cap nn : Nat) (hl : ss.length < 4611686018427387904) : TriL Tryz.prog 30 [.slice 0 0 ss.length cap] [(0, .cells 9 (cat strC ss) nn)] 1 (fun v h nx => v = .tup [] ∧ h = [(0, .cells 9 (cat strC (srtB ss)) nn)] ∧ nx = 1) := by
  intro ρ hg
  obtain ⟨b, hb⟩ := Option.isSome_iff_exists.1 (hg.keys (0, .cells 9 (cat strC ss) nn) (by simp))
  have hb : ρ 0 = some b := hb
  have e1 : renL ρ [.slice 0 0 ss.length cap] = [.slice b 0 ss.length cap] := by simp only [renL, renV, hb]
  have e2 : ∀ cs : List V, cs.all dry = true → renH ρ [(0, .cells 9 cs nn)] = [(b, .cells 9 cs nn)] := fun cs h => by
    simp only [renH_cons, renH_nil, ky, hb, Option.getD_some, renO_dry h]
  rw [e1, e2 _ (catStr_d _)]
  have := Tri.sortStr (P := Tryz.prog) (f := 30) (T := 9) (b := b) (cap := cap) (nn := nn) (ss := ss) (rest := []) (fun blk off cap ss w h1 h2 h3 => Tryz.slices_Sort_string blk off cap ss w h1 h2 h3) hl
  rw [List.append_nil, ← cat_str, List.append_nil, ← cat_str] at this
  refine this.mono ?_
  rintro v h ⟨rfl, rfl⟩
  exact ⟨ρ, .tup [], _, 1, agr.refl _ _, ⟨hg.fresh, fun p hp => by simp only [List.mem_singleton] at hp; subst hp; rw [hb]; rfl, hg.base⟩, rfl, (e2 _ (catStr_d _)).symm, rfl, rfl, rfl⟩
theorem sl_sort0 : Go.Fw.PTri Tryz.prog 30 [.nilslice] (.tup []) := by
  refine PTri.of_same #[.slice none 0 0] (.tuple #[]) (fun F av h => ?_) (fun w => Any.slices_Sort_string_none Tryz.lays190 none 0 w) fun F => .tup [] #[] rfl fun i v h => by simp at h
  have h0 := (h.2 0 _ rfl).nilslice_inv
  have hs := h.1
  simp at hs
  obtain ⟨L⟩ := av
  match L, hs with
  | [x], _ => simp at h0; rw [h0]
theorem usesR_prp {l : List Vw} {e : Ex} (h : prpE l e ≠ 0) : usesR rxC l e = ([], prpE l e) := by
  unfold prpE at h
  unfold usesR prpE
  by_cases h1 : chkV rxC l = 0
  · simp only [h1, ne_eq, not_true_eq_false, if_false] at h ⊢
    by_cases h2 : chkE rxC e = 0
    · simp only [h2, not_true_eq_false, if_false] at h ⊢
      by_cases h3 : covE e (nmsV l) = false
      · simp only [h3, if_true]
      · simp only [h3] at h; exact absurd rfl h
    · simp only [h2, not_false_eq_true, if_true]
  · simp only [h1, ne_eq, not_false_eq_true, if_true]
theorem sub1I {n : Nat} (h : n < 4611686018427387904) : some (V.int .i64 (IntKind.i64.wrap ((n : Int) - 1))) = some (V.int .i64 ((n : Int) - 1)) := by
  by_cases h0 : n = 0
  · subst h0; rfl
  · rw [wrap64_fit (by omega) (by omega)]
theorem sub2I {j : Nat} (h : j < 4611686018427387904) : some (V.int .i64 (IntKind.i64.wrap (((j + 1 : Nat) : Int) - 1 - 1))) = some (V.int .i64 ((j : Int) - 1)) := by
  rw [show (((j + 1 : Nat) : Int) - 1 - 1) = (j : Int) - 1 by omega]; exact sub1I h
theorem slSE (acc : List By) : some (V.tup [.fslice (cat strC (srtB acc)) acc.length, nI 0]) = some (V.tup [slV strC (srtB acc), nI 0]) := by rw [slV, srtB_len]
theorem usW_s {l : List Vw} {j : Nat} (hj : j < (ordV l).length) (F : List (By × Bool)) (acc : List By) : usW (xmp l) ((ordV l).take (j + 1)).reverse F acc = if getM false (ordV l)[j] F = true then usW (xmp l) ((ordV l).take j).reverse (fndA (usE (getM zroE (ordV l)[j] (xmp l))) F) (acc ++ [(ordV l)[j]]) else usW (xmp l) ((ordV l).take j).reverse F acc := by
  rw [take_succ_get hj, List.reverse_append]; rfl
abbrev usH (l : List Vw) (e : Ex) (F : List (By × Bool)) : Hp := [(3, .cells 92 [.map 2] 1), (2, .map (stM F)), (1, .map (exM (xmp l))), (0, .cells 34 (exC e) 16)]
theorem subUs {l : List Vw} {e : Ex} {F : List (By × Bool)} {sg : Sg} {r h3 : Hp} (h0 : sgF sg 0 = some 0) (h1 : sgF sg 1 = some 1) (h2 : sgF sg 2 = some 2) (h3' : sgF sg 3 = some 3) (h : (relH sg r).Sublist h3) : (relH sg (usH l e F ++ r)).Sublist (usH l e F ++ h3) :=
  subK h3' (by rw [renO]; simp [renL, renV, h2]) (subK h2 (renO_map (stM_dry _)) (subK h1 (renO_map (exM_dry _)) (subK h0 (renO_dry rfl) h)))
theorem subGs {sg : Sg} {e : TypeId} {kk k : Nat} {l : List By} {G : Option Nat} (h : sgF sg k = some k) : (relH sg (gH e kk k (cat strC l) G)).Sublist (gH e kk k (cat strC l) G) := by
  cases G with
  | none => exact subN
  | some N => exact subK h (renO_dry (catStr_d _)) subN
theorem vw_Uses (hG : GTab) (l : List Vw) (e : Ex) (ho : okVs l) (hoe : okE e) : Go.Fw.PTri Tryz.prog 17 [slV vwC l, exV e] (.tup [slV strC (usesR rxC l e).1, nI (usesR rxC l e).2]) := by
  refine PTri.of_safe Tryz.func17 rfl Tryz.results17 Tryz.ntmps17 rfl ?_
  refine go 99 rfl ?_
  refine Safe.callL (rest := [(0, .cells 34 (exC e) 16)]) [] (vw_prepare hG l e ho hoe) rfl rfl rfl rfl (.refl _) (fun v h' nx' q => ?_)
  rcases q with ⟨hne, rfl, rfl, rfl⟩ | ⟨h0, rfl, rfl, rfl⟩
  · rw [usesR_prp hne]
    refine go 99 rfl ?_
    refine Safe.br rfl (fun a => ?_) (fun a => ?_)
    · refine go 99 rfl ?_
      exact ⟨.inr rfl, trivial, .weak rfl rfl (wkE rfl)⟩
    · exact absurd (by simpa using a) hne
  · obtain ⟨h1, h2, h3⟩ := prp_ok h0
    have hV := chkV_ok h1
    have hwf := chk_wf h2
    have h3' := (cov_iff hwf _).1 h3
    have hE : usesR rxC l e = (srtB (usL l e), 0) := by rw [usesR_at h1 h2 h3', ← us_eq hV hwf h3']; rfl
    have h50 := hV.len
    have hol := hV.olen
    rw [hE]
    refine Safe.hpO (h' := [(1, .map (exM (xmp l))), (0, .cells 34 (exC e) 16)]) (congrArg (· ++ [(0, AObj.cells 34 (exC e) 16)]) (mapE (s := sgS [] 0 1) (k := 0) (j := 1) (exM_dry (xmp l)) rfl)) ?_
    refine go 99 rfl ?_
    first | refine Safe.gsK true rfl rfl ?_ | refine Safe.gsK false rfl rfl ?_ | refine Safe.brT rfl rfl ?_ | refine Safe.brF rfl rfl ?_
    refine go 99 rfl ?_
    refine Safe.mkMap rfl rfl ?_
    refine go 99 rfl ?_
    refine Safe.call (vw_used e) rfl rfl rfl ?_
    refine go 99 rfl ?_
    refine Safe.range (α := (List (By × Bool))) (fun F => usH l e F) (fun k F => F = fndA ((usE e).take k) []) (fun c F => False) [] (it_used e hoe) rfl rfl (itX_ok e) rfl (rfl) ?_ ?_ ?_
    · rintro lb k hk F rfl
      have hk2 : k < (usE e).length := by rw [← itX_len]; exact hk
      rw [itX_at hk]
      refine go 99 rfl ?_
      refine Safe.toBody ?_
      refine go 99 rfl ?_
      refine Safe.mapSet (setE (fndA_snoc ((usE e).take k) (usE e)[k] [])) (.inl rfl) rfl rfl rfl rfl rfl rfl rfl (stM_dry _) rfl rfl (stM_dry _) ?_
      refine go 99 rfl ?_
      exact ⟨rfl, fndA ((usE e).take k ++ [(usE e)[k]]) [], by rw [take_succ_get hk2], trivial, ⟨_, .refl _, subUs (r := []) rfl rfl rfl rfl subN⟩, rfl⟩
    · rintro r F rfl
      rw [itX_len, List.take_length]
      refine go 99 rfl ?_
      refine Safe.loopH (α := (Nat × List (By × Bool) × List By × Option Nat)) (fun a => [(6, slV strC (ordV l)), (7, .map 1), (9, .ptr 3 0), (11, gV 4 a.2.2.1.length a.2.2.2), (12, .int .i64 ((a.1 : Int) - 1))]) (fun a => usH l e a.2.1 ++ gH 9 1 4 (cat strC a.2.2.1) a.2.2.2) 5 (fun a => a.1) (fun a => a.1 ≤ (ordV l).length ∧ usL l e = usW (xmp l) ((ordV l).take a.1).reverse a.2.1 a.2.2.1 ∧ (a.2.2.2 = none → a.2.2.1 = []) ∧ a.2.2.1.length + a.1 ≤ (ordV l).length) (fun a hf dl => dlOk dl hf) ((ordV l).length, fndA (usE e) [], [], none) (sgI 4) ⟨⟨fit rfl, fit rfl, fit rfl, fit rfl, fit ((by exact sub1I (n := (ordV l).length) (by omega))), trivial⟩, ⟨_, .refl _, subUs (r := []) rfl rfl rfl rfl subN⟩, rfl⟩ ⟨Nat.le_refl _, by rw [List.take_length]; rfl, fun _ => rfl, by simp⟩ (dlOk_1 trivial) ?_
      rintro ⟨i, F, acc, G⟩ ⟨hi, hW, hG0, hal⟩ hf dl hdl
      dsimp only at hi hW hG0 hal
      refine go 99 rfl ?_
      refine Safe.br rfl (fun c => ?_) (fun c => ?_)
      · have hi0 : 0 < i := by have := of_decide_eq_true c; omega
        obtain ⟨j, rfl⟩ : ∃ j, i = j + 1 := ⟨i - 1, by omega⟩
        have hj : j < (ordV l).length := by omega
        have hjj : (((j + 1 : Nat) : Int) - 1) = (j : Int) := by omega
        rw [usW_s hj] at hW
        refine go 99 rfl ?_
        refine Safe.drawP mixed [0, 1, 2, 3, 4, 5, 6] [(true, true), (true, true), (true, true), (true, true), (true, true), (true, true), (true, true)] (by kernel_rfl) ?_
        refine go 99 rfl ?_
        refine Safe.idxF (i := j) hj hjj rfl rfl ?_
        refine go 99 rfl ?_
        refine Safe.ldF (ldStr hj) rfl rfl rfl ?_
        refine Safe.tail (by kernel_rfl) ?_
        refine go 99 rfl ?_
        refine Safe.lookup (mix_mpM V.bool (ordV l)[j] F) (lkM_1 V.bool false (ordV l)[j] F) rfl rfl rfl rfl rfl rfl rfl rfl (stM_dry F) rfl rfl ?_
        refine go 99 rfl ?_
        refine Safe.br rfl (fun d => ?_) (fun d => ?_)
        · have d1 : getM false (ordV l)[j] F = false := by simpa using d
          rw [if_neg (by simp [d1])] at hW
          refine go 99 rfl ?_
          exact ⟨sgI 5, (j, F, acc, G), ⟨by dsimp only; omega, hW, hG0, by dsimp only; omega⟩, Nat.lt_succ_self j, hdl, ⟨fit rfl, fit rfl, fit rfl, fit ((by cases G <;> rfl)), fit ((by exact sub2I (by omega))), trivial⟩, ⟨_, .refl _, subUs (r := gH 9 1 4 (cat strC acc) G) rfl rfl rfl rfl (subGs rfl)⟩, (by cases G <;> rfl)⟩
        · have d1 : getM false (ordV l)[j] F = true := by simpa using d
          rw [if_pos d1] at hW
          obtain ⟨v, hv, hn, _⟩ := (ordV_ok l).dep j hj
          have hx : (ixM (ordV l)[j] (xmp l)).isSome = true := by rw [xmp_has, ← hn]; exact inL_mem.2 (List.mem_map_of_mem hv)
          have hgv : getM zroE (ordV l)[j] (xmp l) = v.expr := by rw [← hn, xmp_at hV hv]
          rw [hgv] at hW
          refine go 99 rfl ?_
          refine Safe.idxF (i := j) hj hjj rfl rfl ?_
          refine go 99 rfl ?_
          refine Safe.ldF (ldStr hj) rfl rfl rfl ?_
          refine Safe.bsF rfl rfl ?_
          refine go 99 rfl ?_
          refine Safe.appG (k := 4) (G := G) (h1 := usH l e F) (h2 := []) rfl (by simp [Hp.ns]) (fun h => by simp [hG0 h, cat]) (by rw [List.append_nil]) rfl rfl rfl rfl (fun h => rfl) (by decide) rfl (catStr_len1 acc) rfl rfl (by dsimp only; omega) (fun N' hN' => ?_)
          refine Safe.hpO (h' := (5, .cells 9 (cat strC (acc ++ [(ordV l)[j]])) (N' * 1)) :: usH l e F) (by rw [← catStr_app1, List.append_nil]; rfl) ?_
          refine go 99 rfl ?_
          refine Safe.idxF (i := j) hj hjj rfl rfl ?_
          refine go 99 rfl ?_
          refine Safe.ldF (ldStr hj) rfl rfl rfl ?_
          refine go 99 rfl ?_
          refine Safe.lookup (mix_mpM exV (ordV l)[j] (xmp l)) ((lkM_h1 exV zroE _ (ordV l)[j] (xmp l) hx).trans (by rw [hgv])) rfl rfl rfl rfl rfl rfl rfl rfl (exM_dry _) rfl rfl ?_
          refine go 99 rfl ?_
          refine Safe.call (vw_used v.expr) rfl rfl rfl ?_
          refine go 99 rfl ?_
          refine Safe.range (α := (List (By × Bool))) (fun F2 => (5, .cells 9 (cat strC (acc ++ [(ordV l)[j]])) (N' * 1)) :: usH l e F2) (fun k F2 => F2 = fndA ((usE v.expr).take k) F) (fun c F2 => False) F (it_used v.expr (ho.2 _ hv).2) rfl rfl (itX_ok v.expr) rfl (rfl) ?_ ?_ ?_
          · rintro lb k hk F2 rfl
            have hk2 : k < (usE v.expr).length := by rw [← itX_len]; exact hk
            rw [itX_at hk]
            refine go 99 rfl ?_
            refine Safe.toBody ?_
            refine go 99 rfl ?_
            refine Safe.mapSet (setE (fndA_snoc ((usE v.expr).take k) (usE v.expr)[k] F)) (.inl rfl) rfl rfl rfl rfl rfl rfl rfl (stM_dry _) rfl rfl (stM_dry _) ?_
            refine go 99 rfl ?_
            exact ⟨rfl, fndA ((usE v.expr).take k ++ [(usE v.expr)[k]]) F, by rw [take_succ_get hk2], trivial, ⟨_, .refl _, subK rfl (renO_dry (catStr_d _)) (subUs (r := []) rfl rfl rfl rfl subN)⟩, rfl⟩
          · rintro r F2 rfl
            rw [itX_len, List.take_length]
            refine go 99 rfl ?_
            exact ⟨[(0, 0), (1, 1), (2, 2), (3, 3), (4, 5)], (j, fndA (usE v.expr) F, acc ++ [(ordV l)[j]], some N'), ⟨by dsimp only; omega, hW, (fun h => by cases h), by simp; omega⟩, Nat.lt_succ_self j, dlOk_1 hdl, ⟨fit rfl, fit rfl, fit rfl, fit ((by exact congrArg (fun n => some (V.slice 5 0 n N')) (by simp))), fit ((by exact sub2I (by omega))), trivial⟩, ⟨_, permL (a := usH l e _) (b := [_]), subUs (r := [(4, .cells 9 (cat strC (acc ++ [(ordV l)[j]])) (N' * 1))]) rfl rfl rfl rfl (subK rfl (renO_dry (catStr_d _)) subN)⟩, rfl⟩
          · rintro r F2 c h
            exact h.elim
      · have hi0 : i = 0 := by have := of_decide_eq_false c; omega
        subst hi0
        have hW2 : usL l e = acc := hW
        rw [hW2]
        refine go 99 rfl ?_
        cases G with
        | none =>
          have hacc : acc = [] := hG0 rfl
          subst hacc
          have hs0 : srtB [] = [] := by simp [srtB]
          rw [hs0]
          refine Safe.call (sl_sort0) rfl rfl rfl ?_
          refine go 99 rfl ?_
          exact ⟨.inr rfl, hdl, .weak rfl rfl (wkE rfl)⟩
        | some N =>
          refine Safe.callL (rest := usH l e F) [(0, 4)] (sl_sort acc N (N * 1) (by omega)) rfl rfl rfl rfl ?_ (fun v h' nx' q => ?_)
          · have e1 : relH [(0, 4)] [(0, AObj.cells 9 (cat strC acc) (N * 1))] = [(4, .cells 9 (cat strC acc) (N * 1))] := by
              show [(4, renO _ (AObj.cells 9 (cat strC acc) (N * 1)))] = _
              rw [renO_dry (catStr_d _)]
            rw [e1]
            exact permL (a := [_])
          · obtain ⟨rfl, rfl, rfl⟩ := q
            refine Safe.hpO (h' := (4, .cells 9 (cat strC (srtB acc)) (N * 1)) :: usH l e F) (congrArg (fun o => (4, o) :: usH l e F) (renO_dry (catStr_d _))) ?_
            refine go 99 rfl ?_
            exact ⟨.inr rfl, hdl, .frz 4 rfl (catStr_dry _) (.done (slSE acc) rfl)⟩
    · rintro r F c h
      exact h.elim
end Go.Proofs.YtijfihbdcdkalaaGreatDoor
end

section
namespace Go.Proofs.YtijfihbdcdkalaaGreatDoor
open Go.Fw
variable [Gl]
set_option maxRecDepth 20000
set_option maxHeartbeats 4000000
theorem law_view (s : By) : Go.Fw.PTri Tryz.prog 22 [.str s] (exV (vwX s)) := by
  refine PTri.of_safe Tryz.func22 rfl Tryz.results22 Tryz.ntmps22 rfl ?_
  refine go 99 rfl ?_
  exact ⟨.inr rfl, trivial, .weak rfl rfl (wdE rfl)⟩
def numX : Ex := ⟨1, 0, [], 0, 0, 2, 1, [], false, 0, [], ⟨0, [], []⟩, [], []⟩
def twX (e : Ex) : Ex := ⟨7, 3, [], 0, 0, 0, 0, [], false, 0, [], ⟨0, [], []⟩, [], [e, numX]⟩
def winX : Ex := ⟨2, 1, [], 5, 0, 0, 0, [], false, 0, [], ⟨0, [], []⟩, [], []⟩
def sumX : Ex := ⟨6, 1, [], 0, 0, 0, 0, [], false, 0, [], ⟨0, [], []⟩, [], [winX]⟩
abbrev bR : By := [114]
abbrev bS : By := [115]
def awL : List Vw := [⟨bR, sumX⟩, ⟨bS, twX (vwX bR)⟩]
theorem law_tw1 : Go.Fw.PTri Tryz.prog 54 [exV sumX] (exV (twX sumX)) := by
  refine PTri.of_safe Tryz.func54 rfl Tryz.results54 Tryz.ntmps54 rfl ?_
  refine go 99 rfl ?_
  exact ⟨.inr rfl, trivial, .frz 2 rfl rfl (.weak rfl rfl (wdE rfl))⟩
theorem law_tw2 : Go.Fw.PTri Tryz.prog 54 [exV (vwX bR)] (exV (twX (vwX bR))) := by
  refine PTri.of_safe Tryz.func54 rfl Tryz.results54 Tryz.ntmps54 rfl ?_
  refine go 99 rfl ?_
  exact ⟨.inr rfl, trivial, .frz 2 rfl rfl (.weak rfl rfl (wdE rfl))⟩
theorem aw_use : expP rxC awL (vwX bS) = (twX sumX, 0) := by kernel_rfl
theorem aw_ord : ordR rxC awL = ([bR, bS], 0) := by kernel_rfl
theorem aw_us : usesR rxC awL (vwX bS) = ([bR, bS], 0) := by kernel_rfl
theorem aw_okv : okVs awL := by
  refine ⟨by decide, fun v hv => ?_⟩
  simp only [awL, List.mem_cons, List.not_mem_nil, or_false] at hv
  rcases hv with rfl | rfl <;> exact ⟨by decide, by simp [okE, okEs, okMs, okN, okSs, okP, okPs, sumX, winX, twX, vwX, numX, big]⟩
theorem okE_vwX {s : By} (h : s.length ≤ big) : okE (vwX s) := by
  have : okE (vwX []) := by simp [okE, okEs, okMs, okN, okSs, okP, okPs, vwX, big]
  obtain ⟨a, b, c, d, e, f⟩ := this
  exact ⟨a, b, c, d, h, f⟩
theorem okE_tws : okE (twX sumX) := by simp [okE, okEs, okMs, okN, okSs, okP, okPs, sumX, winX, twX, vwX, numX, big]
theorem law_awake (hG : GTab) : Go.Fw.PTri Tryz.prog 14 [] (.bool true) := by
  have hx := vw_Expand hG awL (vwX bS) aw_okv (okE_vwX (by decide))
  rw [aw_use] at hx
  have ho := vw_Order hG awL aw_okv
  rw [aw_ord] at ho
  have hu := vw_Uses hG awL (vwX bS) aw_okv (okE_vwX (by decide))
  rw [aw_us] at hu
  have he := ref_Equal ref_rx (twX sumX) (twX sumX) okE_tws okE_tws
  rw [eqE_self (by kernel_rfl)] at he
  have hs := ref_same [bR, bS] [bR, bS] (by decide) (by decide)
  rw [show ([bR, bS] == [bR, bS]) = true by decide] at hs
  refine PTri.of_safe Tryz.func14 rfl Tryz.results14 Tryz.ntmps14 rfl ?_
  refine go 99 rfl ?_
  refine Safe.frzC 0 rfl rfl ?_
  refine Safe.frzC 1 rfl rfl ?_
  refine Safe.rel (sgI 0) (m2 := [(1, .fptr (exC sumX) 0), (2, .clo 54 [])]) (h2 := []) (nx2 := 0) ⟨⟨fitw rfl rfl rfl (wdE rfl), fit rfl, trivial⟩, ⟨_, .refl _, List.nil_sublist _⟩, rfl⟩ ?_
  refine Safe.drawP mixed [0, 1, 2, 3, 4, 5, 6, 7] [(true, false), (true, false), (true, false), (true, true), (true, true), (true, true), (true, true), (true, true)] (by kernel_rfl) ?_
  refine go 99 rfl ?_
  refine Safe.ldF ((rfl : ldAt Tryz.prog 34 (exC sumX) 0 = some (exV sumX))) rfl rfl rfl ?_
  refine go 99 rfl ?_
  refine Safe.call (law_view bR) rfl rfl rfl ?_
  refine go 99 rfl ?_
  refine Safe.call (law_tw2) rfl rfl rfl ?_
  refine go 99 rfl ?_
  refine Safe.bsF rfl rfl ?_
  refine go 99 rfl ?_
  refine Safe.call (law_view bS) rfl rfl rfl ?_
  refine go 99 rfl ?_
  refine Safe.call (hx) rfl rfl rfl ?_
  refine go 99 rfl ?_
  refine Safe.call (ho) rfl rfl rfl ?_
  refine go 99 rfl ?_
  refine Safe.call (law_view bS) rfl rfl rfl ?_
  refine go 99 rfl ?_
  refine Safe.call (hu) rfl rfl rfl ?_
  refine go 99 rfl ?_
  refine Safe.frzC 0 rfl rfl ?_
  refine Safe.drawP mixed [0, 1, 2, 3, 4, 5, 6, 7, 8, 9, 10, 11, 12, 13, 14, 15, 16, 17, 18, 19, 20, 21, 22, 23, 24, 25, 26, 27] [(true, true), (true, true), (true, true), (true, true), (true, true), (true, true), (true, true), (true, true), (true, true), (true, true), (true, true), (true, false), (true, true), (true, true), (true, true), (true, true), (true, true), (true, true), (true, true), (true, true), (true, true), (true, true), (true, true), (true, true), (true, true), (true, true), (true, true), (true, true)] (by kernel_rfl) ?_
  refine go 99 rfl ?_
  first | refine Safe.gsK true rfl rfl ?_ | refine Safe.gsK false rfl rfl ?_ | refine Safe.brT rfl rfl ?_ | refine Safe.brF rfl rfl ?_
  refine go 99 rfl ?_
  first | refine Safe.gsK true rfl rfl ?_ | refine Safe.gsK false rfl rfl ?_ | refine Safe.brT rfl rfl ?_ | refine Safe.brF rfl rfl ?_
  refine go 99 rfl ?_
  first | refine Safe.gsK true rfl rfl ?_ | refine Safe.gsK false rfl rfl ?_ | refine Safe.brT rfl rfl ?_ | refine Safe.brF rfl rfl ?_
  refine go 99 rfl ?_
  refine Safe.ldF ((rfl : ldAt Tryz.prog 34 (exC (twX sumX)) 0 = some (exV (twX sumX)))) rfl rfl rfl ?_
  refine go 99 rfl ?_
  refine Safe.ldF ((rfl : ldAt Tryz.prog 34 (exC sumX) 0 = some (exV sumX))) rfl rfl rfl ?_
  refine go 99 rfl ?_
  refine Safe.call (law_tw1) rfl rfl rfl ?_
  refine go 99 rfl ?_
  refine Safe.call (he) rfl rfl rfl ?_
  refine go 99 rfl ?_
  first | refine Safe.gsK true rfl rfl ?_ | refine Safe.gsK false rfl rfl ?_ | refine Safe.brT rfl rfl ?_ | refine Safe.brF rfl rfl ?_
  refine go 99 rfl ?_
  refine Safe.bsF rfl rfl ?_
  refine go 99 rfl ?_
  refine Safe.call (hs) rfl rfl rfl ?_
  refine go 99 rfl ?_
  first | refine Safe.gsK true rfl rfl ?_ | refine Safe.gsK false rfl rfl ?_ | refine Safe.brT rfl rfl ?_ | refine Safe.brF rfl rfl ?_
  refine go 99 rfl ?_
  refine Safe.call (hs) rfl rfl rfl ?_
  refine go 99 rfl ?_
  exact ⟨.inr rfl, trivial, .done (rfl) rfl⟩
end Go.Proofs.YtijfihbdcdkalaaGreatDoor
end

section
namespace Go.Proofs.YtijfihbdcdkalaaGreatDoor
open Go.Fw
variable [Gl]
set_option maxRecDepth 20000
set_option maxHeartbeats 4000000
def grV (v : Vw) : Bool := decide (70 < v.name.length) || great v.expr
def greatV (l : List Vw) : Bool := (l.take 9).any grV || (decide (8 < l.length) && decide (l.length ≤ 50))
theorem grV_step {l : List Vw} {i : Nat} (h : i < l.length) (h9 : i < 9) (ha : (l.take i).any grV = false) (hv : grV l[i] = false) : (l.take (i + 1)).any grV = false := by
  rw [take_succ_get h, List.any_append, ha]; simp [hv]
theorem grV_hit {l : List Vw} {i : Nat} (h : i < l.length) (h9 : i < 9) (hv : grV l[i] = true) : greatV l = true := by
  have : l[i] ∈ l.take 9 := by
    rw [List.mem_take_iff_getElem]
    exact ⟨i, by omega, rfl⟩
  rw [greatV, List.any_eq_true.2 ⟨_, this, hv⟩]; rfl
theorem gr_end1 {l : List Vw} (h : greatV l = (decide (8 < l.length) && decide (l.length ≤ 50))) (e : decide (8 < (l.length : Int)) = true) : decide ((l.length : Int) ≤ 50) = greatV l := by
  rw [h, decide_eq_true (show 8 < l.length by have := of_decide_eq_true e; omega), Bool.true_and, Bool.eq_iff_iff, decide_eq_true_eq, decide_eq_true_eq]; omega
theorem gr_end0 {l : List Vw} (h : greatV l = (decide (8 < l.length) && decide (l.length ≤ 50))) (e : decide (8 < (l.length : Int)) = false) : false = greatV l := by
  rw [h, decide_eq_false (show ¬ 8 < l.length by have := of_decide_eq_false e; omega)]; rfl
theorem law_great46 (l : List Vw) (ho : okVs l) : Go.Fw.PTri Tryz.prog 12 [slV vwC l] (.bool (greatV l)) := by
  have hl := ho.1
  simp only [big] at hl
  refine PTri.of_safe Tryz.func12 rfl Tryz.results12 Tryz.ntmps12 rfl ?_
  refine go 99 rfl ?_
  refine Safe.loop (α := Nat) (fun i => [(0, slV vwC l), (3, nI i)]) (fun i => []) 0 (fun i => l.length - i) (fun i => i ≤ l.length ∧ i ≤ 9 ∧ (l.take i).any grV = false) 0 (sgI 0) ⟨⟨fit rfl, fit rfl, trivial⟩, ⟨_, .refl _, List.nil_sublist _⟩, rfl⟩ ⟨Nat.zero_le _, Nat.zero_le _, rfl⟩ ?_
  rintro i ⟨hi, h9, ha⟩
  have hend : (i = l.length ∨ i = 9) → greatV l = (decide (8 < l.length) && decide (l.length ≤ 50)) := fun h => by
    have : (l.take 9).any grV = false := by
      rcases h with h | h
      · rw [h, List.take_length] at ha
        rw [List.take_of_length_le (by omega)]; exact ha
      · rw [← h]; exact ha
    rw [greatV, this]; rfl
  refine go 99 rfl ?_
  refine Safe.gs rfl (fun c => ?_) (fun c => ?_)
  · have hi : i < l.length := ltc c
    have hv := ho.2 _ (List.getElem_mem hi)
    refine go 99 rfl ?_
    refine Safe.br rfl (fun d => ?_) (fun d => ?_)
    · have h9' : i < 9 := by have := of_decide_eq_true d; omega
      refine go 99 rfl ?_
      refine Safe.idxF hi rfl rfl rfl ?_
      refine go 99 rfl ?_
      refine Safe.ldF (ldVwN hi) rfl rfl rfl ?_
      refine go 99 rfl ?_
      refine Safe.gs rfl (fun e => ?_) (fun e => ?_)
      · have e1 : 70 < l[i].name.length := by have := of_decide_eq_true e; omega
        have e2 : grV l[i] = true := by simp [grV, e1]
        refine go 99 rfl ?_
        exact ⟨.inr rfl, trivial, .done (bIeq (grV_hit hi h9' e2).symm) rfl⟩
      · have e1 : ¬ 70 < l[i].name.length := by have := of_decide_eq_false e; omega
        refine go 99 rfl ?_
        refine Safe.idxF hi rfl rfl rfl ?_
        refine go 99 rfl ?_
        refine Safe.ldF (ldVwE hi) rfl rfl rfl ?_
        refine go 99 rfl ?_
        refine Safe.call (g_great l[i].expr hv.2) rfl rfl rfl ?_
        refine go 99 rfl ?_
        refine Safe.br rfl (fun f => ?_) (fun f => ?_)
        · have e2 : grV l[i] = true := by have f1 : great l[i].expr = true := f; simp [grV, f1]
          refine go 99 rfl ?_
          exact ⟨.inr rfl, trivial, .done (bIeq (grV_hit hi h9' e2).symm) rfl⟩
        · have e2 : grV l[i] = false := by have f1 : great l[i].expr = false := f; simp [grV, f1]; omega
          refine go 99 rfl ?_
          exact ⟨sgI 0, i + 1, ⟨hi, h9', grV_step hi h9' ha e2⟩, mlt hi, rfl, rfl, ⟨fit rfl, fit (isucc (by omega)), trivial⟩, ⟨_, .refl _, List.nil_sublist _⟩, rfl⟩
    · have h9' : i = 9 := by have := of_decide_eq_false d; omega
      refine go 99 rfl ?_
      refine Safe.gs rfl (fun e => ?_) (fun e => ?_)
      · refine go 99 rfl ?_
        exact ⟨.inr rfl, trivial, .done (bIeq (gr_end1 (hend (.inr h9')) e)) rfl⟩
      · refine go 99 rfl ?_
        exact ⟨.inr rfl, trivial, .done (bIeq (gr_end0 (hend (.inr h9')) e)) rfl⟩
  · have hi2 : i = l.length := Nat.le_antisymm hi (gec c)
    refine go 99 rfl ?_
    refine Safe.gs rfl (fun e => ?_) (fun e => ?_)
    · refine go 99 rfl ?_
      exact ⟨.inr rfl, trivial, .done (bIeq (gr_end1 (hend (.inl hi2)) e)) rfl⟩
    · refine go 99 rfl ?_
      exact ⟨.inr rfl, trivial, .done (bIeq (gr_end0 (hend (.inl hi2)) e)) rfl⟩
end Go.Proofs.YtijfihbdcdkalaaGreatDoor
end

section
namespace Go.Proofs.YtijfihbdcdkalaaGreatDoor
open Go.Fw
variable [Gl]
set_option maxRecDepth 20000
set_option maxHeartbeats 4000000
end Go.Proofs.YtijfihbdcdkalaaGreatDoor
end

section
namespace Go.Proofs.YtijfihbdcdkalaaGreatDoor
open Go.Fw
variable [Gl]
set_option maxRecDepth 20000
set_option maxHeartbeats 4000000
end Go.Proofs.YtijfihbdcdkalaaGreatDoor
end

section
namespace Go.Proofs.YtijfihbdcdkalaaGreatDoor
open Go.Fw
variable [Gl]
set_option maxRecDepth 20000
set_option maxHeartbeats 4000000
end Go.Proofs.YtijfihbdcdkalaaGreatDoor
end

section
namespace Go.Proofs.YtijfihbdcdkalaaGreatDoor
open Go.Fw
variable [Gl]
set_option maxRecDepth 20000
set_option maxHeartbeats 4000000
end Go.Proofs.YtijfihbdcdkalaaGreatDoor
end

section
namespace Go.Proofs.YtijfihbdcdkalaaGreatDoor
open Go.Fw
variable [Gl]
set_option maxRecDepth 20000
set_option maxHeartbeats 4000000
theorem vw_indexP (f : FuncId) (hgo : isGo Tryz.prog f = true) (X : List V) (p : Vw → Bool) (l : List Vw) (hl : l.length < 4611686018427387904) (hp : ∀ x ∈ l, Go.Fw.PTri Tryz.prog f [vwV x, .fptr X 0] (.bool (p x))) : Go.Fw.PTri Tryz.prog 71 [slV vwC l, .clo f [.fptr X 0]] (.int .i64 (ixP p 0 l)) := by
  refine PTri.of_safe Tryz.func71 rfl Tryz.results71 Tryz.ntmps71 rfl ?_
  refine go 99 rfl ?_
  refine Safe.loop (α := Nat) (fun i => [(0, slV vwC l), (1, .clo f [.fptr X 0]), (7, nI l.length), (8, nI i)]) (fun i => []) 0 (fun i => l.length - i) (fun i => i ≤ l.length ∧ ixP p 0 l = ixP p i (l.drop i)) 0 (sgI 0) ⟨⟨fit rfl, fit rfl, fit rfl, fit rfl, trivial⟩, ⟨_, .refl _, List.nil_sublist _⟩, rfl⟩ ⟨Nat.zero_le _, rfl⟩ ?_
  rintro i ⟨hi, ha⟩
  refine go 99 rfl ?_
  refine Safe.br rfl (fun c1 => ?_) (fun c1 => ?_)
  · have hi : i < l.length := ltc c1
    rw [List.drop_eq_getElem_cons hi] at ha
    refine go 99 rfl ?_
    refine Safe.idxF hi rfl rfl rfl ?_
    refine go 99 rfl ?_
    refine Safe.ldF (ldVw hi) rfl rfl rfl ?_
    refine go 99 rfl ?_
    refine Safe.call (hp l[i] (List.getElem_mem hi)) rfl rfl (by rw [hgo]; rfl) ?_
    refine go 99 rfl ?_
    refine Safe.br rfl (fun d => ?_) (fun d => ?_)
    · have d1 : p l[i] = true := d
      simp only [ixP, if_pos d1] at ha
      refine go 99 rfl ?_
      exact ⟨.inr rfl, trivial, .done (nIeq ha.symm) rfl⟩
    · have d1 : ¬ p l[i] = true := by simpa using d
      simp only [ixP, if_neg d1] at ha
      refine go 99 rfl ?_
      exact ⟨sgI 0, i + 1, ⟨hi, ha⟩, mlt hi, rfl, rfl, ⟨fit rfl, fit rfl, fit rfl, fit (isucc (by omega)), trivial⟩, ⟨_, .refl _, List.nil_sublist _⟩, rfl⟩
  · have hi2 : i = l.length := Nat.le_antisymm hi (gec c1)
    subst hi2
    rw [List.drop_length] at ha
    refine go 99 rfl ?_
    exact ⟨.inr rfl, trivial, .done (nIeq ha.symm) rfl⟩
end Go.Proofs.YtijfihbdcdkalaaGreatDoor
end

section
namespace Go.Proofs.YtijfihbdcdkalaaGreatDoor
open Go.Fw
variable [Gl]
set_option maxRecDepth 20000
set_option maxHeartbeats 4000000
def dlV (p : Vw → Bool) (l : List Vw) : List Vw := l.filter fun v => !p v
theorem ixP_none {α : Type} (p : α → Bool) : ∀ (l : List α) (i : Nat), ixP p i l = -1 → ∀ x ∈ l, p x = false
  | [], i, _, x, hx => by simp at hx
  | a :: r, i, h, x, hx => by
    simp only [ixP] at h
    split at h
    · omega
    · rename_i hn
      rcases List.mem_cons.1 hx with rfl | hm
      · simpa using hn
      · exact ixP_none p r (i + 1) h x hm
theorem ixP_some {α : Type} (p : α → Bool) : ∀ (l : List α) (i : Nat), ixP p i l ≠ -1 → ∃ k, ixP p i l = ((i + k : Nat) : Int) ∧ ∃ hk : k < l.length, p l[k] = true ∧ ∀ x ∈ l.take k, p x = false
  | [], i, h => absurd rfl h
  | a :: r, i, h => by
    by_cases hn : p a = true
    · exact ⟨0, by simp [ixP, hn], by simp, by simpa using hn, by simp⟩
    · simp only [ixP, if_neg hn] at h ⊢
      obtain ⟨k, e, hk, h1, h2⟩ := ixP_some p r (i + 1) h
      refine ⟨k + 1, by rw [e]; congr 1; omega, by simp; omega, by simpa using h1, ?_⟩
      intro x hx
      rw [List.take_succ_cons] at hx
      rcases List.mem_cons.1 hx with rfl | hm
      · simpa using hn
      · exact h2 x hm
theorem dlV_none {p : Vw → Bool} {l : List Vw} (h : ∀ x ∈ l, p x = false) : dlV p l = l := List.filter_eq_self.2 fun x hx => by rw [h x hx]; rfl
theorem dlV_snocN {p : Vw → Bool} {l : List Vw} {j : Nat} (hj : j < l.length) (h : p l[j] = false) : dlV p (l.take (j + 1)) = dlV p (l.take j) ++ [l[j]] := by
  unfold dlV; rw [List.take_succ_eq_append_getElem hj, List.filter_append, List.filter_cons_of_pos (by rw [h]; rfl)]; rfl
theorem dlV_snocY {p : Vw → Bool} {l : List Vw} {j : Nat} (hj : j < l.length) (h : p l[j] = true) : dlV p (l.take (j + 1)) = dlV p (l.take j) := by
  unfold dlV; rw [List.take_succ_eq_append_getElem hj, List.filter_append, List.filter_cons_of_neg (by rw [h]; simp)]; exact List.append_nil _
theorem ldVwO {l : List Vw} {i : Nat} (hi : i < l.length) : ldAt Tryz.prog 47 (cat vwC l) (0 + i * 17) = some (vwV l[i]) := by rw [Nat.zero_add]; exact ldVw hi
theorem dl_step {p : Vw → Bool} {l R : List Vw} {i j : Nat} (hij : i < j) (hj : j < l.length) (h1 : R.length = l.length) (h2 : R.take i = dlV p (l.take j)) (h3 : R.drop j = l.drop j) (hp : p l[j] = false) :
    (R.set i l[j]).length = l.length ∧ (R.set i l[j]).take (i + 1) = dlV p (l.take (j + 1)) ∧ (R.set i l[j]).drop (j + 1) = l.drop (j + 1) := by
  refine ⟨by rw [List.length_set, h1], ?_, ?_⟩
  · have hi : i < (R.set i l[j]).length := by rw [List.length_set]; omega
    rw [List.take_succ_eq_append_getElem hi, List.getElem_set_self, List.take_set_of_le (Nat.le_refl i), h2, dlV_snocN hj hp]
  · rw [List.drop_set_of_lt (by omega), ← List.drop_drop, h3, List.drop_drop]
theorem dl_rd {l R : List Vw} {j : Nat} (hj : j < l.length) (h1 : R.length = l.length) (h3 : R.drop j = l.drop j) : R[j]'(by omega) = l[j] := by
  have a := List.getElem_drop (xs := R) (i := j) (j := 0) (h := by simp; omega)
  have b := List.getElem_drop (xs := l) (i := j) (j := 0) (h := by simp; omega)
  simp only [Nat.add_zero] at a b
  rw [← a, ← b]; simp only [h3]
theorem vw_deleteFn (f : FuncId) (hgo : isGo Tryz.prog f = true) (X : List V) (p : Vw → Bool) (l : List Vw) (N NN : Nat) (hl : l.length < 4611686018427387904) (hN : l.length ≤ N) (hp : ∀ x ∈ l, Go.Fw.PTri Tryz.prog f [vwV x, .fptr X 0] (.bool (p x))) :
    TriL Tryz.prog 31 [.slice 0 0 l.length N, .clo f [.fptr X 0]] [(0, .cells 47 (cat vwC l) NN)] 1 (fun u h nx => u = .slice 0 0 (dlV p l).length N ∧ h = [(0, .cells 47 (cat vwC (dlV p l)) NN)] ∧ nx = 1) := by
  refine TriL.of_safeN Tryz.func31 rfl Tryz.results31 Tryz.ntmps31 rfl ?_
  refine go 99 rfl ?_
  refine Safe.callF 0 (vw_indexP f hgo X p l hl hp) rfl rfl rfl rfl (catVw_d l) rfl ?_
  refine go 99 rfl ?_
  refine Safe.br rfl (fun c => ?_) (fun c => ?_)
  · have c1 : ixP p 0 l = -1 := by simpa using c
    refine go 99 rfl ?_
    rw [dlV_none (ixP_none p l 0 c1)]
    exact ⟨.inr rfl, trivial, .done rfl ⟨sgI 1, .slice 0 0 l.length N, [(0, .cells 47 (cat vwC l) NN)], 1, ⟨⟨fit rfl, trivial⟩, ⟨_, .refl _, subK rfl (renO_dry (catVw_d l)) subN⟩, rfl⟩, rfl, rfl, rfl⟩⟩
  · have c1 : ixP p 0 l ≠ -1 := by simpa using c
    obtain ⟨k, e, hk, k1, k2⟩ := ixP_some p l 0 c1
    rw [Nat.zero_add] at e
    rw [e]
    refine go 99 rfl ?_
    refine Safe.loop (α := Nat × Nat × List Vw) (fun q => [(0, .slice 0 0 l.length N), (1, .clo f [.fptr X 0]), (5, nI q.1), (6, nI q.2.1)]) (fun q => [(0, .cells 47 (cat vwC q.2.2) NN)]) 1 (fun q => l.length - q.2.1) (fun q => q.1 < q.2.1 ∧ q.2.1 ≤ l.length ∧ q.2.2.length = l.length ∧ q.2.2.take q.1 = dlV p (l.take q.2.1) ∧ q.2.2.drop q.2.1 = l.drop q.2.1) (k, k + 1, l) (sgI 1) ⟨⟨fit rfl, fit rfl, fit rfl, fit (isucc (by omega)), trivial⟩, ⟨_, .refl _, subK rfl (renO_dry (catVw_d _)) subN⟩, rfl⟩ ⟨Nat.lt_succ_self k, hk, rfl, by rw [dlV_snocY hk k1, dlV_none k2], rfl⟩ ?_
    rintro ⟨i, j, R⟩ ⟨hij, hj, h1, h2, h3⟩
    refine go 99 rfl ?_
    dsimp only at hij hj h1 h2 h3
    refine Safe.br rfl (fun c2 => ?_) (fun c2 => ?_)
    · have hj2 : j < l.length := ltc c2
      refine go 99 rfl ?_
      refine Safe.idxO (i := j) hj2 rfl rfl rfl ?_
      refine Safe.ldO (ldVwO (l := R) (by omega)) rfl rfl ?_
      rw [dl_rd hj2 h1 h3]
      refine go 99 rfl ?_
      refine Safe.call (hp l[j] (List.getElem_mem hj2)) rfl rfl (by rw [hgo]; rfl) ?_
      refine go 99 rfl ?_
      refine Safe.br rfl (fun d => ?_) (fun d => ?_)
      · have d1 : p l[j] = false := by simpa using d
        obtain ⟨s1, s2, s3⟩ := dl_step hij hj2 h1 h2 h3 d1
        have hiR : i < R.length := by omega
        refine go 6 rfl ?_
        refine Safe.idxO (i := i) (by omega) rfl rfl rfl ?_
        refine Safe.stO (v := vwV l[j]) rfl rfl rfl rfl rfl rfl (by rw [cat_length vwC_len]; show 0 + i * 17 + 17 ≤ R.length * 17; omega) rfl ?_
        refine Safe.hpO (h' := [(1, .cells 47 (vwC l[j]) 17), (0, .cells 47 (cat vwC (R.set i l[j])) NN)]) (by rw [← cat_put vwC_len hiR]; simp only [Nat.zero_add]; rfl) ?_
        refine go 99 rfl ?_
        exact ⟨sgI 1, (i + 1, j + 1, R.set i l[j]), ⟨Nat.succ_lt_succ hij, hj2, s1, s2, s3⟩, mlt hj2, rfl, rfl, ⟨fit rfl, fit rfl, fit (isucc (i := i) (by omega)), fit (isucc (i := j) (by omega)), trivial⟩, ⟨_, .refl _, subD (subK rfl (renO_dry (catVw_d _)) subN)⟩, rfl⟩
      · have d1 : p l[j] = true := by simpa using d
        refine go 99 rfl ?_
        exact ⟨sgI 1, (i, j + 1, R), ⟨Nat.lt_succ_of_lt hij, hj2, h1, by rw [dlV_snocY hj2 d1, h2], by rw [← List.drop_drop, h3, List.drop_drop]⟩, mlt hj2, rfl, rfl, ⟨fit rfl, fit rfl, fit rfl, fit (isucc (i := j) (by omega)), trivial⟩, ⟨_, .refl _, subD (subK rfl (renO_dry (catVw_d _)) subN)⟩, rfl⟩
    · have hj2 : j = l.length := Nat.le_antisymm hj (gec c2)
      have hiN : i < l.length := by omega
      have h4 : R.take i = dlV p l := by rw [h2, hj2, List.take_length]
      refine go 4 rfl ?_
      refine Safe.slO i l.length (by omega) hN rfl rfl rfl rfl ?_
      refine Safe.eqv (v' := .slice 0 (i * 17) (l.length - i) (N - i)) (by rw [if_neg (by omega), Nat.zero_add]; rfl) ?_
      refine Safe.clr rfl rfl rfl rfl rfl (by rw [cat_length vwC_len]; show i * 17 + (l.length - i) * 17 ≤ R.length * 17; omega) rfl ?_
      refine Safe.hpO (h' := [(0, .cells 47 (cat vwC (dlV p l)) NN)]) (by rw [← h4, ← cat_take vwC_len]; rfl) ?_
      have h5 : (dlV p l).length = i := by rw [← h4, List.length_take]; omega
      refine go 5 rfl ?_
      refine Safe.slO 0 i (Nat.zero_le _) (by omega) rfl rfl rfl rfl ?_
      refine Safe.eqv (v' := .slice 0 0 i N) (by rw [Nat.zero_mul, Nat.add_zero, ite_self]; rfl) ?_
      refine go 99 rfl ?_
      rw [h5]
      exact ⟨.inr rfl, trivial, .done rfl ⟨sgI 1, .slice 0 0 i N, [(0, .cells 47 (cat vwC (dlV p l)) NN)], 1, ⟨⟨fit rfl, trivial⟩, ⟨_, .refl _, subK rfl (renO_dry (catVw_d _)) subN⟩, rfl⟩, rfl, rfl, rfl⟩⟩
end Go.Proofs.YtijfihbdcdkalaaGreatDoor
end

section
namespace Go.Proofs.YtijfihbdcdkalaaGreatDoor
open Go.Fw
variable [Gl]
set_option maxRecDepth 20000
set_option maxHeartbeats 4000000
def clnΦ (T : TypeId) (kk : Nat) (cs : List V) (n : Nat) (u : V) (h : Hp) (nx : Nat) : Prop :=
  (∃ N, n ≤ N ∧ u = .slice 0 0 n N ∧ h = [(0, .cells T cs (N * kk))] ∧ nx = 1) ∨ (cs = [] ∧ n = 0 ∧ u = .nilslice ∧ h = [] ∧ nx = 0)
theorem evSrc_vw {h : Hp} (l : List Vw) : evSrc h 17 (slV vwC l) = some (cat vwC l, l.length) := by
  simp only [evSrc, slV]
  rw [if_pos (by rw [cat_length vwC_len]; exact Nat.le_refl _), List.take_of_length_le (by rw [cat_length vwC_len]; exact Nat.le_refl _)]
theorem vw_clone (l : List Vw) (hl : l.length ≤ 100000000) : TriL Tryz.prog 32 [slV vwC l] [] 0 (clnΦ 47 17 (cat vwC l) l.length) := by
  refine TriL.of_safeN Tryz.func32 rfl Tryz.results32 Tryz.ntmps32 rfl ?_
  refine go 99 rfl ?_
  refine Safe.eqnil rfl rfl rfl rfl rfl rfl (fun b hb => ?_)
  refine go 99 rfl ?_
  refine Safe.br rfl (fun c => ?_) (fun c => ?_)
  · subst c
    obtain ⟨h1, h2⟩ := hb rfl
    refine go 99 rfl ?_
    exact ⟨.inr rfl, trivial, .done rfl ⟨sgI 0, .nilslice, [], 0, ⟨⟨fit rfl, trivial⟩, ⟨_, .refl _, subN⟩, rfl⟩, .inr ⟨h1, h2, rfl, rfl, rfl⟩⟩⟩
  · refine go 99 rfl ?_
    refine Safe.appS (us := (cat vwC l)) rfl rfl rfl rfl rfl rfl (evSrc_vw l) rfl (rfl) (Nat.zero_add _) (rfl) (catVw_d l) (dryL1_leaf (catVw_dry l)) (by omega) (fun N hN => ?_)
    refine go 99 rfl ?_
    exact ⟨.inr rfl, trivial, .done rfl ⟨[(0, 1)], .slice 0 0 l.length N, [(0, .cells 47 (cat vwC l) (N * 17))], 1, ⟨⟨fit rfl, trivial⟩, ⟨_, .refl _, subK rfl (renO_dry (catVw_d _)) subN⟩, rfl⟩, .inl ⟨N, hN, rfl, rfl, rfl⟩⟩⟩
end Go.Proofs.YtijfihbdcdkalaaGreatDoor
end

section
namespace Go.Proofs.YtijfihbdcdkalaaGreatDoor
open Go.Fw
variable [Gl]
set_option maxRecDepth 20000
set_option maxHeartbeats 4000000
theorem wk_arg1 {f : FuncId} {a a' b r : V} (h : Go.Fw.PTri Tryz.prog f [a', b] r) (hb : VLe a a') : Go.Fw.PTri Tryz.prog f [a, b] r :=
  Tri.weak h rfl fun i u u' h1 h2 => by
    match i with
    | 0 => simp at h1 h2; subst h1; subst h2; exact hb
    | 1 => simp at h1 h2; subst h1; subst h2; exact VLe.refl _
    | i + 2 => simp at h1
theorem vw_deleteNil (f : FuncId) (hgo : isGo Tryz.prog f = true) (X : List V) (p : Vw → Bool) (hp : ∀ x ∈ ([] : List Vw), Go.Fw.PTri Tryz.prog f [vwV x, .fptr X 0] (.bool (p x))) : Go.Fw.PTri Tryz.prog 31 [.nilslice, .clo f [.fptr X 0]] .nilslice := by
  have h := wk_arg1 (vw_indexP f hgo X p [] (by decide) hp) VLe.nils
  refine PTri.of_safe Tryz.func31 rfl Tryz.results31 Tryz.ntmps31 rfl ?_
  refine go 99 rfl ?_
  refine Safe.call (h) rfl rfl rfl ?_
  refine go 99 rfl ?_
  refine Safe.brT rfl rfl ?_
  refine go 99 rfl ?_
  exact ⟨.inr rfl, trivial, .done (rfl) rfl⟩
end Go.Proofs.YtijfihbdcdkalaaGreatDoor
end

section
namespace Go.Proofs.YtijfihbdcdkalaaGreatDoor
open Go.Fw
variable [Gl]
set_option maxRecDepth 20000
set_option maxHeartbeats 4000000
theorem vrs_str2 {s u : List UInt8} (F : Froz) (av : Array Value) (h : VRs F [.str s, .str u] av) : av = #[.string ⟨s.toArray⟩, .string ⟨u.toArray⟩] := by
  have h0 := (h.2 0 _ rfl).str_inv
  have h1 := (h.2 1 _ rfl).str_inv
  have hs := h.1
  simp at hs
  obtain ⟨L⟩ := av
  match L, hs with
  | [x, y], _ => simp at h0 h1; rw [h0, h1]
theorem st_cmp (s u : By) : Go.Fw.PTri Tryz.prog 76 [.str s, .str u] (.int .i64 (Lib.compareBytes s u)) := by
  refine PTri.of_same _ _ (fun F av h => vrs_str2 F av h) (fun w => Tryz.strings_Compare _ _ w) (fun F => ?_)
  exact .int _ _
theorem vw_cmp75 (v : Vw) (s : By) : Go.Fw.PTri Tryz.prog 75 [vwV v, .str s] (.int .i64 (Lib.compareBytes v.name s)) := by
  refine PTri.of_safe Tryz.func75 rfl Tryz.results75 Tryz.ntmps75 rfl ?_
  refine go 99 rfl ?_
  refine Safe.call (st_cmp v.name s) rfl rfl rfl ?_
  refine go 99 rfl ?_
  exact ⟨.inr rfl, trivial, .done (rfl) rfl⟩
theorem cmpB_lt : ∀ a b : By, Lib.compareBytes a b < 0 ↔ a < b
  | [], [] => by simp [Lib.compareBytes]
  | [], _ :: _ => by simp [Lib.compareBytes]
  | _ :: _, [] => by simp [Lib.compareBytes]
  | a :: as_, b :: bs => by
    rw [List.cons_lt_cons_iff]
    simp only [Lib.compareBytes]
    by_cases h1 : a < b
    · simp [h1]
    · rw [if_neg h1]
      by_cases h2 : b < a
      · have : a ≠ b := fun e => by subst e; exact h1 h2
        simp [h1, h2, this]
      · have : a = b := UInt8.le_antisymm (UInt8.not_lt.1 h2) (UInt8.not_lt.1 h1)
        subst this
        simp [h1, cmpB_lt as_ bs]
theorem cmpB_eq : ∀ a b : By, Lib.compareBytes a b = 0 ↔ a = b
  | [], [] => by simp [Lib.compareBytes]
  | [], _ :: _ => by simp [Lib.compareBytes]
  | _ :: _, [] => by simp [Lib.compareBytes]
  | a :: as_, b :: bs => by
    simp only [Lib.compareBytes, List.cons.injEq]
    by_cases h1 : a < b
    · have : a ≠ b := fun e => by subst e; exact UInt8.lt_irrefl _ h1
      simp [h1, this]
    · rw [if_neg h1]
      by_cases h2 : b < a
      · have : a ≠ b := fun e => by subst e; exact h1 h2
        simp [h2, this]
      · have : a = b := UInt8.le_antisymm (UInt8.not_lt.1 h2) (UInt8.not_lt.1 h1)
        subst this
        simp [h1, cmpB_eq as_ bs]
theorem cmpB_bl (a b : By) : decide (Lib.compareBytes a b < 0) = Op.bytesLess a b := by
  rw [Bool.eq_iff_iff, decide_eq_true_eq, cmpB_lt, bl_iff]
theorem lbV_le (s : By) : ∀ l : List Vw, lbV s l ≤ l.length
  | [] => Nat.le_refl _
  | v :: r => by simp only [lbV]; split <;> have := lbV_le s r <;> simp <;> omega
theorem lbV_ge {s : By} : ∀ {l : List Vw} {h : Nat} (hh : h < l.length), Op.bytesLess l[h].name s = false → lbV s l ≤ h
  | v :: r, 0, _, hb => by
    have hb : Op.bytesLess v.name s = false := hb
    simp [lbV, hb]
  | v :: r, h + 1, hh, hb => by
    have := lbV_ge (s := s) (l := r) (h := h) (by simpa using hh) hb
    simp only [lbV]; split <;> omega
theorem lbV_lt {s : By} : ∀ {l : List Vw} {h : Nat} (hh : h < l.length), (l.Pairwise fun x y => x.name < y.name) → Op.bytesLess l[h].name s = true → h < lbV s l
  | v :: r, 0, _, _, hb => by
    have hb : Op.bytesLess v.name s = true := hb
    simp [lbV, hb]
  | v :: r, h + 1, hh, ha, hb => by
    have hh' : h < r.length := by simpa using hh
    have hb : Op.bytesLess r[h].name s = true := hb
    obtain ⟨a1, a2⟩ := List.pairwise_cons.1 ha
    have hv : Op.bytesLess v.name s = true := (bl_iff _ _).2 (List.lt_trans (a1 _ (List.getElem_mem hh')) ((bl_iff _ _).1 hb))
    have := lbV_lt hh' a2 hb
    simp only [lbV, if_pos hv]; omega
theorem midI {i j : Nat} (h : i + j < 1000) : IntKind.i64.wrap ((IntKind.u64.wrap (IntKind.i64.wrap ((i : Int) + (j : Int)))).fdiv (2 ^ min (Int.toNat 1) IntKind.u64.bits)) = (((i + j) / 2 : Nat) : Int) := by
  have e : (i : Int) + (j : Int) = ((i + j : Nat) : Int) := by omega
  rw [e]
  generalize i + j = k at h
  have : ∀ k : Fin 1000, IntKind.i64.wrap ((IntKind.u64.wrap (IntKind.i64.wrap ((k.val : Nat) : Int))).fdiv (2 ^ min (Int.toNat 1) IntKind.u64.bits)) = ((k.val / 2 : Nat) : Int) := by
    intro k
    have hk := k.isLt
    have e1 : IntKind.i64.wrap ((k.val : Nat) : Int) = ((k.val : Nat) : Int) := wrap64_fit (by omega) (by omega)
    have e2 : IntKind.u64.wrap ((k.val : Nat) : Int) = ((k.val : Nat) : Int) := by
      simp only [IntKind.wrap, IntKind.signed, IntKind.bits]
      simp
      omega
    rw [e1, e2, show ((2 : Int) ^ min (Int.toNat 1) IntKind.u64.bits) = 2 from rfl, Int.fdiv_eq_ediv_of_nonneg _ (by omega)]
    rw [wrap64_fit (by omega) (by omega)]
    omega
  exact this ⟨k, h⟩
theorem cmpB_beq (a b : By) : (Lib.compareBytes a b == 0) = (a == b) := by
  rw [Bool.eq_iff_iff, beq_iff_eq, beq_iff_eq, cmpB_eq]
def fdV (s : By) (l : List Vw) : Bool := match l[lbV s l]? with
  | some v => v.name == s
  | none => false
theorem vw_bsearch (l : List Vw) (s : By) (hl : l.length ≤ 50) (ha : l.Pairwise fun x y => x.name < y.name) : Go.Fw.PTri Tryz.prog 74 [slV vwC l, .str s, .clo 75 []] (.tup [nI (lbV s l), .bool (fdV s l)]) := by
  refine PTri.of_safe Tryz.func74 rfl Tryz.results74 Tryz.ntmps74 rfl ?_
  refine go 99 rfl ?_
  refine Safe.loop (α := Nat × Nat) (fun q => [(0, slV vwC l), (1, .str s), (2, .clo 75 []), (8, nI l.length), (9, nI q.1), (10, nI q.2)]) (fun q => []) 0 (fun q => q.2 - q.1) (fun q => q.1 ≤ lbV s l ∧ lbV s l ≤ q.2 ∧ q.2 ≤ l.length) (0, l.length) (sgI 0) ⟨⟨fit rfl, fit rfl, fit rfl, fit rfl, fit rfl, fit rfl, trivial⟩, ⟨_, .refl _, List.nil_sublist _⟩, rfl⟩ ⟨Nat.zero_le _, lbV_le s l, Nat.le_refl _⟩ ?_
  rintro ⟨i, j⟩ ⟨h1, h2, h3⟩
  dsimp only at h1 h2 h3
  refine go 99 rfl ?_
  refine Safe.br rfl (fun c1 => ?_) (fun c1 => ?_)
  · have hij : i < j := ltc c1
    have hm : (i + j) / 2 < l.length := by omega
    refine go 99 rfl ?_
    refine Safe.idxF (i := (i + j) / 2) hm (midI (by omega)) rfl rfl ?_
    refine go 99 rfl ?_
    refine Safe.ldF (ldVw hm) rfl rfl rfl ?_
    refine go 99 rfl ?_
    refine Safe.call (vw_cmp75 l[(i + j) / 2] s) rfl rfl rfl ?_
    refine go 99 rfl ?_
    refine Safe.br rfl (fun d => ?_) (fun d => ?_)
    · have d1 : Op.bytesLess l[(i + j) / 2].name s = true := by rw [← cmpB_bl]; exact d
      have h4 := lbV_lt hm ha d1
      refine go 99 rfl ?_
      exact ⟨sgI 0, ((i + j) / 2 + 1, j), ⟨by dsimp only; omega, h2, h3⟩, by dsimp only; omega, rfl, rfl, ⟨fit rfl, fit rfl, fit rfl, fit rfl, fit ((by rw [midI (by omega)]; exact isucc (by omega))), fit rfl, trivial⟩, ⟨_, .refl _, List.nil_sublist _⟩, rfl⟩
    · have d1 : Op.bytesLess l[(i + j) / 2].name s = false := by rw [← cmpB_bl]; exact d
      have h4 := lbV_ge hm d1
      refine go 99 rfl ?_
      exact ⟨sgI 0, (i, (i + j) / 2), ⟨h1, h4, by dsimp only; omega⟩, by dsimp only; omega, rfl, rfl, ⟨fit rfl, fit rfl, fit rfl, fit rfl, fit rfl, fit ((by rw [midI (by omega)]; rfl)), trivial⟩, ⟨_, .refl _, List.nil_sublist _⟩, rfl⟩
  · have hji : j ≤ i := gec c1
    obtain rfl : i = lbV s l := by omega
    refine go 99 rfl ?_
    refine Safe.gs rfl (fun z => ?_) (fun z => ?_)
    · have hi : lbV s l < l.length := of_decide_eq_true z |> Int.ofNat_lt.1
      refine go 99 rfl ?_
      refine Safe.idxF hi rfl rfl rfl ?_
      refine go 99 rfl ?_
      refine Safe.ldF (ldVw hi) rfl rfl rfl ?_
      refine go 99 rfl ?_
      refine Safe.call (vw_cmp75 l[lbV s l] s) rfl rfl rfl ?_
      refine go 99 rfl ?_
      exact ⟨.inr rfl, trivial, .done (by rw [fdV, List.getElem?_eq_getElem hi]; dsimp only; rw [← cmpB_beq]; rfl) rfl⟩
    · have hi : ¬ lbV s l < l.length := fun h => by simp at z; omega
      refine go 99 rfl ?_
      exact ⟨.inr rfl, trivial, .done (by rw [fdV, List.getElem?_eq_none (by omega)]; rfl) rfl⟩
end Go.Proofs.YtijfihbdcdkalaaGreatDoor
end
