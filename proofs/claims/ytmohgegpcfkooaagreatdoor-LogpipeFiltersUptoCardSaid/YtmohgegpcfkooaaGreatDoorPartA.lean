/- A part of the proof: L0, L1, L2, L3, L4, L5, L9, L10, L11, L12, L13, L14, LShelf, M1, M2, M3, M4, M5, M6, M7, M8, M9, M10, M11, M12, M13, M14, M15, N1, N2, N3, N4, LRD, N5, N6, N7, M16, N8, LRB -/
import Derived.Test.YtmohgegpcfkooaaGreatDoorFwRow
import Derived.KernelRfl
import Derived.Sort.Walk0
import Derived.Test.YtmohgegpcfkooaaGreatDoorProg
import Derived.Shelf.LaysM
import Derived.Shelf.Strings.Search1
import Derived.Shelf.Strings.Search3
import Derived.Shelf.Sort.Plain
import Derived.Shelf.Slices.CompactS
import Derived.Shelf.Slices.In.SortNone
import Derived.Lib.Index
import Derived.Lib.IndexMore
import Derived.Test.YtmohgegpcfkooaaGreatDoorCards
import Derived.Test.YtmohgegpcfkooaaGreatDoorTie
import Derived.WalkKit
import Derived.ProofKit
import Derived.OpenShut
import Derived.Deep.DeepHandedRow
import Derived.Deep.SlicePairs
import Derived.Carry
import Derived.Lib.LaidTab
import Derived.Lib.Fields
import Derived.Deep.DeepLaidRun
import Derived.Deep.DeepWitnessRowRef
set_option linter.all false
set_option linter.unusedSectionVars false
set_option linter.unusedVariables false
set_option linter.unusedSimpArgs false
section
namespace Go.Proofs.YtmohgegpcfkooaaGreatDoor
open Go.Fw
variable [Gl]
set_option maxRecDepth 20000
set_option maxHeartbeats 4000000
abbrev By := List UInt8
abbrev nI (n : Int) : V := .int .i64 n
theorem mlt {n i : Nat} (h : i < n) : n - (i + 1) < n - i := by omega
def big : Nat := 4194304
theorem isucc {i : Nat} (h : i < 4611686018427387904) : some (V.int .i64 (IntKind.i64.wrap ((i : Int) + 1))) = some (V.int .i64 ((i + 1 : Nat) : Int)) := int_fit (by omega) (by omega) (by omega)
theorem ltc {i n : Nat} (c : decide ((i : Int) < (n : Int)) = true) : i < n := by simpa using c
theorem gec {i n : Nat} (c : decide ((i : Int) < (n : Int)) = false) : n ≤ i := by simpa using c
theorem nIeq {a b : Int} (h : a = b) : some (V.int .i64 a) = some (V.int .i64 b) := by rw [h]
theorem bIeq {a b : Bool} (h : a = b) : some (V.bool a) = some (V.bool b) := by rw [h]
theorem mixed : Tryz.prog.follows .mixedOrders = true := by kernel_rfl
structure Lb where
  name : By
  value : By
def lbC (x : Lb) : List V := [.str x.name, .str x.value]
abbrev lbV' (x : Lb) : V := .agg (lbC x)
def inC (n : Int) : List V := [nI n]
def okLb (x : Lb) : Prop := x.name.length ≤ big ∧ x.value.length ≤ big
def okLs (l : List Lb) : Prop := l.length ≤ big ∧ ∀ x ∈ l, okLb x
theorem ldL {l : List Lb} {i : Nat} (hi : i < l.length) : ldAt Tryz.prog 64 (cat lbC l) (i * 2) = some (lbV' l[i]) := ld_cat (enc := lbC) (fun _ => rfl) hi (by kernel_rfl) (by kernel_rfl)
theorem ldL0 {l : List Lb} {i : Nat} (hi : i < l.length) : ldAt Tryz.prog 9 (cat lbC l) (i * 2 + 0) = some (.str l[i].name) := ld_cat1 (enc := lbC) 0 (fun _ => rfl) hi (by decide) (by kernel_rfl) rfl
theorem ldL1 {l : List Lb} {i : Nat} (hi : i < l.length) : ldAt Tryz.prog 9 (cat lbC l) (i * 2 + 1) = some (.str l[i].value) := ld_cat1 (enc := lbC) 1 (fun _ => rfl) hi (by decide) (by kernel_rfl) rfl
theorem ldI {l : List Int} {i : Nat} (hi : i < l.length) : ldAt Tryz.prog 3 (cat inC l) (i * 1) = some (nI l[i]) := by
  have := ld_cat1 (P := Tryz.prog) (T := 3) (enc := inC) 0 (fun _ => rfl) hi (by decide) (by kernel_rfl) rfl
  simpa using this
def cI (a b : Int) : Int := if a < b then -1 else if b < a then 1 else 0
theorem le_anti {a b : By} (h : a ≤ b) (h' : b ≤ a) : a = b := List.le_antisymm h h'
theorem lt_le {a b : By} (h : a < b) : a ≤ b := List.le_of_lt h
theorem lt_ne {a b : By} (h : a ≤ b) (hn : a ≠ b) : a < b := Classical.byContradiction fun h1 => hn (le_anti h (by simpa using h1))
theorem bl_iff (x y : By) : Op.bytesLess x y = true ↔ x < y := by rw [Go.Proofs.bytesLess_eq]; simp
theorem bl_no (x y : By) : Op.bytesLess x y = false ↔ y ≤ x := by
  rw [← Bool.not_eq_true, bl_iff]
  exact List.not_lt
theorem le_nl (x p : By) : (Op.bytesLess x p || x == p) = !Op.bytesLess p x := by
  rw [Bool.eq_iff_iff]
  simp only [Bool.or_eq_true, bl_iff, beq_iff_eq, Bool.not_eq_true', bl_no]
  constructor
  · rintro (h | rfl)
    · exact lt_le h
    · exact List.le_refl _
  · intro h
    by_cases e : x = p
    · exact .inr e
    · exact .inl (lt_ne h e)
def cS (a b : By) : Int := if Op.bytesLess a b then -1 else if Op.bytesLess b a then 1 else 0
def orI : List Int → Int
  | [] => 0
  | a :: r => if a = 0 then orI r else a
end Go.Proofs.YtmohgegpcfkooaaGreatDoor
end

section
namespace Go.Proofs.YtmohgegpcfkooaaGreatDoor
open Go.Fw
variable [Gl]
set_option maxRecDepth 20000
set_option maxHeartbeats 4000000
def cL (a b : Lb) : Int := orI [cS a.name b.name, cS a.value b.value]
end Go.Proofs.YtmohgegpcfkooaaGreatDoor
end

section
namespace Go.Proofs.YtmohgegpcfkooaaGreatDoor
open Go.Fw
variable [Gl]
set_option maxRecDepth 20000
set_option maxHeartbeats 4000000
def cLs : List Lb → List Lb → Int
  | [], [] => 0
  | [], _ :: _ => -1
  | _ :: _, [] => 1
  | a :: x, b :: y => if cL a b = 0 then cLs x y else cL a b
theorem cLs_drop {l r : List Lb} {i : Nat} (hi : i < l.length) (hj : i < r.length) : cLs (l.drop i) (r.drop i) = if cL l[i] r[i] = 0 then cLs (l.drop (i + 1)) (r.drop (i + 1)) else cL l[i] r[i] := by
  rw [List.drop_eq_getElem_cons hi, List.drop_eq_getElem_cons hj]; rfl
theorem cLs_gt {l r : List Lb} {i : Nat} (hi : i < l.length) (hj : r.length ≤ i) : cLs (l.drop i) (r.drop i) = 1 := by
  rw [List.drop_eq_getElem_cons hi, List.drop_of_length_le hj]; rfl
theorem cLs_lt {l r : List Lb} {i : Nat} (hi : l.length ≤ i) (hj : i < r.length) : cLs (l.drop i) (r.drop i) = -1 := by
  rw [List.drop_eq_getElem_cons hj, List.drop_of_length_le hi]; rfl
theorem cLs_eq {l r : List Lb} {i : Nat} (hi : l.length ≤ i) (hj : r.length ≤ i) : cLs (l.drop i) (r.drop i) = 0 := by
  rw [List.drop_of_length_le hj, List.drop_of_length_le hi]; rfl
end Go.Proofs.YtmohgegpcfkooaaGreatDoor
end

section
namespace Go.Proofs.YtmohgegpcfkooaaGreatDoor
open Go.Fw
variable [Gl]
set_option maxRecDepth 20000
set_option maxHeartbeats 4000000
theorem any_drop {α : Type} {p : α → Bool} {l : List α} {i : Nat} {q : Bool} (hi : i < l.length) {g : Bool} : (g = ((l.drop i).any p || q)) ↔ (g = (p l[i] || ((l.drop (i + 1)).any p || q))) := by
  rw [List.drop_eq_getElem_cons hi, List.any_cons, Bool.or_assoc]
def grL (x : Lb) : Bool := decide (61 < x.name.length) || decide (201 < x.value.length)
def grLs (l : List Lb) : Bool := l.any grL || decide (17 < l.length)
theorem g_lbs (l : List Lb) (hl : okLs l) : PTri Tryz.prog 74 [slV lbC l] (.bool (grLs l)) := by
  have hb := hl.1
  simp only [big] at hb
  refine PTri.of_safe Tryz.func74 rfl Tryz.results74 Tryz.ntmps74 rfl ?_
  refine go 99 rfl ?_
  refine Safe.loop (α := Nat) (fun i => [(0, slV lbC l), (3, nI i)]) (fun i => []) 0 (fun i => l.length - i) (fun i => i ≤ l.length ∧ grLs l = ((l.drop i).any grL || decide (17 < l.length))) 0 (sgI 0) ⟨⟨fit rfl, fit rfl, trivial⟩, ⟨_, .refl _, List.nil_sublist _⟩, rfl⟩ ⟨Nat.zero_le _, rfl⟩ ?_
  rintro i ⟨hi, ha⟩
  refine go 99 rfl ?_
  refine Safe.br rfl (fun c => ?_) (fun c => ?_)
  · have hi : i < l.length := ltc c
    rw [any_drop hi] at ha
    refine go 99 rfl ?_
    refine Safe.idxF hi rfl rfl rfl ?_
    refine go 99 rfl ?_
    refine Safe.ldF (ldL0 hi) rfl rfl rfl ?_
    refine go 99 rfl ?_
    refine Safe.gs rfl (fun a => ?_) (fun a => ?_)
    · have a1 : 61 < l[i].name.length := ltc a
      refine go 99 rfl ?_
      exact ⟨.inr rfl, trivial, .done (bIeq (by rw [ha]; simp [grL, a1])) rfl⟩
    · have a1 : ¬ 61 < l[i].name.length := Nat.not_lt.2 (gec a)
      refine go 99 rfl ?_
      refine Safe.idxF hi rfl rfl rfl ?_
      refine go 99 rfl ?_
      refine Safe.ldF (ldL1 hi) rfl rfl rfl ?_
      refine go 99 rfl ?_
      refine Safe.br rfl (fun b => ?_) (fun b => ?_)
      · have b1 : 201 < l[i].value.length := ltc b
        refine go 99 rfl ?_
        exact ⟨.inr rfl, trivial, .done (bIeq (by rw [ha]; simp [grL, b1])) rfl⟩
      · have b1 : ¬ 201 < l[i].value.length := Nat.not_lt.2 (gec b)
        have hn : grL l[i] = false := by simp only [grL, decide_eq_false a1, decide_eq_false b1, Bool.or_self]
        rw [hn, Bool.false_or] at ha
        refine go 99 rfl ?_
        exact ⟨sgI 0, i + 1, ⟨hi, ha⟩, mlt hi, rfl, rfl, ⟨fit rfl, fit (isucc (by omega)), trivial⟩, ⟨_, .refl _, List.nil_sublist _⟩, rfl⟩
  · have hi2 : i = l.length := Nat.le_antisymm hi (gec c)
    subst hi2
    rw [List.drop_of_length_le (Nat.le_refl _)] at ha
    refine go 99 rfl ?_
    exact ⟨.inr rfl, trivial, .done (bIeq (by rw [ha]; simp; omega)) rfl⟩
end Go.Proofs.YtmohgegpcfkooaaGreatDoor
end

section
namespace Go.Proofs.YtmohgegpcfkooaaGreatDoor
open Go.Fw
variable [Gl]
set_option maxRecDepth 20000
set_option maxHeartbeats 4000000
theorem cS_self (a : By) : cS a a = 0 := by
  have : Op.bytesLess a a = false := (bl_no a a).2 (List.le_refl _)
  rw [cS, this]; rfl
theorem ite0 (b : Int) : (if b = 0 then 0 else b) = b := by split <;> omega
theorem orI2 (a b : Int) : orI [a, b] = if a = 0 then b else a := by
  simp only [orI, ite0]
theorem cL_eq (a b : Lb) : cL a b = if cS a.name b.name = 0 then cS a.value b.value else cS a.name b.name := orI2 _ _
theorem cI_zero {a b : Int} : cI a b = 0 ↔ a = b := by unfold cI; repeat' split <;> omega
end Go.Proofs.YtmohgegpcfkooaaGreatDoor
end

section
namespace Go.Proofs.YtmohgegpcfkooaaGreatDoor
open Go.Fw
variable [Gl]
set_option maxRecDepth 20000
set_option maxHeartbeats 4000000
end Go.Proofs.YtmohgegpcfkooaaGreatDoor
end

section
namespace Go.Proofs.YtmohgegpcfkooaaGreatDoor
open Go.Fw
variable [Gl]
set_option maxRecDepth 20000
set_option maxHeartbeats 4000000
def btw (a lo hi : Int) : Bool := decide (lo ≤ a) && decide (a ≤ hi)
theorem r_text (a b : By) : PTri Tryz.prog 73 [.str a, .str b] (nI (cS a b)) := by
  refine PTri.of_safe Tryz.func73 rfl Tryz.results73 Tryz.ntmps73 rfl ?_
  refine go 99 rfl ?_
  refine Safe.br rfl (fun c => ?_) (fun c => ?_)
  · refine go 99 rfl ?_
    exact ⟨.inr rfl, trivial, .done (nIeq (by simp [cS, c])) rfl⟩
  · refine go 99 rfl ?_
    refine Safe.br rfl (fun d => ?_) (fun d => ?_)
    · refine go 99 rfl ?_
      exact ⟨.inr rfl, trivial, .done (nIeq (by rw [le_nl, Bool.not_not] at d; simp [cS, c, d])) rfl⟩
    · refine go 99 rfl ?_
      exact ⟨.inr rfl, trivial, .done (nIeq (by rw [le_nl, Bool.not_not] at d; simp [cS, c, d])) rfl⟩
end Go.Proofs.YtmohgegpcfkooaaGreatDoor
end

section
namespace Go.Proofs.YtmohgegpcfkooaaGreatDoor
open Go.Fw
variable [Gl]
set_option maxRecDepth 20000
set_option maxHeartbeats 4000000
theorem r_cmpLs (l r : List Lb) (hl : l.length ≤ big) (hr : r.length ≤ big) : PTri Tryz.prog 72 [slV lbC l, slV lbC r] (nI (cLs l r)) := by
  simp only [big] at hl hr
  refine PTri.of_safe Tryz.func72 rfl Tryz.results72 Tryz.ntmps72 rfl ?_
  refine go 99 rfl ?_
  refine Safe.loop (α := Nat) (fun i => [(0, slV lbC l), (1, slV lbC r), (5, nI i)]) (fun i => []) 0 (fun i => l.length - i) (fun i => i ≤ l.length ∧ i ≤ r.length ∧ cLs l r = cLs (l.drop i) (r.drop i)) 0 (sgI 0) ⟨⟨fit rfl, fit rfl, fit rfl, trivial⟩, ⟨_, .refl _, List.nil_sublist _⟩, rfl⟩ ⟨Nat.zero_le _, Nat.zero_le _, rfl⟩ ?_
  rintro i ⟨hi, hj, ha⟩
  refine go 99 rfl ?_
  refine Safe.gs rfl (fun c => ?_) (fun c => ?_)
  · have hi : i < l.length := ltc c
    refine go 99 rfl ?_
    refine Safe.br rfl (fun d => ?_) (fun d => ?_)
    · have hj : i < r.length := ltc d
      rw [cLs_drop hi hj, cL_eq] at ha
      refine go 99 rfl ?_
      refine Safe.drawP mixed [0, 1, 2, 3, 4, 5, 6, 7, 8, 9, 10, 11] [(true, true), (true, true), (true, true), (true, true), (true, true), (true, true), (true, true), (true, true), (true, true), (true, true), (true, true), (true, true)] (by kernel_rfl) ?_
      refine go 99 rfl ?_
      refine Safe.idxF hi rfl rfl rfl ?_
      refine go 99 rfl ?_
      refine Safe.ldF (ldL0 hi) rfl rfl rfl ?_
      refine go 99 rfl ?_
      refine Safe.idxF hj rfl rfl rfl ?_
      refine go 99 rfl ?_
      refine Safe.ldF (ldL0 hj) rfl rfl rfl ?_
      refine go 99 rfl ?_
      refine Safe.call (r_text l[i].name r[i].name) rfl rfl rfl ?_
      refine go 99 rfl ?_
      refine Safe.br rfl (fun e => ?_) (fun e => ?_)
      · have e1 : cS l[i].name r[i].name ≠ 0 := by simpa using e
        rw [if_neg e1, if_neg e1] at ha
        refine go 99 rfl ?_
        exact ⟨.inr rfl, trivial, .done (nIeq ha.symm) rfl⟩
      · have e1 : cS l[i].name r[i].name = 0 := by simpa using e
        rw [if_pos e1] at ha
        refine go 99 rfl ?_
        refine Safe.drawP mixed [0, 1, 2, 3, 4, 5, 6, 7, 8, 9, 10, 11] [(true, true), (true, true), (true, true), (true, true), (true, true), (true, true), (true, true), (true, true), (true, true), (true, true), (true, true), (true, true)] (by kernel_rfl) ?_
        refine go 99 rfl ?_
        refine Safe.idxF hi rfl rfl rfl ?_
        refine go 99 rfl ?_
        refine Safe.ldF (ldL1 hi) rfl rfl rfl ?_
        refine go 99 rfl ?_
        refine Safe.idxF hj rfl rfl rfl ?_
        refine go 99 rfl ?_
        refine Safe.ldF (ldL1 hj) rfl rfl rfl ?_
        refine go 99 rfl ?_
        refine Safe.call (r_text l[i].value r[i].value) rfl rfl rfl ?_
        refine go 99 rfl ?_
        refine Safe.br rfl (fun f => ?_) (fun f => ?_)
        · have f1 : cS l[i].value r[i].value ≠ 0 := by simpa using f
          rw [if_neg f1] at ha
          refine go 99 rfl ?_
          exact ⟨.inr rfl, trivial, .done (nIeq ha.symm) rfl⟩
        · have f1 : cS l[i].value r[i].value = 0 := by simpa using f
          rw [if_pos f1] at ha
          refine go 99 rfl ?_
          exact ⟨sgI 0, i + 1, ⟨hi, hj, ha⟩, mlt hi, rfl, rfl, ⟨fit rfl, fit rfl, fit (isucc (by omega)), trivial⟩, ⟨_, .refl _, List.nil_sublist _⟩, rfl⟩
    · have hj2 : i = r.length := Nat.le_antisymm hj (gec d)
      subst hj2
      rw [cLs_gt hi (Nat.le_refl _)] at ha
      refine go 99 rfl ?_
      refine Safe.br rfl (fun e => ?_) (fun e => ?_)
      · exfalso; simp at e; omega
      · refine go 99 rfl ?_
        refine Safe.br rfl (fun f => ?_) (fun f => ?_)
        · refine go 99 rfl ?_
          exact ⟨.inr rfl, trivial, .done (nIeq ha.symm) rfl⟩
        · exfalso; simp at f; omega
  · have hi2 : i = l.length := Nat.le_antisymm hi (gec c)
    subst hi2
    refine go 99 rfl ?_
    refine Safe.br rfl (fun d => ?_) (fun d => ?_)
    · have d1 : l.length < r.length := by simpa using d
      refine go 99 rfl ?_
      exact ⟨.inr rfl, trivial, .done (nIeq (by rw [ha, cLs_lt (Nat.le_refl _) d1])) rfl⟩
    · have d1 : r.length ≤ l.length := by simpa using d
      refine go 99 rfl ?_
      refine Safe.br rfl (fun e => ?_) (fun e => ?_)
      · exfalso; simp at e; omega
      · refine go 99 rfl ?_
        exact ⟨.inr rfl, trivial, .done (nIeq (by rw [ha, cLs_eq (Nat.le_refl _) d1])) rfl⟩
end Go.Proofs.YtmohgegpcfkooaaGreatDoor
end

section
namespace Go.Proofs.YtmohgegpcfkooaaGreatDoor
open Go.Fw
variable [Gl]
set_option maxRecDepth 20000
set_option maxHeartbeats 4000000
def lettI (z : Int) : Bool := (decide (97 ≤ z) && decide (z ≤ 122)) || (decide (65 ≤ z) && decide (z ≤ 90)) || (decide (48 ≤ z) && decide (z ≤ 57)) || decide (z = 95)
theorem l_nameByte (z : Int) : PTri Tryz.prog 111 [.int .u8 z] (.bool (lettI z)) := by
  refine PTri.of_safe Tryz.func111 rfl Tryz.results111 Tryz.ntmps111 rfl ?_
  refine go 99 rfl ?_
  repeat' (first | (refine Safe.gs rfl (fun a => ?_) (fun a => ?_) <;> refine go 99 rfl ?_) | (refine Safe.br rfl (fun a => ?_) (fun a => ?_) <;> refine go 99 rfl ?_))
  all_goals exact ⟨.inr rfl, trivial, .done (bIeq (by first | (simp_all [lettI]; done) | (simp_all [lettI]; omega) | (simp_all [lettI]; intros; omega) | (rw [Bool.eq_iff_iff]; simp_all [lettI]; omega))) rfl⟩
theorem r_letter (z : Int) : PTri Tryz.prog 112 [.int .u8 z] (.bool (lettI z)) := by
  refine PTri.of_safe Tryz.func112 rfl Tryz.results112 Tryz.ntmps112 rfl ?_
  refine go 99 rfl ?_
  repeat' (first | (refine Safe.gs rfl (fun a => ?_) (fun a => ?_) <;> refine go 99 rfl ?_) | (refine Safe.br rfl (fun a => ?_) (fun a => ?_) <;> refine go 99 rfl ?_))
  all_goals exact ⟨.inr rfl, trivial, .done (bIeq (by first | (simp_all [lettI]; done) | (simp_all [lettI]; omega) | (simp_all [lettI]; intros; omega) | (rw [Bool.eq_iff_iff]; simp_all [lettI]; omega))) rfl⟩
def lettB (c : UInt8) : Bool := lettI (c.toNat : Nat)
def dg (s : By) : Bool := decide (48 ≤ ((s.headD 0).toNat : Int)) && decide (((s.headD 0).toNat : Int) ≤ 57)
theorem hd0 {s : By} (h : 0 < s.length) : s.headD 0 = s[0] := by cases s with | nil => cases h | cons a r => rfl
def nmB (s : By) : Bool := decide (1 ≤ s.length) && decide (s.length ≤ 60) && !dg s && s.all lettB
theorem all_drop {s : By} {i : Nat} (hi : i < s.length) : (s.drop i).all lettB = (lettB s[i] && (s.drop (i + 1)).all lettB) := by
  rw [List.drop_eq_getElem_cons hi, List.all_cons]
theorem l_isName (s : By) (hs : s.length ≤ big) : PTri Tryz.prog 69 [.str s] (.bool (nmB s)) := by
  simp only [big] at hs
  have hE := nmB.eq_1 s
  refine PTri.of_safe Tryz.func69 rfl Tryz.results69 Tryz.ntmps69 rfl ?_
  refine go 99 rfl ?_
  refine Safe.gs rfl (fun c => ?_) (fun c => ?_)
  · refine go 99 rfl ?_
    exact ⟨.inr rfl, trivial, .done (bIeq (by rw [hE, decide_eq_false (by simp at c; omega)]; rfl)) rfl⟩
  · have h0 : 0 < s.length := by simp at c; omega
    rw [decide_eq_true (by omega : 1 ≤ s.length)] at hE
    refine go 99 rfl ?_
    refine Safe.gs rfl (fun d => ?_) (fun d => ?_)
    · refine go 99 rfl ?_
      exact ⟨.inr rfl, trivial, .done (bIeq (by rw [hE]; simp at d; simp; omega)) rfl⟩
    · have h1 : s.length ≤ 60 := by simp at d; omega
      rw [decide_eq_true h1] at hE
      refine go 99 rfl ?_
      refine Safe.idxS h0 rfl rfl rfl ?_
      refine go 99 rfl ?_
      refine Safe.cut1 (α := Unit) (fun _ => [(0, .str s)]) (fun _ => []) 0 (fun _ => dg s = false) ?_ ?_
      · have hd := hd0 h0
        refine Safe.gs rfl (fun e => ?_) (fun e => ?_)
        · refine go 99 rfl ?_
          refine Safe.idxS h0 rfl rfl rfl ?_
          refine go 99 rfl ?_
          refine Safe.br rfl (fun f => ?_) (fun f => ?_)
          · refine go 99 rfl ?_
            exact ⟨.inr rfl, trivial, .done (bIeq (by rw [hE]; simp only [dg, hd]; simp at e f; simp; omega)) rfl⟩
          · refine go 99 rfl ?_
            exact ⟨sgI 0, (), by simp only [dg, hd]; simp at e f; simp; omega, rfl, rfl, ⟨fit rfl, trivial⟩, ⟨_, .refl _, List.nil_sublist _⟩, rfl⟩
        · refine go 99 rfl ?_
          exact ⟨sgI 0, (), by simp only [dg, hd]; simp at e; simp; omega, rfl, rfl, ⟨fit rfl, trivial⟩, ⟨_, .refl _, List.nil_sublist _⟩, rfl⟩
      · rintro ⟨⟩ hn
        rw [hn] at hE
        simp only [Bool.and_self, Bool.not_false, Bool.true_and] at hE
        refine go 99 rfl ?_
        refine Safe.loop (α := Nat) (fun i => [(0, .str s), (3, nI i)]) (fun i => []) 0 (fun i => s.length - i) (fun i => i ≤ s.length ∧ nmB s = (s.drop i).all lettB) 0 (sgI 0) ⟨⟨fit rfl, fit rfl, trivial⟩, ⟨_, .refl _, List.nil_sublist _⟩, rfl⟩ ⟨Nat.zero_le _, hE⟩ ?_
        rintro i ⟨hi, ha⟩
        refine go 99 rfl ?_
        refine Safe.br rfl (fun f => ?_) (fun f => ?_)
        · have hi : i < s.length := ltc f
          rw [all_drop hi] at ha
          refine go 99 rfl ?_
          refine Safe.idxS hi rfl rfl rfl ?_
          refine go 99 rfl ?_
          refine Safe.call (l_nameByte (s[i].toNat : Nat)) rfl rfl rfl ?_
          refine go 99 rfl ?_
          refine Safe.br rfl (fun g => ?_) (fun g => ?_)
          · refine go 99 rfl ?_
            exact ⟨.inr rfl, trivial, .done (bIeq (by rw [ha]; simp at g; simp [lettB, g])) rfl⟩
          · refine go 99 rfl ?_
            exact ⟨sgI 0, i + 1, ⟨hi, by rw [ha]; simp at g; simp [lettB, g]⟩, mlt hi, rfl, rfl, ⟨fit rfl, fit (isucc (by omega)), trivial⟩, ⟨_, .refl _, List.nil_sublist _⟩, rfl⟩
        · have hi2 : i = s.length := Nat.le_antisymm hi (gec f)
          subst hi2
          rw [List.drop_of_length_le (Nat.le_refl _)] at ha
          refine go 99 rfl ?_
          exact ⟨.inr rfl, trivial, .done (bIeq (by rw [ha]; rfl)) rfl⟩
end Go.Proofs.YtmohgegpcfkooaaGreatDoor
end

section
namespace Go.Proofs.YtmohgegpcfkooaaGreatDoor
open Go.Fw
variable [Gl]
set_option maxRecDepth 20000
set_option maxHeartbeats 4000000
theorem r_name (s : By) (hs : s.length ≤ big) : PTri Tryz.prog 75 [.str s] (.bool (nmB s)) := by
  simp only [big] at hs
  have hE := nmB.eq_1 s
  refine PTri.of_safe Tryz.func75 rfl Tryz.results75 Tryz.ntmps75 rfl ?_
  refine go 99 rfl ?_
  refine Safe.loop (α := Nat) (fun i => [(0, .str s), (3, nI i)]) (fun i => []) 0 (fun i => s.length - i) (fun i => i ≤ s.length ∧ s.all lettB = (s.drop i).all lettB) 0 (sgI 0) ⟨⟨fit rfl, fit rfl, trivial⟩, ⟨_, .refl _, List.nil_sublist _⟩, rfl⟩ ⟨Nat.zero_le _, rfl⟩ ?_
  rintro i ⟨hi, ha⟩
  refine go 99 rfl ?_
  refine Safe.br rfl (fun f => ?_) (fun f => ?_)
  · have hi : i < s.length := ltc f
    rw [all_drop hi] at ha
    refine go 99 rfl ?_
    refine Safe.idxS hi rfl rfl rfl ?_
    refine go 99 rfl ?_
    refine Safe.call (r_letter (s[i].toNat : Nat)) rfl rfl rfl ?_
    refine go 99 rfl ?_
    refine Safe.br rfl (fun g => ?_) (fun g => ?_)
    · refine go 99 rfl ?_
      exact ⟨.inr rfl, trivial, .done (bIeq (by rw [hE, ha]; simp at g; simp [lettB, g])) rfl⟩
    · refine go 99 rfl ?_
      exact ⟨sgI 0, i + 1, ⟨hi, by rw [ha]; simp at g; simp [lettB, g]⟩, mlt hi, rfl, rfl, ⟨fit rfl, fit (isucc (by omega)), trivial⟩, ⟨_, .refl _, List.nil_sublist _⟩, rfl⟩
  · have hi2 : i = s.length := Nat.le_antisymm hi (gec f)
    subst hi2
    rw [List.drop_of_length_le (Nat.le_refl _), List.all_nil] at ha
    rw [ha] at hE
    refine go 99 rfl ?_
    refine Safe.gs rfl (fun c => ?_) (fun c => ?_)
    · have h0 : 0 < s.length := ltc c
      rw [decide_eq_true (by omega : 1 ≤ s.length)] at hE
      have hd := hd0 h0
      refine go 99 rfl ?_
      refine Safe.gs rfl (fun d => ?_) (fun d => ?_)
      · have h1 : s.length ≤ 60 := by simp at d; omega
        rw [decide_eq_true h1] at hE
        refine go 99 rfl ?_
        refine Safe.idxS h0 rfl rfl rfl ?_
        refine go 99 rfl ?_
        refine Safe.gs rfl (fun e => ?_) (fun e => ?_)
        · refine go 99 rfl ?_
          exact ⟨.inr rfl, trivial, .done (bIeq (by rw [hE]; simp only [dg, hd]; simp at e; simp; omega)) rfl⟩
        · refine go 99 rfl ?_
          refine Safe.idxS h0 rfl rfl rfl ?_
          refine go 99 rfl ?_
          exact ⟨.inr rfl, trivial, .done (bIeq (by rw [hE]; simp only [dg, hd]; simp at e; rw [Bool.eq_iff_iff]; simp; omega)) rfl⟩
      · have h1 : ¬ s.length ≤ 60 := by simp at d; omega
        rw [decide_eq_false h1] at hE
        refine go 99 rfl ?_
        exact ⟨.inr rfl, trivial, .done (bIeq (by rw [hE]; rfl)) rfl⟩
    · have h0 : ¬ 1 ≤ s.length := by have := gec (n := 0) (i := 0) (by simpa using c); simp at c; subst c; simp
      rw [decide_eq_false h0] at hE
      refine go 99 rfl ?_
      exact ⟨.inr rfl, trivial, .done (bIeq (by rw [hE]; rfl)) rfl⟩
end Go.Proofs.YtmohgegpcfkooaaGreatDoor
end

section
namespace Go.Proofs.YtmohgegpcfkooaaGreatDoor
open Go.Fw
variable [Gl]
set_option maxRecDepth 20000
set_option maxHeartbeats 4000000
theorem isub {i : Nat} (h : 0 < i) (h2 : i < 4611686018427387904) : IntKind.i64.wrap ((i : Int) - 1) = ((i - 1 : Nat) : Int) := by rw [wrap64_fit (by omega) (by omega)]; omega
def ordP (p : Option Lb) (x : Lb) : Int := match p with
  | some q => if Op.bytesLess q.name x.name = true then 0 else 9
  | none => 0
def chk1 (p : Option Lb) (x : Lb) : Int := if nmB x.name = false then 5 else if x.value = [] then 1 else if 200 < x.value.length then 4 else ordP p x
def chkF : Option Lb → List Lb → Int
  | _, [] => 0
  | p, x :: r => if chk1 p x = 0 then chkF (some x) r else chk1 p x
def chkLs (l : List Lb) : Int := if 16 < l.length then 4 else chkF none l
def pv (l : List Lb) : Nat → Option Lb
  | 0 => none
  | i + 1 => l[i]?
theorem pv_pos {l : List Lb} {i : Nat} (h : 0 < i) (hi : i - 1 < l.length) : pv l i = some l[i - 1] := by
  cases i with
  | zero => cases h
  | succ k => simp [pv]
theorem chkF_drop {l : List Lb} {i : Nat} (hi : i < l.length) : chkF (pv l i) (l.drop i) = if chk1 (pv l i) l[i] = 0 then chkF (pv l (i + 1)) (l.drop (i + 1)) else chk1 (pv l i) l[i] := by
  rw [List.drop_eq_getElem_cons hi, chkF]
  have : pv l (i + 1) = some l[i] := List.getElem?_eq_getElem hi
  rw [this]
theorem l_check (l : List Lb) (ho : okLs l) : PTri Tryz.prog 41 [slV lbC l] (nI (chkLs l)) := by
  have hl := ho.1
  simp only [big] at hl
  have hE := chkLs.eq_1 l
  refine PTri.of_safe Tryz.func41 rfl Tryz.results41 Tryz.ntmps41 rfl ?_
  refine go 99 rfl ?_
  refine Safe.br rfl (fun c => ?_) (fun c => ?_)
  · have c1 : 16 < l.length := ltc (i := 16) c
    refine go 99 rfl ?_
    exact ⟨.inr rfl, trivial, .done (nIeq (by rw [hE, if_pos c1])) rfl⟩
  · have c1 : ¬ 16 < l.length := by simp at c; omega
    rw [if_neg c1] at hE
    refine go 99 rfl ?_
    refine Safe.loop (α := Nat) (fun i => [(0, slV lbC l), (8, slV lbC l), (9, nI l.length), (10, nI i)]) (fun i => []) 0 (fun i => l.length - i) (fun i => i ≤ l.length ∧ chkLs l = chkF (pv l i) (l.drop i)) 0 (sgI 0) ⟨⟨fit rfl, fit rfl, fit rfl, fit rfl, trivial⟩, ⟨_, .refl _, List.nil_sublist _⟩, rfl⟩ ⟨Nat.zero_le _, hE⟩ ?_
    rintro i ⟨hi, ha⟩
    refine go 99 rfl ?_
    refine Safe.br rfl (fun d => ?_) (fun d => ?_)
    · have hi : i < l.length := ltc d
      have hx := ho.2 l[i] (List.getElem_mem hi)
      rw [chkF_drop hi] at ha
      refine go 99 rfl ?_
      refine Safe.idxF hi rfl rfl rfl ?_
      refine go 99 rfl ?_
      refine Safe.ldF (ldL hi) rfl rfl rfl ?_
      refine go 99 rfl ?_
      refine Safe.call (l_isName l[i].name hx.1) rfl rfl rfl ?_
      refine go 99 rfl ?_
      refine Safe.br rfl (fun e => ?_) (fun e => ?_)
      · have e1 : chk1 (pv l i) l[i] = 5 := by simp at e; simp [chk1, e]
        refine go 99 rfl ?_
        exact ⟨.inr rfl, trivial, .done (nIeq (by rw [ha, e1]; rfl)) rfl⟩
      · have e0 : ¬ nmB l[i].name = false := by simpa using e
        have hc := chk1.eq_1 (pv l i) l[i]
        rw [if_neg e0] at hc
        refine go 99 rfl ?_
        refine Safe.br rfl (fun e => ?_) (fun e => ?_)
        · have e1 : l[i].value = [] := by simpa using e
          rw [if_pos e1] at hc
          refine go 99 rfl ?_
          exact ⟨.inr rfl, trivial, .done (nIeq (by rw [ha, hc]; rfl)) rfl⟩
        · have e1 : ¬ l[i].value = [] := by simpa using e
          rw [if_neg e1] at hc
          refine go 99 rfl ?_
          refine Safe.br rfl (fun e => ?_) (fun e => ?_)
          · have e2 : 200 < l[i].value.length := ltc (i := 200) e
            rw [if_pos e2] at hc
            refine go 99 rfl ?_
            exact ⟨.inr rfl, trivial, .done (nIeq (by rw [ha, hc]; rfl)) rfl⟩
          · have e2 : ¬ 200 < l[i].value.length := by simp at e; omega
            rw [if_neg e2] at hc
            refine go 99 rfl ?_
            refine Safe.frzC 0 rfl rfl ?_
            refine Safe.drawP mixed [0, 1, 2, 3, 4, 5, 6, 7, 8, 9, 10, 11, 12, 13] [(true, true), (true, true), (true, true), (true, true), (true, true), (true, true), (true, true), (true, true), (true, true), (true, true), (true, true), (true, true), (true, true), (true, true)] (by kernel_rfl) ?_
            refine go 99 rfl ?_
            refine Safe.gs rfl (fun f => ?_) (fun f => ?_)
            · have h0 : 0 < i := ltc f
              have h1 : i - 1 < l.length := by omega
              rw [pv_pos h0 h1] at hc ha
              refine go 99 rfl ?_
              refine Safe.ldF (rfl) rfl rfl rfl ?_
              refine go 99 rfl ?_
              refine Safe.idxF (i := i - 1) h1 (isub h0 (by omega)) rfl rfl ?_
              refine go 99 rfl ?_
              refine Safe.ldF (ldL0 h1) rfl rfl rfl ?_
              refine go 99 rfl ?_
              refine Safe.br rfl (fun g => ?_) (fun g => ?_)
              · have g1 : ¬ Op.bytesLess l[i - 1].name l[i].name = true := by rw [le_nl] at g; simpa using g
                have hc2 : chk1 (some l[i - 1]) l[i] = 9 := by rw [hc]; simp only [ordP]; rw [if_neg g1]
                refine go 99 rfl ?_
                exact ⟨.inr rfl, trivial, .done (nIeq (by rw [ha, hc2]; rfl)) rfl⟩
              · have g1 : Op.bytesLess l[i - 1].name l[i].name = true := by rw [le_nl] at g; simpa using g
                have hc2 : chk1 (some l[i - 1]) l[i] = 0 := by rw [hc]; simp only [ordP]; rw [if_pos g1]
                refine go 99 rfl ?_
                exact ⟨sgI 0, i + 1, ⟨hi, by rw [ha, if_pos hc2]⟩, mlt hi, rfl, rfl, ⟨fit rfl, fit rfl, fit rfl, fit (isucc (by omega)), trivial⟩, ⟨_, .refl _, List.nil_sublist _⟩, rfl⟩
            · have h0 : i = 0 := by simp at f; exact f
              subst h0
              have hc2 : chk1 (pv l 0) l[0] = 0 := by rw [hc]; rfl
              refine go 99 rfl ?_
              exact ⟨sgI 0, 1, ⟨hi, by rw [ha, if_pos hc2]⟩, mlt hi, rfl, rfl, ⟨fit rfl, fit rfl, fit rfl, fit (isucc (by omega)), trivial⟩, ⟨_, .refl _, List.nil_sublist _⟩, rfl⟩
    · have hi2 : i = l.length := Nat.le_antisymm hi (gec d)
      subst hi2
      rw [List.drop_of_length_le (Nat.le_refl _)] at ha
      refine go 99 rfl ?_
      exact ⟨.inr rfl, trivial, .done (nIeq (by rw [ha]; cases pv l l.length <;> rfl)) rfl⟩
end Go.Proofs.YtmohgegpcfkooaaGreatDoor
end

section
namespace Go.Proofs.YtmohgegpcfkooaaGreatDoor
open Go.Fw
variable [Gl]
set_option maxRecDepth 20000
set_option maxHeartbeats 4000000
theorem r_check (l : List Lb) (ho : okLs l) : PTri Tryz.prog 50 [slV lbC l] (nI (chkLs l)) := by
  have hl := ho.1
  simp only [big] at hl
  have hE := chkLs.eq_1 l
  refine PTri.of_safe Tryz.func50 rfl Tryz.results50 Tryz.ntmps50 rfl ?_
  refine go 99 rfl ?_
  refine Safe.br rfl (fun c => ?_) (fun c => ?_)
  · have c1 : 16 < l.length := ltc (i := 16) c
    refine go 99 rfl ?_
    exact ⟨.inr rfl, trivial, .done (nIeq (by rw [hE, if_pos c1])) rfl⟩
  · have c1 : ¬ 16 < l.length := by simp at c; omega
    rw [if_neg c1] at hE
    refine go 99 rfl ?_
    refine Safe.loop (α := Nat) (fun i => [(0, slV lbC l), (3, nI i)]) (fun i => []) 0 (fun i => l.length - i) (fun i => i ≤ l.length ∧ chkLs l = chkF (pv l i) (l.drop i)) 0 (sgI 0) ⟨⟨fit rfl, fit rfl, trivial⟩, ⟨_, .refl _, List.nil_sublist _⟩, rfl⟩ ⟨Nat.zero_le _, hE⟩ ?_
    rintro i ⟨hi, ha⟩
    refine go 99 rfl ?_
    refine Safe.br rfl (fun d => ?_) (fun d => ?_)
    · have hi : i < l.length := ltc d
      have hx := ho.2 l[i] (List.getElem_mem hi)
      rw [chkF_drop hi] at ha
      refine go 99 rfl ?_
      refine Safe.idxF hi rfl rfl rfl ?_
      refine go 99 rfl ?_
      refine Safe.ldF (ldL0 hi) rfl rfl rfl ?_
      refine go 99 rfl ?_
      refine Safe.call (r_name l[i].name hx.1) rfl rfl rfl ?_
      refine go 99 rfl ?_
      refine Safe.br rfl (fun e => ?_) (fun e => ?_)
      · have e1 : chk1 (pv l i) l[i] = 5 := by simp at e; simp [chk1, e]
        refine go 99 rfl ?_
        exact ⟨.inr rfl, trivial, .done (nIeq (by rw [ha, e1]; rfl)) rfl⟩
      · have e0 : ¬ nmB l[i].name = false := by simpa using e
        have hc := chk1.eq_1 (pv l i) l[i]
        rw [if_neg e0] at hc
        refine go 99 rfl ?_
        refine Safe.idxF hi rfl rfl rfl ?_
        refine go 99 rfl ?_
        refine Safe.ldF (ldL1 hi) rfl rfl rfl ?_
        refine go 99 rfl ?_
        refine Safe.br rfl (fun e => ?_) (fun e => ?_)
        · have e1 : l[i].value = [] := by simpa using e
          rw [if_pos e1] at hc
          refine go 99 rfl ?_
          exact ⟨.inr rfl, trivial, .done (nIeq (by rw [ha, hc]; rfl)) rfl⟩
        · have e1 : ¬ l[i].value = [] := by simpa using e
          rw [if_neg e1] at hc
          refine go 99 rfl ?_
          refine Safe.idxF hi rfl rfl rfl ?_
          refine go 99 rfl ?_
          refine Safe.ldF (ldL1 hi) rfl rfl rfl ?_
          refine go 99 rfl ?_
          refine Safe.br rfl (fun e => ?_) (fun e => ?_)
          · have e2 : 200 < l[i].value.length := ltc (i := 200) e
            rw [if_pos e2] at hc
            refine go 99 rfl ?_
            exact ⟨.inr rfl, trivial, .done (nIeq (by rw [ha, hc]; rfl)) rfl⟩
          · have e2 : ¬ 200 < l[i].value.length := by simp at e; omega
            rw [if_neg e2] at hc
            refine go 99 rfl ?_
            refine Safe.drawP mixed [0, 1, 2, 3, 4, 5, 6, 7, 8, 9, 10, 11, 12, 13, 14, 15] [(true, true), (true, true), (true, true), (true, true), (true, true), (true, true), (true, true), (true, true), (true, true), (true, true), (true, true), (true, true), (true, true), (true, true), (true, true), (true, true)] (by kernel_rfl) ?_
            refine go 99 rfl ?_
            refine Safe.gs rfl (fun f => ?_) (fun f => ?_)
            · have h0 : 0 < i := ltc f
              have h1 : i - 1 < l.length := by omega
              rw [pv_pos h0 h1] at hc ha
              refine go 99 rfl ?_
              refine Safe.idxF hi rfl rfl rfl ?_
              refine go 99 rfl ?_
              refine Safe.ldF (ldL0 hi) rfl rfl rfl ?_
              refine go 99 rfl ?_
              refine Safe.idxF (i := i - 1) h1 (isub h0 (by omega)) rfl rfl ?_
              refine go 99 rfl ?_
              refine Safe.ldF (ldL0 h1) rfl rfl rfl ?_
              refine go 99 rfl ?_
              refine Safe.br rfl (fun g => ?_) (fun g => ?_)
              · have g1 : ¬ Op.bytesLess l[i - 1].name l[i].name = true := by rw [le_nl] at g; simpa using g
                have hc2 : chk1 (some l[i - 1]) l[i] = 9 := by rw [hc]; simp only [ordP]; rw [if_neg g1]
                refine go 99 rfl ?_
                exact ⟨.inr rfl, trivial, .done (nIeq (by rw [ha, hc2]; rfl)) rfl⟩
              · have g1 : Op.bytesLess l[i - 1].name l[i].name = true := by rw [le_nl] at g; simpa using g
                have hc2 : chk1 (some l[i - 1]) l[i] = 0 := by rw [hc]; simp only [ordP]; rw [if_pos g1]
                refine go 99 rfl ?_
                exact ⟨sgI 0, i + 1, ⟨hi, by rw [ha, if_pos hc2]⟩, mlt hi, rfl, rfl, ⟨fit rfl, fit (isucc (by omega)), trivial⟩, ⟨_, .refl _, List.nil_sublist _⟩, rfl⟩
            · have h0 : i = 0 := by simp at f; exact f
              subst h0
              have hc2 : chk1 (pv l 0) l[0] = 0 := by rw [hc]; rfl
              refine go 99 rfl ?_
              exact ⟨sgI 0, 1, ⟨hi, by rw [ha, if_pos hc2]⟩, mlt hi, rfl, rfl, ⟨fit rfl, fit (isucc (by omega)), trivial⟩, ⟨_, .refl _, List.nil_sublist _⟩, rfl⟩
    · have hi2 : i = l.length := Nat.le_antisymm hi (gec d)
      subst hi2
      rw [List.drop_of_length_le (Nat.le_refl _)] at ha
      refine go 99 rfl ?_
      exact ⟨.inr rfl, trivial, .done (nIeq (by rw [ha]; cases pv l l.length <;> rfl)) rfl⟩
end Go.Proofs.YtmohgegpcfkooaaGreatDoor
end

section
namespace Go.Proofs
open Go.Shelf
def Tryz.lays217_ren : Go.Shelf.Ren := ⟨fun | 217 => 113 | 266 => 149 | n => n, fun | 9 => 9 | 5 => 5 | 3 => 3 | n => n, fun | n => n⟩
theorem Tryz.lays217 : Go.Proofs.Lays.n217 Tryz.prog Tryz.lays217_ren := {
  mixed := by kernel_rfl
  f217 := Tryz.func113.trans (congrArg some (by kernel_rfl))
  f266 := Tryz.func149.trans (congrArg some (by kernel_rfl))
  t3 := Tryz.underlying3
  a3 := Tryz.isAgg3
  z3 := Tryz.sizeOf3
  v3 := Tryz.zeroValue3
  t5 := Tryz.underlying5
  a5 := Tryz.isAgg5
  z5 := Tryz.sizeOf5
  v5 := Tryz.zeroValue5
  t9 := Tryz.underlying9
  a9 := Tryz.isAgg9
  z9 := Tryz.sizeOf9
  v9 := Tryz.zeroValue9 }
open Go.RowKit Go.Lib in
theorem Tryz.stringslite_IndexByte (s : ByteArray) (c : Int) (w : World) :
    Calls Tryz.prog 113 #[.string s, .int .u8 c] w fun e w' => e = .returned (.int .i64 (Lib.indexByte s.data.toList c.toNat.toUInt8)) ∧ w' = w := Any.stringslite_IndexByte Tryz.lays217 s c w
def Tryz.lays144_ren : Go.Shelf.Ren := ⟨fun | 144 => 25 | 143 => 52 | 219 => 76 | 217 => 113 | 225 => 114 | 224 => 115 | 267 => 116 | 266 => 149 | 314 => 150 | n => n, fun | 9 => 9 | 4 => 4 | 3 => 3 | 5 => 5 | 46 => 93 | 146 => 168 | 51 => 122 | n => n, fun | 1 => 0 | n => n⟩
theorem Tryz.lays144 : Go.Proofs.Lays.n144 Tryz.prog Tryz.lays144_ren := {
  mixed := by kernel_rfl
  f143 := Tryz.func52.trans (congrArg some (by kernel_rfl))
  f144 := Tryz.func25.trans (congrArg some (by kernel_rfl))
  f217 := Tryz.func113.trans (congrArg some (by kernel_rfl))
  f219 := Tryz.func76.trans (congrArg some (by kernel_rfl))
  f224 := Tryz.func115.trans (congrArg some (by kernel_rfl))
  f225 := Tryz.func114.trans (congrArg some (by kernel_rfl))
  f266 := Tryz.func149.trans (congrArg some (by kernel_rfl))
  f267 := Tryz.func116.trans (congrArg some (by kernel_rfl))
  f314 := Tryz.func150.trans (congrArg some (by kernel_rfl))
  t3 := Tryz.underlying3
  a3 := Tryz.isAgg3
  z3 := Tryz.sizeOf3
  v3 := Tryz.zeroValue3
  t4 := Tryz.underlying4
  a4 := Tryz.isAgg4
  z4 := Tryz.sizeOf4
  v4 := Tryz.zeroValue4
  t5 := Tryz.underlying5
  a5 := Tryz.isAgg5
  z5 := Tryz.sizeOf5
  v5 := Tryz.zeroValue5
  t9 := Tryz.underlying9
  a9 := Tryz.isAgg9
  z9 := Tryz.sizeOf9
  v9 := Tryz.zeroValue9
  t46 := Tryz.underlying93
  a46 := Tryz.isAgg93
  z46 := Tryz.sizeOf93
  v46 := Tryz.zeroValue93
  t51 := Tryz.underlying122
  a51 := Tryz.isAgg122
  z51 := Tryz.sizeOf122
  v51 := Tryz.zeroValue122
  t146 := Tryz.underlying168
  a146 := Tryz.isAgg168
  z146 := Tryz.sizeOf168
  v146 := Tryz.zeroValue168
  g1 := by kernel_rfl }
open Go.RowKit Go.Lib in
theorem Tryz.strings_Contains_one (s : ByteArray) (c : UInt8) (w : World) :
    Calls Tryz.prog 25 #[.string s, .string ⟨#[c]⟩] w fun e w' => e = .returned (.bool (decide (0 ≤ Lib.indexByte s.data.toList c))) ∧ w' = w := Any.strings_Contains_one Tryz.lays144 s c w
open Go.RowKit Go.Lib in
theorem Tryz.strings_Contains (s sub : ByteArray) (m : Int) (w : World) (hs : s.size < 4294967281) (hm : w.cell? ⟨0, 0, none⟩ = some (.int .i64 m)) :
    Calls Tryz.prog 25 #[.string s, .string sub] w fun e w' => e = .returned (.bool (Lib.contains s.data.toList sub.data.toList)) ∧ w' = w := Any.strings_Contains Tryz.lays144 s sub m w hs hm
def Tryz.laysM219_ren : Go.Shelf.Ren := ⟨fun | 219 => 76 | 217 => 113 | 225 => 114 | 224 => 115 | 267 => 116 | 266 => 149 | 314 => 150 | n => n, fun | 9 => 9 | 3 => 3 | 4 => 4 | 5 => 5 | 46 => 93 | 146 => 168 | 51 => 122 | n => n, fun | 1 => 0 | n => n⟩
theorem Tryz.laysM219 : Go.Proofs.LaysM.n219 Tryz.prog Tryz.laysM219_ren := {
  mixed := by kernel_rfl
  f217 := Tryz.func113.trans (congrArg some (by kernel_rfl))
  f219 := Tryz.func76.trans (congrArg some (by kernel_rfl))
  f224 := Tryz.func115.trans (congrArg some (by kernel_rfl))
  f225 := Tryz.func114.trans (congrArg some (by kernel_rfl))
  f266 := Tryz.func149.trans (congrArg some (by kernel_rfl))
  f267 := Tryz.func116.trans (congrArg some (by kernel_rfl))
  f314 := Tryz.func150.trans (congrArg some (by kernel_rfl))
  t3 := Tryz.underlying3
  a3 := Tryz.isAgg3
  z3 := Tryz.sizeOf3
  v3 := Tryz.zeroValue3
  t4 := Tryz.underlying4
  a4 := Tryz.isAgg4
  z4 := Tryz.sizeOf4
  v4 := Tryz.zeroValue4
  t5 := Tryz.underlying5
  a5 := Tryz.isAgg5
  z5 := Tryz.sizeOf5
  v5 := Tryz.zeroValue5
  t9 := Tryz.underlying9
  a9 := Tryz.isAgg9
  z9 := Tryz.sizeOf9
  v9 := Tryz.zeroValue9
  t46 := Tryz.underlying93
  a46 := Tryz.isAgg93
  z46 := Tryz.sizeOf93
  v46 := Tryz.zeroValue93
  t51 := Tryz.underlying122
  a51 := Tryz.isAgg122
  z51 := Tryz.sizeOf122
  v51 := Tryz.zeroValue122
  t146 := Tryz.underlying168
  a146 := Tryz.isAgg168
  z146 := Tryz.sizeOf168
  v146 := Tryz.zeroValue168
  g1 := by kernel_rfl
  i3 := by kernel_rfl
  i4 := by kernel_rfl
  i5 := by kernel_rfl
  i9 := by kernel_rfl
  i46 := by kernel_rfl
  i51 := by kernel_rfl
  i146 := by kernel_rfl
  m1 := by kernel_rfl
  s1_3 := fun w h => Go.Proofs.cell_of_shapedOpen_int (zero := #[.int .i64 0]) (t := 3) h (of_decide_eq_true (by kernel_rfl)) (by kernel_rfl) rfl (by kernel_rfl) (by kernel_rfl) Tryz.underlying3 }
end Go.Proofs
end

section
namespace Go.Proofs.YtmohgegpcfkooaaGreatDoor
open Go.Fw
variable [Gl]
set_option maxRecDepth 20000
set_option maxHeartbeats 4000000
structure En where
  time : Int
  labels : List Lb
  line : By
  fields : List Lb
  trace : Int
def enC (x : En) : List V := [nI x.time, slV lbC x.labels, .str x.line, slV lbC x.fields, nI x.trace]
abbrev enV (x : En) : V := .agg (enC x)
def okEn (x : En) : Prop := okLs x.labels ∧ x.line.length ≤ big ∧ okLs x.fields
def chkEn (x : En) : Int := if btw x.time 1 1099511627776 = false then 2 else if chkLs x.labels ≠ 0 then chkLs x.labels else if 1000 < x.line.length then 4 else if 0 ≤ Lib.indexByte x.line 10 then 3 else if chkLs x.fields ≠ 0 then chkLs x.fields else if btw x.trace 0 1152921504606846976 = false then 2 else 0
theorem vrs_str2 {s u : List UInt8} (F : Froz) (av : Array Value) (h : VRs F [.str s, .str u] av) : av = #[.string ⟨s.toArray⟩, .string ⟨u.toArray⟩] := by
  have h0 := (h.2 0 _ rfl).str_inv
  have h1 := (h.2 1 _ rfl).str_inv
  have hs := h.1
  simp at hs
  obtain ⟨L⟩ := av
  match L, hs with
  | [x, y], _ => simp at h0 h1; rw [h0, h1]
theorem st_contains1 (s : By) (c : UInt8) : PTri Tryz.prog 25 [.str s, .str [c]] (.bool (decide (0 ≤ Lib.indexByte s c))) :=
  PTri.of_same _ _ (fun F av h => vrs_str2 F av h) (fun w => Tryz.strings_Contains_one ⟨s.toArray⟩ c w) (fun F => .bool _)
theorem l_checkE (x : En) (h : okEn x) : PTri Tryz.prog 16 [enV x] (nI (chkEn x)) := by
  have hE := chkEn.eq_1 x
  refine PTri.of_safe Tryz.func16 rfl Tryz.results16 Tryz.ntmps16 rfl ?_
  refine go 99 rfl ?_
  refine Safe.gs rfl (fun c => ?_) (fun c => ?_)
  · have c1 : btw x.time 1 1099511627776 = false := by simp at c; simp [btw]; omega
    rw [if_pos c1] at hE
    refine go 99 rfl ?_
    exact ⟨.inr rfl, trivial, .done (nIeq hE.symm) rfl⟩
  · refine go 99 rfl ?_
    refine Safe.br rfl (fun c2 => ?_) (fun c2 => ?_)
    · have c1 : btw x.time 1 1099511627776 = false := by simp at c c2; simp [btw]; omega
      rw [if_pos c1] at hE
      refine go 99 rfl ?_
      exact ⟨.inr rfl, trivial, .done (nIeq hE.symm) rfl⟩
    · have c1 : ¬ btw x.time 1 1099511627776 = false := by simp at c c2; simp [btw]; omega
      rw [if_neg c1] at hE
      refine go 99 rfl ?_
      refine Safe.call (l_check x.labels h.1) rfl rfl rfl ?_
      refine go 99 rfl ?_
      refine Safe.br rfl (fun d => ?_) (fun d => ?_)
      · have d1 : chkLs x.labels ≠ 0 := by simpa using d
        rw [if_pos d1] at hE
        refine go 99 rfl ?_
        exact ⟨.inr rfl, trivial, .done (nIeq hE.symm) rfl⟩
      · have d1 : ¬ chkLs x.labels ≠ 0 := by simpa using d
        rw [if_neg d1] at hE
        refine go 99 rfl ?_
        refine Safe.br rfl (fun e => ?_) (fun e => ?_)
        · have e1 : 1000 < x.line.length := ltc (i := 1000) e
          rw [if_pos e1] at hE
          refine go 99 rfl ?_
          exact ⟨.inr rfl, trivial, .done (nIeq hE.symm) rfl⟩
        · have e1 : ¬ 1000 < x.line.length := by simp at e; omega
          rw [if_neg e1] at hE
          refine go 99 rfl ?_
          refine Safe.call (st_contains1 x.line 10) rfl rfl rfl ?_
          refine go 99 rfl ?_
          refine Safe.br rfl (fun f => ?_) (fun f => ?_)
          · have f1 : 0 ≤ Lib.indexByte x.line 10 := of_decide_eq_true f
            rw [if_pos f1] at hE
            refine go 99 rfl ?_
            exact ⟨.inr rfl, trivial, .done (nIeq hE.symm) rfl⟩
          · have f1 : ¬ 0 ≤ Lib.indexByte x.line 10 := of_decide_eq_false f
            rw [if_neg f1] at hE
            refine go 99 rfl ?_
            refine Safe.call (l_check x.fields h.2.2) rfl rfl rfl ?_
            refine go 99 rfl ?_
            refine Safe.br rfl (fun g => ?_) (fun g => ?_)
            · have g1 : chkLs x.fields ≠ 0 := by simpa using g
              rw [if_pos g1] at hE
              refine go 99 rfl ?_
              exact ⟨.inr rfl, trivial, .done (nIeq hE.symm) rfl⟩
            · have g1 : ¬ chkLs x.fields ≠ 0 := by simpa using g
              rw [if_neg g1] at hE
              refine go 99 rfl ?_
              refine Safe.gs rfl (fun k => ?_) (fun k => ?_)
              · have k1 : btw x.trace 0 1152921504606846976 = false := by simp at k; simp [btw]; omega
                rw [if_pos k1] at hE
                refine go 99 rfl ?_
                exact ⟨.inr rfl, trivial, .done (nIeq hE.symm) rfl⟩
              · refine go 99 rfl ?_
                refine Safe.br rfl (fun k2 => ?_) (fun k2 => ?_)
                · have k1 : btw x.trace 0 1152921504606846976 = false := by simp at k k2; simp [btw]; omega
                  rw [if_pos k1] at hE
                  refine go 99 rfl ?_
                  exact ⟨.inr rfl, trivial, .done (nIeq hE.symm) rfl⟩
                · have k1 : ¬ btw x.trace 0 1152921504606846976 = false := by simp at k k2; simp [btw]; omega
                  rw [if_neg k1] at hE
                  refine go 99 rfl ?_
                  exact ⟨.inr rfl, trivial, .done (nIeq hE.symm) rfl⟩
end Go.Proofs.YtmohgegpcfkooaaGreatDoor
end

section
namespace Go.Proofs.YtmohgegpcfkooaaGreatDoor
open Go.Fw
variable [Gl]
set_option maxRecDepth 20000
set_option maxHeartbeats 4000000
def sgC (k : Int) (s : By) : List V := [nI k, .str s, .nilslice, .nilslice]
theorem l_stage1 (s : By) (h0 : s ≠ []) (h1 : s.length ≤ 200) : PTri Tryz.prog 58 [.agg (sgC 1 s)] (nI 0) := by
  refine PTri.of_safe Tryz.func58 rfl Tryz.results58 Tryz.ntmps58 rfl ?_
  refine go 99 rfl ?_
  repeat' (first | (refine Safe.gsK false rfl (by first | decide | (dsimp only; decide)) ?_; refine go 99 rfl ?_) | (refine Safe.gsK true rfl (by first | decide | (dsimp only; decide)) ?_; refine go 99 rfl ?_) | (refine Safe.brF rfl (by first | decide | (dsimp only; decide)) ?_; refine go 99 rfl ?_) | (refine Safe.brT rfl (by first | decide | (dsimp only; decide)) ?_; refine go 99 rfl ?_) | (refine Safe.gs rfl (fun a => ?_) (fun a => ?_) <;> refine go 99 rfl ?_) | (refine Safe.br rfl (fun a => ?_) (fun a => ?_) <;> refine go 99 rfl ?_))
  all_goals first
    | exact ⟨.inr rfl, trivial, .done rfl rfl⟩
    | (exfalso; simp_all; done)
    | (exfalso; simp_all; omega)
theorem l_stage2 (s : By) (h0 : s ≠ []) (h1 : s.length ≤ 200) : PTri Tryz.prog 58 [.agg (sgC 2 s)] (nI 0) := by
  refine PTri.of_safe Tryz.func58 rfl Tryz.results58 Tryz.ntmps58 rfl ?_
  refine go 99 rfl ?_
  repeat' (first | (refine Safe.gsK false rfl (by first | decide | (dsimp only; decide)) ?_; refine go 99 rfl ?_) | (refine Safe.gsK true rfl (by first | decide | (dsimp only; decide)) ?_; refine go 99 rfl ?_) | (refine Safe.brF rfl (by first | decide | (dsimp only; decide)) ?_; refine go 99 rfl ?_) | (refine Safe.brT rfl (by first | decide | (dsimp only; decide)) ?_; refine go 99 rfl ?_) | (refine Safe.gs rfl (fun a => ?_) (fun a => ?_) <;> refine go 99 rfl ?_) | (refine Safe.br rfl (fun a => ?_) (fun a => ?_) <;> refine go 99 rfl ?_))
  all_goals first
    | exact ⟨.inr rfl, trivial, .done rfl rfl⟩
    | (exfalso; simp_all; done)
    | (exfalso; simp_all; omega)
end Go.Proofs.YtmohgegpcfkooaaGreatDoor
end

section
namespace Go.Proofs.YtmohgegpcfkooaaGreatDoor
open Go.Fw
variable [Gl]
set_option maxRecDepth 20000
set_option maxHeartbeats 4000000
theorem ldSg (k : Int) {l : List By} {i : Nat} (hi : i < l.length) : ldAt Tryz.prog 47 (cat (sgC k) l) (i * 4) = some (.agg (sgC k l[i])) := ld_cat (enc := sgC k) (fun _ => rfl) hi (by kernel_rfl) (by kernel_rfl)
theorem l_stages (k : Int) (s : By) (h : PTri Tryz.prog 58 [.agg (sgC k s)] (nI 0)) : PTri Tryz.prog 31 [slV (sgC k) [s]] (nI 0) := by
  refine PTri.of_safe Tryz.func31 rfl Tryz.results31 Tryz.ntmps31 rfl ?_
  refine go 99 rfl ?_
  first | refine Safe.gsK true rfl rfl ?_ | refine Safe.gsK false rfl rfl ?_ | refine Safe.brT rfl rfl ?_ | refine Safe.brF rfl rfl ?_
  refine go 99 rfl ?_
  refine Safe.loop (α := Nat) (fun i => [(9, slV (sgC k) [s]), (10, nI [s].length), (11, nI i)]) (fun i => []) 0 (fun i => [s].length - i) (fun i => i ≤ [s].length) 0 (sgI 0) ⟨⟨fit rfl, fit rfl, fit rfl, trivial⟩, ⟨_, .refl _, List.nil_sublist _⟩, rfl⟩ (Nat.zero_le _) ?_
  rintro i hi
  refine go 99 rfl ?_
  refine Safe.br rfl (fun c => ?_) (fun c => ?_)
  · have hi : i < [s].length := ltc c
    have h0 : i = 0 := by simp at hi; exact hi
    subst h0
    refine go 99 rfl ?_
    refine Safe.idxF hi rfl rfl rfl ?_
    refine go 99 rfl ?_
    refine Safe.ldF (ldSg k hi) rfl rfl rfl ?_
    refine go 99 rfl ?_
    refine Safe.call (h) rfl rfl rfl ?_
    refine go 99 rfl ?_
    first | refine Safe.gsK true rfl rfl ?_ | refine Safe.gsK false rfl rfl ?_ | refine Safe.brT rfl rfl ?_ | refine Safe.brF rfl rfl ?_
    refine go 99 rfl ?_
    exact ⟨sgI 0, 1, hi, mlt hi, rfl, rfl, ⟨fit rfl, fit rfl, fit (rfl), trivial⟩, ⟨_, .refl _, List.nil_sublist _⟩, rfl⟩
  · refine go 99 rfl ?_
    exact ⟨.inr rfl, trivial, .done (rfl) rfl⟩
end Go.Proofs.YtmohgegpcfkooaaGreatDoor
end

section
namespace Go.Proofs.YtmohgegpcfkooaaGreatDoor
open Go.Fw
variable [Gl]
set_option maxRecDepth 20000
set_option maxHeartbeats 4000000
def Cont : Prop := ∀ (s t : By), s.length < 4294967281 → PTri Tryz.prog 25 [.str s, .str t] (.bool (Lib.contains s t))
theorem l_act1 (hc : Cont) (k : Int) (s : By) (y : En) (hy : okEn y) : PTri Tryz.prog 99 [.agg (sgC k s), enV y] (.tup [enV y, .bool (Lib.contains y.line s)]) := by
  have hb := hy.2.1
  simp only [big] at hb
  refine PTri.of_safe Tryz.func99 rfl Tryz.results99 Tryz.ntmps99 rfl ?_
  refine go 99 rfl ?_
  refine Safe.frzC 0 rfl rfl ?_
  refine Safe.frzC 1 rfl rfl ?_
  refine Safe.drawP mixed [0, 1, 2, 3, 4, 5, 6, 7] [(true, false), (true, true), (true, true), (true, true), (true, true), (true, true), (true, true), (true, true)] (by kernel_rfl) ?_
  refine go 99 rfl ?_
  refine Safe.ldF (rfl) rfl rfl rfl ?_
  refine go 99 rfl ?_
  refine Safe.ldF (rfl) rfl rfl rfl ?_
  refine go 99 rfl ?_
  refine Safe.ldF (rfl) rfl rfl rfl ?_
  refine go 99 rfl ?_
  refine Safe.call (hc y.line s (by omega)) rfl rfl rfl ?_
  refine Safe.tail (by kernel_rfl) ?_
  refine go 99 rfl ?_
  exact ⟨.inr rfl, trivial, .done (rfl) rfl⟩
end Go.Proofs.YtmohgegpcfkooaaGreatDoor
end

section
namespace Go.Proofs.YtmohgegpcfkooaaGreatDoor
open Go.Fw
variable [Gl]
set_option maxRecDepth 20000
set_option maxHeartbeats 4000000
def actL : List (V × V) := [(nI 1, .clo 99 []), (nI 2, .clo 100 []), (nI 3, .clo 101 []), (nI 4, .clo 103 []), (nI 5, .clo 104 []), (nI 6, .clo 106 []), (nI 7, .clo 108 []), (nI 8, .clo 110 [])]
def actM (n : Nat) : List (V × V) := actL.take n
theorem l_actions : TriL Tryz.prog 68 [] [] 0 (fun v h nx => v = .map 0 ∧ h = [(0, .map (actM 8))] ∧ nx = 1) := by
  refine TriL.of_safe Tryz.func68 rfl Tryz.results68 Tryz.ntmps68 rfl ?_
  refine go 5 rfl ?_
  refine Safe.mkMap rfl rfl ?_
  refine Safe.mapSet (es := actM 0) (es' := actM 1) (by kernel_rfl) (.inr rfl) rfl rfl rfl rfl (by kernel_rfl) rfl rfl (by kernel_rfl) rfl (by kernel_rfl) (by kernel_rfl) ?_
  refine Safe.mapSet (es := actM 1) (es' := actM 2) (by kernel_rfl) (.inr rfl) rfl rfl rfl rfl (by kernel_rfl) rfl rfl (by kernel_rfl) rfl (by kernel_rfl) (by kernel_rfl) ?_
  refine Safe.mapSet (es := actM 2) (es' := actM 3) (by kernel_rfl) (.inr rfl) rfl rfl rfl rfl (by kernel_rfl) rfl rfl (by kernel_rfl) rfl (by kernel_rfl) (by kernel_rfl) ?_
  refine Safe.mapSet (es := actM 3) (es' := actM 4) (by kernel_rfl) (.inr rfl) rfl rfl rfl rfl (by kernel_rfl) rfl rfl (by kernel_rfl) rfl (by kernel_rfl) (by kernel_rfl) ?_
  refine Safe.mapSet (es := actM 4) (es' := actM 5) (by kernel_rfl) (.inr rfl) rfl rfl rfl rfl (by kernel_rfl) rfl rfl (by kernel_rfl) rfl (by kernel_rfl) (by kernel_rfl) ?_
  refine Safe.mapSet (es := actM 5) (es' := actM 6) (by kernel_rfl) (.inr rfl) rfl rfl rfl rfl (by kernel_rfl) rfl rfl (by kernel_rfl) rfl (by kernel_rfl) (by kernel_rfl) ?_
  refine Safe.mapSet (es := actM 6) (es' := actM 7) (by kernel_rfl) (.inr rfl) rfl rfl rfl rfl (by kernel_rfl) rfl rfl (by kernel_rfl) rfl (by kernel_rfl) (by kernel_rfl) ?_
  refine Safe.mapSet (es := actM 7) (es' := actM 8) (by kernel_rfl) (.inr rfl) rfl rfl rfl rfl (by kernel_rfl) rfl rfl (by kernel_rfl) rfl (by kernel_rfl) (by kernel_rfl) ?_
  refine go 99 rfl ?_
  exact ⟨.inr rfl, rfl, rfl, .done rfl ⟨rfl, rfl, rfl⟩⟩
end Go.Proofs.YtmohgegpcfkooaaGreatDoor
end

section
namespace Go.Proofs.YtmohgegpcfkooaaGreatDoor
open Go.Fw
variable [Gl]
set_option maxRecDepth 20000
set_option maxHeartbeats 4000000
theorem ldEn {l : List En} {i : Nat} (hi : i < l.length) : ldAt Tryz.prog 35 (cat enC l) (i * 5) = some (enV l[i]) := ld_cat (enc := enC) (fun _ => rfl) hi (by kernel_rfl) (by kernel_rfl)
theorem l_passing (k : Int) (s : By) (y : En) : PTri Tryz.prog 40 [slV (sgC k) [s], slV enC [y]] (.clo 67 [.fptr [slV enC [y]] 0, .fptr [slV (sgC k) [s]] 0]) := by
  refine PTri.of_safe Tryz.func40 rfl Tryz.results40 Tryz.ntmps40 rfl ?_
  refine go 99 rfl ?_
  exact ⟨.inr rfl, trivial, .frz 0 rfl rfl (.frz 1 rfl rfl (.done rfl rfl))⟩
def pX (p : Bool) (y : En) : List (List V) := cond p [[enV y]] []
theorem it_pass (k : Int) (f : FuncId) (s : By) (y : En) (p : Bool) {r : Option Nat} (hr : mix (nI k) (actM 8) = some r) (hv : lkM .nilfunc false (actM 8) r = .clo f []) (hgo : isGo Tryz.prog f = true) (hp : PTri Tryz.prog f [.agg (sgC k s), enV y] (.tup [enV y, .bool p])) :
    IterC Tryz.prog 67 [.fptr [slV enC [y]] 0, .fptr [slV (sgC k) [s]] 0] (pX p y) := by
  intro l J S hy h hJ
  refine Tri.of_safeY Tryz.func67 rfl Tryz.results67 Tryz.ntmps67 rfl ?_
  refine go 99 rfl ?_
  refine Safe.scope0 (fun l m h nx hf dl q => by rcases q with ⟨h | h, _⟩ <;> cases h) ?_
  refine go 99 rfl ?_
  refine Safe.callL (rest := []) [] l_actions rfl rfl rfl rfl (.refl _) (fun v h' nx' q => ?_)
  obtain ⟨rfl, rfl, rfl⟩ := q
  refine Safe.hpO (h' := [(0, .map (actM 8))]) rfl ?_
  refine go 99 rfl ?_
  refine Safe.ldF ((rfl : ldAt Tryz.prog 28 [slV enC [y]] 0 = some (slV enC [y]))) rfl rfl rfl ?_
  refine go 99 rfl ?_
  refine Safe.loopH (α := Nat) (fun i => [(0, .yield l), (2, .fptr [slV (sgC k) [s]] 0), (4, .map 0), (12, slV enC [y]), (13, nI [y].length), (14, nI i)]) (fun i => [(0, .map (actM 8))]) 1 (fun i => [y].length - i) (fun i => i ≤ [y].length) (fun i hf dl => J (cond (Nat.blt 0 i) (pX p y).length 0) hf ∧ dl = []) 0 (sgI 1) ⟨⟨fit rfl, fit rfl, fit rfl, fit rfl, fit rfl, fit rfl, trivial⟩, ⟨_, .refl _, .refl _⟩, rfl⟩ (Nat.zero_le _) ⟨hJ, rfl⟩ ?_
  rintro i hi hf dl ⟨hJi, rfl⟩
  refine go 99 rfl ?_
  refine Safe.br rfl (fun c => ?_) (fun c => ?_)
  · have hi : i < [y].length := ltc c
    have h0 : i = 0 := by simp at hi; exact hi
    subst h0
    refine go 99 rfl ?_
    refine Safe.idxF hi rfl rfl rfl ?_
    refine go 99 rfl ?_
    refine Safe.ldF (ldEn hi) rfl rfl rfl ?_
    refine go 99 rfl ?_
    refine Safe.ldF ((rfl : ldAt Tryz.prog 22 [slV (sgC k) [s]] 0 = some (slV (sgC k) [s]))) rfl rfl rfl ?_
    refine go 99 rfl ?_
    refine Safe.loopH (α := Nat) (fun j => [(0, .yield l), (2, .fptr [slV (sgC k) [s]] 0), (4, .map 0), (6, .ptr 1 0), (12, slV enC [y]), (13, nI [y].length), (14, nI (0 : Nat)), (18, slV (sgC k) [s]), (19, nI [s].length), (20, nI j)]) (fun j => [(1, .cells 35 (enC y) 5), (0, .map (actM 8))]) 2 (fun j => [s].length - j) (fun j => j ≤ [s].length ∧ (0 < j → p = true)) (fun j hf dl => J 0 hf ∧ dl = []) 0 (sgI 2) ⟨⟨fit rfl, fit rfl, fit rfl, fit rfl, fit rfl, fit rfl, fit rfl, fit rfl, fit rfl, fit rfl, trivial⟩, ⟨_, .refl _, .refl _⟩, rfl⟩ ⟨Nat.zero_le _, fun h => absurd h (Nat.lt_irrefl 0)⟩ ⟨hJi, rfl⟩ ?_
    rintro j ⟨hj, hp1⟩ hf dl ⟨hJ0, rfl⟩
    refine go 99 rfl ?_
    refine Safe.br rfl (fun d => ?_) (fun d => ?_)
    · have hj : j < [s].length := ltc d
      have h0 : j = 0 := by simp at hj; exact hj
      subst h0
      refine go 99 rfl ?_
      refine Safe.idxF hj rfl rfl rfl ?_
      refine go 99 rfl ?_
      refine Safe.ldF (ldSg k hj) rfl rfl rfl ?_
      refine go 99 rfl ?_
      refine Safe.lookup hr hv rfl rfl rfl rfl rfl rfl rfl rfl (by kernel_rfl) rfl rfl ?_
      refine go 99 rfl ?_
      refine Safe.call hp rfl rfl (by rw [hgo]; rfl) ?_
      refine go 99 rfl ?_
      refine Safe.br rfl (fun e => ?_) (fun e => ?_)
      · have e1 : p = false := by simpa using e
        subst e1
        refine go 99 rfl ?_
        exact ⟨sgI 1, 1, hi, mlt hi, ⟨hJ0, rfl⟩, ⟨fit rfl, fit rfl, fit rfl, fit rfl, fit rfl, fit (rfl), trivial⟩, ⟨_, .refl _, subD (subD (subD (subK rfl rfl subN)))⟩, rfl⟩
      · have e1 : p = true := by simpa using e
        subst e1
        refine go 99 rfl ?_
        exact ⟨sgI 2, 1, ⟨hj, fun _ => rfl⟩, mlt hj, ⟨hJ0, rfl⟩, ⟨fit rfl, fit rfl, fit rfl, fit rfl, fit rfl, fit rfl, fit rfl, fit rfl, fit rfl, fit (rfl), trivial⟩, ⟨_, .refl _, subD (subD (subK rfl rfl (subK rfl rfl subN)))⟩, rfl⟩
    · have hj2 : j = [s].length := Nat.le_antisymm hj (gec d)
      subst hj2
      have e1 : p = true := hp1 Nat.zero_lt_one
      subst e1
      refine go 99 rfl ?_
      refine Safe.yield (hy 0 Nat.zero_lt_one hf hJ0) rfl rfl rfl (fun v hf1 hv => ?_)
      rcases hv with ⟨rfl, hJ2⟩ | ⟨rfl, hS⟩
      · refine ⟨rfl, ?_⟩
        refine go 99 rfl ?_
        refine Safe.brF rfl rfl ?_
        refine go 99 rfl ?_
        exact ⟨sgI 1, 1, hi, mlt hi, ⟨hJ2, rfl⟩, ⟨fit rfl, fit rfl, fit rfl, fit rfl, fit rfl, fit (rfl), trivial⟩, ⟨_, .refl _, subD (subK rfl rfl subN)⟩, rfl⟩
      · refine ⟨rfl, ?_⟩
        refine go 99 rfl ?_
        refine Safe.brT rfl rfl ?_
        refine go 99 rfl ?_
        exact ⟨.inr rfl, rfl, _, .done rfl rfl, .inr hS⟩
  · have hi2 : i = [y].length := Nat.le_antisymm hi (gec c)
    subst hi2
    refine go 99 rfl ?_
    exact ⟨.inl rfl, rfl, _, .done rfl rfl, .inl hJi⟩
end Go.Proofs.YtmohgegpcfkooaaGreatDoor
end

section
namespace Go.Proofs.YtmohgegpcfkooaaGreatDoor
open Go.Fw
variable [Gl]
set_option maxRecDepth 20000
set_option maxHeartbeats 4000000
theorem pX_ok (p : Bool) (y : En) : ∀ a, a ∈ pX p y → a.length = 1 ∧ a.all dry = true := by
  intro a ha
  cases p with
  | false => cases ha
  | true =>
    obtain rfl : a = [enV y] := by simpa [pX] using ha
    exact ⟨rfl, rfl⟩
def pV (p : Bool) (y : En) : V := cond p (slV enC [y]) .nilslice
theorem l_append (k : Int) (s : By) (p : Bool) (y : En) (hit : IterC Tryz.prog 67 [.fptr [slV enC [y]] 0, .fptr [slV (sgC k) [s]] 0] (pX p y)) : PTri Tryz.prog 66 [.nilslice, .clo 67 [.fptr [slV enC [y]] 0, .fptr [slV (sgC k) [s]] 0]] (pV p y) := by
  refine PTri.of_safe Tryz.func66 rfl Tryz.results66 Tryz.ntmps66 rfl ?_
  refine go 99 rfl ?_
  refine Safe.range (α := Bool) (fun b => [(0, .cells 28 [pV b y] 1)]) (fun k b => b = Nat.blt 0 k) (fun c b => False) false (hit) rfl rfl (pX_ok p y) rfl (rfl) ?_ ?_ ?_
  · rintro lb i hk b rfl
    cases p with
    | false => cases hk
    | true =>
      have h0 : i = 0 := by have : i < 1 := hk; omega
      subst h0
      refine go 99 rfl ?_
      refine Safe.toBody ?_
      refine go 99 rfl ?_
      refine Safe.appN (us := enC y) rfl rfl rfl rfl rfl (rfl) rfl (by omega) (rfl) (by decide) (fun N' hN' => ?_)
      refine Safe.frzO 3 rfl rfl ?_
      refine go 99 rfl ?_
      exact ⟨rfl, true, rfl, trivial, ⟨_, .refl _, subD (subD (List.Sublist.refl _))⟩, rfl⟩
  · rintro r b rfl
    cases p
    · refine go 99 rfl ?_
      exact ⟨.inr rfl, dlOk_1 trivial, .done rfl rfl⟩
    · refine go 99 rfl ?_
      exact ⟨.inr rfl, dlOk_1 trivial, .done rfl rfl⟩
  · rintro r b c h
    cases h
theorem l_collect (k : Int) (s : By) (p : Bool) (y : En) (hit : IterC Tryz.prog 67 [.fptr [slV enC [y]] 0, .fptr [slV (sgC k) [s]] 0] (pX p y)) : PTri Tryz.prog 39 [.clo 67 [.fptr [slV enC [y]] 0, .fptr [slV (sgC k) [s]] 0]] (pV p y) := by
  refine PTri.of_safe Tryz.func39 rfl Tryz.results39 Tryz.ntmps39 rfl ?_
  refine go 99 rfl ?_
  refine Safe.call (l_append k s p y hit) rfl rfl (by cases p <;> rfl) ?_
  refine go 99 rfl ?_
  exact ⟨.inr rfl, trivial, .done rfl (by cases p <;> rfl)⟩
theorem l_run (k : Int) (s : By) (p : Bool) (y : En) (hst : PTri Tryz.prog 58 [.agg (sgC k s)] (nI 0)) (hy : okEn y) (hc : chkEn y = 0) (hit : IterC Tryz.prog 67 [.fptr [slV enC [y]] 0, .fptr [slV (sgC k) [s]] 0] (pX p y)) :
    PTri Tryz.prog 15 [slV (sgC k) [s], slV enC [y]] (.tup [pV p y, nI 0]) := by
  have hce := l_checkE y hy
  rw [hc] at hce
  refine PTri.of_safe Tryz.func15 rfl Tryz.results15 Tryz.ntmps15 rfl ?_
  refine go 99 rfl ?_
  refine Safe.call (l_stages k s hst) rfl rfl rfl ?_
  refine go 99 rfl ?_
  first | refine Safe.gsK true rfl rfl ?_ | refine Safe.gsK false rfl rfl ?_ | refine Safe.brT rfl rfl ?_ | refine Safe.brF rfl rfl ?_
  refine go 99 rfl ?_
  refine Safe.loop (α := Nat) (fun i => [(0, slV (sgC k) [s]), (1, slV enC [y]), (14, slV enC [y]), (15, nI [y].length), (16, nI i)]) (fun i => []) 0 (fun i => [y].length - i) (fun i => i ≤ [y].length) 0 (sgI 0) ⟨⟨fit rfl, fit rfl, fit rfl, fit rfl, fit rfl, trivial⟩, ⟨_, .refl _, List.nil_sublist _⟩, rfl⟩ (Nat.zero_le _) ?_
  rintro i hi
  refine go 99 rfl ?_
  refine Safe.br rfl (fun c => ?_) (fun c => ?_)
  · have hi : i < [y].length := ltc c
    have h0 : i = 0 := by simp at hi; exact hi
    subst h0
    refine go 99 rfl ?_
    refine Safe.idxF hi rfl rfl rfl ?_
    refine go 99 rfl ?_
    refine Safe.ldF (ldEn hi) rfl rfl rfl ?_
    refine go 99 rfl ?_
    refine Safe.call (hce) rfl rfl rfl ?_
    refine go 99 rfl ?_
    first | refine Safe.gsK true rfl rfl ?_ | refine Safe.gsK false rfl rfl ?_ | refine Safe.brT rfl rfl ?_ | refine Safe.brF rfl rfl ?_
    refine go 99 rfl ?_
    exact ⟨sgI 0, 1, hi, mlt hi, rfl, rfl, ⟨fit rfl, fit rfl, fit rfl, fit rfl, fit (rfl), trivial⟩, ⟨_, .refl _, List.nil_sublist _⟩, rfl⟩
  · refine go 99 rfl ?_
    refine Safe.call (l_passing k s y) rfl rfl rfl ?_
    refine go 99 rfl ?_
    refine Safe.call (l_collect k s p y hit) rfl rfl (by cases p <;> rfl) ?_
    refine go 99 rfl ?_
    exact ⟨.inr rfl, trivial, .done rfl (by cases p <;> rfl)⟩
end Go.Proofs.YtmohgegpcfkooaaGreatDoor
end

section
namespace Go.Proofs.YtmohgegpcfkooaaGreatDoor
open Go.Fw
variable [Gl]
set_option maxRecDepth 20000
set_option maxHeartbeats 4000000
theorem l_act2 (hc : Cont) (k : Int) (s : By) (y : En) (hy : okEn y) : PTri Tryz.prog 100 [.agg (sgC k s), enV y] (.tup [enV y, .bool (!Lib.contains y.line s)]) := by
  have hb := hy.2.1
  simp only [big] at hb
  refine PTri.of_safe Tryz.func100 rfl Tryz.results100 Tryz.ntmps100 rfl ?_
  refine go 99 rfl ?_
  refine Safe.frzC 0 rfl rfl ?_
  refine Safe.frzC 1 rfl rfl ?_
  refine Safe.drawP mixed [0, 1, 2, 3, 4, 5, 6, 7, 8] [(true, false), (true, true), (true, true), (true, true), (true, true), (true, true), (true, false), (true, true), (true, true)] (by kernel_rfl) ?_
  refine go 99 rfl ?_
  refine Safe.ldF (rfl) rfl rfl rfl ?_
  refine go 99 rfl ?_
  refine Safe.ldF (rfl) rfl rfl rfl ?_
  refine go 99 rfl ?_
  refine Safe.ldF (rfl) rfl rfl rfl ?_
  refine go 99 rfl ?_
  refine Safe.call (hc y.line s (by omega)) rfl rfl rfl ?_
  refine Safe.fork2 (i := 6) (j := 7) (by kernel_rfl) rfl rfl (DStp.val rfl rfl rfl ?_) (DStp.st rfl rfl rfl rfl rfl rfl rfl rfl ?_)
  · refine DS.fork1 (i := 7) (by kernel_rfl) rfl (DStp.st rfl rfl rfl rfl rfl rfl rfl rfl ?_)
    refine DS.safe (is := [8]) (ck := [(true, true)]) (by kernel_rfl) ?_
    refine go 99 rfl ?_
    exact ⟨.inr rfl, trivial, .done (rfl) rfl⟩
  · refine DS.safe (is := [6, 8]) (ck := [(true, true), (true, true)]) (by kernel_rfl) ?_
    refine go 99 rfl ?_
    exact ⟨.inr rfl, trivial, .done (rfl) rfl⟩
theorem l_contains (hc : Cont) (s : By) (h0 : s ≠ []) (h1 : s.length ≤ 200) (y : En) (hy : okEn y) (hk : chkEn y = 0) :
    PTri Tryz.prog 15 [slV (sgC 1) [s], slV enC [y]] (.tup [pV (Lib.contains y.line s) y, nI 0]) :=
  l_run 1 s _ y (l_stage1 s h0 h1) hy hk (it_pass 1 99 s y _ (r := some 0) (by kernel_rfl) rfl (by kernel_rfl) (l_act1 hc 1 s y hy))
theorem l_notcontains (hc : Cont) (s : By) (h0 : s ≠ []) (h1 : s.length ≤ 200) (y : En) (hy : okEn y) (hk : chkEn y = 0) :
    PTri Tryz.prog 15 [slV (sgC 2) [s], slV enC [y]] (.tup [pV (!Lib.contains y.line s) y, nI 0]) :=
  l_run 2 s _ y (l_stage2 s h0 h1) hy hk (it_pass 2 100 s y _ (r := some 1) (by kernel_rfl) rfl (by kernel_rfl) (l_act2 hc 2 s y hy))
end Go.Proofs.YtmohgegpcfkooaaGreatDoor
end

section
namespace Go.Proofs.YtmohgegpcfkooaaGreatDoor
open Go.Fw
variable [Gl]
set_option maxRecDepth 20000
set_option maxHeartbeats 4000000
theorem ib_ge : ∀ (s : By) (c : UInt8), -1 ≤ Lib.indexByte s c
  | [], c => by simp [Lib.indexByte]
  | b :: l, c => by
    have := ib_ge l c
    simp only [Lib.indexByte]
    repeat' split <;> omega
theorem ib_cons (b : UInt8) (l : By) (c : UInt8) : decide (0 ≤ Lib.indexByte (b :: l) c) = (b == c || decide (0 ≤ Lib.indexByte l c)) := by
  have := ib_ge l c
  simp only [Lib.indexByte]
  by_cases e : b = c
  · simp [e]
  · have e1 : (b == c) = false := by simpa using e
    simp only [e1, Bool.false_or]
    split
    · rename_i h; simp_all
    · split
      · rename_i h; simp_all
      · rename_i h; simp_all; omega
theorem ib_drop {s : By} {i : Nat} {c : UInt8} (hi : i < s.length) : decide (0 ≤ Lib.indexByte (s.drop i) c) = (s[i] == c || decide (0 ≤ Lib.indexByte (s.drop (i + 1)) c)) := by
  rw [List.drop_eq_getElem_cons hi, ib_cons]
theorem u8eq {c d : UInt8} (h : ((c.toNat : Int) == (d.toNat : Int)) = true) : c = d := by
  have := of_decide_eq_true (p := (c.toNat : Int) = d.toNat) (by simpa using h)
  exact UInt8.toNat_inj.1 (by omega)
theorem u8ne {c d : UInt8} (h : ((c.toNat : Int) == (d.toNat : Int)) = false) : c ≠ d := fun e => by subst e; simp at h
theorem r_contains (s : By) (c : UInt8) (hs : s.length ≤ big) : PTri Tryz.prog 51 [.str s, .int .u8 c.toNat] (.bool (decide (0 ≤ Lib.indexByte s c))) := by
  simp only [big] at hs
  refine PTri.of_safe Tryz.func51 rfl Tryz.results51 Tryz.ntmps51 rfl ?_
  refine go 99 rfl ?_
  refine Safe.loop (α := Nat) (fun i => [(0, .str s), (1, .int .u8 c.toNat), (5, nI i)]) (fun i => []) 0 (fun i => s.length - i) (fun i => i ≤ s.length ∧ decide (0 ≤ Lib.indexByte s c) = decide (0 ≤ Lib.indexByte (s.drop i) c)) 0 (sgI 0) ⟨⟨fit rfl, fit rfl, fit rfl, trivial⟩, ⟨_, .refl _, List.nil_sublist _⟩, rfl⟩ ⟨Nat.zero_le _, rfl⟩ ?_
  rintro i ⟨hi, ha⟩
  refine go 99 rfl ?_
  refine Safe.br rfl (fun f => ?_) (fun f => ?_)
  · have hi : i < s.length := ltc f
    rw [ib_drop hi] at ha
    refine go 99 rfl ?_
    refine Safe.idxS hi rfl rfl rfl ?_
    refine go 99 rfl ?_
    refine Safe.br rfl (fun g => ?_) (fun g => ?_)
    · have g1 : s[i] = c := u8eq g
      refine go 99 rfl ?_
      exact ⟨.inr rfl, trivial, .done (bIeq (by rw [ha, g1]; simp)) rfl⟩
    · have g1 : s[i] ≠ c := u8ne g
      refine go 99 rfl ?_
      exact ⟨sgI 0, i + 1, ⟨hi, by rw [ha]; simp [g1]⟩, mlt hi, rfl, rfl, ⟨fit rfl, fit rfl, fit (isucc (by omega)), trivial⟩, ⟨_, .refl _, List.nil_sublist _⟩, rfl⟩
  · have hi2 : i = s.length := Nat.le_antisymm hi (gec f)
    subst hi2
    rw [List.drop_of_length_le (Nat.le_refl _)] at ha
    refine go 99 rfl ?_
    exact ⟨.inr rfl, trivial, .done (bIeq (by rw [ha]; rfl)) rfl⟩
theorem r_checkE (x : En) (h : okEn x) : PTri Tryz.prog 24 [enV x] (nI (chkEn x)) := by
  have hE := chkEn.eq_1 x
  refine PTri.of_safe Tryz.func24 rfl Tryz.results24 Tryz.ntmps24 rfl ?_
  refine go 99 rfl ?_
  refine Safe.gs rfl (fun c => ?_) (fun c => ?_)
  · have c1 : btw x.time 1 1099511627776 = false := by simp at c; simp [btw]; omega
    rw [if_pos c1] at hE
    refine go 99 rfl ?_
    exact ⟨.inr rfl, trivial, .done (nIeq hE.symm) rfl⟩
  · refine go 99 rfl ?_
    refine Safe.br rfl (fun c2 => ?_) (fun c2 => ?_)
    · have c1 : btw x.time 1 1099511627776 = false := by simp at c c2; simp [btw]; omega
      rw [if_pos c1] at hE
      refine go 99 rfl ?_
      exact ⟨.inr rfl, trivial, .done (nIeq hE.symm) rfl⟩
    · have c1 : ¬ btw x.time 1 1099511627776 = false := by simp at c c2; simp [btw]; omega
      rw [if_neg c1] at hE
      refine go 99 rfl ?_
      refine Safe.call (r_check x.labels h.1) rfl rfl rfl ?_
      refine go 99 rfl ?_
      refine Safe.br rfl (fun d => ?_) (fun d => ?_)
      · have d1 : chkLs x.labels ≠ 0 := by simpa using d
        rw [if_pos d1] at hE
        refine go 99 rfl ?_
        exact ⟨.inr rfl, trivial, .done (nIeq hE.symm) rfl⟩
      · have d1 : ¬ chkLs x.labels ≠ 0 := by simpa using d
        rw [if_neg d1] at hE
        refine go 99 rfl ?_
        refine Safe.br rfl (fun e => ?_) (fun e => ?_)
        · have e1 : 1000 < x.line.length := ltc (i := 1000) e
          rw [if_pos e1] at hE
          refine go 99 rfl ?_
          exact ⟨.inr rfl, trivial, .done (nIeq hE.symm) rfl⟩
        · have e1 : ¬ 1000 < x.line.length := by simp at e; omega
          rw [if_neg e1] at hE
          refine go 99 rfl ?_
          refine Safe.call (r_contains x.line 10 h.2.1) rfl rfl rfl ?_
          refine go 99 rfl ?_
          refine Safe.br rfl (fun f => ?_) (fun f => ?_)
          · have f1 : 0 ≤ Lib.indexByte x.line 10 := of_decide_eq_true f
            rw [if_pos f1] at hE
            refine go 99 rfl ?_
            exact ⟨.inr rfl, trivial, .done (nIeq hE.symm) rfl⟩
          · have f1 : ¬ 0 ≤ Lib.indexByte x.line 10 := of_decide_eq_false f
            rw [if_neg f1] at hE
            refine go 99 rfl ?_
            refine Safe.call (r_check x.fields h.2.2) rfl rfl rfl ?_
            refine go 99 rfl ?_
            refine Safe.br rfl (fun g => ?_) (fun g => ?_)
            · have g1 : chkLs x.fields ≠ 0 := by simpa using g
              rw [if_pos g1] at hE
              refine go 99 rfl ?_
              exact ⟨.inr rfl, trivial, .done (nIeq hE.symm) rfl⟩
            · have g1 : ¬ chkLs x.fields ≠ 0 := by simpa using g
              rw [if_neg g1] at hE
              refine go 99 rfl ?_
              refine Safe.gs rfl (fun k => ?_) (fun k => ?_)
              · have k1 : btw x.trace 0 1152921504606846976 = false := by simp at k; simp [btw]; omega
                rw [if_pos k1] at hE
                refine go 99 rfl ?_
                exact ⟨.inr rfl, trivial, .done (nIeq hE.symm) rfl⟩
              · refine go 99 rfl ?_
                refine Safe.br rfl (fun k2 => ?_) (fun k2 => ?_)
                · have k1 : btw x.trace 0 1152921504606846976 = false := by simp at k k2; simp [btw]; omega
                  rw [if_pos k1] at hE
                  refine go 99 rfl ?_
                  exact ⟨.inr rfl, trivial, .done (nIeq hE.symm) rfl⟩
                · have k1 : ¬ btw x.trace 0 1152921504606846976 = false := by simp at k k2; simp [btw]; omega
                  rw [if_neg k1] at hE
                  refine go 99 rfl ?_
                  exact ⟨.inr rfl, trivial, .done (nIeq hE.symm) rfl⟩
end Go.Proofs.YtmohgegpcfkooaaGreatDoor
end

section
namespace Go.Proofs.YtmohgegpcfkooaaGreatDoor
open Go.Fw
variable [Gl]
set_option maxRecDepth 20000
set_option maxHeartbeats 4000000
theorem r_order (a b : Int) : PTri Tryz.prog 71 [nI a, nI b] (nI (cI a b)) := by
  refine PTri.of_safe Tryz.func71 rfl Tryz.results71 Tryz.ntmps71 rfl ?_
  refine go 99 rfl ?_
  refine Safe.br rfl (fun c => ?_) (fun c => ?_)
  · refine go 99 rfl ?_
    exact ⟨.inr rfl, trivial, .done (nIeq (by simp at c; simp [cI, c])) rfl⟩
  · refine go 99 rfl ?_
    refine Safe.br rfl (fun d => ?_) (fun d => ?_)
    · refine go 99 rfl ?_
      exact ⟨.inr rfl, trivial, .done (nIeq (by simp at c d; simp only [cI]; repeat' split <;> omega)) rfl⟩
    · refine go 99 rfl ?_
      exact ⟨.inr rfl, trivial, .done (nIeq (by simp at c d; simp only [cI]; repeat' split <;> omega)) rfl⟩
theorem o_self (a : Int) : PTri Tryz.prog 71 [nI a, nI a] (nI 0) := by
  have := r_order a a
  rwa [cI_zero.2 rfl] at this
theorem t_self (a : By) : PTri Tryz.prog 73 [.str a, .str a] (nI 0) := by
  have := r_text a a
  rwa [cS_self] at this
theorem cLs_self : ∀ l : List Lb, cLs l l = 0
  | [] => rfl
  | x :: l => by
    rw [cLs, if_pos (by rw [cL_eq, cS_self, if_pos rfl, cS_self]), cLs_self l]
theorem l_self (l : List Lb) (h : l.length ≤ big) : PTri Tryz.prog 72 [slV lbC l, slV lbC l] (nI 0) := by
  have := r_cmpLs l l h h
  rwa [cLs_self] at this
theorem r_cmpSelf (y : En) (hy : okEn y) : PTri Tryz.prog 46 [enV y, enV y] (nI 0) := by
  refine PTri.of_safe Tryz.func46 rfl Tryz.results46 Tryz.ntmps46 rfl ?_
  refine go 99 rfl ?_
  refine Safe.frzC 0 rfl rfl ?_
  refine Safe.frzC 1 rfl rfl ?_
  refine Safe.drawP mixed [0, 1, 2, 3, 4, 5, 6, 7, 8, 9, 10, 11, 12, 13, 14, 15, 16, 17, 18, 19, 20, 21, 22, 23, 24, 25, 26] [(true, true), (true, true), (true, true), (true, true), (true, true), (true, true), (true, true), (true, true), (true, true), (true, true), (true, true), (true, true), (true, true), (true, true), (true, true), (true, true), (true, true), (true, true), (true, true), (true, true), (true, true), (true, true), (true, true), (true, true), (true, true), (true, true), (true, true)] (by kernel_rfl) ?_
  refine go 99 rfl ?_
  refine Safe.ldF (rfl) rfl rfl rfl ?_
  refine go 99 rfl ?_
  refine Safe.ldF (rfl) rfl rfl rfl ?_
  refine go 99 rfl ?_
  refine Safe.call (o_self y.time) rfl rfl rfl ?_
  refine go 99 rfl ?_
  refine Safe.ldF (rfl) rfl rfl rfl ?_
  refine go 99 rfl ?_
  refine Safe.ldF (rfl) rfl rfl rfl ?_
  refine go 99 rfl ?_
  refine Safe.call (l_self y.labels hy.1.1) rfl rfl rfl ?_
  refine go 99 rfl ?_
  refine Safe.ldF (rfl) rfl rfl rfl ?_
  refine go 99 rfl ?_
  refine Safe.ldF (rfl) rfl rfl rfl ?_
  refine go 99 rfl ?_
  refine Safe.call (t_self y.line) rfl rfl rfl ?_
  refine go 99 rfl ?_
  refine Safe.ldF (rfl) rfl rfl rfl ?_
  refine go 99 rfl ?_
  refine Safe.ldF (rfl) rfl rfl rfl ?_
  refine go 99 rfl ?_
  refine Safe.call (l_self y.fields hy.2.2.1) rfl rfl rfl ?_
  refine go 99 rfl ?_
  refine Safe.ldF (rfl) rfl rfl rfl ?_
  refine go 99 rfl ?_
  refine Safe.ldF (rfl) rfl rfl rfl ?_
  refine go 99 rfl ?_
  refine Safe.call (o_self y.trace) rfl rfl rfl ?_
  refine go 99 rfl ?_
  refine Safe.bsF rfl rfl ?_
  refine go 99 rfl ?_
  refine Safe.loop (α := Nat) (fun i => [(5, slV inC [0, 0, 0, 0, 0]), (6, nI i)]) (fun i => []) 2 (fun i => 5 - i) (fun i => i ≤ 5) 0 (sgI 2) ⟨⟨fit rfl, fit rfl, trivial⟩, ⟨_, .refl _, List.nil_sublist _⟩, rfl⟩ (Nat.zero_le _) ?_
  rintro i hi
  refine go 99 rfl ?_
  refine Safe.br rfl (fun c => ?_) (fun c => ?_)
  · have hi : i < [0, 0, 0, 0, (0 : Int)].length := ltc c
    have h0 : [0, 0, 0, 0, (0 : Int)][i] = 0 := by
      have : i < 5 := hi
      match i, this with
      | 0, _ => rfl
      | 1, _ => rfl
      | 2, _ => rfl
      | 3, _ => rfl
      | 4, _ => rfl
    refine go 99 rfl ?_
    refine Safe.idxF hi rfl rfl rfl ?_
    refine go 99 rfl ?_
    refine Safe.ldF (ldI hi) rfl rfl rfl ?_
    refine go 99 rfl ?_
    refine Safe.br rfl (fun d => ?_) (fun d => ?_)
    · exfalso
      rw [h0] at d
      cases d
    · refine go 99 rfl ?_
      exact ⟨sgI 2, i + 1, hi, mlt hi, rfl, rfl, ⟨fit rfl, fit (isucc (by simp at hi; omega)), trivial⟩, ⟨_, .refl _, List.nil_sublist _⟩, rfl⟩
  · refine go 99 rfl ?_
    exact ⟨.inr rfl, trivial, .done (rfl) rfl⟩
end Go.Proofs.YtmohgegpcfkooaaGreatDoor
end

section
namespace Go.Proofs.YtmohgegpcfkooaaGreatDoor
open Go.Fw
variable [Gl]
set_option maxRecDepth 20000
set_option maxHeartbeats 4000000
theorem r_sameSelf (y : En) (hy : okEn y) : PTri Tryz.prog 19 [slV enC [y], slV enC [y]] (.bool true) := by
  refine PTri.of_safe Tryz.func19 rfl Tryz.results19 Tryz.ntmps19 rfl ?_
  refine go 99 rfl ?_
  first | refine Safe.gsK true rfl rfl ?_ | refine Safe.gsK false rfl rfl ?_ | refine Safe.brT rfl rfl ?_ | refine Safe.brF rfl rfl ?_
  refine go 99 rfl ?_
  refine Safe.loop (α := Nat) (fun i => [(0, slV enC [y]), (1, slV enC [y]), (5, nI i)]) (fun i => []) 0 (fun i => [y].length - i) (fun i => i ≤ [y].length) 0 (sgI 0) ⟨⟨fit rfl, fit rfl, fit rfl, trivial⟩, ⟨_, .refl _, List.nil_sublist _⟩, rfl⟩ (Nat.zero_le _) ?_
  rintro i hi
  refine go 99 rfl ?_
  refine Safe.br rfl (fun c => ?_) (fun c => ?_)
  · have hi : i < [y].length := ltc c
    have h0 : i = 0 := by simp at hi; exact hi
    subst h0
    refine go 99 rfl ?_
    refine Safe.drawP mixed [0, 1, 2, 3, 4, 5, 6, 7, 8, 9] [(true, true), (true, true), (true, true), (true, true), (true, true), (true, true), (true, true), (true, true), (true, true), (true, true)] (by kernel_rfl) ?_
    refine go 99 rfl ?_
    refine Safe.idxF hi rfl rfl rfl ?_
    refine go 99 rfl ?_
    refine Safe.ldF (ldEn hi) rfl rfl rfl ?_
    refine go 99 rfl ?_
    refine Safe.idxF hi rfl rfl rfl ?_
    refine go 99 rfl ?_
    refine Safe.ldF (ldEn hi) rfl rfl rfl ?_
    refine go 99 rfl ?_
    refine Safe.call (r_cmpSelf y hy) rfl rfl rfl ?_
    refine go 99 rfl ?_
    first | refine Safe.gsK true rfl rfl ?_ | refine Safe.gsK false rfl rfl ?_ | refine Safe.brT rfl rfl ?_ | refine Safe.brF rfl rfl ?_
    refine go 99 rfl ?_
    exact ⟨sgI 0, 1, hi, mlt hi, rfl, rfl, ⟨fit rfl, fit rfl, fit (rfl), trivial⟩, ⟨_, .refl _, List.nil_sublist _⟩, rfl⟩
  · refine go 99 rfl ?_
    exact ⟨.inr rfl, trivial, .done (rfl) rfl⟩
def grE1 (x : En) : Bool := decide (1100 < x.line.length) || (grLs x.labels || grLs x.fields)
theorem r_greatOne (x : En) (h : okEn x) : PTri Tryz.prog 48 [enV x] (.bool (grE1 x)) := by
  have hE := grE1.eq_1 x
  refine PTri.of_safe Tryz.func48 rfl Tryz.results48 Tryz.ntmps48 rfl ?_
  refine go 99 rfl ?_
  refine Safe.gs rfl (fun c => ?_) (fun c => ?_)
  · have c1 : 1100 < x.line.length := ltc (i := 1100) c
    refine go 99 rfl ?_
    exact ⟨.inr rfl, trivial, .done (bIeq (by rw [hE, decide_eq_true c1]; rfl)) rfl⟩
  · have c1 : ¬ 1100 < x.line.length := by simp at c; omega
    rw [decide_eq_false c1, Bool.false_or] at hE
    refine go 99 rfl ?_
    refine Safe.call (g_lbs x.labels h.1) rfl rfl rfl ?_
    refine go 99 rfl ?_
    refine Safe.gs rfl (fun d => ?_) (fun d => ?_)
    · refine go 99 rfl ?_
      exact ⟨.inr rfl, trivial, .done (bIeq (by rw [hE, d]; rfl)) rfl⟩
    · rw [d, Bool.false_or] at hE
      refine go 99 rfl ?_
      refine Safe.call (g_lbs x.fields h.2.2) rfl rfl rfl ?_
      refine go 99 rfl ?_
      exact ⟨.inr rfl, trivial, .done (bIeq hE.symm) rfl⟩
end Go.Proofs.YtmohgegpcfkooaaGreatDoor
end

section
namespace Go.Proofs.YtmohgegpcfkooaaGreatDoor
open Go.Fw
variable [Gl]
set_option maxRecDepth 20000
set_option maxHeartbeats 4000000
theorem ldEn2 {l : List En} {i : Nat} (hi : i < l.length) : ldAt Tryz.prog 9 (cat enC l) (i * 5 + 2) = some (.str l[i].line) := ld_cat1 (enc := enC) 2 (fun _ => rfl) hi (by decide) (by kernel_rfl) rfl
def lnS (l : List En) : Nat := (l.map fun x => x.line.length).sum
theorem lnS_step {l : List En} {i : Nat} (hi : i < l.length) : lnS (l.take (i + 1)) = lnS (l.take i) + l[i].line.length := by
  rw [lnS, List.take_succ_eq_append_getElem hi, List.map_append, List.sum_append]; simp [lnS]
theorem lnS_le : ∀ {l : List En}, (∀ x ∈ l, x.line.length ≤ big) → lnS l ≤ l.length * big
  | [], _ => by simp [lnS]
  | a :: r, h => by
    have h1 := h a (by simp)
    have h2 := lnS_le (l := r) fun x hx => h x (by simp [hx])
    simp only [lnS, List.map_cons, List.sum_cons, List.length_cons] at *
    simp only [big] at *; omega
def okEns (l : List En) : Prop := l.length ≤ big ∧ ∀ x ∈ l, okEn x
def grEs (l : List En) : Bool := decide (12 < l.length) || (l.any grE1 || decide (3000 < lnS l))
theorem r_great (l : List En) (h : okEns l) : PTri Tryz.prog 21 [slV enC l] (.bool (grEs l)) := by
  have hE := grEs.eq_1 l
  have hb := h.1
  simp only [big] at hb
  refine PTri.of_safe Tryz.func21 rfl Tryz.results21 Tryz.ntmps21 rfl ?_
  refine go 99 rfl ?_
  refine Safe.br rfl (fun c => ?_) (fun c => ?_)
  · have c1 : 12 < l.length := ltc (i := 12) c
    refine go 99 rfl ?_
    exact ⟨.inr rfl, trivial, .done (bIeq (by rw [hE, decide_eq_true c1]; rfl)) rfl⟩
  · have c1 : ¬ 12 < l.length := by simp at c; omega
    rw [decide_eq_false c1, Bool.false_or] at hE
    refine go 99 rfl ?_
    refine Safe.loop (α := Nat) (fun i => [(0, slV enC l), (3, nI (lnS (l.take i) : Nat)), (4, nI i)]) (fun i => []) 0 (fun i => l.length - i) (fun i => i ≤ l.length ∧ grEs l = ((l.drop i).any grE1 || decide (3000 < lnS l))) 0 (sgI 0) ⟨⟨fit rfl, fit rfl, fit rfl, trivial⟩, ⟨_, .refl _, List.nil_sublist _⟩, rfl⟩ ⟨Nat.zero_le _, hE⟩ ?_
    rintro i ⟨hi, ha⟩
    have hs : lnS (l.take i) ≤ 50331648 := by
      have := lnS_le (l := l.take i) fun x hx => (h.2 x (List.mem_of_mem_take hx)).2.1
      simp only [big] at this
      have h3 : (l.take i).length ≤ 12 := by simp; omega
      omega
    refine go 99 rfl ?_
    refine Safe.br rfl (fun d => ?_) (fun d => ?_)
    · have hi : i < l.length := ltc d
      have hy := h.2 l[i] (List.getElem_mem hi)
      have hyl := hy.2.1
      simp only [big] at hyl
      rw [any_drop hi] at ha
      refine go 99 rfl ?_
      refine Safe.idxF hi rfl rfl rfl ?_
      refine go 99 rfl ?_
      refine Safe.ldF (ldEn hi) rfl rfl rfl ?_
      refine go 99 rfl ?_
      refine Safe.call (r_greatOne l[i] hy) rfl rfl rfl ?_
      refine go 99 rfl ?_
      refine Safe.br rfl (fun e => ?_) (fun e => ?_)
      · refine go 99 rfl ?_
        exact ⟨.inr rfl, trivial, .done (bIeq (by rw [ha, e]; rfl)) rfl⟩
      · rw [e, Bool.false_or] at ha
        refine go 99 rfl ?_
        refine Safe.idxF hi rfl rfl rfl ?_
        refine go 99 rfl ?_
        refine Safe.ldF (ldEn2 hi) rfl rfl rfl ?_
        refine go 99 rfl ?_
        exact ⟨sgI 0, i + 1, ⟨hi, ha⟩, mlt hi, rfl, rfl, ⟨fit rfl, fit (int_fit (by rw [lnS_step hi]; omega) (by omega) (by omega)), fit (isucc (by omega)), trivial⟩, ⟨_, .refl _, List.nil_sublist _⟩, rfl⟩
    · have hi2 : i = l.length := Nat.le_antisymm hi (gec d)
      subst hi2
      rw [List.drop_of_length_le (Nat.le_refl _), List.any_nil, Bool.false_or] at ha
      rw [List.take_length] at *
      refine go 99 rfl ?_
      exact ⟨.inr rfl, trivial, .done (bIeq (by rw [ha]; simp; omega)) rfl⟩
end Go.Proofs.YtmohgegpcfkooaaGreatDoor
end

section
namespace Go.Proofs.YtmohgegpcfkooaaGreatDoor
open Go.Fw
variable [Gl]
set_option maxRecDepth 20000
set_option maxHeartbeats 4000000
theorem f_bad (x : En) (h : okEn x) : PTri Tryz.prog 23 [enV x] (.bool (chkEn x != 0)) := by
  refine PTri.of_safe Tryz.func23 rfl Tryz.results23 Tryz.ntmps23 rfl ?_
  refine go 99 rfl ?_
  refine Safe.call (r_checkE x h) rfl rfl rfl ?_
  refine go 99 rfl ?_
  exact ⟨.inr rfl, trivial, .done (rfl) rfl⟩
def ixL : List En → Nat → Int
  | [], _ => -1
  | a :: r, i => if (chkEn a != 0) = true then (i : Int) else ixL r (i + 1)
theorem ixL_drop {l : List En} {i : Nat} (hi : i < l.length) : ixL (l.drop i) i = if (chkEn l[i] != 0) = true then (i : Int) else ixL (l.drop (i + 1)) (i + 1) := by
  rw [List.drop_eq_getElem_cons hi]; rfl
theorem ixL_any : ∀ (l : List En) (i : Nat), decide (0 ≤ ixL l i) = l.any fun x => chkEn x != 0
  | [], i => rfl
  | a :: r, i => by
    rw [ixL, List.any_cons]
    by_cases e : (chkEn a != 0) = true
    · rw [if_pos e, e, Bool.true_or]; simp
    · rw [if_neg e, ixL_any r (i + 1)]; rw [Bool.not_eq_true] at e; rw [e, Bool.false_or]
theorem s_index (l : List En) (h : okEns l) : PTri Tryz.prog 49 [slV enC l, .clo 23 []] (nI (ixL l 0)) := by
  have hb := h.1
  simp only [big] at hb
  refine PTri.of_safe Tryz.func49 rfl Tryz.results49 Tryz.ntmps49 rfl ?_
  refine go 99 rfl ?_
  refine Safe.loop (α := Nat) (fun i => [(0, slV enC l), (1, .clo 23 []), (7, nI l.length), (8, nI i)]) (fun i => []) 0 (fun i => l.length - i) (fun i => i ≤ l.length ∧ ixL l 0 = ixL (l.drop i) i) 0 (sgI 0) ⟨⟨fit rfl, fit rfl, fit rfl, fit rfl, trivial⟩, ⟨_, .refl _, List.nil_sublist _⟩, rfl⟩ ⟨Nat.zero_le _, rfl⟩ ?_
  rintro i ⟨hi, ha⟩
  refine go 99 rfl ?_
  refine Safe.br rfl (fun c => ?_) (fun c => ?_)
  · have hi : i < l.length := ltc c
    rw [ixL_drop hi] at ha
    refine go 99 rfl ?_
    refine Safe.idxF hi rfl rfl rfl ?_
    refine go 99 rfl ?_
    refine Safe.ldF (ldEn hi) rfl rfl rfl ?_
    refine go 99 rfl ?_
    refine Safe.call (f_bad l[i] (h.2 l[i] (List.getElem_mem hi))) rfl rfl rfl ?_
    refine go 99 rfl ?_
    refine Safe.br rfl (fun d => ?_) (fun d => ?_)
    · refine go 99 rfl ?_
      exact ⟨.inr rfl, trivial, .done (nIeq (by rw [ha, if_pos d])) rfl⟩
    · refine go 99 rfl ?_
      exact ⟨sgI 0, i + 1, ⟨hi, by rw [ha, if_neg (by rw [d]; simp)]⟩, mlt hi, rfl, rfl, ⟨fit rfl, fit rfl, fit rfl, fit (isucc (by omega)), trivial⟩, ⟨_, .refl _, List.nil_sublist _⟩, rfl⟩
  · have hi2 : i = l.length := Nat.le_antisymm hi (gec c)
    subst hi2
    rw [List.drop_of_length_le (Nat.le_refl _)] at ha
    refine go 99 rfl ?_
    exact ⟨.inr rfl, trivial, .done (nIeq (by rw [ha]; rfl)) rfl⟩
theorem s_has (l : List En) (h : okEns l) : PTri Tryz.prog 22 [slV enC l, .clo 23 []] (.bool (l.any fun x => chkEn x != 0)) := by
  refine PTri.of_safe Tryz.func22 rfl Tryz.results22 Tryz.ntmps22 rfl ?_
  refine go 99 rfl ?_
  refine Safe.call (s_index l h) rfl rfl rfl ?_
  refine go 99 rfl ?_
  exact ⟨.inr rfl, trivial, .done (bIeq (ixL_any l 0)) rfl⟩
end Go.Proofs.YtmohgegpcfkooaaGreatDoor
end

section
namespace Go.Proofs.YtmohgegpcfkooaaGreatDoor
open Go.Fw
variable [Gl]
set_option maxRecDepth 20000
set_option maxHeartbeats 4000000
theorem s_grow : TriL Tryz.prog 47 [.nilslice, nI 1] [] 0 (fun v h nx => ∃ N' : Nat, 1 ≤ N' ∧ v = .slice 0 0 0 N' ∧ h = [(0, .cells 35 (zcells [nI 0, .nilslice, .str [], .nilslice, nI 0] 5) (N' * 5))] ∧ nx = 1) := by
  refine TriL.of_safeN Tryz.func47 rfl Tryz.results47 Tryz.ntmps47 rfl ?_
  refine go 99 rfl ?_
  first | refine Safe.gsK true rfl rfl ?_ | refine Safe.gsK false rfl rfl ?_ | refine Safe.brT rfl rfl ?_ | refine Safe.brF rfl rfl ?_
  refine go 99 rfl ?_
  refine Safe.capN (e := 35) rfl (by kernel_rfl) rfl rfl ?_
  refine go 99 rfl ?_
  first | refine Safe.gsK true rfl rfl ?_ | refine Safe.gsK false rfl rfl ?_ | refine Safe.brT rfl rfl ?_ | refine Safe.brF rfl rfl ?_
  refine go 99 rfl ?_
  refine Safe.capN (e := 35) rfl (by kernel_rfl) rfl rfl ?_
  refine go 99 rfl ?_
  refine Safe.slNh (e := 35) (k := 5) rfl rfl rfl (by kernel_rfl) (by kernel_rfl) rfl ?_
  refine go 99 rfl ?_
  refine Safe.appZN (j := 1) rfl rfl rfl rfl rfl rfl (by decide) (by decide) rfl rfl (fun N' hN' => ?_)
  refine go 99 rfl ?_
  refine Safe.slO 0 0 (Nat.zero_le _) (Nat.zero_le _) rfl rfl rfl rfl ?_
  refine Safe.eqv (v' := .slice 0 0 0 N') (by rw [Nat.zero_mul, Nat.add_zero, ite_self]; rfl) ?_
  refine go 99 rfl ?_
  exact ⟨.inr rfl, trivial, .done rfl ⟨sgI 1, .slice 0 0 0 N', [(0, .cells 35 (zcells [nI 0, .nilslice, .str [], .nilslice, nI 0] 5) (N' * 5))], 1, ⟨⟨fit rfl, trivial⟩, ⟨_, .refl _, subK rfl rfl subN⟩, rfl⟩, N', hN', rfl, rfl, rfl⟩⟩
end Go.Proofs.YtmohgegpcfkooaaGreatDoor
end

section
namespace Go.Proofs.YtmohgegpcfkooaaGreatDoor
open Go.Fw
variable [Gl]
set_option maxRecDepth 20000
set_option maxHeartbeats 4000000
theorem s_concat_true (y : En) : PTri Tryz.prog 20 [.fslice [slV enC [y], .nilslice] 2] (slV enC [y]) := by
  refine PTri.of_safe Tryz.func20 rfl Tryz.results20 Tryz.ntmps20 rfl ?_
  refine go 99 rfl ?_
  refine Safe.loop (α := Nat) (fun i => [(0, .fslice [slV enC [y], .nilslice] 2), (3, nI ((min i 1) : Nat)), (9, .fslice [slV enC [y], .nilslice] 2), (10, nI (2 : Nat)), (11, nI i)]) (fun i => []) 0 (fun i => 2 - i) (fun i => i ≤ 2) 0 (sgI 0) ⟨⟨fit rfl, fit rfl, fit rfl, fit rfl, fit rfl, trivial⟩, ⟨_, .refl _, List.nil_sublist _⟩, rfl⟩ (Nat.zero_le _) ?_
  rintro i hi
  refine go 99 rfl ?_
  refine Safe.br rfl (fun c => ?_) (fun c => ?_)
  · have hi : i < 2 := ltc (n := 2) c
    obtain rfl | rfl : i = 0 ∨ i = 1 := by omega
    · refine go 99 rfl ?_
      refine Safe.idxF (i := 0) (by decide) rfl rfl rfl ?_
      refine go 99 rfl ?_
      refine Safe.ldF (rfl) rfl rfl rfl ?_
      refine go 99 rfl ?_
      first | refine Safe.gsK true rfl rfl ?_ | refine Safe.gsK false rfl rfl ?_ | refine Safe.brT rfl rfl ?_ | refine Safe.brF rfl rfl ?_
      refine go 99 rfl ?_
      exact ⟨sgI 0, 1, (by decide), (by decide), rfl, rfl, ⟨fit rfl, fit (rfl), fit rfl, fit rfl, fit (rfl), trivial⟩, ⟨_, .refl _, List.nil_sublist _⟩, rfl⟩
    · refine go 99 rfl ?_
      refine Safe.idxF (i := 1) (by decide) rfl rfl rfl ?_
      refine go 99 rfl ?_
      refine Safe.ldF (rfl) rfl rfl rfl ?_
      refine go 99 rfl ?_
      first | refine Safe.gsK true rfl rfl ?_ | refine Safe.gsK false rfl rfl ?_ | refine Safe.brT rfl rfl ?_ | refine Safe.brF rfl rfl ?_
      refine go 99 rfl ?_
      exact ⟨sgI 0, 2, (by decide), (by decide), rfl, rfl, ⟨fit rfl, fit (rfl), fit rfl, fit rfl, fit (rfl), trivial⟩, ⟨_, .refl _, List.nil_sublist _⟩, rfl⟩
  · have hi2 : i = 2 := Nat.le_antisymm hi (gec (n := 2) c)
    subst hi2
    refine go 99 rfl ?_
    refine Safe.callL (rest := []) [] s_grow rfl rfl rfl rfl (.refl _) (fun v h' nx' q => ?_)
    obtain ⟨N, hN, rfl, rfl, rfl⟩ := q
    refine Safe.hpO (h' := [(0, .cells 35 (zcells [nI 0, .nilslice, .str [], .nilslice, nI 0] 5) (N * 5))]) rfl ?_
    refine go 99 rfl ?_
    refine Safe.loop (α := (Nat × List V × Nat)) (fun q => [(0, .fslice [slV enC [y], .nilslice] 2), (6, .slice 0 0 (min q.1 1) q.2.2), (25, .fslice [slV enC [y], .nilslice] 2), (26, nI (2 : Nat)), (27, nI q.1)]) (fun q => [(0, .cells 35 q.2.1 (q.2.2 * 5))]) 1 (fun q => 2 - q.1) (fun q => q.1 ≤ 2 ∧ ((min q.1 1) = 1 → q.2.1 = enC y)) (0, zcells [nI 0, .nilslice, .str [], .nilslice, nI 0] 5, N) (sgI 1) ⟨⟨fit rfl, fit rfl, fit rfl, fit rfl, fit rfl, trivial⟩, ⟨_, .refl _, .refl _⟩, rfl⟩ ⟨Nat.zero_le _, fun h => by cases h⟩ ?_
    rintro ⟨i, cs, M⟩ ⟨hi, h1⟩
    dsimp only at hi h1
    refine go 99 rfl ?_
    refine Safe.br rfl (fun d => ?_) (fun d => ?_)
    · have hi : i < 2 := ltc (n := 2) d
      obtain rfl | rfl : i = 0 ∨ i = 1 := by omega
      · refine go 99 rfl ?_
        refine Safe.idxF (i := 0) (by decide) rfl rfl rfl ?_
        refine go 99 rfl ?_
        refine Safe.ldF (rfl) rfl rfl rfl ?_
        refine go 99 rfl ?_
        refine Safe.appL (us := enC y) (cs2 := enC y) (len2 := 1) rfl rfl rfl rfl rfl rfl rfl rfl (rfl) rfl (Nat.zero_le _) rfl rfl (Nat.le_of_ble_eq_true rfl) (fun N' hN' => ?_)
        refine go 99 rfl ?_
        exact ⟨[(0, 1)], (1, enC y, N'), ⟨Nat.le_of_ble_eq_true rfl, fun _ => rfl⟩, (Nat.le_of_ble_eq_true rfl), rfl, rfl, ⟨fit rfl, fit rfl, fit rfl, fit rfl, fit (rfl), trivial⟩, ⟨_, .refl _, subK rfl rfl subN⟩, rfl⟩
      · refine go 99 rfl ?_
        refine Safe.idxF (i := 1) (by decide) rfl rfl rfl ?_
        refine go 99 rfl ?_
        refine Safe.ldF (rfl) rfl rfl rfl ?_
        refine go 99 rfl ?_
        refine Safe.appL (us := []) (cs2 := enC y) (len2 := 1) rfl rfl rfl rfl rfl rfl rfl rfl (by rw [h1 rfl]; rfl) rfl (by rw [h1 rfl]; exact Nat.le_of_ble_eq_true rfl) rfl rfl (Nat.le_of_ble_eq_true rfl) (fun N' hN' => ?_)
        refine go 99 rfl ?_
        exact ⟨[(0, 1)], (2, enC y, N'), ⟨Nat.le_of_ble_eq_true rfl, fun _ => rfl⟩, (Nat.le_of_ble_eq_true rfl), rfl, rfl, ⟨fit rfl, fit rfl, fit rfl, fit rfl, fit (rfl), trivial⟩, ⟨_, .refl _, subK rfl rfl subN⟩, rfl⟩
    · have hi2 : i = 2 := Nat.le_antisymm hi (gec (n := 2) d)
      subst hi2
      obtain rfl := h1 rfl
      refine go 99 rfl ?_
      exact ⟨.inr rfl, trivial, .frz 0 rfl rfl (.done rfl rfl)⟩
theorem s_concat_false (y : En) : PTri Tryz.prog 20 [.fslice [.nilslice, slV enC [y]] 2] (slV enC [y]) := by
  refine PTri.of_safe Tryz.func20 rfl Tryz.results20 Tryz.ntmps20 rfl ?_
  refine go 99 rfl ?_
  refine Safe.loop (α := Nat) (fun i => [(0, .fslice [.nilslice, slV enC [y]] 2), (3, nI ((i - 1) : Nat)), (9, .fslice [.nilslice, slV enC [y]] 2), (10, nI (2 : Nat)), (11, nI i)]) (fun i => []) 0 (fun i => 2 - i) (fun i => i ≤ 2) 0 (sgI 0) ⟨⟨fit rfl, fit rfl, fit rfl, fit rfl, fit rfl, trivial⟩, ⟨_, .refl _, List.nil_sublist _⟩, rfl⟩ (Nat.zero_le _) ?_
  rintro i hi
  refine go 99 rfl ?_
  refine Safe.br rfl (fun c => ?_) (fun c => ?_)
  · have hi : i < 2 := ltc (n := 2) c
    obtain rfl | rfl : i = 0 ∨ i = 1 := by omega
    · refine go 99 rfl ?_
      refine Safe.idxF (i := 0) (by decide) rfl rfl rfl ?_
      refine go 99 rfl ?_
      refine Safe.ldF (rfl) rfl rfl rfl ?_
      refine go 99 rfl ?_
      first | refine Safe.gsK true rfl rfl ?_ | refine Safe.gsK false rfl rfl ?_ | refine Safe.brT rfl rfl ?_ | refine Safe.brF rfl rfl ?_
      refine go 99 rfl ?_
      exact ⟨sgI 0, 1, (by decide), (by decide), rfl, rfl, ⟨fit rfl, fit (rfl), fit rfl, fit rfl, fit (rfl), trivial⟩, ⟨_, .refl _, List.nil_sublist _⟩, rfl⟩
    · refine go 99 rfl ?_
      refine Safe.idxF (i := 1) (by decide) rfl rfl rfl ?_
      refine go 99 rfl ?_
      refine Safe.ldF (rfl) rfl rfl rfl ?_
      refine go 99 rfl ?_
      first | refine Safe.gsK true rfl rfl ?_ | refine Safe.gsK false rfl rfl ?_ | refine Safe.brT rfl rfl ?_ | refine Safe.brF rfl rfl ?_
      refine go 99 rfl ?_
      exact ⟨sgI 0, 2, (by decide), (by decide), rfl, rfl, ⟨fit rfl, fit (rfl), fit rfl, fit rfl, fit (rfl), trivial⟩, ⟨_, .refl _, List.nil_sublist _⟩, rfl⟩
  · have hi2 : i = 2 := Nat.le_antisymm hi (gec (n := 2) c)
    subst hi2
    refine go 99 rfl ?_
    refine Safe.callL (rest := []) [] s_grow rfl rfl rfl rfl (.refl _) (fun v h' nx' q => ?_)
    obtain ⟨N, hN, rfl, rfl, rfl⟩ := q
    refine Safe.hpO (h' := [(0, .cells 35 (zcells [nI 0, .nilslice, .str [], .nilslice, nI 0] 5) (N * 5))]) rfl ?_
    refine go 99 rfl ?_
    refine Safe.loop (α := (Nat × List V × Nat)) (fun q => [(0, .fslice [.nilslice, slV enC [y]] 2), (6, .slice 0 0 (q.1 - 1) q.2.2), (25, .fslice [.nilslice, slV enC [y]] 2), (26, nI (2 : Nat)), (27, nI q.1)]) (fun q => [(0, .cells 35 q.2.1 (q.2.2 * 5))]) 1 (fun q => 2 - q.1) (fun q => q.1 ≤ 2 ∧ ((q.1 - 1) = 1 → q.2.1 = enC y)) (0, zcells [nI 0, .nilslice, .str [], .nilslice, nI 0] 5, N) (sgI 1) ⟨⟨fit rfl, fit rfl, fit rfl, fit rfl, fit rfl, trivial⟩, ⟨_, .refl _, .refl _⟩, rfl⟩ ⟨Nat.zero_le _, fun h => by cases h⟩ ?_
    rintro ⟨i, cs, M⟩ ⟨hi, h1⟩
    dsimp only at hi h1
    refine go 99 rfl ?_
    refine Safe.br rfl (fun d => ?_) (fun d => ?_)
    · have hi : i < 2 := ltc (n := 2) d
      obtain rfl | rfl : i = 0 ∨ i = 1 := by omega
      · refine go 99 rfl ?_
        refine Safe.idxF (i := 0) (by decide) rfl rfl rfl ?_
        refine go 99 rfl ?_
        refine Safe.ldF (rfl) rfl rfl rfl ?_
        refine go 99 rfl ?_
        refine Safe.appL (us := []) (cs2 := []) (len2 := 0) rfl rfl rfl rfl rfl rfl rfl rfl (rfl) rfl (Nat.zero_le _) rfl rfl (Nat.le_of_ble_eq_true rfl) (fun N' hN' => ?_)
        refine go 99 rfl ?_
        exact ⟨[(0, 1)], (1, [], N'), ⟨Nat.le_of_ble_eq_true rfl, fun h => by cases h⟩, (Nat.le_of_ble_eq_true rfl), rfl, rfl, ⟨fit rfl, fit rfl, fit rfl, fit rfl, fit (rfl), trivial⟩, ⟨_, .refl _, subK rfl rfl subN⟩, rfl⟩
      · refine go 99 rfl ?_
        refine Safe.idxF (i := 1) (by decide) rfl rfl rfl ?_
        refine go 99 rfl ?_
        refine Safe.ldF (rfl) rfl rfl rfl ?_
        refine go 99 rfl ?_
        refine Safe.appL (us := enC y) (cs2 := enC y) (len2 := 1) rfl rfl rfl rfl rfl rfl rfl rfl (rfl) rfl (Nat.zero_le _) rfl rfl (Nat.le_of_ble_eq_true rfl) (fun N' hN' => ?_)
        refine go 99 rfl ?_
        exact ⟨[(0, 1)], (2, enC y, N'), ⟨Nat.le_of_ble_eq_true rfl, fun _ => rfl⟩, (Nat.le_of_ble_eq_true rfl), rfl, rfl, ⟨fit rfl, fit rfl, fit rfl, fit rfl, fit (rfl), trivial⟩, ⟨_, .refl _, subK rfl rfl subN⟩, rfl⟩
    · have hi2 : i = 2 := Nat.le_antisymm hi (gec (n := 2) d)
      subst hi2
      obtain rfl := h1 rfl
      refine go 99 rfl ?_
      exact ⟨.inr rfl, trivial, .frz 0 rfl rfl (.done rfl rfl)⟩
end Go.Proofs.YtmohgegpcfkooaaGreatDoor
end

section
namespace Go.Proofs.YtmohgegpcfkooaaGreatDoor
open Go.Fw
variable [Gl]
set_option maxRecDepth 20000
set_option maxHeartbeats 4000000
def strC (s : By) : List V := [.str s]
theorem ldStr {l : List By} {i : Nat} (hi : i < l.length) : ldAt Tryz.prog 9 (cat strC l) (i * 1) = some (.str l[i]) := ld_cat1 (enc := strC) 0 (fun _ => rfl) hi (by decide) (by kernel_rfl) rfl
def ixF (s : By) : Nat → List By → Int
  | _, [] => -1
  | i, a :: r => if a = s then (i : Int) else ixF s (i + 1) r
theorem ixF_mem (s : By) : ∀ (l : List By) (i : Nat), decide (0 ≤ ixF s i l) = l.contains s
  | [], i => by simp [ixF]
  | a :: r, i => by
    rw [List.contains_cons]
    by_cases h : a = s
    · have e : ixF s i (a :: r) = (i : Int) := by simp only [ixF, if_pos h]
      have h2 : (s == a) = true := by rw [h]; simp
      rw [h2, Bool.true_or, decide_eq_true (by rw [e]; omega)]
    · have e : ixF s i (a :: r) = ixF s (i + 1) r := by simp only [ixF, if_neg h]
      have h2 : (s == a) = false := by simpa using fun e => h e.symm
      rw [h2, Bool.false_or, ← ixF_mem s r (i + 1)]
      simp only [e]
theorem sl_index (l : List By) (s : By) (hl : l.length ≤ big) : PTri Tryz.prog 45 [slV strC l, .str s] (nI (ixF s 0 l)) := by
  simp only [big] at hl
  refine PTri.of_safe Tryz.func45 rfl Tryz.results45 Tryz.ntmps45 rfl ?_
  refine go 99 rfl ?_
  refine Safe.loop (α := Nat) (fun i => [(0, slV strC l), (1, .str s), (7, nI l.length), (8, nI i)]) (fun i => []) 0 (fun i => l.length - i) (fun i => i ≤ l.length ∧ ixF s 0 l = ixF s i (l.drop i)) 0 (sgI 0) ⟨⟨fit rfl, fit rfl, fit rfl, fit rfl, trivial⟩, ⟨_, .refl _, List.nil_sublist _⟩, rfl⟩ ⟨Nat.zero_le _, rfl⟩ ?_
  rintro i ⟨hi, ha⟩
  refine go 99 rfl ?_
  refine Safe.br rfl (fun c1 => ?_) (fun c1 => ?_)
  · have hi : i < l.length := ltc c1
    rw [List.drop_eq_getElem_cons hi] at ha
    refine go 99 rfl ?_
    refine Safe.idxF hi rfl rfl rfl ?_
    refine Safe.ldF (ldStr hi) rfl rfl rfl ?_
    refine go 99 rfl ?_
    refine Safe.br rfl (fun d => ?_) (fun d => ?_)
    · have d1 : l[i] = s := (by simpa using d : s = l[i]).symm
      simp only [ixF, if_pos d1] at ha
      refine go 99 rfl ?_
      exact ⟨.inr rfl, trivial, .done (nIeq ha.symm) rfl⟩
    · have d1 : ¬ l[i] = s := fun h => by have : ¬ s = l[i] := by simpa using d
                                          exact this h.symm
      simp only [ixF, if_neg d1] at ha
      refine go 99 rfl ?_
      exact ⟨sgI 0, i + 1, ⟨hi, ha⟩, mlt hi, rfl, rfl, ⟨fit rfl, fit rfl, fit rfl, fit (isucc (by omega)), trivial⟩, ⟨_, .refl _, List.nil_sublist _⟩, rfl⟩
  · have hi2 : i = l.length := Nat.le_antisymm hi (gec c1)
    subst hi2
    rw [List.drop_length] at ha
    refine go 99 rfl ?_
    exact ⟨.inr rfl, trivial, .done (nIeq ha.symm) rfl⟩
theorem sl_contains (l : List By) (s : By) (hl : l.length ≤ big) : PTri Tryz.prog 18 [slV strC l, .str s] (.bool (l.contains s)) := by
  refine PTri.of_safe Tryz.func18 rfl Tryz.results18 Tryz.ntmps18 rfl ?_
  refine go 99 rfl ?_
  refine Safe.call (sl_index l s hl) rfl rfl rfl ?_
  refine go 99 rfl ?_
  exact ⟨.inr rfl, trivial, .done (bIeq (ixF_mem s l 0)) rfl⟩
abbrev mkCap (l : List Lb) (ns : List By) : List V := [.fptr [slV lbC l] 0, .fptr [slV strC ns] 0]
theorem lb_marked (l : List Lb) (ns : List By) : PTri Tryz.prog 78 [slV lbC l, slV strC ns] (.clo 124 (mkCap l ns)) := by
  refine PTri.of_safe Tryz.func78 rfl Tryz.results78 Tryz.ntmps78 rfl ?_
  refine go 99 rfl ?_
  exact ⟨.inr rfl, trivial, .frz 0 rfl rfl (.frz 1 rfl rfl (.done rfl rfl))⟩
def mkX (l : List Lb) (ns : List By) : List (List V) := l.map fun x => [lbV' x, .bool (ns.contains x.name)]
theorem mkX_len (l : List Lb) (ns : List By) : (mkX l ns).length = l.length := by simp [mkX]
theorem mkX_at {l : List Lb} {ns : List By} {k : Nat} (hk : k < (mkX l ns).length) : (mkX l ns)[k] = [lbV' (l[k]'(by simpa [mkX] using hk)), .bool (ns.contains (l[k]'(by simpa [mkX] using hk)).name)] := by simp [mkX]
theorem mkX_ok (l : List Lb) (ns : List By) : ∀ a, a ∈ mkX l ns → a.length = 2 ∧ a.all dry = true := fun a ha => by
  obtain ⟨s, _, rfl⟩ := List.mem_map.1 ha
  exact ⟨rfl, rfl⟩
theorem it_marked (l : List Lb) (ns : List By) (hl : l.length ≤ big) (hn : ns.length ≤ big) : IterC Tryz.prog 124 (mkCap l ns) (mkX l ns) := by
  simp only [big] at hl
  intro lb J S hy h hJ
  refine Tri.of_safeY Tryz.func124 rfl Tryz.results124 Tryz.ntmps124 rfl ?_
  refine go 99 rfl ?_
  refine Safe.ldF ((rfl : ldAt Tryz.prog 33 [slV lbC l] 0 = some (slV lbC l))) rfl rfl rfl ?_
  refine go 99 rfl ?_
  refine Safe.loopH (α := Nat) (fun i => [(0, .yield lb), (2, .fptr [slV strC ns] 0), (6, slV lbC l), (7, nI l.length), (8, nI i)]) (fun i => []) 0 (fun i => l.length - i) (fun i => i ≤ l.length) (fun i hf dl => J i hf ∧ dl = []) 0 (sgI 0) ⟨⟨fit rfl, fit rfl, fit rfl, fit rfl, fit rfl, trivial⟩, ⟨_, .refl _, List.nil_sublist _⟩, rfl⟩ (Nat.zero_le _) ⟨hJ, rfl⟩ ?_
  rintro i hi hf dl ⟨hJi, rfl⟩
  refine go 99 rfl ?_
  refine Safe.br rfl (fun c => ?_) (fun c => ?_)
  · have hi : i < l.length := ltc c
    have hk : i < (mkX l ns).length := by rw [mkX_len]; exact hi
    have hyi := hy i hk hf hJi
    rw [mkX_at hk] at hyi
    refine go 99 rfl ?_
    refine Safe.idxF hi rfl rfl rfl ?_
    refine go 99 rfl ?_
    refine Safe.ldF (ldL hi) rfl rfl rfl ?_
    refine go 99 rfl ?_
    refine Safe.frzC 0 rfl rfl ?_
    refine Safe.drawP mixed [0, 1, 2, 3, 4, 5, 6, 7] [(true, false), (true, false), (true, true), (true, true), (true, true), (true, true), (true, true), (true, true)] (by kernel_rfl) ?_
    refine go 99 rfl ?_
    refine Safe.ldF (rfl) rfl rfl rfl ?_
    refine go 99 rfl ?_
    refine Safe.ldF ((rfl : ldAt Tryz.prog 25 [slV strC ns] 0 = some (slV strC ns))) rfl rfl rfl ?_
    refine go 99 rfl ?_
    refine Safe.ldF (rfl) rfl rfl rfl ?_
    refine go 99 rfl ?_
    refine Safe.call (sl_contains ns l[i].name hn) rfl rfl rfl ?_
    refine Safe.tail (by kernel_rfl) ?_
    refine go 99 rfl ?_
    refine Safe.yield (hyi) rfl rfl rfl (fun v hf1 hv => ?_)
    rcases hv with ⟨rfl, hJ2⟩ | ⟨rfl, hS⟩
    · refine ⟨rfl, ?_⟩
      refine go 99 rfl ?_
      refine Safe.brF rfl rfl ?_
      refine go 99 rfl ?_
      exact ⟨sgI 0, i + 1, hi, mlt hi, ⟨hJ2, rfl⟩, ⟨fit rfl, fit rfl, fit rfl, fit rfl, fit (isucc (by omega)), trivial⟩, ⟨_, .refl _, List.nil_sublist _⟩, rfl⟩
    · refine ⟨rfl, ?_⟩
      refine go 99 rfl ?_
      refine Safe.brT rfl rfl ?_
      refine go 99 rfl ?_
      exact ⟨.inr rfl, rfl, _, .done rfl rfl, .inr hS⟩
  · have hi2 : i = l.length := Nat.le_antisymm hi (gec c)
    subst hi2
    rw [← mkX_len l ns] at hJi
    refine go 99 rfl ?_
    exact ⟨.inl rfl, rfl, _, .done rfl rfl, .inl hJi⟩
end Go.Proofs.YtmohgegpcfkooaaGreatDoor
end

section
namespace Go.Proofs.YtmohgegpcfkooaaGreatDoor
open Go.Fw
variable [Gl]
set_option maxRecDepth 20000
set_option maxHeartbeats 4000000
def okG (G : Option Nat) (n : Nat) : Prop := (G = none → n = 0) ∧ ∀ N, G = some N → n ≤ N
def rowΦ (xs : List Lb) (v : V) (h : Hp) (nx : Nat) : Prop := ∃ G, okG G xs.length ∧ v = gV 0 xs.length G ∧ h = gH 64 2 0 (cat lbC xs) G ∧ nx = 1
def selL (ns : List By) (b : Bool) (l : List Lb) : List Lb := l.filter fun x => ns.contains x.name == b
theorem take_succ_get {α : Type} {l : List α} {i : Nat} (hi : i < l.length) : l.take (i + 1) = l.take i ++ [l[i]] := List.take_succ_eq_append_getElem hi
theorem selL_s {ns : List By} {b : Bool} {l : List Lb} {i : Nat} (hi : i < l.length) : selL ns b (l.take (i + 1)) = selL ns b (l.take i) ++ if (ns.contains l[i].name == b) = true then [l[i]] else [] := by
  rw [selL, take_succ_get hi, List.filter_append]
  congr 1
  rw [List.filter_cons]; rfl
theorem catLb_len (l : List Lb) : (cat lbC l).length = l.length * 2 := cat_length (k := 2) (fun _ => rfl) l
theorem catLb_dry (l : List Lb) : (cat lbC l).all dryV1 = true := by
  induction l with
  | nil => rfl
  | cons a r ih => rw [cat_cons, List.all_append, ih]; rfl
theorem catLb_d (l : List Lb) : (cat lbC l).all dry = true := dryL1_dry (catLb_dry l)
theorem catLb_app (l : List Lb) (x : Lb) : cat lbC l ++ lbC x = cat lbC (l ++ [x]) := by rw [cat_append]; simp [cat]
theorem subGb {sg : Sg} {e : TypeId} {kk k j : Nat} {l : List Lb} {G : Option Nat} (h : sgF sg k = some j) : (relH sg (gH e kk k (cat lbC l) G)).Sublist (gH e kk j (cat lbC l) G) := by
  cases G with
  | none => exact List.Sublist.refl _
  | some N => exact subK h (renO_dry (catLb_d l)) subN
theorem gV_ren {sg : Sg} {k j len : Nat} {G : Option Nat} (h : sgF sg k = some j) : gV j len G = renV (sgF sg) (gV k len G) := by
  cases G with
  | none => rfl
  | some N => simp only [gV, renV, h]
theorem perm1 {x : Nat × AObj} {l : Hp} : (l ++ [x]).Perm (x :: l) := List.perm_append_comm (l₁ := l) (l₂ := [x])
theorem lb_sel (l : List Lb) (ns : List By) (b : Bool) (hl : l.length ≤ 100000) (hn : ns.length ≤ big) : TriL Tryz.prog 148 [slV lbC l, slV strC ns, .bool b] [] 0 (rowΦ (selL ns b l)) := by
  have hl' : l.length ≤ big := by simp only [big]; omega
  refine TriL.of_safeN Tryz.func148 rfl Tryz.results148 Tryz.ntmps148 rfl ?_
  refine go 99 rfl ?_
  refine Safe.call (lb_marked l ns) rfl rfl rfl ?_
  refine go 99 rfl ?_
  refine Safe.rangeC (α := (List Lb × Option Nat)) 3 (fun a => ((1, .cells 33 [gV 2 a.1.length a.2] 1) :: (0, .cells 4 [.bool b] 1) :: gH 64 2 2 (cat lbC a.1) a.2)) (fun k a => a.1 = selL ns b (l.take k) ∧ okG a.2 a.1.length) (fun c a => False) ([], none) (it_marked l ns hl' hn) rfl rfl (mkX_ok l ns) rfl (⟨rfl, (fun _ => rfl), (fun N h => by cases h)⟩) ?_ ?_ ?_
  · rintro lb i hk ⟨acc, G⟩ ⟨hE, hG, hN⟩
    have hi : i < l.length := by rw [← mkX_len l ns]; exact hk
    dsimp only at hE hG hN
    have hT := selL_s (ns := ns) (b := b) hi
    have hlen : acc.length ≤ i := by
      rw [hE]; refine Nat.le_trans (List.length_filter_le _ _) ?_
      rw [List.length_take]; omega
    rw [mkX_at hk]
    refine go 99 rfl ?_
    refine Safe.toBody ?_
    refine go 99 rfl ?_
    refine Safe.br rfl (fun c => ?_) (fun c => ?_)
    · have c1 : (ns.contains l[i].name == b) = true := c
      rw [if_pos c1] at hT
      refine go 99 rfl ?_
      refine Safe.appH (k := 2) (G := G) (cs := cat lbC acc) (len := acc.length) (us := lbC l[i]) (mm := 1) (h1 := [(4, .cells 64 (lbC l[i]) 2), (3, .cells 64 (lbC l[i]) 2), (1, .cells 33 [gV 2 acc.length G] 1), (0, .cells 4 [.bool b] 1)]) (h2 := []) rfl (by simp [Hp.ns]) (fun h => ⟨by rw [List.length_eq_zero_iff.1 (hG h)]; rfl, hG h⟩) (by rw [List.append_nil]; rfl) rfl rfl rfl rfl rfl (by decide) rfl (catLb_len acc) rfl rfl (by omega) (fun N' hN' => ?_)
      refine go 99 rfl ?_
      exact ⟨rfl, (acc ++ [l[i]], some N'), [(0, 0), (1, 1), (2, 5)], ⟨by dsimp only; rw [hT, hE], (fun h => by cases h), (fun N h => by cases h; simp; omega)⟩, trivial, ⟨_, perm1, subD (subD (subK rfl (by rw [show (acc ++ [l[i]]).length = acc.length + 1 by simp]; rfl) (subK rfl rfl (subK rfl (by rw [renO_dry (catLb_d _), catLb_app]) subN))))⟩, rfl⟩
    · have c1 : ¬ (ns.contains l[i].name == b) = true := by simpa using c
      rw [if_neg c1, List.append_nil] at hT
      refine go 99 rfl ?_
      exact ⟨rfl, (acc, G), [(0, 0), (1, 1), (2, 2)], ⟨by dsimp only; rw [hT, hE], hG, hN⟩, trivial, ⟨_, .refl _, subD (subK rfl (by simp only [renO, renL]; rw [← gV_ren rfl]) (subK rfl rfl (subGb rfl)))⟩, (by cases G <;> rfl)⟩
  · rintro r ⟨acc, G⟩ ⟨hE, hG⟩
    dsimp only at hE hG
    rw [mkX_len, List.take_length] at hE
    refine go 99 rfl ?_
    exact ⟨.inr rfl, dlOk_1 trivial, .done rfl ⟨[(0, 2)], gV 0 acc.length G, gH 64 2 0 (cat lbC acc) G, 1, ⟨⟨fit (congrArg some (gV_ren rfl)), trivial⟩, ⟨_, .refl _, subD (subD (subGb rfl))⟩, by cases G <;> rfl⟩, G, by rw [← hE]; exact hG, by rw [← hE], by rw [← hE], rfl⟩⟩
  · rintro r b c h
    cases h
theorem lb_drop (l : List Lb) (ns : List By) (hl : l.length ≤ 100000) (hn : ns.length ≤ big) : TriL Tryz.prog 109 [slV lbC l, slV strC ns] [] 0 (rowΦ (selL ns false l)) := by
  refine TriL.of_safeN Tryz.func109 rfl Tryz.results109 Tryz.ntmps109 rfl ?_
  refine go 99 rfl ?_
  refine Safe.callL (rest := []) [] (lb_sel l ns false hl hn) rfl rfl rfl rfl (.refl _) (fun v h' nx' q => ?_)
  obtain ⟨G, hG, rfl, rfl, rfl⟩ := q
  cases G with
  | none =>
    refine go 99 rfl ?_
    exact ⟨.inr rfl, trivial, .done rfl ⟨[], .nilslice, [], 1, ⟨⟨fit rfl, trivial⟩, ⟨_, .refl _, List.nil_sublist _⟩, rfl⟩, none, hG, rfl, rfl, rfl⟩⟩
  | some N =>
    refine go 99 rfl ?_
    exact ⟨.inr rfl, trivial, .done rfl ⟨[(0, 0)], .slice 0 0 _ N, [(0, .cells 64 (cat lbC (selL ns false l)) (N * 2))], 1, ⟨⟨fit rfl, trivial⟩, ⟨_, .refl _, subK rfl (by rw [renO_dry (catLb_d _)]; exact (renO_dry (catLb_d _)).symm) subN⟩, rfl⟩, some N, hG, rfl, rfl, rfl⟩⟩
end Go.Proofs.YtmohgegpcfkooaaGreatDoor
end

section
namespace Go.Proofs.YtmohgegpcfkooaaGreatDoor
open Go.Fw
variable [Gl]
set_option maxRecDepth 20000
set_option maxHeartbeats 4000000
theorem lbC_len (x : Lb) : (lbC x).length = 2 := rfl
def insLb (l : List Lb) (i : Nat) (x : Lb) : List Lb := l.take i ++ x :: l.drop i
def insLbΦ (l : List Lb) (i : Nat) (x : Lb) (u : V) (h : Hp) (nx : Nat) : Prop :=
  ∃ N', l.length + 1 ≤ N' ∧ ((u = .slice 0 0 (l.length + 1) N' ∧ h = [(0, .cells 64 (cat lbC (insLb l i x)) (N' * 2))] ∧ nx = 2) ∨ (u = .slice 2 0 (l.length + 1) N' ∧ h = [(2, .cells 64 (cat lbC (insLb l i x)) (N' * 2))] ∧ nx = 3))
theorem ovl200 : IsOverlaps Tryz.prog 200 33 4 64 2 := ⟨⟨_, Tryz.func200, rfl, rfl, rfl, rfl⟩, rfl, rfl⟩
theorem putL_mid {A vs Z : List V} {o : Nat} (h : A.length = o) : putL (A ++ Z) o vs = A ++ vs ++ Z.drop vs.length := by
  subst h
  unfold putL
  rw [List.take_left' rfl, ← List.drop_drop, List.drop_left' rfl]
theorem lb_insert (l : List Lb) (x : Lb) (i N : Nat) (hi : i ≤ l.length) (hl : l.length ≤ 100000) (hN : l.length ≤ N) :
    TriL Tryz.prog 175 [.slice 0 0 l.length N, nI i, .slice 1 0 1 1] [(1, .cells 64 (lbC x) 2), (0, .cells 64 (cat lbC l) (N * 2))] 2 (insLbΦ l i x) := by
  have hins : cat lbC l ++ lbC x = cat lbC (insLb l l.length x) := by simp [insLb, cat]
  have w1 : IntKind.i64.wrap ((l.length : Int) + ((1 : Nat) : Int)) = (l.length : Int) + ((1 : Nat) : Int) := wrap64_fit (by omega) (by omega)
  have w2 : (some (IntKind.i64.wrap ((i : Int) + ((1 : Nat) : Int))) : Option Int).getD ((0 : Nat) : Int) = ((i + 1 : Nat) : Int) := by
    show IntKind.i64.wrap ((i : Int) + ((1 : Nat) : Int)) = _
    rw [wrap64_fit (by omega) (by omega)]; omega
  have w3 : (some (IntKind.i64.wrap ((l.length : Int) + ((1 : Nat) : Int))) : Option Int).getD (l.length : Int) = ((l.length + 1 : Nat) : Int) := by
    show IntKind.i64.wrap ((l.length : Int) + ((1 : Nat) : Int)) = _
    rw [w1]; omega
  have tk1 : ((cat lbC l).drop (i * 2)).take ((l.length - i) * 2) = cat lbC (l.drop i) := by
    rw [cat_drop lbC_len]
    exact List.take_of_length_le (by rw [cat_length lbC_len, List.length_drop]; exact Nat.le_refl _)
  have hxl : ∀ k, (((lbC x).drop 0).take k).all leafV = true := fun k => List.all_eq_true.2 fun v hv => List.all_eq_true.1 (show (lbC x).all leafV = true from rfl) v (List.mem_of_mem_take hv)
  have hll : ∀ j k, (((cat lbC l).drop j).take k).all leafV = true := fun j k => List.all_eq_true.2 fun v hv => List.all_eq_true.1 (dryL1_leaf (catLb_dry l)) v (List.mem_of_mem_drop (List.mem_of_mem_take hv))
  refine TriL.of_safeN Tryz.func175 rfl Tryz.results175 Tryz.ntmps175 rfl ?_
  refine go 99 rfl ?_
  refine Safe.slO i l.length hi hN rfl rfl rfl rfl ?_
  refine go 99 rfl ?_
  first | refine Safe.gsK true rfl rfl ?_ | refine Safe.gsK false rfl rfl ?_ | refine Safe.brT rfl rfl ?_ | refine Safe.brF rfl rfl ?_
  refine go 99 rfl ?_
  refine go 99 rfl ?_
  refine Safe.br rfl (fun c => ?_) (fun c => ?_)
  · have c1 : i = l.length := by have := (by simpa using c : (i : Int) = l.length); omega
    refine go 99 rfl ?_
    refine Safe.appS (us := (lbC x)) rfl rfl rfl rfl rfl rfl (rfl) rfl (hins) (rfl) (cat_length lbC_len l) (rfl) (rfl) (by omega) (fun N' hN' => ?_)
    refine go 99 rfl ?_
    exact ⟨.inr rfl, trivial, .done rfl ⟨sgI 3, .slice 2 0 (l.length + 1) N', [(2, .cells 64 (cat lbC (insLb l l.length x)) (N' * 2))], 3, ⟨⟨fit rfl, trivial⟩, ⟨_, .refl _, subK rfl (renO_dry (catLb_d _)) subN⟩, rfl⟩, N', hN', .inr ⟨rfl, by rw [c1], rfl⟩⟩⟩
  · have c1 : i < l.length := by
      have : ¬ (i : Int) = l.length := by simpa using c
      omega
    refine go 99 rfl ?_
    refine Safe.capO rfl rfl rfl rfl ?_
    refine go 99 rfl ?_
    refine Safe.br rfl (fun d => ?_) (fun d => ?_)
    · have d1 : N < l.length + 1 := by
        have := of_decide_eq_true d
        rw [wrap64_fit (by omega) (by omega)] at this; omega
      refine go 5 rfl ?_
      refine Safe.slO 0 i (Nat.zero_le _) (by omega) rfl rfl rfl rfl ?_
      refine Safe.eqv (v' := .slice 0 0 i N) (by rw [Nat.zero_mul, Nat.add_zero, ite_self]; rfl) ?_
      refine go 99 rfl ?_
      refine Safe.appZ (j := l.length + 1 - i) rfl rfl rfl rfl rfl (by rw [w1, wrap64_fit (by omega) (by omega)]; omega) rfl (by rw [cat_length lbC_len]; show 0 + i * 2 ≤ l.length * 2; omega) (by omega) (by omega) (by omega) rfl rfl (fun N2 hN2 => ?_)
      refine Safe.eqv (v' := .slice 2 0 (l.length + 1) N2) (by rw [show i + (l.length + 1 - i) = l.length + 1 by omega]) ?_
      generalize hZ0 : zcells _ ((l.length + 1 - i) * _) = Z
      have hN2' : l.length + 1 ≤ N2 := by omega
      have hZ : Z.length = (l.length + 1 - i) * 2 := by rw [← hZ0, zcells_length]; rfl
      have hZd : Z.all dry = true := by rw [← hZ0]; exact zcells_dry rfl _
      refine Safe.hpO (h' := [(2, .cells 64 (cat lbC (l.take i) ++ Z) (N2 * 2)), (1, .cells 64 (lbC x) 2), (0, .cells 64 (cat lbC l) (N * 2))]) (by rw [← cat_take lbC_len]; rfl) ?_
      refine go 99 rfl ?_
      refine Safe.slO i (l.length + 1) (by omega) hN2' rfl rfl rfl rfl ?_
      refine Safe.eqv (v' := .slice 2 (i * 2) (l.length + 1 - i) (N2 - i)) (by rw [if_neg (by omega), Nat.zero_add]; rfl) ?_
      refine go 99 rfl ?_
      have m1 : min 1 (l.length + 1 - i) = 1 := by omega
      have r1 : putL (cat lbC (l.take i) ++ Z) (i * 2) (((lbC x).drop 0).take (min 1 (l.length + 1 - i) * 2)) = cat lbC (l.take i ++ [x]) ++ Z.drop 2 := by
        rw [m1, putL_mid (by rw [cat_length lbC_len, List.length_take]; omega), cat_append]
        show cat lbC (l.take i) ++ lbC x ++ Z.drop 2 = cat lbC (l.take i) ++ cat lbC [x] ++ Z.drop 2
        simp [cat]
      refine Safe.cpS rfl rfl rfl rfl rfl rfl rfl rfl (by show 0 + min 1 (l.length + 1 - i) * 2 ≤ 2; omega) (by rw [List.length_append, cat_length lbC_len, List.length_take, hZ]; omega) (by show i * 2 + min 1 (l.length + 1 - i) * 2 ≤ N2 * 2; omega) (hxl _) ?_
      refine Safe.hpO (h' := [(2, .cells 64 (cat lbC (l.take i ++ [x]) ++ Z.drop 2) (N2 * 2)), (1, .cells 64 (lbC x) 2), (0, .cells 64 (cat lbC l) (N * 2))]) (congrArg (fun r => [(2, AObj.cells 64 r (N2 * 2)), (1, .cells 64 (lbC x) 2), (0, .cells 64 (cat lbC l) (N * 2))]) r1) ?_
      refine go 99 rfl ?_
      refine Safe.drawP mixed [0, 1, 2, 3, 4, 5, 6, 7, 8] [(true, true), (true, true), (true, true), (true, true), (true, true), (true, true), (true, true), (true, true), (true, true)] (by kernel_rfl) ?_
      refine go 99 rfl ?_
      refine Safe.slO (i + 1) (l.length + 1) (by omega) hN2' rfl w2 rfl rfl ?_
      refine Safe.eqv (v' := .slice 2 ((i + 1) * 2) (l.length + 1 - (i + 1)) (N2 - (i + 1))) (by rw [if_neg (by omega), Nat.zero_add]; rfl) ?_
      refine go 99 rfl ?_
      refine Safe.slO i l.length (by omega) hN rfl rfl rfl rfl ?_
      refine Safe.eqv (v' := .slice 0 (i * 2) (l.length - i) (N - i)) (by rw [if_neg (by omega), Nat.zero_add]; rfl) ?_
      refine Safe.tail (by kernel_rfl) ?_
      refine go 99 rfl ?_
      have m2 : min (l.length - i) (l.length + 1 - (i + 1)) = l.length - i := by omega
      have r2 : putL (cat lbC (l.take i ++ [x]) ++ Z.drop 2) ((i + 1) * 2) (((cat lbC l).drop (i * 2)).take (min (l.length - i) (l.length + 1 - (i + 1)) * 2)) = cat lbC (insLb l i x) := by
        have e2 : (Z.drop 2).drop (cat lbC (l.drop i)).length = [] := List.drop_eq_nil_of_le (by rw [List.length_drop, hZ, cat_length lbC_len, List.length_drop]; omega)
        rw [m2, tk1, putL_mid (by rw [cat_length lbC_len]; simp; omega), e2]
        simp [insLb, cat]
      refine Safe.cpS rfl rfl rfl rfl rfl rfl rfl rfl (by rw [cat_length lbC_len]; show i * 2 + min (l.length - i) (l.length + 1 - (i + 1)) * 2 ≤ l.length * 2; omega) (by rw [List.length_append, cat_length lbC_len, List.length_drop, hZ]; simp; omega) (by show (i + 1) * 2 + min (l.length - i) (l.length + 1 - (i + 1)) * 2 ≤ N2 * 2; omega) (hll _ _) ?_
      refine Safe.hpO (h' := [(2, .cells 64 (cat lbC (insLb l i x)) (N2 * 2)), (1, .cells 64 (lbC x) 2), (0, .cells 64 (cat lbC l) (N * 2))]) (congrArg (fun r => [(2, AObj.cells 64 r (N2 * 2)), (1, .cells 64 (lbC x) 2), (0, .cells 64 (cat lbC l) (N * 2))]) r2) ?_
      refine go 99 rfl ?_
      exact ⟨.inr rfl, trivial, .done rfl ⟨sgI 3, .slice 2 0 (l.length + 1) N2, [(2, .cells 64 (cat lbC (insLb l i x)) (N2 * 2))], 3, ⟨⟨fit rfl, trivial⟩, ⟨_, .refl _, subK rfl (renO_dry (catLb_d _)) subN⟩, rfl⟩, N2, hN2', .inr ⟨rfl, rfl, rfl⟩⟩⟩
    · have d1 : l.length + 1 ≤ N := by
        have := of_decide_eq_false d
        rw [wrap64_fit (by omega) (by omega)] at this; omega
      refine go 6 rfl ?_
      refine Safe.slO 0 (l.length + 1) (Nat.zero_le _) d1 rfl rfl w3 rfl ?_
      refine Safe.eqv (v' := .slice 0 0 (l.length + 1) N) (by rw [Nat.zero_mul, Nat.add_zero, ite_self]; rfl) ?_
      refine go 99 rfl ?_
      refine Safe.slO (i + 1) (l.length + 1) (by omega) d1 rfl w2 rfl rfl ?_
      refine Safe.eqv (v' := .slice 0 ((i + 1) * 2) (l.length + 1 - (i + 1)) (N - (i + 1))) (by rw [if_neg (by omega), Nat.zero_add]; rfl) ?_
      refine Safe.ovl ovl200 rfl rfl (fun ρ ht => ?_) rfl rfl (by decide) (by omega) (by omega) (by decide) ?_
      · obtain ⟨q1, h1⟩ := ht 61 _ rfl
        obtain ⟨q2, h2⟩ := ht 66 _ rfl
        exact ⟨q1, q2, h1, h2⟩
      refine go 99 rfl ?_
      first | refine Safe.gsK true rfl rfl ?_ | refine Safe.gsK false rfl rfl ?_ | refine Safe.brT rfl rfl ?_ | refine Safe.brF rfl rfl ?_
      refine go 99 rfl ?_
      refine go 99 rfl ?_
      refine Safe.drawP mixed [0, 1, 2, 3, 4, 5, 6, 7, 8] [(true, true), (true, true), (true, true), (true, true), (true, true), (true, true), (true, true), (true, true), (true, true)] (by kernel_rfl) ?_
      refine go 99 rfl ?_
      refine Safe.slO (i + 1) (l.length + 1) (by omega) d1 rfl w2 rfl rfl ?_
      refine Safe.eqv (v' := .slice 0 ((i + 1) * 2) (l.length + 1 - (i + 1)) (N - (i + 1))) (by rw [if_neg (by omega), Nat.zero_add]; rfl) ?_
      refine go 99 rfl ?_
      refine Safe.slO i (l.length + 1) (by omega) d1 rfl rfl rfl rfl ?_
      refine Safe.eqv (v' := .slice 0 (i * 2) (l.length + 1 - i) (N - i)) (by rw [if_neg (by omega), Nat.zero_add]; rfl) ?_
      refine Safe.tail (by kernel_rfl) ?_
      refine go 99 rfl ?_
      have m2 : min (l.length + 1 - i) (l.length + 1 - (i + 1)) = l.length - i := by omega
      have r3 : putL (cat lbC l) ((i + 1) * 2) (((cat lbC l).drop (i * 2)).take (min (l.length + 1 - i) (l.length + 1 - (i + 1)) * 2)) = cat lbC (l.take (i + 1) ++ l.drop i) := by
        have e0 : cat lbC l = cat lbC (l.take (i + 1)) ++ cat lbC (l.drop (i + 1)) := by rw [← cat_append, List.take_append_drop]
        have e2 : (cat lbC (l.drop (i + 1))).drop (cat lbC (l.drop i)).length = [] := List.drop_eq_nil_of_le (by rw [cat_length lbC_len, cat_length lbC_len, List.length_drop, List.length_drop]; omega)
        rw [m2, tk1, e0, putL_mid (by rw [cat_length lbC_len, List.length_take]; omega), e2, List.append_nil, cat_append]
      refine Safe.cpS rfl rfl rfl rfl rfl rfl rfl rfl (by rw [cat_length lbC_len]; show i * 2 + min (l.length + 1 - i) (l.length + 1 - (i + 1)) * 2 ≤ l.length * 2; omega) (by rw [cat_length lbC_len]; show (i + 1) * 2 ≤ l.length * 2; omega) (by show (i + 1) * 2 + min (l.length + 1 - i) (l.length + 1 - (i + 1)) * 2 ≤ N * 2; omega) (hll _ _) ?_
      refine Safe.hpO (h' := [(1, .cells 64 (lbC x) 2), (0, .cells 64 (cat lbC (l.take (i + 1) ++ l.drop i)) (N * 2))]) (congrArg (fun r => [(1, AObj.cells 64 (lbC x) 2), (0, .cells 64 r (N * 2))]) r3) ?_
      refine go 99 rfl ?_
      refine Safe.slO i (l.length + 1) (by omega) d1 rfl rfl rfl rfl ?_
      refine Safe.eqv (v' := .slice 0 (i * 2) (l.length + 1 - i) (N - i)) (by rw [if_neg (by omega), Nat.zero_add]; rfl) ?_
      refine go 99 rfl ?_
      have m1 : min 1 (l.length + 1 - i) = 1 := by omega
      have hlt : i < (l.take (i + 1) ++ l.drop i).length := by simp; omega
      have r4 : putL (cat lbC (l.take (i + 1) ++ l.drop i)) (i * 2) (((lbC x).drop 0).take (min 1 (l.length + 1 - i) * 2)) = cat lbC (insLb l i x) := by
        rw [m1]
        show putL (cat lbC (l.take (i + 1) ++ l.drop i)) (i * 2) (lbC x) = _
        rw [cat_put lbC_len hlt]
        congr 1
        have e3 : (l.take (i + 1)).set i x = l.take i ++ [x] := by
          rw [List.take_succ_eq_append_getElem c1, List.set_append_right _ _ (by simp; omega)]
          have : i - (l.take i).length = 0 := by simp; omega
          rw [this]; rfl
        rw [List.set_append_left _ _ (by simp; omega), e3, insLb, List.append_assoc]; rfl
      refine Safe.cpS rfl rfl rfl rfl rfl rfl rfl rfl (by show 0 + min 1 (l.length + 1 - i) * 2 ≤ 2; omega) (by rw [cat_length lbC_len]; show i * 2 ≤ (l.take (i + 1) ++ l.drop i).length * 2; omega) (by show i * 2 + min 1 (l.length + 1 - i) * 2 ≤ N * 2; omega) (hxl _) ?_
      refine Safe.hpO (h' := [(1, .cells 64 (lbC x) 2), (0, .cells 64 (cat lbC (insLb l i x)) (N * 2))]) (congrArg (fun r => [(1, AObj.cells 64 (lbC x) 2), (0, .cells 64 r (N * 2))]) r4) ?_
      refine go 99 rfl ?_
      exact ⟨.inr rfl, trivial, .done rfl ⟨sgI 2, .slice 0 0 (l.length + 1) N, [(0, .cells 64 (cat lbC (insLb l i x)) (N * 2))], 2, ⟨⟨fit rfl, trivial⟩, ⟨_, .refl _, subD (subK rfl (renO_dry (catLb_d _)) subN)⟩, rfl⟩, N, d1, .inl ⟨rfl, rfl, rfl⟩⟩⟩
end Go.Proofs.YtmohgegpcfkooaaGreatDoor
end

section
namespace Go.Proofs.YtmohgegpcfkooaaGreatDoor
open Go.Fw
variable [Gl]
set_option maxRecDepth 20000
set_option maxHeartbeats 4000000
def gtS (a b : By) : Bool := !(Op.bytesLess a b || a == b)
theorem lb_gt (x : Lb) (k : By) : PTri Tryz.prog 174 [lbV' x, .fptr [.str k] 0] (.bool (gtS x.name k)) := by
  refine PTri.of_safe Tryz.func174 rfl Tryz.results174 Tryz.ntmps174 rfl ?_
  refine go 99 rfl ?_
  refine Safe.ldF (rfl) rfl rfl rfl ?_
  refine go 99 rfl ?_
  exact ⟨.inr rfl, trivial, .done (rfl) rfl⟩
def ixG (k : By) : List Lb → Nat → Int
  | [], _ => -1
  | a :: r, i => if gtS a.name k = true then (i : Int) else ixG k r (i + 1)
theorem lb_index (l : List Lb) (k : By) (hl : l.length ≤ big) : PTri Tryz.prog 173 [slV lbC l, .clo 174 [.fptr [.str k] 0]] (nI (ixG k l 0)) := by
  simp only [big] at hl
  refine PTri.of_safe Tryz.func173 rfl Tryz.results173 Tryz.ntmps173 rfl ?_
  refine go 99 rfl ?_
  refine Safe.loop (α := Nat) (fun i => [(0, slV lbC l), (1, .clo 174 [.fptr [.str k] 0]), (7, nI l.length), (8, nI i)]) (fun i => []) 0 (fun i => l.length - i) (fun i => i ≤ l.length ∧ ixG k l 0 = ixG k (l.drop i) i) 0 (sgI 0) ⟨⟨fit rfl, fit rfl, fit rfl, fit rfl, trivial⟩, ⟨_, .refl _, List.nil_sublist _⟩, rfl⟩ ⟨Nat.zero_le _, rfl⟩ ?_
  rintro i ⟨hi, ha⟩
  refine go 99 rfl ?_
  refine Safe.br rfl (fun c => ?_) (fun c => ?_)
  · have hi : i < l.length := ltc c
    rw [List.drop_eq_getElem_cons hi, ixG] at ha
    refine go 99 rfl ?_
    refine Safe.idxF hi rfl rfl rfl ?_
    refine go 99 rfl ?_
    refine Safe.ldF (ldL hi) rfl rfl rfl ?_
    refine go 99 rfl ?_
    refine Safe.call (lb_gt l[i] k) rfl rfl rfl ?_
    refine go 99 rfl ?_
    refine Safe.br rfl (fun d => ?_) (fun d => ?_)
    · refine go 99 rfl ?_
      exact ⟨.inr rfl, trivial, .done (nIeq (by rw [ha, if_pos d])) rfl⟩
    · refine go 99 rfl ?_
      exact ⟨sgI 0, i + 1, ⟨hi, by rw [ha, if_neg (by rw [d]; simp)]⟩, mlt hi, rfl, rfl, ⟨fit rfl, fit rfl, fit rfl, fit (isucc (by omega)), trivial⟩, ⟨_, .refl _, List.nil_sublist _⟩, rfl⟩
  · have hi2 : i = l.length := Nat.le_antisymm hi (gec c)
    subst hi2
    rw [List.drop_length] at ha
    refine go 99 rfl ?_
    exact ⟨.inr rfl, trivial, .done (nIeq (by rw [ha]; rfl)) rfl⟩
theorem ixG_neg (k : By) : ∀ (l : List Lb) (i : Nat), (ixG k l i < 0 → l.all (fun x => !gtS x.name k) = true) ∧ (0 ≤ ixG k l i → ∃ j, ixG k l i = ((i + j : Nat) : Int) ∧ j < l.length ∧ (l.take j).all (fun x => !gtS x.name k) = true ∧ ∃ h : j < l.length, gtS l[j].name k = true)
  | [], i => ⟨fun _ => rfl, fun h => by simp [ixG] at h⟩
  | a :: r, i => by
    rw [ixG]
    by_cases e : gtS a.name k = true
    · rw [if_pos e]
      exact ⟨fun h => by omega, fun _ => ⟨0, by simp, by simp, rfl, by simp, e⟩⟩
    · rw [if_neg e]
      obtain ⟨h1, h2⟩ := ixG_neg k r (i + 1)
      rw [Bool.not_eq_true] at e
      refine ⟨fun h => by rw [List.all_cons, e, h1 h]; rfl, fun h => ?_⟩
      obtain ⟨j, e1, e2, e3, e4, e5⟩ := h2 h
      exact ⟨j + 1, by rw [e1]; congr 1; omega, by simp; omega, by rw [List.take_succ_cons, List.all_cons, e, e3]; rfl, by simp; omega, by simpa using e5⟩
def posLb (k : By) (l : List Lb) : Nat := if ixG k l 0 < 0 then l.length else (ixG k l 0).toNat
theorem posLb_le (k : By) (l : List Lb) : posLb k l ≤ l.length := by
  unfold posLb
  by_cases h : ixG k l 0 < 0
  · rw [if_pos h]; exact Nat.le_refl _
  · rw [if_neg h]
    obtain ⟨j, e1, e2, _⟩ := (ixG_neg k l 0).2 (by omega)
    rw [e1]; simp; omega
def withLb (l : List Lb) (k v : By) : List Lb := if v = [] then selL [k] false l else insLb (selL [k] false l) (posLb k (selL [k] false l)) ⟨k, v⟩
theorem selL_le (ns : List By) (b : Bool) (l : List Lb) : (selL ns b l).length ≤ l.length := List.length_filter_le _ _
theorem lb_insNil (x : Lb) : TriL Tryz.prog 175 [.nilslice, nI 0, .slice 0 0 1 1] [(0, .cells 64 (lbC x) 2)] 1 (fun v h nx => ∃ N, 1 ≤ N ∧ v = .slice 1 0 1 N ∧ h = [(1, .cells 64 (lbC x) (N * 2))] ∧ nx = 2) := by
  refine TriL.of_safeN Tryz.func175 rfl Tryz.results175 Tryz.ntmps175 rfl ?_
  refine go 99 rfl ?_
  refine Safe.slN rfl rfl rfl rfl rfl rfl rfl ?_
  refine go 99 rfl ?_
  first | refine Safe.gsK true rfl rfl ?_ | refine Safe.gsK false rfl rfl ?_ | refine Safe.brT rfl rfl ?_ | refine Safe.brF rfl rfl ?_
  refine go 99 rfl ?_
  first | refine Safe.gsK true rfl rfl ?_ | refine Safe.gsK false rfl rfl ?_ | refine Safe.brT rfl rfl ?_ | refine Safe.brF rfl rfl ?_
  refine go 99 rfl ?_
  refine Safe.appN (us := lbC x) rfl rfl rfl rfl rfl (rfl) rfl (by omega) (rfl) (by decide) (fun N' hN' => ?_)
  refine go 99 rfl ?_
  exact ⟨.inr rfl, trivial, .done rfl ⟨[(0, 0), (1, 1)], .slice 1 0 1 N', [(1, .cells 64 (lbC x) (N' * 2))], 2, ⟨⟨fit rfl, trivial⟩, ⟨_, .refl _, subK rfl rfl subN⟩, rfl⟩, N', by omega, rfl, rfl, rfl⟩⟩
theorem lb_indexNil (k : By) : PTri Tryz.prog 173 [.nilslice, .clo 174 [.fptr [.str k] 0]] (nI (-1)) :=
  Tri.weak (lb_index [] k (Nat.zero_le _)) rfl fun i u u' h h' => by
    match i, h, h' with
    | 0, h, h' => simp at h h'; subst h h'; exact VLe.nils
    | 1, h, h' => simp at h h'; subst h h'; exact VLe.refl _
    | i + 2, h, _ => simp at h
theorem renH1 {s : Nat → Option Nat} {k j nn : Nat} {T : TypeId} {cs : List V} (hd : cs.all dry = true) (hk : s k = some j) : renH s [(k, .cells T cs nn)] ++ [] = [(j, AObj.cells T cs nn)] := by
  show [(ky s k, renO s (.cells T cs nn))] ++ [] = _
  rw [renO_dry hd, ky_eq hk]; rfl
theorem finLb {l : List Lb} {i : Nat} {x : Lb} (hi : i ≤ l.length) : V.fslice (cat lbC (insLb l i x)) (l.length + 1) = slV lbC (insLb l i x) := by
  have e : (insLb l i x).length = l.length + 1 := by simp [insLb]; omega
  rw [slV, e]
theorem relH2 {sg : Sg} {a b i j : Nat} {A B : AObj} (ha : sgF sg a = some i) (hb : sgF sg b = some j) (h1 : renO (sgF sg) A = A) (h2 : renO (sgF sg) B = B) : relH sg [(a, A), (b, B)] ++ [] = [(i, A), (j, B)] := by
  simp only [relH, ha, hb, h1, h2, List.append_nil]
theorem lb_with (l : List Lb) (k v : By) (hl : l.length ≤ 100000) : PTri Tryz.prog 145 [slV lbC l, .str k, .str v] (slV lbC (withLb l k v)) := by
  have hle := selL_le [k] false l
  have hW := withLb.eq_1 l k v
  refine PTri.of_safe Tryz.func145 rfl Tryz.results145 Tryz.ntmps145 rfl ?_
  refine go 99 rfl ?_
  refine Safe.frzO 1 rfl rfl ?_
  refine Safe.frzO 0 rfl rfl ?_
  refine Safe.callL (rest := []) [] (lb_drop l [k] hl (show 1 ≤ big by decide)) rfl rfl rfl rfl (.refl _) (fun v' h' nx' q => ?_)
  obtain ⟨G, ⟨hG, hN⟩, rfl, rfl, rfl⟩ := q
  generalize hr : selL [k] false l = rest at *
  cases G with
  | none =>
    obtain rfl : rest = [] := List.length_eq_zero_iff.1 (hG rfl)
    refine go 99 rfl ?_
    refine Safe.br rfl (fun c => ?_) (fun c => ?_)
    · have c1 : v = [] := by simpa using c
      rw [if_pos c1] at hW
      rw [hW]
      refine go 99 rfl ?_
      exact ⟨.inr rfl, trivial, .weak rfl rfl (wkE rfl)⟩
    · have c1 : ¬ v = [] := by simpa using c
      rw [if_neg c1] at hW
      rw [hW]
      refine go 99 rfl ?_
      refine Safe.call (lb_indexNil k) rfl rfl rfl ?_
      refine go 99 rfl ?_
      first | refine Safe.gsK true rfl rfl ?_ | refine Safe.gsK false rfl rfl ?_ | refine Safe.brT rfl rfl ?_ | refine Safe.brF rfl rfl ?_
      refine go 99 rfl ?_
      refine Safe.ldF (rfl) rfl rfl rfl ?_
      refine go 99 rfl ?_
      refine Safe.callL (rest := []) [(0, 3)] (lb_insNil ⟨k, v⟩) rfl rfl rfl rfl (.refl _) (fun v' h' nx' q => ?_)
      obtain ⟨N, hN1, rfl, rfl, rfl⟩ := q
      refine go 99 rfl ?_
      exact ⟨.inr rfl, trivial, .frz 4 rfl rfl (.done rfl rfl)⟩
  | some N =>
    have hlN := hN N rfl
    refine Safe.hpO (h' := [(2, .cells 64 (cat lbC rest) (N * 2))]) (renH1 (catLb_d _) rfl) ?_
    refine go 99 rfl ?_
    refine Safe.br rfl (fun c => ?_) (fun c => ?_)
    · have c1 : v = [] := by simpa using c
      rw [if_pos c1] at hW
      rw [hW]
      refine go 99 rfl ?_
      exact ⟨.inr rfl, trivial, .frz 2 rfl (catLb_dry rest) (.done rfl rfl)⟩
    · have c1 : ¬ v = [] := by simpa using c
      rw [if_neg c1] at hW
      rw [hW]
      have hp := posLb.eq_1 k rest
      have hple := posLb_le k rest
      refine go 99 rfl ?_
      refine Safe.callF 2 (lb_index rest k (by simp only [big]; omega)) rfl rfl rfl rfl ?_ rfl ?_
      · exact catLb_d rest
      refine go 99 rfl ?_
      refine Safe.br rfl (fun d => ?_) (fun d => ?_)
      · have d1 : ixG k rest 0 < 0 := of_decide_eq_true d
        rw [if_pos d1] at hp
        refine go 99 rfl ?_
        refine Safe.ldF (rfl) rfl rfl rfl ?_
        refine go 99 rfl ?_
        refine Safe.callL (rest := []) [(0, 2), (1, 3)] (lb_insert rest ⟨k, v⟩ rest.length N (Nat.le_refl _) (by omega) hlN) rfl rfl rfl rfl (List.Perm.of_eq (relH2 rfl rfl rfl (renO_dry (catLb_d rest)))) (fun v' h' nx' q => ?_)
        rw [hp]
        obtain ⟨N', hN', ⟨rfl, rfl, rfl⟩ | ⟨rfl, rfl, rfl⟩⟩ := q
        · refine Safe.hpO (h' := [(2, .cells 64 (cat lbC (insLb rest rest.length ⟨k, v⟩)) (N' * 2))]) (renH1 (catLb_d _) rfl) ?_
          refine go 99 rfl ?_
          exact ⟨.inr rfl, trivial, .frz 2 rfl (catLb_dry _) (.done (congrArg some (finLb (Nat.le_refl _))) rfl)⟩
        · refine Safe.hpO (h' := [(4, .cells 64 (cat lbC (insLb rest rest.length ⟨k, v⟩)) (N' * 2))]) (renH1 (catLb_d _) rfl) ?_
          refine go 99 rfl ?_
          exact ⟨.inr rfl, trivial, .frz 4 rfl (catLb_dry _) (.done (congrArg some (finLb (Nat.le_refl _))) rfl)⟩
      · have d1 : ¬ ixG k rest 0 < 0 := of_decide_eq_false d
        rw [if_neg d1] at hp
        refine go 99 rfl ?_
        refine Safe.ldF (rfl) rfl rfl rfl ?_
        refine go 99 rfl ?_
        obtain ⟨j, hj⟩ : ∃ j : Nat, ixG k rest 0 = (j : Int) := ⟨_, (Int.toNat_of_nonneg (by omega)).symm⟩
        rw [hj, Int.toNat_natCast] at hp
        rw [hj]
        subst hp
        refine Safe.callL (rest := []) [(0, 2), (1, 3)] (lb_insert rest ⟨k, v⟩ (posLb k rest) N hple (by omega) hlN) rfl rfl rfl rfl (List.Perm.of_eq (relH2 rfl rfl rfl (renO_dry (catLb_d rest)))) (fun v' h' nx' q => ?_)
        obtain ⟨N', hN', ⟨rfl, rfl, rfl⟩ | ⟨rfl, rfl, rfl⟩⟩ := q
        · refine Safe.hpO (h' := [(2, .cells 64 (cat lbC (insLb rest (posLb k rest) ⟨k, v⟩)) (N' * 2))]) (renH1 (catLb_d _) rfl) ?_
          refine go 99 rfl ?_
          exact ⟨.inr rfl, trivial, .frz 2 rfl (catLb_dry _) (.done (congrArg some (finLb hple)) rfl)⟩
        · refine Safe.hpO (h' := [(4, .cells 64 (cat lbC (insLb rest (posLb k rest) ⟨k, v⟩)) (N' * 2))]) (renH1 (catLb_d _) rfl) ?_
          refine go 99 rfl ?_
          exact ⟨.inr rfl, trivial, .frz 4 rfl (catLb_dry _) (.done (congrArg some (finLb hple)) rfl)⟩
end Go.Proofs.YtmohgegpcfkooaaGreatDoor
end

section
namespace Go.Proofs.YtmohgegpcfkooaaGreatDoor
open Go.Deep Go.ChangeShapes Go.WideShapes Go.ChangeAt Go.RowKit Go.Fw Go.ChangeMaps
section
variable {H : Type} {enc : TypeId × Value → H} {W : World} {base : Nat} {sp : Nat → Bool} {held : Bool}
abbrev strK (s : By) : List V := [.str s]
def RcAt (W : World) (vs : List V) (cs : List Value) (off : Nat) : Prop := ∀ i v, vs[i]? = some v → ∃ x, cs[off + i]? = some x ∧ VR (fun b => W.heap[b]?) v x
def Rc (W : World) (vs : List V) (cs : List Value) : Prop := cs.length = vs.length ∧ RcAt W vs cs 0
theorem RcAt.app {a b : List V} {cs : List Value} {off : Nat} (h1 : RcAt W a cs off) (h2 : RcAt W b cs (off + a.length)) : RcAt W (a ++ b) cs off := fun i v hv => by
  by_cases hi : i < a.length
  · rw [List.getElem?_append_left hi] at hv
    exact h1 i v hv
  · rw [List.getElem?_append_right (by omega)] at hv
    obtain ⟨x, hx, r⟩ := h2 _ v hv
    exact ⟨x, by rw [← hx]; congr 1; omega, r⟩
theorem RcAt.of {a : List V} {cs : List Value} {off n : Nat} (h : Rc W a ((cs.drop off).take n)) : RcAt W a cs off := fun i v hv => by
  obtain ⟨x, hx, r⟩ := h.2 i v hv
  rw [Nat.zero_add] at hx
  have hn : i < n := by
    have := (List.getElem?_eq_some_iff.1 hx).1
    simp at this; omega
  rw [List.getElem?_take_of_lt hn, List.getElem?_drop] at hx
  exact ⟨x, hx, r⟩
def RdT {H : Type} (enc : TypeId × Value → H) (W : World) (base : Nat) (sp : Nat → Bool) (held : Bool) (T : TypeId) (n : Nat) {α : Type} (e : α → List V) (ok : α → Prop) : Prop :=
  ∀ cs (x : DataW H × List MemPlace), DataW.trod enc Tryz.prog W base sp held n T cs = some x → Rows.uptoBulk x.1 ≤ 1048576 → ∃ a, Rc W (e a) cs ∧ ok a
theorem rc_one {v : V} {x : Value} (h : VR (fun b => W.heap[b]?) v x) : Rc W [v] [x] := ⟨rfl, fun i u hu => by
  cases i with
  | zero => simp at hu; subst hu; exact ⟨x, rfl, h⟩
  | succ i => simp at hu⟩
theorem rd_str {T n : Nat} (hT : Tryz.prog.underlying T = some .string) : RdT enc W base sp held T n strK (fun s => s.length ≤ big) := fun cs x h hb => by
  obtain ⟨s, rfl, rfl, _⟩ := DataW.trod_string hT h
  refine ⟨s.data.toList, rc_one (.str _), ?_⟩
  simp only [Rows.uptoBulk] at hb
  simp only [big]; omega
theorem rd_int {T n : Nat} {k : IntKind} (hT : Tryz.prog.underlying T = some (.int k)) : RdT enc W base sp held T n (fun z : Int => [V.int k z]) (fun _ => True) := fun cs x h hb => by
  obtain ⟨z, rfl, rfl, _⟩ := DataW.trod_int hT h
  exact ⟨z, rc_one (.int _ _), trivial⟩
theorem bulk_part {d : DataW H} : ∀ {l : List (DataW H)}, d ∈ l → Rows.uptoBulk d ≤ Rows.uptoBulkAll l
  | x :: r, h => by
    simp only [Rows.uptoBulkAll]
    rcases List.mem_cons.1 h with rfl | h
    · omega
    · have := bulk_part h; omega
theorem bulk_pos (d : DataW H) : 1 ≤ Rows.uptoBulk d := by
  cases d with
  | lit y => cases y <;> simp [Rows.uptoBulk]
  | _ => simp [Rows.uptoBulk]
theorem bulk_len : ∀ ls : List (DataW H), ls.length ≤ Rows.uptoBulkAll ls
  | [] => by simp [Rows.uptoBulkAll]
  | d :: r => by
    have := bulk_pos d
    have := bulk_len r
    simp only [Rows.uptoBulkAll, List.length_cons]; omega
theorem list_choose {α : Type} {p : Nat → α → Prop} : ∀ (n : Nat), (∀ i, i < n → ∃ a, p i a) → ∃ l : List α, l.length = n ∧ ∀ i (h : i < l.length), p i l[i]
  | 0, _ => ⟨[], rfl, fun i h => by simp at h⟩
  | n + 1, hp => by
    obtain ⟨l, hl, hi⟩ := list_choose n fun i h => hp i (by omega)
    obtain ⟨a, ha⟩ := hp n (by omega)
    refine ⟨l ++ [a], by simp [hl], fun i h => ?_⟩
    by_cases hil : i < l.length
    · rw [List.getElem_append_left hil]; exact hi i hil
    · have : i = l.length := by simp at h; omega
      subst this
      simp only [List.getElem_concat_length]
      rw [hl]; exact ha
theorem rd_slice {α : Type} {T e k n : Nat} {en : α → List V} {ok : α → Prop} (hT : Tryz.prog.underlying T = some (.slice e)) (hk : Tryz.prog.cellsOf e = k) (hlen : ∀ a, (en a).length = k) (he : ∀ m, m < n → RdT enc W base sp held e m en ok) :
    RdT enc W base sp held T n (fun l : List α => [slV en l]) (fun l => l.length ≤ big ∧ ∀ a ∈ l, ok a) := fun cs x h hb => by
  letI := glOf W
  rcases DataW.trod_slice hT h with ⟨rfl, rfl⟩ | ⟨a, len, cap, elems, rest, m, rfl, rfl, rfl, hbs, hl, hm, hlen', hel, -, -⟩
  · exact ⟨[], rc_one .fnil, by simp, fun a ha => by simp at ha⟩
  · simp only [Rows.uptoBulk] at hb
    obtain ⟨l, hll, hi⟩ := list_choose (α := α) (p := fun i x => ∃ cs', W.cells? base (a.add (i * k)) k = some cs' ∧ Rc W (en x) cs' ∧ ok x) len fun i hil => by
      have h1 := hel i hil
      rw [hk, List.getElem?_eq_getElem (by omega)] at h1
      obtain ⟨cs', h2, h3⟩ := Option.bind_eq_some_iff.1 h1
      have h4 := bulk_part (d := elems[i].1) (l := elems.map (·.1)) (List.mem_map_of_mem (List.getElem_mem _))
      obtain ⟨x, h5, h6⟩ := he m (by omega) cs' _ h3 (by omega)
      exact ⟨x, cs', h2, h5, h6⟩
    refine ⟨l, rc_one ?_, ?_, fun x hx => ?_⟩
    · have hcell : ∀ j r (hj : j < l.length), r < k → ∃ u, W.cell? (a.add (j * k + r)) = some u ∧ ∀ v, (en l[j])[r]? = some v → VR (fun b => W.heap[b]?) v u := fun j r hj hr => by
        obtain ⟨cs', h2, h5, _⟩ := hi j hj
        obtain ⟨_, hlc, hc⟩ := World.cells?_some h2
        have h7 := hc r hr
        rw [List.getElem?_eq_getElem (by omega), Go.Deep.add_add] at h7
        refine ⟨_, h7, fun v hv => ?_⟩
        obtain ⟨u, hu, q⟩ := h5.2 r v hv
        rw [Nat.zero_add, List.getElem?_eq_getElem (by omega), Option.some.injEq] at hu
        rw [hu]; exact q
      have := VR.fslice (F := fun b => W.heap[b]?) (cat en l) l.length a cap (fun i => (W.cell? (a.add i)).getD undef) (by omega) (fun i hil => ?_) (fun i v hv => ?_)
      · unfold slV; rw [← hll]; exact this
      · rw [cat_length hlen] at hil
        have hkp : 0 < k := Nat.pos_of_ne_zero fun e => by subst e; simp at hil
        have hj : i / k < l.length := Nat.div_lt_of_lt_mul (by rw [Nat.mul_comm]; exact hil)
        obtain ⟨u, hu, _⟩ := hcell (i / k) (i % k) hj (Nat.mod_lt _ hkp)
        have e1 : i / k * k + i % k = i := by rw [Nat.mul_comm]; exact Nat.div_add_mod i k
        rw [e1] at hu
        show W.cell? (a.add i) = _
        rw [hu]; rfl
      · have hil := (List.getElem?_eq_some_iff.1 hv).1
        rw [cat_length hlen] at hil
        have hkp : 0 < k := Nat.pos_of_ne_zero fun e => by subst e; simp at hil
        have hj : i / k < l.length := Nat.div_lt_of_lt_mul (by rw [Nat.mul_comm]; exact hil)
        obtain ⟨u, hu, hq⟩ := hcell (i / k) (i % k) hj (Nat.mod_lt _ hkp)
        have e1 : i / k * k + i % k = i := by rw [Nat.mul_comm]; exact Nat.div_add_mod i k
        rw [e1] at hu
        rw [hu]
        refine hq v ?_
        rw [← cat_get hlen hj (Nat.mod_lt _ hkp), e1, hv]
    · have := bulk_len (elems.map (·.1))
      rw [List.length_map] at this
      simp only [big]; omega
    · obtain ⟨i, hil, rfl⟩ := List.getElem_of_mem hx
      obtain ⟨_, _, _, h6⟩ := hi i hil
      exact h6
theorem rd_field {n i : Nat} {f : Field} {fs : Array Field} {xs : List (DataW H × List MemPlace)} {cs : List Value} {α : Type} {e : α → List V} {ok : α → Prop} (hf : ∀ (i : Nat) (f : Field), fs[i]? = some f → DataW.trod enc Tryz.prog W base sp held n f.type ((cs.drop f.offset).take (Tryz.prog.cellsOf f.type)) = xs[i]?) (hlen : xs.length = fs.size)
    (hb : Rows.uptoBulk (.agg (xs.map (·.1))) ≤ 1048576) (hi : fs[i]? = some f) (hr : RdT enc W base sp held f.type n e ok) : ∃ a, RcAt W (e a) cs f.offset ∧ ok a := by
  have h1 := hf i f hi
  have hlt : i < xs.length := by rw [hlen]; exact (Array.getElem?_eq_some_iff.1 hi).1
  rw [List.getElem?_eq_getElem hlt] at h1
  have h2 := bulk_part (d := xs[i].1) (l := xs.map (·.1)) (List.mem_map_of_mem (List.getElem_mem _))
  simp only [Rows.uptoBulk] at hb
  obtain ⟨a, ha, hok⟩ := hr _ _ h1 (by omega)
  exact ⟨a, .of ha, hok⟩
theorem band {a b : Bool} (h : a = true) (h2 : b = true) : (a && b) = true := by rw [h, h2]; rfl
theorem rd_lb {n : Nat} : RdT enc W base sp held 64 n lbC okLb := fun cs x h hb => by
  obtain ⟨xs, m, rfl, rfl, hl, hlen, hf⟩ := DataW.trod_struct Tryz.underlying64 h
  obtain ⟨a0, r0, o0⟩ := rd_field (i := 0) hf hlen hb rfl (rd_str Tryz.underlying9)
  obtain ⟨a1, r1, o1⟩ := rd_field (i := 1) hf hlen hb rfl (rd_str Tryz.underlying9)
  exact ⟨⟨a0, a1⟩, ⟨hl.trans (by kernel_rfl), r0.app r1⟩, o0, o1⟩
theorem rd_lbs {n : Nat} : RdT enc W base sp held 33 n (fun l : List Lb => [slV lbC l]) okLs := rd_slice (k := 2) Tryz.underlying33 (by kernel_rfl) (fun _ => rfl) fun m _ => rd_lb
theorem rd_en {n : Nat} : RdT enc W base sp held 35 n enC okEn := fun cs x h hb => by
  obtain ⟨xs, m, rfl, rfl, hl, hlen, hf⟩ := DataW.trod_struct Tryz.underlying35 h
  obtain ⟨a0, r0, o0⟩ := rd_field (i := 0) hf hlen hb rfl (rd_int Tryz.underlying3)
  obtain ⟨a1, r1, o1⟩ := rd_field (i := 1) hf hlen hb rfl rd_lbs
  obtain ⟨a2, r2, o2⟩ := rd_field (i := 2) hf hlen hb rfl (rd_str Tryz.underlying9)
  obtain ⟨a3, r3, o3⟩ := rd_field (i := 3) hf hlen hb rfl rd_lbs
  obtain ⟨a4, r4, o4⟩ := rd_field (i := 4) hf hlen hb rfl (rd_int Tryz.underlying3)
  exact ⟨⟨a0, a1, a2, a3, a4⟩, ⟨hl.trans (by kernel_rfl), r0.app (r1.app (r2.app (r3.app r4)))⟩, o1, o2, o3⟩
theorem rd_ens {n : Nat} : RdT enc W base sp held 28 n (fun l : List En => [slV enC l]) okEns := rd_slice (k := 5) Tryz.underlying28 (by kernel_rfl) (fun _ => rfl) fun m _ => rd_en
end
end Go.Proofs.YtmohgegpcfkooaaGreatDoor
end

section
namespace Go.Proofs.YtmohgegpcfkooaaGreatDoor
open Go.Fw
variable [Gl]
set_option maxRecDepth 20000
set_option maxHeartbeats 4000000
def decLb : List V → Option (List Lb)
  | [] => some []
  | .str a :: .str b :: r => match decLb r with
    | some l => some (⟨a, b⟩ :: l)
    | none => none
  | _ => none
theorem decLb_ok : ∀ {cs : List V} {l : List Lb}, decLb cs = some l → cs = cat lbC l
  | [], l, h => by simp only [decLb, Option.some.injEq] at h; subst h; rfl
  | [_], l, h => by simp [decLb] at h
  | x :: y :: r, l, h => by
    unfold decLb at h
    split at h
    · rename_i e; cases e
    · rename_i a b r' e
      simp only [List.cons.injEq] at e
      obtain ⟨rfl, rfl, rfl⟩ := e
      split at h
      · rename_i l' hl
        simp only [Option.some.injEq] at h
        subst h
        rw [decLb_ok hl, cat_cons]; rfl
      · simp at h
    · simp at h
def withO (cs : List V) (n : Nat) (k v : By) : Option V := match decLb cs with
  | some l => match Nat.beq l.length n && Nat.ble l.length 1000 with
    | true => some (slV lbC (withLb l k v))
    | false => none
  | none => none
def oL : Orc := fun f us => match f, us with
  | 113, [.str s, .int .u8 c] => some (.int .i64 (Lib.indexByte s c.toNat.toUInt8))
  | 145, [.fslice cs n, .str k, .str v] => withO cs n k v
  | 145, [.nilslice, .str k, .str v] => withO [] 0 k v
  | _, _ => none
def hzL : FuncId → Nat → Bool := fun f r => match f, r with
  | 13, 8 => true
  | 54, 999999 => true
  | 168, 999999 => true
  | 103, 9 => true
  | _, _ => false
end Go.Proofs.YtmohgegpcfkooaaGreatDoor
end

section
namespace Go.Proofs.YtmohgegpcfkooaaGreatDoor
open Go.Fw
variable [Gl]
set_option maxRecDepth 20000
set_option maxHeartbeats 4000000
theorem aw_run : eF Tryz.prog oL hzL 100000 30 13 [] [] 0 = some (.bool true, [], 37) := by kernel_rfl
end Go.Proofs.YtmohgegpcfkooaaGreatDoor
end

section
namespace Go.Proofs.YtmohgegpcfkooaaGreatDoor
open Go.Fw
variable [Gl]
set_option maxRecDepth 20000
set_option maxHeartbeats 4000000
theorem vrs_str8 {s : List UInt8} {c : Int} (F : Froz) (av : Array Value) (h : VRs F [.str s, .int .u8 c] av) : av = #[.string ⟨s.toArray⟩, .int .u8 c] := by
  have h0 := (h.2 0 _ rfl).str_inv
  have h1 := (h.2 1 _ rfl).int_inv
  have hs := h.1
  simp at hs
  obtain ⟨L⟩ := av
  match L, hs with
  | [x, y], _ => simp at h0 h1; rw [h0, h1]
theorem ix_byte (s : By) (c : Int) : PTri Tryz.prog 113 [.str s, .int .u8 c] (.int .i64 (Lib.indexByte s c.toNat.toUInt8)) :=
  PTri.of_same _ _ (fun F av h => vrs_str8 F av h) (fun w => Tryz.stringslite_IndexByte _ _ w) (fun F => .int _ _)
theorem with_nil (k v : By) : PTri Tryz.prog 145 [.nilslice, .str k, .str v] (slV lbC (withLb [] k v)) :=
  Tri.weak (lb_with [] k v (Nat.zero_le _)) rfl fun i u u' h h' => by
    match i, h, h' with
    | 0, h, h' => simp at h h'; subst h h'; exact VLe.nils
    | 1, h, h' => simp at h h'; subst h h'; exact VLe.refl _
    | 2, h, h' => simp at h h'; subst h h'; exact VLe.refl _
    | i + 3, h, _ => simp at h
theorem withO_ok {cs : List V} {n : Nat} {k v : By} {r : V} (h : withO cs n k v = some r) : ∃ l : List Lb, cs = cat lbC l ∧ l.length = n ∧ l.length ≤ 1000 ∧ r = slV lbC (withLb l k v) := by
  unfold withO at h
  split at h
  · rename_i l hl
    split at h
    · rename_i hc
      simp only [Bool.and_eq_true] at hc
      simp only [Option.some.injEq] at h
      exact ⟨l, decLb_ok hl, Nat.eq_of_beq_eq_true hc.1, Nat.le_of_ble_eq_true hc.2, h.symm⟩
    · simp at h
  · simp at h
theorem oL_ok : OrcOk Tryz.prog oL := by
  intro f us v h
  unfold oL at h
  split at h
  · obtain rfl := Option.some.inj h
    exact ⟨by kernel_rfl, rfl, rfl, ix_byte _ _⟩
  · obtain ⟨l, rfl, rfl, hl, rfl⟩ := withO_ok h
    exact ⟨by kernel_rfl, rfl, rfl, lb_with l _ _ (by omega)⟩
  · obtain ⟨l, hc, h0, hl, rfl⟩ := withO_ok h
    obtain rfl : l = [] := List.length_eq_zero_iff.1 h0
    exact ⟨by kernel_rfl, rfl, rfl, with_nil _ _⟩
  · cases h
theorem l_awake : PTri Tryz.prog 13 [] (.bool true) := PTri.closed oL_ok mixed hzL 100000 30 aw_run rfl rfl
end Go.Proofs.YtmohgegpcfkooaaGreatDoor
end

section
namespace Go.Proofs.YtmohgegpcfkooaaGreatDoor
open Go.Fw
variable [Gl]
set_option maxRecDepth 20000
set_option maxHeartbeats 4000000
def isLenN (P : Program) (m : Fl) (o : Oper) : Bool := match o.op with
  | .call c => match c.callee with
    | .builtin .len => match c.args.toList, c.argTypes.toList with
      | [x], [T] => match evX m x with
        | some .nilslice => lenFits P T .nilslice
        | _ => false
      | _, _ => false
    | _ => false
  | _ => false
theorem ev_lenN {P : Program} {m : Fl} {o : Oper} (hc : isLenN P m o = true) : EvA P m o (.int .i64 0) := by
  intro ρ h ht
  unfold isLenN at hc
  split at hc
  · rename_i c hop
    split at hc
    · rename_i hcal
      split at hc
      · rename_i x T h1 h2
        split at hc
        · rename_i hx
          simp only [evP, hop, hcal, h1, h2, evX_ren hx, renV, evLen, hc]
          rfl
        · simp at hc
      · simp at hc
    · simp at hc
  · simp at hc
theorem filters_law (hw : PTri Tryz.prog 13 [] (.bool true)) (hc : Cont) (l : List En) (h : okEns l) (s : By) : PTri Tryz.prog 7 [slV enC l, .str s] (.bool true) := by
  have hb := h.1
  simp only [big] at hb
  refine PTri.of_safe Tryz.func7 rfl Tryz.results7 Tryz.ntmps7 rfl ?_
  refine go 99 rfl ?_
  refine Safe.call (r_great l h) rfl rfl rfl ?_
  refine go 99 rfl ?_
  refine Safe.cut1 (α := Unit) (fun _ => [(0, slV enC l), (1, .str s)]) (fun _ => []) 0 (fun _ => s ≠ [] ∧ s.length ≤ 200 ∧ (∀ x ∈ l, chkEn x = 0)) ?_ ?_
  · refine Safe.gs rfl (fun c1 => ?_) (fun c1 => ?_)
    · refine go 99 rfl ?_
      refine Safe.call (hw) rfl rfl rfl ?_
      refine go 99 rfl ?_
      exact ⟨.inr rfl, trivial, .done (rfl) rfl⟩
    · refine go 99 rfl ?_
      refine Safe.gs rfl (fun c2 => ?_) (fun c2 => ?_)
      · refine go 99 rfl ?_
        refine Safe.call (hw) rfl rfl rfl ?_
        refine go 99 rfl ?_
        exact ⟨.inr rfl, trivial, .done (rfl) rfl⟩
      · have d2 : s ≠ [] := by simpa using c2
        refine go 99 rfl ?_
        refine Safe.gs rfl (fun c3 => ?_) (fun c3 => ?_)
        · refine go 99 rfl ?_
          refine Safe.call (hw) rfl rfl rfl ?_
          refine go 99 rfl ?_
          exact ⟨.inr rfl, trivial, .done (rfl) rfl⟩
        · have d3 : s.length ≤ 200 := by simp at c3; omega
          refine go 99 rfl ?_
          refine Safe.call (s_has l h) rfl rfl rfl ?_
          refine go 99 rfl ?_
          refine Safe.br rfl (fun c4 => ?_) (fun c4 => ?_)
          · refine go 99 rfl ?_
            refine Safe.call (hw) rfl rfl rfl ?_
            refine go 99 rfl ?_
            exact ⟨.inr rfl, trivial, .done (rfl) rfl⟩
          · have d4 : ∀ x ∈ l, chkEn x = 0 := by simpa using c4
            refine go 99 rfl ?_
            exact ⟨sgI 0, (), ⟨d2, d3, d4⟩, rfl, rfl, ⟨fit rfl, fit rfl, trivial⟩, ⟨_, .refl _, List.nil_sublist _⟩, rfl⟩
  · rintro ⟨⟩ ⟨d2, d3, d4⟩
    refine go 99 rfl ?_
    refine Safe.loop (α := Nat) (fun i => [(1, .str s), (27, slV enC l), (28, nI l.length), (29, nI i)]) (fun i => []) 0 (fun i => l.length - i) (fun i => i ≤ l.length) 0 (sgI 0) ⟨⟨fit rfl, fit rfl, fit rfl, fit rfl, trivial⟩, ⟨_, .refl _, List.nil_sublist _⟩, rfl⟩ (Nat.zero_le _) ?_
    rintro i hi
    refine go 99 rfl ?_
    refine Safe.br rfl (fun c => ?_) (fun c => ?_)
    · have hi : i < l.length := ltc c
      have hy := h.2 l[i] (List.getElem_mem hi)
      have hk := d4 l[i] (List.getElem_mem hi)
      have hyl := hy.2.1
      simp only [big] at hyl
      have e1 := l_contains hc s d2 d3 l[i] hy hk
      have e2 := l_notcontains hc s d2 d3 l[i] hy hk
      have e3 := hc l[i].line s (by omega)
      refine go 99 rfl ?_
      refine Safe.idxF hi rfl rfl rfl ?_
      refine go 99 rfl ?_
      refine Safe.ldF (ldEn hi) rfl rfl rfl ?_
      cases hp : Lib.contains l[i].line s with
      | true =>
        rw [hp] at e1 e2 e3
        replace e1 : PTri Tryz.prog 15 [slV (sgC 1) [s], slV enC [l[i]]] (.tup [.fslice (enC l[i]) 1, nI 0]) := e1
        replace e2 : PTri Tryz.prog 15 [slV (sgC 2) [s], slV enC [l[i]]] (.tup [.nilslice, nI 0]) := e2
        refine go 99 rfl ?_
        refine Safe.frzO 1 rfl rfl ?_
        refine Safe.frzO 2 rfl rfl ?_
        refine Safe.call (e1) rfl rfl rfl ?_
        refine go 99 rfl ?_
        refine Safe.frzO 3 rfl rfl ?_
        refine Safe.frzO 4 rfl rfl ?_
        refine Safe.call (e2) rfl rfl rfl ?_
        refine go 99 rfl ?_
        refine Safe.frzC 0 rfl rfl ?_
        refine Safe.drawP mixed [0, 1, 2, 3, 4, 5, 6, 7, 8, 9, 10, 11, 12, 13, 14, 15, 16, 17, 18, 19, 20, 21, 22, 23, 24, 25, 26, 27, 28, 29, 30, 31, 32, 33] [(true, true), (true, true), (true, true), (true, true), (true, true), (true, true), (true, true), (true, true), (true, true), (true, true), (true, true), (true, true), (true, true), (true, true), (true, true), (true, false), (true, false), (true, false), (true, true), (true, true), (true, true), (true, true), (true, true), (true, true), (true, true), (true, true), (true, true), (true, true), (true, true), (true, true), (true, true), (true, true), (true, true), (true, true)] (by kernel_rfl) ?_
        refine go 99 rfl ?_
        first | refine Safe.gsK true rfl rfl ?_ | refine Safe.gsK false rfl rfl ?_ | refine Safe.brT rfl rfl ?_ | refine Safe.brF rfl rfl ?_
        refine go 99 rfl ?_
        first | refine Safe.gsK true rfl rfl ?_ | refine Safe.gsK false rfl rfl ?_ | refine Safe.brT rfl rfl ?_ | refine Safe.brF rfl rfl ?_
        refine go 99 rfl ?_
        first | refine Safe.gsK true rfl rfl ?_ | refine Safe.gsK false rfl rfl ?_ | refine Safe.brT rfl rfl ?_ | refine Safe.brF rfl rfl ?_
        refine go 99 rfl ?_
        refine Safe.lenA rfl rfl ?_
        refine go 99 rfl ?_
        refine Safe.ldF (rfl) rfl rfl rfl ?_
        refine go 99 rfl ?_
        refine Safe.call (e3) rfl rfl rfl ?_
        refine go 99 rfl ?_
        first | refine Safe.gsK true rfl rfl ?_ | refine Safe.gsK false rfl rfl ?_ | refine Safe.brT rfl rfl ?_ | refine Safe.brF rfl rfl ?_
        refine go 99 rfl ?_
        refine Safe.bsF rfl rfl ?_
        refine go 99 rfl ?_
        refine Safe.call (s_concat_true l[i]) rfl rfl rfl ?_
        refine go 99 rfl ?_
        refine Safe.ldF (rfl) rfl rfl rfl ?_
        refine go 99 rfl ?_
        refine Safe.bsF rfl rfl ?_
        refine go 99 rfl ?_
        refine Safe.call (r_sameSelf l[i] hy) rfl rfl rfl ?_
        refine go 99 rfl ?_
        first | refine Safe.gsK true rfl rfl ?_ | refine Safe.gsK false rfl rfl ?_ | refine Safe.brT rfl rfl ?_ | refine Safe.brF rfl rfl ?_
        refine go 99 rfl ?_
        exact ⟨sgI 0, i + 1, hi, mlt hi, rfl, rfl, ⟨fit rfl, fit rfl, fit rfl, fit (isucc (by first | omega | (dsimp only; omega))), trivial⟩, ⟨_, .refl _, List.nil_sublist _⟩, rfl⟩
      | false =>
        rw [hp] at e1 e2 e3
        replace e1 : PTri Tryz.prog 15 [slV (sgC 1) [s], slV enC [l[i]]] (.tup [.nilslice, nI 0]) := e1
        replace e2 : PTri Tryz.prog 15 [slV (sgC 2) [s], slV enC [l[i]]] (.tup [.fslice (enC l[i]) 1, nI 0]) := e2
        refine go 99 rfl ?_
        refine Safe.frzO 1 rfl rfl ?_
        refine Safe.frzO 2 rfl rfl ?_
        refine Safe.call (e1) rfl rfl rfl ?_
        refine go 99 rfl ?_
        refine Safe.frzO 3 rfl rfl ?_
        refine Safe.frzO 4 rfl rfl ?_
        refine Safe.call (e2) rfl rfl rfl ?_
        refine go 99 rfl ?_
        refine Safe.frzC 0 rfl rfl ?_
        refine Safe.drawP mixed [0, 1, 2, 3, 4, 5, 6, 7, 8, 9, 10, 11, 12, 13, 14, 15, 16, 17, 18, 19, 20, 21, 22, 23, 24, 25, 26, 27, 28, 29, 30, 31, 32, 33] [(true, true), (true, true), (true, true), (true, true), (true, true), (true, true), (true, true), (true, true), (true, true), (true, true), (true, true), (true, true), (true, true), (true, true), (true, true), (true, false), (true, false), (true, false), (true, true), (true, true), (true, true), (true, true), (true, true), (true, true), (true, true), (true, true), (true, true), (true, true), (true, true), (true, true), (true, true), (true, true), (true, true), (true, true)] (by kernel_rfl) ?_
        refine go 99 rfl ?_
        first | refine Safe.gsK true rfl rfl ?_ | refine Safe.gsK false rfl rfl ?_ | refine Safe.brT rfl rfl ?_ | refine Safe.brF rfl rfl ?_
        refine go 99 rfl ?_
        first | refine Safe.gsK true rfl rfl ?_ | refine Safe.gsK false rfl rfl ?_ | refine Safe.brT rfl rfl ?_ | refine Safe.brF rfl rfl ?_
        refine go 99 rfl ?_
        first | refine Safe.gsK true rfl rfl ?_ | refine Safe.gsK false rfl rfl ?_ | refine Safe.brT rfl rfl ?_ | refine Safe.brF rfl rfl ?_
        refine go 99 rfl ?_
        refine Safe.valA (ev_lenN rfl) rfl ?_ rfl
        refine go 99 rfl ?_
        refine Safe.ldF (rfl) rfl rfl rfl ?_
        refine go 99 rfl ?_
        refine Safe.call (e3) rfl rfl rfl ?_
        refine go 99 rfl ?_
        first | refine Safe.gsK true rfl rfl ?_ | refine Safe.gsK false rfl rfl ?_ | refine Safe.brT rfl rfl ?_ | refine Safe.brF rfl rfl ?_
        refine go 99 rfl ?_
        refine Safe.bsF rfl rfl ?_
        refine go 99 rfl ?_
        refine Safe.call (s_concat_false l[i]) rfl rfl rfl ?_
        refine go 99 rfl ?_
        refine Safe.ldF (rfl) rfl rfl rfl ?_
        refine go 99 rfl ?_
        refine Safe.bsF rfl rfl ?_
        refine go 99 rfl ?_
        refine Safe.call (r_sameSelf l[i] hy) rfl rfl rfl ?_
        refine go 99 rfl ?_
        first | refine Safe.gsK true rfl rfl ?_ | refine Safe.gsK false rfl rfl ?_ | refine Safe.brT rfl rfl ?_ | refine Safe.brF rfl rfl ?_
        refine go 99 rfl ?_
        exact ⟨sgI 0, i + 1, hi, mlt hi, rfl, rfl, ⟨fit rfl, fit rfl, fit rfl, fit (isucc (by first | omega | (dsimp only; omega))), trivial⟩, ⟨_, .refl _, List.nil_sublist _⟩, rfl⟩
    · refine go 99 rfl ?_
      refine Safe.call (hw) rfl rfl rfl ?_
      refine go 99 rfl ?_
      exact ⟨.inr rfl, trivial, .done (rfl) rfl⟩
end Go.Proofs.YtmohgegpcfkooaaGreatDoor
end

section
namespace Go.Proofs.YtmohgegpcfkooaaGreatDoor
open Go.Fw
variable [Gl]
def GInt : Prop := ∃ m : Int, fcell Gl.g ⟨0, 0, none⟩ = some (.int .i64 m)
theorem gint_cont (hG : GInt) : Cont := fun s t hs => by
  obtain ⟨m, hm⟩ := hG
  exact PTri.of_calls (fun w => w.cell? ⟨0, 0, none⟩ = some (.int .i64 m)) _ _ vrs_str2 (fun F w ho => fcell_gl ho hm) (fun w hw => (Tryz.strings_Contains ⟨s.toArray⟩ ⟨t.toArray⟩ m w (by simpa [ByteArray.size] using hs) hw).mono fun e w' q => ⟨by simpa using q.1, 0, by rw [q.2]; rfl⟩) fun F => by simpa using VR.bool _
theorem l_filters (hG : GInt) (l : List En) (s : By) (h : okEns l) : PTri Tryz.prog 7 [slV enC l, .str s] (.bool true) := filters_law l_awake (gint_cont hG) l h s
end Go.Proofs.YtmohgegpcfkooaaGreatDoor
end

section
namespace Go.Proofs.YtmohgegpcfkooaaGreatDoor
open Go.Deep Go.ChangeShapes Go.WideShapes Go.ChangeAt Go.RowKit Go.Fw Go.ChangeMaps
theorem vrs_two {F : Froz} {a b : V} {x y : Value} (h1 : VR F a x) (h2 : VR F b y) : VRs F [a, b] #[x, y] := ⟨rfl, fun i v hv => by
  match i with
  | 0 => simp at hv; subst hv; simpa using h1
  | 1 => simp at hv; subst hv; simpa using h2
  | i + 2 => simp at hv⟩
theorem laidOut : laidOutB Tryz.prog = true := by kernel_rfl
theorem own : ownKnob Tryz.prog.godebug = none := by kernel_rfl
theorem gint_start {W : World} (h : W.ShapedOpen Tryz.prog) : @GInt (glOf W) := by
  obtain ⟨m, hm⟩ := Tryz.laysM219.s1_3 W h
  exact ⟨m, fcell_start hm rfl⟩
noncomputable def laidWorld (os : Os) : World :=
  let w0 := World.holding Tryz.prog os ⟨#[], #[], []⟩
  let put (h : Array Obj) (g : Nat) (cs : Array Value) : Array Obj := h.modify g fun
    | .cells _ t frozen => .cells cs t frozen
    | o => o
  let h1 := put w0.heap 6 (Go.Pinned.utf8FirstZ.map fun (z : Nat) => Value.int .u8 (z : Int)).toArray
  let h2 := put h1 7 #[.int .u8 128, .int .u8 191, .int .u8 160, .int .u8 191, .int .u8 128, .int .u8 159, .int .u8 144, .int .u8 191, .int .u8 128, .int .u8 143, .int .u8 0, .int .u8 0, .int .u8 0, .int .u8 0, .int .u8 0, .int .u8 0, .int .u8 0, .int .u8 0, .int .u8 0, .int .u8 0, .int .u8 0, .int .u8 0, .int .u8 0, .int .u8 0, .int .u8 0, .int .u8 0, .int .u8 0, .int .u8 0, .int .u8 0, .int .u8 0, .int .u8 0, .int .u8 0]
  { w0 with heap := h2 }
abbrev laidL : List (String × DataW Unit) := [("unicode/utf8.acceptRanges", Rows.laid_unicode_utf8_acceptRanges), ("unicode/utf8.first", Rows.laid_unicode_utf8_first)]
theorem laid_met (os : Os) (args : Array Value) : laidMet Tryz.prog laidL ((laidWorld os).forCall (fun _ _ => 0) ⟨#[], args, []⟩).memory :=
  laidMet_of_run' 8 (by kernel_rfl) (by kernel_rfl)
section
variable {H : Type} {enc : TypeId × Value → H} {W : World} {base b0 : Nat} {r : Reach} {sp : Nat → Bool} {held : Bool} {v : Value} {d : DataW H} {p : List MemPlace}
set_option maxRecDepth 100000 in
theorem open_ens (hval : Value.okWide Tryz.prog W r b0 28 v) (hd : DataW.Trod enc Tryz.prog W base sp held 28 v d p) (hb : Rows.uptoBulk d ≤ 1048576) : ∃ e : List En, VR (fun b => W.heap[b]?) (slV enC e) v ∧ okEns e := by
  obtain ⟨a, len, cap, rfl⟩ := okWide_slice Tryz.underlying28 hval
  obtain ⟨fuel, hf⟩ := hd
  obtain ⟨l, hl, ho⟩ := rd_ens (n := fuel) _ (d, p) hf hb
  obtain ⟨x, hx, q⟩ := hl.2 0 _ rfl
  have : x = .slice a len cap := by simpa [Value.cells] using hx.symm
  rw [this] at q
  exact ⟨l, q, ho⟩
end
end Go.Proofs.YtmohgegpcfkooaaGreatDoor
end
