/- A part of the proof: C0, C1, C2, C3, C4, C5, CShelf, C6, C7, C8, CRD, CRB -/
import Derived.Test.YtonbppofjlpklaaGreatDoorFwRow
import Derived.KernelRfl
import Derived.Sort.Walk0
import Derived.Test.YtonbppofjlpklaaGreatDoorProg
import Derived.Shelf.Small.Utf8
import Derived.Shelf.Small.Bits
import Derived.Shelf.Small.Strs
import Derived.Shelf.Strconv.Itoa0
import Derived.Shelf.Strings.Search1
import Derived.Shelf.Strings.Search2
import Derived.Shelf.Strings.Search3
import Derived.Shelf.Strings.Cut
import Derived.Shelf.LaysM
import Derived.Shelf.Strings.Shaped
import Derived.Shelf.Strings.Fields
import Derived.Shelf.Strings.SplitShaped
import Derived.Shelf.Unicode.Latin
import Derived.Shelf.Unicode.Decode
import Derived.Shelf.Strings.Runes
import Derived.Shelf.Strings.AsciiSet
import Derived.Shelf.Unicode.DecodeSlow
import Derived.Shelf.Unicode.DecodeAny
import Derived.Shelf.Unicode.Is16White
import Derived.Shelf.Unicode.IsSpaceAny
import Derived.Shelf.Unicode.Is16Any
import Derived.Shelf.Unicode.Is32Any
import Derived.Shelf.Unicode.ExclAny
import Derived.Ground.Names2Prog
import Derived.Shelf.Slices.SearchI
import Derived.Lib.Fields
import Derived.Test.YtonbppofjlpklaaGreatDoorCards
import Derived.Test.YtonbppofjlpklaaGreatDoorTie
import Derived.WalkKit
import Derived.ProofKit
import Derived.OpenShut
import Derived.Deep.DeepHandedRow
import Derived.Deep.SlicePairs
import Derived.Carry
import Derived.Lib.LaidTab
import Derived.Deep.DeepLaidRun
import Derived.Deep.DeepWitnessRowRef
set_option linter.all false
set_option linter.unusedSectionVars false
set_option linter.unusedVariables false
set_option linter.unusedSimpArgs false
section
namespace Go.Proofs.YtonbppofjlpklaaGreatDoor
open Go.Fw
variable [Gl]
set_option maxRecDepth 20000
set_option maxHeartbeats 4000000
abbrev By := List UInt8
abbrev nI (n : Int) : V := .int .i64 n
theorem mlt {n i : Nat} (h : i < n) : n - (i + 1) < n - i := by omega
def big : Nat := 4194304
theorem isucc {i : Nat} (h : i < 4611686018427387904) : some (V.int .i64 (IntKind.i64.wrap ((i : Int) + 1))) = some (V.int .i64 ((i + 1 : Nat) : Int)) := int_fit (by omega) (by omega) (by omega)
theorem ltc {i n : Nat} (c : decide ((i : Int) < (n : Int)) = true) : i < n := by simpa using c
theorem gec {i n : Nat} (c : decide ((i : Int) < (n : Int)) = false) : n ≤ i := by simpa using c
theorem nIeq {a b : Int} (h : a = b) : some (V.int .i64 a) = some (V.int .i64 b) := by rw [h]
theorem bIeq {a b : Bool} (h : a = b) : some (V.bool a) = some (V.bool b) := by rw [h]
theorem mixed : Tryz.prog.follows .mixedOrders = true := by kernel_rfl
structure Lb where
  name : By
  value : By
structure Xm where
  labels : List Lb
  time : Int
  value : Int
  trace : Int
  span : Int
def lbC (x : Lb) : List V := [.str x.name, .str x.value]
def xmC (x : Xm) : List V := [slV lbC x.labels, nI x.time, nI x.value, nI x.trace, nI x.span]
abbrev xmV (x : Xm) : V := .agg (xmC x)
abbrev lbV' (x : Lb) : V := .agg (lbC x)
def inC (n : Int) : List V := [nI n]
def okLb (x : Lb) : Prop := x.name.length ≤ big ∧ x.value.length ≤ big
def okLs (l : List Lb) : Prop := l.length ≤ big ∧ ∀ x ∈ l, okLb x
def okX (x : Xm) : Prop := okLs x.labels
theorem ldL {l : List Lb} {i : Nat} (hi : i < l.length) : ldAt Tryz.prog 30 (cat lbC l) (i * 2) = some (lbV' l[i]) := ld_cat (enc := lbC) (fun _ => rfl) hi (by kernel_rfl) (by kernel_rfl)
theorem ldL0 {l : List Lb} {i : Nat} (hi : i < l.length) : ldAt Tryz.prog 9 (cat lbC l) (i * 2 + 0) = some (.str l[i].name) := ld_cat1 (enc := lbC) 0 (fun _ => rfl) hi (by decide) (by kernel_rfl) rfl
theorem ldL1 {l : List Lb} {i : Nat} (hi : i < l.length) : ldAt Tryz.prog 9 (cat lbC l) (i * 2 + 1) = some (.str l[i].value) := ld_cat1 (enc := lbC) 1 (fun _ => rfl) hi (by decide) (by kernel_rfl) rfl
theorem ldI {l : List Int} {i : Nat} (hi : i < l.length) : ldAt Tryz.prog 3 (cat inC l) (i * 1) = some (nI l[i]) := by
  have := ld_cat1 (P := Tryz.prog) (T := 3) (enc := inC) 0 (fun _ => rfl) hi (by decide) (by kernel_rfl) rfl
  simpa using this
theorem c_nanI (a : Int) : PTri Tryz.prog 40 [nI a] (.bool false) := by
  refine PTri.of_safe Tryz.func40 rfl Tryz.results40 Tryz.ntmps40 rfl ?_
  refine go 99 rfl ?_
  exact ⟨.inr rfl, trivial, .done (bIeq (by simp)) rfl⟩
theorem c_nanS (a : By) : PTri Tryz.prog 72 [.str a] (.bool false) := by
  refine PTri.of_safe Tryz.func72 rfl Tryz.results72 Tryz.ntmps72 rfl ?_
  refine go 99 rfl ?_
  exact ⟨.inr rfl, trivial, .done (bIeq (by simp)) rfl⟩
def cI (a b : Int) : Int := if a < b then -1 else if b < a then 1 else 0
theorem c_cmpI (a b : Int) : PTri Tryz.prog 21 [nI a, nI b] (nI (cI a b)) := by
  refine PTri.of_safe Tryz.func21 rfl Tryz.results21 Tryz.ntmps21 rfl ?_
  refine go 99 rfl ?_
  refine Safe.call (c_nanI a) rfl rfl rfl ?_
  refine go 99 rfl ?_
  refine Safe.call (c_nanI b) rfl rfl rfl ?_
  refine go 99 rfl ?_
  first | refine Safe.gsK true rfl rfl ?_ | refine Safe.gsK false rfl rfl ?_ | refine Safe.brT rfl rfl ?_ | refine Safe.brF rfl rfl ?_
  refine go 99 rfl ?_
  first | refine Safe.gsK true rfl rfl ?_ | refine Safe.gsK false rfl rfl ?_ | refine Safe.brT rfl rfl ?_ | refine Safe.brF rfl rfl ?_
  refine go 99 rfl ?_
  refine Safe.br rfl (fun c => ?_) (fun c => ?_)
  · have c1 : a < b := of_decide_eq_true c
    refine go 99 rfl ?_
    exact ⟨.inr rfl, trivial, .done (nIeq (by simp [cI, c1])) rfl⟩
  · have c1 : ¬ a < b := of_decide_eq_false c
    refine go 99 rfl ?_
    refine Safe.br rfl (fun d => ?_) (fun d => ?_)
    · have d1 : b < a := of_decide_eq_true d
      refine go 99 rfl ?_
      exact ⟨.inr rfl, trivial, .done (nIeq (by simp [cI, c1, d1])) rfl⟩
    · have d1 : ¬ b < a := of_decide_eq_false d
      refine go 99 rfl ?_
      exact ⟨.inr rfl, trivial, .done (nIeq (by simp [cI, c1, d1])) rfl⟩
theorem le_anti {a b : By} (h : a ≤ b) (h' : b ≤ a) : a = b := List.le_antisymm h h'
theorem lt_le {a b : By} (h : a < b) : a ≤ b := List.le_of_lt h
theorem lt_ne {a b : By} (h : a ≤ b) (hn : a ≠ b) : a < b := Classical.byContradiction fun h1 => hn (le_anti h (by simpa using h1))
theorem lt_irr {a : By} (h : a < a) : False := List.lt_irrefl a h
theorem lt_tr {a b c : By} (h : a < b) (h' : b < c) : a < c := List.lt_trans h h'
theorem bl_iff (x y : By) : Op.bytesLess x y = true ↔ x < y := by rw [Go.Proofs.bytesLess_eq]; simp
theorem bl_no (x y : By) : Op.bytesLess x y = false ↔ y ≤ x := by
  rw [← Bool.not_eq_true, bl_iff]
  exact List.not_lt
theorem le_nl (x p : By) : (Op.bytesLess x p || x == p) = !Op.bytesLess p x := by
  rw [Bool.eq_iff_iff]
  simp only [Bool.or_eq_true, bl_iff, beq_iff_eq, Bool.not_eq_true', bl_no]
  constructor
  · rintro (h | rfl)
    · exact lt_le h
    · exact List.le_refl _
  · intro h
    by_cases e : x = p
    · exact .inr e
    · exact .inl (lt_ne h e)
def cS (a b : By) : Int := if Op.bytesLess a b then -1 else if Op.bytesLess b a then 1 else 0
theorem c_cmpS (a b : By) : PTri Tryz.prog 39 [.str a, .str b] (nI (cS a b)) := by
  refine PTri.of_safe Tryz.func39 rfl Tryz.results39 Tryz.ntmps39 rfl ?_
  refine go 99 rfl ?_
  refine Safe.call (c_nanS a) rfl rfl rfl ?_
  refine go 99 rfl ?_
  refine Safe.call (c_nanS b) rfl rfl rfl ?_
  refine go 99 rfl ?_
  first | refine Safe.gsK true rfl rfl ?_ | refine Safe.gsK false rfl rfl ?_ | refine Safe.brT rfl rfl ?_ | refine Safe.brF rfl rfl ?_
  refine go 99 rfl ?_
  first | refine Safe.gsK true rfl rfl ?_ | refine Safe.gsK false rfl rfl ?_ | refine Safe.brT rfl rfl ?_ | refine Safe.brF rfl rfl ?_
  refine go 99 rfl ?_
  refine Safe.br rfl (fun c => ?_) (fun c => ?_)
  · refine go 99 rfl ?_
    exact ⟨.inr rfl, trivial, .done (nIeq (by simp [cS, c])) rfl⟩
  · refine go 99 rfl ?_
    refine Safe.br rfl (fun d => ?_) (fun d => ?_)
    · refine go 99 rfl ?_
      exact ⟨.inr rfl, trivial, .done (nIeq (by rw [le_nl, Bool.not_not] at d; simp [cS, c, d])) rfl⟩
    · refine go 99 rfl ?_
      exact ⟨.inr rfl, trivial, .done (nIeq (by rw [le_nl, Bool.not_not] at d; simp [cS, c, d])) rfl⟩
def orI : List Int → Int
  | [] => 0
  | a :: r => if a = 0 then orI r else a
theorem orI_drop {l : List Int} {i : Nat} (hi : i < l.length) : orI (l.drop i) = if l[i] = 0 then orI (l.drop (i + 1)) else l[i] := by rw [List.drop_eq_getElem_cons hi]; rfl
theorem c_or (l : List Int) (hl : l.length ≤ big) : PTri Tryz.prog 19 [slV inC l] (nI (orI l)) := by
  simp only [big] at hl
  refine PTri.of_safe Tryz.func19 rfl Tryz.results19 Tryz.ntmps19 rfl ?_
  refine go 99 rfl ?_
  refine Safe.loop (α := Nat) (fun i => [(0, slV inC l), (3, nI 0), (6, slV inC l), (7, nI l.length), (8, nI i)]) (fun i => []) 0 (fun i => l.length - i) (fun i => i ≤ l.length ∧ orI l = orI (l.drop i)) 0 (sgI 0) ⟨⟨fit rfl, fit rfl, fit rfl, fit rfl, fit rfl, trivial⟩, ⟨_, .refl _, List.nil_sublist _⟩, rfl⟩ ⟨Nat.zero_le _, rfl⟩ ?_
  rintro i ⟨hi, ha⟩
  refine go 99 rfl ?_
  refine Safe.br rfl (fun c => ?_) (fun c => ?_)
  · have hi : i < l.length := ltc c
    rw [orI_drop hi] at ha
    refine go 99 rfl ?_
    refine Safe.idxF hi rfl rfl rfl ?_
    refine go 99 rfl ?_
    refine Safe.ldF (ldI hi) rfl rfl rfl ?_
    refine go 99 rfl ?_
    refine Safe.br rfl (fun d => ?_) (fun d => ?_)
    · have d1 : l[i] ≠ 0 := by simpa using d
      refine go 99 rfl ?_
      exact ⟨.inr rfl, trivial, .done (nIeq (by rw [ha, if_neg d1])) rfl⟩
    · have d1 : l[i] = 0 := by simpa using d
      refine go 99 rfl ?_
      exact ⟨sgI 0, i + 1, ⟨hi, by rw [ha, if_pos d1]⟩, mlt hi, rfl, rfl, ⟨fit rfl, fit rfl, fit rfl, fit rfl, fit (isucc (by omega)), trivial⟩, ⟨_, .refl _, List.nil_sublist _⟩, rfl⟩
  · have hi2 : i = l.length := Nat.le_antisymm hi (gec c)
    subst hi2
    rw [List.drop_length] at ha
    refine go 99 rfl ?_
    exact ⟨.inr rfl, trivial, .done (nIeq (by rw [ha]; rfl)) rfl⟩
end Go.Proofs.YtonbppofjlpklaaGreatDoor
end

section
namespace Go.Proofs.YtonbppofjlpklaaGreatDoor
open Go.Fw
variable [Gl]
set_option maxRecDepth 20000
set_option maxHeartbeats 4000000
def cL (a b : Lb) : Int := orI [cS a.name b.name, cS a.value b.value]
theorem c_cmpLb (a b : Lb) : PTri Tryz.prog 38 [lbV' a, lbV' b] (nI (cL a b)) := by
  refine PTri.of_safe Tryz.func38 rfl Tryz.results38 Tryz.ntmps38 rfl ?_
  refine go 99 rfl ?_
  refine Safe.frzC 0 rfl rfl ?_
  refine Safe.frzC 1 rfl rfl ?_
  refine Safe.drawP mixed [0, 1, 2, 3, 4, 5, 6, 7, 8, 9, 10, 11, 12] [(true, true), (true, true), (true, true), (true, true), (true, true), (true, true), (true, true), (true, true), (true, true), (true, true), (true, true), (true, true), (true, true)] (by kernel_rfl) ?_
  refine go 99 rfl ?_
  refine Safe.ldF (rfl) rfl rfl rfl ?_
  refine go 99 rfl ?_
  refine Safe.ldF (rfl) rfl rfl rfl ?_
  refine go 99 rfl ?_
  refine Safe.call (c_cmpS a.name b.name) rfl rfl rfl ?_
  refine go 99 rfl ?_
  refine Safe.ldF (rfl) rfl rfl rfl ?_
  refine go 99 rfl ?_
  refine Safe.ldF (rfl) rfl rfl rfl ?_
  refine go 99 rfl ?_
  refine Safe.call (c_cmpS a.value b.value) rfl rfl rfl ?_
  refine go 99 rfl ?_
  refine Safe.bsF rfl rfl ?_
  refine go 99 rfl ?_
  refine Safe.call (c_or [cS a.name b.name, cS a.value b.value] (by simp [big])) rfl rfl rfl ?_
  refine go 99 rfl ?_
  exact ⟨.inr rfl, trivial, .done (rfl) rfl⟩
end Go.Proofs.YtonbppofjlpklaaGreatDoor
end

section
namespace Go.Proofs.YtonbppofjlpklaaGreatDoor
open Go.Fw
variable [Gl]
set_option maxRecDepth 20000
set_option maxHeartbeats 4000000
def cLs : List Lb → List Lb → Int
  | [], [] => 0
  | [], _ :: _ => -1
  | _ :: _, [] => 1
  | a :: x, b :: y => if cL a b = 0 then cLs x y else cL a b
theorem cLs_drop {l r : List Lb} {i : Nat} (hi : i < l.length) (hj : i < r.length) : cLs (l.drop i) (r.drop i) = if cL l[i] r[i] = 0 then cLs (l.drop (i + 1)) (r.drop (i + 1)) else cL l[i] r[i] := by
  rw [List.drop_eq_getElem_cons hi, List.drop_eq_getElem_cons hj]; rfl
theorem cLs_gt {l r : List Lb} {i : Nat} (hi : i < l.length) (hj : r.length ≤ i) : cLs (l.drop i) (r.drop i) = 1 := by
  rw [List.drop_eq_getElem_cons hi, List.drop_of_length_le hj]; rfl
theorem cLs_lt {l r : List Lb} {i : Nat} (hi : l.length ≤ i) (hj : i < r.length) : cLs (l.drop i) (r.drop i) = -1 := by
  rw [List.drop_eq_getElem_cons hj, List.drop_of_length_le hi]; rfl
theorem cLs_eq {l r : List Lb} {i : Nat} (hi : l.length ≤ i) (hj : r.length ≤ i) : cLs (l.drop i) (r.drop i) = 0 := by
  rw [List.drop_of_length_le hj, List.drop_of_length_le hi]; rfl
theorem c_cmpLF (l r : List Lb) (hl : l.length ≤ big) (hr : r.length ≤ big) : PTri Tryz.prog 37 [slV lbC l, slV lbC r, .clo 38 []] (nI (cLs l r)) := by
  simp only [big] at hl hr
  refine PTri.of_safe Tryz.func37 rfl Tryz.results37 Tryz.ntmps37 rfl ?_
  refine go 99 rfl ?_
  refine Safe.loop (α := Nat) (fun i => [(0, slV lbC l), (1, slV lbC r), (2, .clo 38 []), (11, slV lbC l), (12, nI l.length), (13, nI i)]) (fun i => []) 0 (fun i => l.length - i) (fun i => i ≤ l.length ∧ i ≤ r.length ∧ cLs l r = cLs (l.drop i) (r.drop i)) 0 (sgI 0) ⟨⟨fit rfl, fit rfl, fit rfl, fit rfl, fit rfl, fit rfl, trivial⟩, ⟨_, .refl _, List.nil_sublist _⟩, rfl⟩ ⟨Nat.zero_le _, Nat.zero_le _, rfl⟩ ?_
  rintro i ⟨hi, hj, ha⟩
  refine go 99 rfl ?_
  refine Safe.br rfl (fun c => ?_) (fun c => ?_)
  · have hi : i < l.length := ltc c
    refine go 99 rfl ?_
    refine Safe.idxF hi rfl rfl rfl ?_
    refine go 99 rfl ?_
    refine Safe.ldF (ldL hi) rfl rfl rfl ?_
    refine go 99 rfl ?_
    refine Safe.br rfl (fun d => ?_) (fun d => ?_)
    · have hj2 : r.length ≤ i := by simpa using d
      refine go 99 rfl ?_
      exact ⟨.inr rfl, trivial, .done (nIeq (by rw [ha, cLs_gt hi hj2])) rfl⟩
    · have hj : i < r.length := by simpa using d
      rw [cLs_drop hi hj] at ha
      refine go 99 rfl ?_
      refine Safe.idxF hj rfl rfl rfl ?_
      refine go 99 rfl ?_
      refine Safe.ldF (ldL hj) rfl rfl rfl ?_
      refine go 99 rfl ?_
      refine Safe.call (c_cmpLb l[i] r[i]) rfl rfl rfl ?_
      refine go 99 rfl ?_
      refine Safe.br rfl (fun e => ?_) (fun e => ?_)
      · have e1 : cL l[i] r[i] ≠ 0 := by simpa using e
        refine go 99 rfl ?_
        exact ⟨.inr rfl, trivial, .done (nIeq (by rw [ha, if_neg e1])) rfl⟩
      · have e1 : cL l[i] r[i] = 0 := by simpa using e
        refine go 99 rfl ?_
        exact ⟨sgI 0, i + 1, ⟨hi, hj, by rw [ha, if_pos e1]⟩, mlt hi, rfl, rfl, ⟨fit rfl, fit rfl, fit rfl, fit rfl, fit rfl, fit (isucc (by omega)), trivial⟩, ⟨_, .refl _, List.nil_sublist _⟩, rfl⟩
  · have hi2 : i = l.length := Nat.le_antisymm hi (gec c)
    subst hi2
    refine go 99 rfl ?_
    refine Safe.br rfl (fun d => ?_) (fun d => ?_)
    · have d1 : l.length < r.length := by simpa using d
      refine go 99 rfl ?_
      exact ⟨.inr rfl, trivial, .done (nIeq (by rw [ha, cLs_lt (Nat.le_refl _) d1])) rfl⟩
    · have d1 : r.length ≤ l.length := by simpa using d
      refine go 99 rfl ?_
      exact ⟨.inr rfl, trivial, .done (nIeq (by rw [ha, cLs_eq (Nat.le_refl _) d1])) rfl⟩
theorem c_cmpLs (l r : List Lb) (hl : l.length ≤ big) (hr : r.length ≤ big) : PTri Tryz.prog 20 [slV lbC l, slV lbC r] (nI (cLs l r)) := by
  refine PTri.of_safe Tryz.func20 rfl Tryz.results20 Tryz.ntmps20 rfl ?_
  refine go 99 rfl ?_
  refine Safe.call (c_cmpLF l r hl hr) rfl rfl rfl ?_
  refine go 99 rfl ?_
  exact ⟨.inr rfl, trivial, .done (rfl) rfl⟩
def cX (a b : Xm) : Int := orI [cLs a.labels b.labels, cI a.time b.time, cI a.value b.value, cI a.trace b.trace, cI a.span b.span]
theorem c_cmpX (a b : Xm) (ha : okX a) (hb : okX b) : PTri Tryz.prog 8 [xmV a, xmV b] (nI (cX a b)) := by
  refine PTri.of_safe Tryz.func8 rfl Tryz.results8 Tryz.ntmps8 rfl ?_
  refine go 99 rfl ?_
  refine Safe.frzC 0 rfl rfl ?_
  refine Safe.frzC 1 rfl rfl ?_
  refine Safe.drawP mixed [0, 1, 2, 3, 4, 5, 6, 7, 8, 9, 10, 11, 12, 13, 14, 15, 16, 17, 18, 19, 20, 21, 22, 23, 24, 25, 26, 27] [(true, true), (true, true), (true, true), (true, true), (true, true), (true, true), (true, true), (true, true), (true, true), (true, true), (true, true), (true, true), (true, true), (true, true), (true, true), (true, true), (true, true), (true, true), (true, true), (true, true), (true, true), (true, true), (true, true), (true, true), (true, true), (true, true), (true, true), (true, true)] (by kernel_rfl) ?_
  refine go 99 rfl ?_
  refine Safe.ldF (rfl) rfl rfl rfl ?_
  refine go 99 rfl ?_
  refine Safe.ldF (rfl) rfl rfl rfl ?_
  refine go 99 rfl ?_
  refine Safe.call (c_cmpLs a.labels b.labels ha.1 hb.1) rfl rfl rfl ?_
  refine go 99 rfl ?_
  refine Safe.ldF (rfl) rfl rfl rfl ?_
  refine go 99 rfl ?_
  refine Safe.ldF (rfl) rfl rfl rfl ?_
  refine go 99 rfl ?_
  refine Safe.call (c_cmpI a.time b.time) rfl rfl rfl ?_
  refine go 99 rfl ?_
  refine Safe.ldF (rfl) rfl rfl rfl ?_
  refine go 99 rfl ?_
  refine Safe.ldF (rfl) rfl rfl rfl ?_
  refine go 99 rfl ?_
  refine Safe.call (c_cmpI a.value b.value) rfl rfl rfl ?_
  refine go 99 rfl ?_
  refine Safe.ldF (rfl) rfl rfl rfl ?_
  refine go 99 rfl ?_
  refine Safe.ldF (rfl) rfl rfl rfl ?_
  refine go 99 rfl ?_
  refine Safe.call (c_cmpI a.trace b.trace) rfl rfl rfl ?_
  refine go 99 rfl ?_
  refine Safe.ldF (rfl) rfl rfl rfl ?_
  refine go 99 rfl ?_
  refine Safe.ldF (rfl) rfl rfl rfl ?_
  refine go 99 rfl ?_
  refine Safe.call (c_cmpI a.span b.span) rfl rfl rfl ?_
  refine go 99 rfl ?_
  refine Safe.bsF rfl rfl ?_
  refine go 99 rfl ?_
  refine Safe.call (c_or [cLs a.labels b.labels, cI a.time b.time, cI a.value b.value, cI a.trace b.trace, cI a.span b.span] (by simp [big])) rfl rfl rfl ?_
  refine go 99 rfl ?_
  exact ⟨.inr rfl, trivial, .done (rfl) rfl⟩
end Go.Proofs.YtonbppofjlpklaaGreatDoor
end

section
namespace Go.Proofs.YtonbppofjlpklaaGreatDoor
open Go.Fw
variable [Gl]
set_option maxRecDepth 20000
set_option maxHeartbeats 4000000
theorem any_drop {α : Type} {p : α → Bool} {l : List α} {i : Nat} {q : Bool} (hi : i < l.length) {g : Bool} : (g = ((l.drop i).any p || q)) ↔ (g = (p l[i] || ((l.drop (i + 1)).any p || q))) := by
  rw [List.drop_eq_getElem_cons hi, List.any_cons, Bool.or_assoc]
def grL (x : Lb) : Bool := decide (61 < x.name.length) || decide (201 < x.value.length)
def grLs (l : List Lb) : Bool := l.any grL || decide (17 < l.length)
theorem g_lbs (l : List Lb) (hl : okLs l) : PTri Tryz.prog 5 [slV lbC l] (.bool (grLs l)) := by
  have hb := hl.1
  simp only [big] at hb
  refine PTri.of_safe Tryz.func5 rfl Tryz.results5 Tryz.ntmps5 rfl ?_
  refine go 99 rfl ?_
  refine Safe.loop (α := Nat) (fun i => [(0, slV lbC l), (3, nI i)]) (fun i => []) 0 (fun i => l.length - i) (fun i => i ≤ l.length ∧ grLs l = ((l.drop i).any grL || decide (17 < l.length))) 0 (sgI 0) ⟨⟨fit rfl, fit rfl, trivial⟩, ⟨_, .refl _, List.nil_sublist _⟩, rfl⟩ ⟨Nat.zero_le _, rfl⟩ ?_
  rintro i ⟨hi, ha⟩
  refine go 99 rfl ?_
  refine Safe.br rfl (fun c => ?_) (fun c => ?_)
  · have hi : i < l.length := ltc c
    rw [any_drop hi] at ha
    refine go 99 rfl ?_
    refine Safe.idxF hi rfl rfl rfl ?_
    refine go 99 rfl ?_
    refine Safe.ldF (ldL0 hi) rfl rfl rfl ?_
    refine go 99 rfl ?_
    refine Safe.gs rfl (fun a => ?_) (fun a => ?_)
    · have a1 : 61 < l[i].name.length := ltc a
      refine go 99 rfl ?_
      exact ⟨.inr rfl, trivial, .done (bIeq (by rw [ha]; simp [grL, a1])) rfl⟩
    · have a1 : ¬ 61 < l[i].name.length := Nat.not_lt.2 (gec a)
      refine go 99 rfl ?_
      refine Safe.idxF hi rfl rfl rfl ?_
      refine go 99 rfl ?_
      refine Safe.ldF (ldL1 hi) rfl rfl rfl ?_
      refine go 99 rfl ?_
      refine Safe.br rfl (fun b => ?_) (fun b => ?_)
      · have b1 : 201 < l[i].value.length := ltc b
        refine go 99 rfl ?_
        exact ⟨.inr rfl, trivial, .done (bIeq (by rw [ha]; simp [grL, b1])) rfl⟩
      · have b1 : ¬ 201 < l[i].value.length := Nat.not_lt.2 (gec b)
        have hn : grL l[i] = false := by simp only [grL, decide_eq_false a1, decide_eq_false b1, Bool.or_self]
        rw [hn, Bool.false_or] at ha
        refine go 99 rfl ?_
        exact ⟨sgI 0, i + 1, ⟨hi, ha⟩, mlt hi, rfl, rfl, ⟨fit rfl, fit (isucc (by omega)), trivial⟩, ⟨_, .refl _, List.nil_sublist _⟩, rfl⟩
  · have hi2 : i = l.length := Nat.le_antisymm hi (gec c)
    subst hi2
    rw [List.drop_of_length_le (Nat.le_refl _)] at ha
    refine go 99 rfl ?_
    exact ⟨.inr rfl, trivial, .done (bIeq (by rw [ha]; simp; omega)) rfl⟩
theorem tfl30 : tflds Tryz.prog 30 = some [(0,9),(1,9)] := by kernel_rfl
theorem fine30 (a : List V) : eqFine Tryz.prog 30 (.agg a) = true := by simp only [eqFine, tfl30]; rfl
def eqL (a b : Lb) : Bool := a.name == b.name && (a.value == b.value && true)
theorem eq30 (a b : Lb) : evEq Tryz.prog 8 30 (lbV' a) (lbV' b) = some (eqL a b) := by
  show evEq Tryz.prog 8 30 (.agg [.str a.name, .str a.value]) (.agg [.str b.name, .str b.value]) = some _
  rw [evEq, tfl30]
  rfl
def eqLs : List Lb → List Lb → Bool
  | [], [] => true
  | a :: x, b :: y => eqL a b && eqLs x y
  | _, _ => false
theorem eqLs_len : ∀ {l r : List Lb}, l.length ≠ r.length → eqLs l r = false
  | [], [], h => absurd rfl h
  | [], _ :: _, _ => rfl
  | _ :: _, [], _ => rfl
  | a :: x, b :: y, h => by
    rw [eqLs, eqLs_len (fun e => h (by simp [e])), Bool.and_false]
theorem eqLs_drop {l r : List Lb} {i : Nat} (hi : i < l.length) (hj : i < r.length) : eqLs (l.drop i) (r.drop i) = (eqL l[i] r[i] && eqLs (l.drop (i + 1)) (r.drop (i + 1))) := by
  rw [List.drop_eq_getElem_cons hi, List.drop_eq_getElem_cons hj]; rfl
theorem c_eqLs (l r : List Lb) (hl : l.length ≤ big) (hr : r.length ≤ big) : PTri Tryz.prog 7 [slV lbC l, slV lbC r] (.bool (eqLs l r)) := by
  simp only [big] at hl hr
  refine PTri.of_safe Tryz.func7 rfl Tryz.results7 Tryz.ntmps7 rfl ?_
  refine go 99 rfl ?_
  refine Safe.br rfl (fun c => ?_) (fun c => ?_)
  · have c1 : l.length ≠ r.length := by simp at c; omega
    refine go 99 rfl ?_
    exact ⟨.inr rfl, trivial, .done (bIeq (eqLs_len c1).symm) rfl⟩
  · have c1 : l.length = r.length := by simp at c; omega
    refine go 99 rfl ?_
    refine Safe.loop (α := Nat) (fun i => [(0, slV lbC l), (1, slV lbC r), (12, nI l.length), (13, nI i)]) (fun i => []) 0 (fun i => l.length - i) (fun i => i ≤ l.length ∧ eqLs l r = eqLs (l.drop i) (r.drop i)) 0 (sgI 0) ⟨⟨fit rfl, fit rfl, fit rfl, fit rfl, trivial⟩, ⟨_, .refl _, List.nil_sublist _⟩, rfl⟩ ⟨Nat.zero_le _, rfl⟩ ?_
    rintro i ⟨hi, ha⟩
    refine go 99 rfl ?_
    refine Safe.br rfl (fun d => ?_) (fun d => ?_)
    · have hi : i < l.length := ltc d
      have hj : i < r.length := c1 ▸ hi
      rw [eqLs_drop hi hj] at ha
      refine go 99 rfl ?_
      refine Safe.drawP mixed [0, 1, 2, 3, 4, 5, 6, 7, 8] [(true, true), (true, true), (true, true), (true, true), (true, true), (true, true), (true, true), (true, true), (true, true)] (by kernel_rfl) ?_
      refine go 99 rfl ?_
      refine Safe.idxF hi rfl rfl rfl ?_
      refine go 99 rfl ?_
      refine Safe.ldF (ldL hi) rfl rfl rfl ?_
      refine go 99 rfl ?_
      refine Safe.idxF hj rfl rfl rfl ?_
      refine go 99 rfl ?_
      refine Safe.ldF (ldL hj) rfl rfl rfl ?_
      refine go 99 rfl ?_
      refine Safe.cmpA (eq30 l[i] r[i]) (fine30 _) rfl rfl rfl ?_
      refine go 99 rfl ?_
      refine Safe.br rfl (fun e => ?_) (fun e => ?_)
      · have e1 : eqL l[i] r[i] = false := by simpa using e
        refine go 99 rfl ?_
        exact ⟨.inr rfl, trivial, .done (bIeq (by rw [ha, e1]; rfl)) rfl⟩
      · have e1 : eqL l[i] r[i] = true := by simpa using e
        refine go 99 rfl ?_
        exact ⟨sgI 0, i + 1, ⟨hi, by rw [ha, e1, Bool.true_and]⟩, mlt hi, rfl, rfl, ⟨fit rfl, fit rfl, fit rfl, fit (isucc (by omega)), trivial⟩, ⟨_, .refl _, List.nil_sublist _⟩, rfl⟩
    · have hi2 : i = l.length := Nat.le_antisymm hi (gec d)
      subst hi2
      rw [List.drop_of_length_le (Nat.le_refl _), List.drop_of_length_le (Nat.le_of_eq c1.symm)] at ha
      refine go 99 rfl ?_
      exact ⟨.inr rfl, trivial, .done (bIeq (by rw [ha]; rfl)) rfl⟩
end Go.Proofs.YtonbppofjlpklaaGreatDoor
end

section
namespace Go.Proofs.YtonbppofjlpklaaGreatDoor
open Go.Fw
variable [Gl]
set_option maxRecDepth 20000
set_option maxHeartbeats 4000000
structure Ord3 {α : Type} (f : α → α → Int) (ok : α → Prop) : Prop where
  rng : ∀ a b, f a b = -1 ∨ f a b = 0 ∨ f a b = 1
  neg : ∀ a b, f b a = - f a b
  tr : ∀ a b c, f a b ≤ 0 → f b c ≤ 0 → f a c ≤ 0
  eq : ∀ a b c, f a b = 0 → f a c = f b c
theorem cI_ord : Ord3 cI (fun _ => True) where
  rng a b := by unfold cI; repeat' split <;> omega
  neg a b := by unfold cI; repeat' split <;> omega
  tr a b c := by unfold cI; repeat' split <;> omega
  eq a b c := by unfold cI; repeat' split <;> omega
theorem cS_lt {a b : By} (h : a < b) : cS a b = -1 := by rw [cS, if_pos ((bl_iff a b).2 h)]
theorem cS_gt {a b : By} (h : b < a) : cS a b = 1 := by
  rw [cS, if_neg (by rw [(bl_no a b).2 (lt_le h)]; simp), if_pos ((bl_iff b a).2 h)]
theorem cS_self (a : By) : cS a a = 0 := by
  have : Op.bytesLess a a = false := (bl_no a a).2 (List.le_refl _)
  rw [cS, this]; rfl
theorem tri (a b : By) : a < b ∨ a = b ∨ b < a := by
  by_cases e : a = b
  · exact .inr (.inl e)
  · by_cases h : a ≤ b
    · exact .inl (lt_ne h e)
    · exact .inr (.inr (by simpa using h))
theorem cS_ord : Ord3 cS (fun _ => True) where
  rng a b := by
    rcases tri a b with h | rfl | h
    · exact .inl (cS_lt h)
    · exact .inr (.inl (cS_self a))
    · exact .inr (.inr (cS_gt h))
  neg a b := by
    rcases tri a b with h | rfl | h
    · rw [cS_lt h, cS_gt h]; rfl
    · rw [cS_self]; rfl
    · rw [cS_lt h, cS_gt h]
  tr a b c h1 h2 := by
    rcases tri a b with h | rfl | h
    · rcases tri b c with g | rfl | g
      · rw [cS_lt (lt_tr h g)]; omega
      · exact h1
      · rw [cS_gt g] at h2; omega
    · exact h2
    · rw [cS_gt h] at h1; omega
  eq a b c h1 := by
    rcases tri a b with h | rfl | h
    · rw [cS_lt h] at h1; omega
    · rfl
    · rw [cS_gt h] at h1; omega
theorem or_ord {α β γ : Type} {f : α → α → Int} {g : β → β → Int} {p q : _} (hf : Ord3 f p) (hg : Ord3 g q) (x : γ → α) (y : γ → β) : Ord3 (fun a b : γ => if f (x a) (x b) = 0 then g (y a) (y b) else f (x a) (x b)) (fun _ => True) where
  rng a b := by
    try dsimp only
    split
    · exact hg.rng _ _
    · exact hf.rng _ _
  neg a b := by
    try dsimp only
    have h1 := hf.neg (x a) (x b)
    have h2 := hg.neg (y a) (y b)
    by_cases e : f (x a) (x b) = 0
    · rw [if_pos e, if_pos (by omega)]; exact h2
    · rw [if_neg e, if_neg (by omega)]; exact h1
  tr a b c h1 h2 := by
    try dsimp only at *
    by_cases e1 : f (x a) (x b) = 0
    · rw [if_pos e1] at h1
      rw [hf.eq _ _ (x c) e1]
      by_cases e2 : f (x b) (x c) = 0
      · rw [if_pos e2] at h2 ⊢
        exact hg.tr _ _ _ h1 h2
      · rw [if_neg e2] at h2 ⊢
        exact h2
    · rw [if_neg e1] at h1
      by_cases e2 : f (x b) (x c) = 0
      · have k1 := hf.neg (x a) (x c)
        have k2 := hf.neg (x b) (x c)
        have k4 := hf.neg (x a) (x b)
        have k3 := hf.eq (x c) (x b) (x a) (by omega)
        rw [if_neg (by omega)]
        omega
      · rw [if_neg e2] at h2
        have k := hf.tr _ _ _ h1 h2
        by_cases e3 : f (x a) (x c) = 0
        · have k1 := hf.neg (x a) (x b)
          have k2 := hf.eq (x a) (x c) (x b) e3
          have k3 := hf.neg (x b) (x c)
          rw [k2] at h1 e1
          omega
        · rw [if_neg e3]
          exact k
  eq a b c h1 := by
    try dsimp only at *
    by_cases e1 : f (x a) (x b) = 0
    · rw [if_pos e1] at h1
      rw [hf.eq _ _ (x c) e1, hg.eq _ _ (y c) h1]
    · rw [if_neg e1] at h1
      exact absurd h1 e1
theorem ite0 (b : Int) : (if b = 0 then 0 else b) = b := by split <;> omega
theorem orI2 (a b : Int) : orI [a, b] = if a = 0 then b else a := by
  simp only [orI, ite0]
theorem cL_eq (a b : Lb) : cL a b = if cS a.name b.name = 0 then cS a.value b.value else cS a.name b.name := orI2 _ _
theorem cL_ord : Ord3 cL (fun _ => True) := by
  have := or_ord cS_ord cS_ord Lb.name Lb.value
  simpa only [← cL_eq] using this
theorem cLs_ord : Ord3 cLs (fun _ => True) where
  rng := fun a => by
    induction a with
    | nil => intro b; cases b <;> simp [cLs]
    | cons x a ih =>
      intro b
      cases b with
      | nil => simp [cLs]
      | cons y b =>
        rw [cLs]
        split
        · exact ih b
        · exact cL_ord.rng _ _
  neg := fun a => by
    induction a with
    | nil => intro b; cases b <;> simp [cLs]
    | cons x a ih =>
      intro b
      cases b with
      | nil => simp [cLs]
      | cons y b =>
        rw [cLs, cLs]
        have h1 := cL_ord.neg x y
        by_cases e : cL x y = 0
        · rw [if_pos e, if_pos (by omega)]; exact ih b
        · rw [if_neg e, if_neg (by omega)]; exact h1
  tr := fun a => by
    induction a with
    | nil => intro b c; cases b <;> cases c <;> simp [cLs]
    | cons x a ih =>
      intro b c h1 h2
      cases b with
      | nil => simp [cLs] at h1
      | cons y b =>
        cases c with
        | nil => simp [cLs] at h2
        | cons z c =>
          rw [cLs] at *
          by_cases e1 : cL x y = 0
          · rw [if_pos e1] at h1
            rw [cL_ord.eq _ _ z e1]
            by_cases e2 : cL y z = 0
            · rw [if_pos e2] at h2 ⊢
              exact ih _ _ h1 h2
            · rw [if_neg e2] at h2 ⊢
              exact h2
          · rw [if_neg e1] at h1
            by_cases e2 : cL y z = 0
            · have k1 := cL_ord.neg x z
              have k2 := cL_ord.neg y z
              have k4 := cL_ord.neg x y
              have k3 := cL_ord.eq z y x (by omega)
              rw [if_neg (by omega)]
              omega
            · rw [if_neg e2] at h2
              have k := cL_ord.tr _ _ _ h1 h2
              by_cases e3 : cL x z = 0
              · have k1 := cL_ord.neg x y
                have k2 := cL_ord.eq x z y e3
                have k3 := cL_ord.neg y z
                rw [k2] at h1 e1
                omega
              · rw [if_neg e3]
                exact k
  eq := fun a => by
    induction a with
    | nil => intro b c h; cases b <;> cases c <;> simp_all [cLs]
    | cons x a ih =>
      intro b c h
      cases b with
      | nil => simp [cLs] at h
      | cons y b =>
        rw [cLs] at h
        by_cases e : cL x y = 0
        · rw [if_pos e] at h
          cases c with
          | nil => rfl
          | cons z c => rw [cLs, cLs, cL_ord.eq _ _ z e, ih _ c h]
        · rw [if_neg e] at h
          exact absurd h e
theorem cX_eq (a b : Xm) : cX a b = if cLs a.labels b.labels = 0 then (if cI a.time b.time = 0 then (if cI a.value b.value = 0 then (if cI a.trace b.trace = 0 then cI a.span b.span else cI a.trace b.trace) else cI a.value b.value) else cI a.time b.time) else cLs a.labels b.labels := by
  simp only [cX, orI, ite0]
theorem cX_ord : Ord3 cX (fun _ => True) := by
  have h1 := or_ord cI_ord cI_ord Xm.trace Xm.span
  have h2 := or_ord cI_ord h1 Xm.value id
  have h3 := or_ord cI_ord h2 Xm.time id
  have h4 := or_ord cLs_ord h3 Xm.labels id
  simpa only [id, ← cX_eq] using h4
theorem cI_zero {a b : Int} : cI a b = 0 ↔ a = b := by unfold cI; repeat' split <;> omega
theorem cS_zero {a b : By} : cS a b = 0 ↔ a = b := by
  rcases tri a b with h | rfl | h
  · rw [cS_lt h]; exact ⟨fun h => by omega, fun e => (by subst e; exact (lt_irr h).elim)⟩
  · exact ⟨fun _ => rfl, fun _ => cS_self a⟩
  · rw [cS_gt h]; exact ⟨fun h => by omega, fun e => (by subst e; exact (lt_irr h).elim)⟩
theorem cL_zero {a b : Lb} : cL a b = 0 ↔ eqL a b = true := by
  rw [cL_eq, eqL]
  by_cases e : cS a.name b.name = 0
  · rw [if_pos e, cS_zero]; simp [cS_zero.1 e]
  · rw [if_neg e]
    simp only [e, false_iff]
    rw [cS_zero] at e
    simp [e]
theorem cLs_zero : ∀ {a b : List Lb}, cLs a b = 0 ↔ eqLs a b = true
  | [], [] => by simp [cLs, eqLs]
  | [], _ :: _ => by simp [cLs, eqLs]
  | _ :: _, [] => by simp [cLs, eqLs]
  | x :: a, y :: b => by
    rw [cLs, eqLs, Bool.and_eq_true, ← cL_zero, ← cLs_zero]
    by_cases e : cL x y = 0
    · rw [if_pos e]; simp [e]
    · rw [if_neg e]; simp [e]
def sameX (a b : Xm) : Bool := eqLs a.labels b.labels && a.time == b.time && a.value == b.value && a.trace == b.trace && a.span == b.span
theorem cX_zero {a b : Xm} : cX a b = 0 ↔ sameX a b = true := by
  rw [cX_eq]
  simp only [sameX, Bool.and_eq_true, ← cLs_zero, beq_iff_eq]
  repeat' split <;> simp_all [cI_zero]
end Go.Proofs.YtonbppofjlpklaaGreatDoor
end

section
namespace Go.Proofs.YtonbppofjlpklaaGreatDoor
open Go.Fw
variable [Gl]
set_option maxRecDepth 20000
set_option maxHeartbeats 4000000
theorem ldX {l : List Xm} {i : Nat} (hi : i < l.length) : ldAt Tryz.prog 24 (cat xmC l) (i * 5) = some (xmV l[i]) := ld_cat (enc := xmC) (fun _ => rfl) hi (by kernel_rfl) (by kernel_rfl)
theorem order_law (hw : PTri Tryz.prog 6 [] (.bool true)) (a b c : Xm) (ha : okX a) (hb : okX b) (hc : okX c) : PTri Tryz.prog 3 [xmV a, xmV b, xmV c] (.bool true) := by
  have hall : ∀ (i : Nat) (h : i < [a, b, c].length), okX [a, b, c][i] := by
    intro i h
    match i, h with
    | 0, _ => exact ha
    | 1, _ => exact hb
    | 2, _ => exact hc
  refine PTri.of_safe Tryz.func3 rfl Tryz.results3 Tryz.ntmps3 rfl ?_
  refine go 99 rfl ?_
  refine Safe.frzC 0 rfl rfl ?_
  refine Safe.frzC 1 rfl rfl ?_
  refine Safe.frzC 2 rfl rfl ?_
  refine Safe.frzC 3 rfl rfl ?_
  refine Safe.loop (α := Nat) (fun i => [(3, .fptr (xmC a) 0), (4, .fptr (xmC b) 0), (5, .fptr (xmC c) 0), (15, slV xmC [a, b, c]), (16, nI [a, b, c].length), (17, nI i)]) (fun i => []) 4 (fun i => [a, b, c].length - i) (fun i => i ≤ [a, b, c].length) 0 (sgI 4) ⟨⟨fit rfl, fit rfl, fit rfl, fit rfl, fit rfl, fit rfl, trivial⟩, ⟨_, .refl _, List.nil_sublist _⟩, rfl⟩ (Nat.zero_le _) ?_
  rintro i hi
  refine go 99 rfl ?_
  refine Safe.br rfl (fun c1 => ?_) (fun c1 => ?_)
  · have hi : i < [a, b, c].length := ltc c1
    refine go 99 rfl ?_
    refine Safe.idxF hi rfl rfl rfl ?_
    refine go 99 rfl ?_
    refine Safe.ldF (ldX hi) rfl rfl rfl ?_
    refine go 99 rfl ?_
    refine Safe.call (g_lbs _ (hall i hi)) rfl rfl rfl ?_
    refine go 99 rfl ?_
    refine Safe.br rfl (fun d => ?_) (fun d => ?_)
    · refine go 99 rfl ?_
      refine Safe.call (hw) rfl rfl rfl ?_
      refine go 99 rfl ?_
      exact ⟨.inr rfl, trivial, .done (rfl) rfl⟩
    · refine go 99 rfl ?_
      exact ⟨sgI 4, i + 1, hi, mlt hi, rfl, rfl, ⟨fit rfl, fit rfl, fit rfl, fit rfl, fit rfl, fit (isucc (by simp at hi; omega)), trivial⟩, ⟨_, .refl _, List.nil_sublist _⟩, rfl⟩
  · refine go 99 rfl ?_
    refine Safe.ldF (rfl) rfl rfl rfl ?_
    refine go 99 rfl ?_
    refine Safe.ldF (rfl) rfl rfl rfl ?_
    refine go 99 rfl ?_
    refine Safe.call (c_eqLs a.labels b.labels ha.1 hb.1) rfl rfl rfl ?_
    refine Safe.cut0 (α := Unit) (fun _ => [(3, .fptr (xmC a) 0), (4, .fptr (xmC b) 0), (5, .fptr (xmC c) 0), (9, .bool (sameX a b))]) (fun _ => []) 4 (fun _ => True) ?_ ?_
    · refine go 99 rfl ?_
      refine Safe.gs rfl (fun d1 => ?_) (fun d1 => ?_)
      · refine go 99 rfl ?_
        refine Safe.ldF (rfl) rfl rfl rfl ?_
        refine go 99 rfl ?_
        refine Safe.ldF (rfl) rfl rfl rfl ?_
        refine go 99 rfl ?_
        refine Safe.gs rfl (fun d2 => ?_) (fun d2 => ?_)
        · refine go 99 rfl ?_
          refine Safe.ldF (rfl) rfl rfl rfl ?_
          refine go 99 rfl ?_
          refine Safe.ldF (rfl) rfl rfl rfl ?_
          refine go 99 rfl ?_
          refine Safe.gs rfl (fun d3 => ?_) (fun d3 => ?_)
          · refine go 99 rfl ?_
            refine Safe.ldF (rfl) rfl rfl rfl ?_
            refine go 99 rfl ?_
            refine Safe.ldF (rfl) rfl rfl rfl ?_
            refine go 99 rfl ?_
            refine Safe.gs rfl (fun d4 => ?_) (fun d4 => ?_)
            · refine go 99 rfl ?_
              refine Safe.ldF (rfl) rfl rfl rfl ?_
              refine go 99 rfl ?_
              refine Safe.ldF (rfl) rfl rfl rfl ?_
              refine go 99 rfl ?_
              exact ⟨sgI 4, (), trivial, rfl, rfl, ⟨fit rfl, fit rfl, fit rfl, fit (bIeq (by simp_all [sameX])), trivial⟩, ⟨_, .refl _, List.nil_sublist _⟩, rfl⟩
            · refine go 99 rfl ?_
              exact ⟨sgI 4, (), trivial, rfl, rfl, ⟨fit rfl, fit rfl, fit rfl, fit (bIeq (by simp_all [sameX])), trivial⟩, ⟨_, .refl _, List.nil_sublist _⟩, rfl⟩
          · refine go 99 rfl ?_
            exact ⟨sgI 4, (), trivial, rfl, rfl, ⟨fit rfl, fit rfl, fit rfl, fit (bIeq (by simp_all [sameX])), trivial⟩, ⟨_, .refl _, List.nil_sublist _⟩, rfl⟩
        · refine go 99 rfl ?_
          exact ⟨sgI 4, (), trivial, rfl, rfl, ⟨fit rfl, fit rfl, fit rfl, fit (bIeq (by simp_all [sameX])), trivial⟩, ⟨_, .refl _, List.nil_sublist _⟩, rfl⟩
      · refine go 99 rfl ?_
        exact ⟨sgI 4, (), trivial, rfl, rfl, ⟨fit rfl, fit rfl, fit rfl, fit (bIeq (by simp_all [sameX])), trivial⟩, ⟨_, .refl _, List.nil_sublist _⟩, rfl⟩
    · rintro ⟨⟩ -
      have o := cX_ord
      refine go 99 rfl ?_
      refine Safe.drawP mixed [0, 1, 2, 3, 4, 5, 6, 7] [(true, true), (true, true), (true, true), (true, true), (true, true), (true, true), (true, true), (true, true)] (by kernel_rfl) ?_
      refine go 99 rfl ?_
      refine Safe.ldF (rfl) rfl rfl rfl ?_
      refine go 99 rfl ?_
      refine Safe.ldF (rfl) rfl rfl rfl ?_
      refine go 99 rfl ?_
      refine Safe.call (c_cmpX a b ha hb) rfl rfl rfl ?_
      refine go 99 rfl ?_
      refine Safe.ldF (rfl) rfl rfl rfl ?_
      refine go 99 rfl ?_
      refine Safe.ldF (rfl) rfl rfl rfl ?_
      refine go 99 rfl ?_
      refine Safe.call (c_cmpX b c hb hc) rfl rfl rfl ?_
      refine go 99 rfl ?_
      have hr := o.rng a b
      have hn := o.neg a b
      have hz := cX_zero (a := a) (b := b)
      have hw2 : IntKind.i64.wrap (-(cX a b)) = -(cX a b) := by rcases hr with h | h | h <;> rw [h] <;> decide
      refine Safe.gs rfl (fun e1 => ?_) (fun e1 => ?_)
      · refine go 99 rfl ?_
        refine Safe.ldF (rfl) rfl rfl rfl ?_
        refine go 99 rfl ?_
        refine Safe.ldF (rfl) rfl rfl rfl ?_
        refine go 99 rfl ?_
        refine Safe.call (c_cmpX b a hb ha) rfl rfl rfl ?_
        refine go 99 rfl ?_
        refine Safe.gs rfl (fun e2 => ?_) (fun e2 => ?_)
        · refine go 99 rfl ?_
          refine Safe.gs rfl (fun e3 => ?_) (fun e3 => ?_)
          · refine go 99 rfl ?_
            refine Safe.gs rfl (fun e4 => ?_) (fun e4 => ?_)
            · refine go 99 rfl ?_
              refine Safe.gs rfl (fun e5 => ?_) (fun e5 => ?_)
              · refine go 99 rfl ?_
                first | refine Safe.gsK true rfl rfl ?_ | refine Safe.gsK false rfl rfl ?_ | refine Safe.brT rfl rfl ?_ | refine Safe.brF rfl rfl ?_
                refine go 99 rfl ?_
                first | refine Safe.gsK true rfl rfl ?_ | refine Safe.gsK false rfl rfl ?_ | refine Safe.brT rfl rfl ?_ | refine Safe.brF rfl rfl ?_
                refine go 99 rfl ?_
                refine Safe.call (hw) rfl rfl rfl ?_
                refine go 99 rfl ?_
                exact ⟨.inr rfl, trivial, .done (rfl) rfl⟩
              · refine go 99 rfl ?_
                refine Safe.gs rfl (fun e6 => ?_) (fun e6 => ?_)
                · refine go 99 rfl ?_
                  first | refine Safe.gsK true rfl rfl ?_ | refine Safe.gsK false rfl rfl ?_ | refine Safe.brT rfl rfl ?_ | refine Safe.brF rfl rfl ?_
                  refine go 99 rfl ?_
                  refine Safe.call (hw) rfl rfl rfl ?_
                  refine go 99 rfl ?_
                  exact ⟨.inr rfl, trivial, .done (rfl) rfl⟩
                · refine go 99 rfl ?_
                  refine Safe.ldF (rfl) rfl rfl rfl ?_
                  refine go 99 rfl ?_
                  refine Safe.ldF (rfl) rfl rfl rfl ?_
                  refine go 99 rfl ?_
                  refine Safe.call (c_cmpX a c ha hc) rfl rfl rfl ?_
                  refine go 99 rfl ?_
                  refine Safe.gs rfl (fun e7 => ?_) (fun e7 => ?_)
                  · refine go 99 rfl ?_
                    refine Safe.call (hw) rfl rfl rfl ?_
                    refine go 99 rfl ?_
                    exact ⟨.inr rfl, trivial, .done (rfl) rfl⟩
                  · exfalso
                    have ht := o.tr a b c
                    simp at e5 e6 e7
                    omega
            · exfalso
              simp at e4
              omega
          · exfalso
            simp at e3
            omega
        · exfalso
          simp [hw2, hn] at e2
      · exfalso
        revert e1
        by_cases q : cX a b = 0
        · simp [q, hz.1 q]
        · have : sameX a b = false := by rw [← Bool.not_eq_true]; exact fun e => q (hz.2 e)
          simp [q, this]
end Go.Proofs.YtonbppofjlpklaaGreatDoor
end

section
namespace Go.Proofs
open Go.Shelf
def Tryz.lays137_ren : Go.Shelf.Ren := ⟨fun | 137 => 223 | 217 => 158 | 266 => 181 | n => n, fun | 9 => 9 | 5 => 5 | 3 => 3 | n => n, fun | n => n⟩
def Tryz.lays217_ren : Go.Shelf.Ren := ⟨fun | 217 => 158 | 266 => 181 | n => n, fun | 9 => 9 | 5 => 5 | 3 => 3 | n => n, fun | n => n⟩
theorem Tryz.lays217 : Go.Proofs.Lays.n217 Tryz.prog Tryz.lays217_ren := {
  mixed := by kernel_rfl
  f217 := Tryz.func158.trans (congrArg some (by kernel_rfl))
  f266 := Tryz.func181.trans (congrArg some (by kernel_rfl))
  t3 := Tryz.underlying3
  a3 := Tryz.isAgg3
  z3 := Tryz.sizeOf3
  v3 := Tryz.zeroValue3
  t5 := Tryz.underlying5
  a5 := Tryz.isAgg5
  z5 := Tryz.sizeOf5
  v5 := Tryz.zeroValue5
  t9 := Tryz.underlying9
  a9 := Tryz.isAgg9
  z9 := Tryz.sizeOf9
  v9 := Tryz.zeroValue9 }
open Go.RowKit Go.Lib in
theorem Tryz.stringslite_IndexByte (s : ByteArray) (c : Int) (w : World) :
    Calls Tryz.prog 158 #[.string s, .int .u8 c] w fun e w' => e = .returned (.int .i64 (Lib.indexByte s.data.toList c.toNat.toUInt8)) ∧ w' = w := Any.stringslite_IndexByte Tryz.lays217 s c w
def Tryz.lays157_ren : Go.Shelf.Ren := ⟨fun | 157 => 112 | 229 => 144 | 199 => 145 | 261 => 165 | 311 => 186 | 312 => 187 | n => n, fun | 9 => 9 | 31 => 53 | 3 => 3 | 5 => 5 | 4 => 4 | 119 => 207 | 0 => 0 | 40 => 209 | 152 => 236 | 21 => 21 | 154 => 238 | 51 => 239 | 141 => 241 | 196 => 268 | 193 => 265 | 198 => 271 | 49 => 269 | 194 => 266 | 201 => 274 | 226 => 285 | 46 => 134 | 227 => 286 | n => n, fun | 0 => 0 | 6 => 2 | n => n⟩
def Tryz.laysM157_ren : Go.Shelf.Ren := ⟨fun | 157 => 112 | 229 => 144 | 199 => 145 | 261 => 165 | 311 => 186 | 312 => 187 | n => n, fun | 9 => 9 | 31 => 53 | 3 => 3 | 5 => 5 | 4 => 4 | 119 => 207 | 0 => 0 | 40 => 209 | 152 => 236 | 21 => 21 | 154 => 238 | 51 => 239 | 141 => 241 | 196 => 268 | 193 => 265 | 198 => 271 | 49 => 269 | 194 => 266 | 201 => 274 | 226 => 285 | 46 => 134 | 227 => 286 | n => n, fun | 0 => 0 | 6 => 2 | n => n⟩
theorem Tryz.laysM157 : Go.Proofs.LaysM.n157 Tryz.prog Tryz.laysM157_ren := {
  mixed := by kernel_rfl
  f157 := Tryz.func112.trans (congrArg some (by kernel_rfl))
  f199 := Tryz.func145.trans (congrArg some (by kernel_rfl))
  f229 := Tryz.func144.trans (congrArg some (by kernel_rfl))
  f261 := Tryz.func165.trans (congrArg some (by kernel_rfl))
  f311 := Tryz.func186.trans (congrArg some (by kernel_rfl))
  f312 := Tryz.func187.trans (congrArg some (by kernel_rfl))
  t0 := Tryz.underlying0
  a0 := Tryz.isAgg0
  z0 := Tryz.sizeOf0
  v0 := Tryz.zeroValue0
  t3 := Tryz.underlying3
  a3 := Tryz.isAgg3
  z3 := Tryz.sizeOf3
  v3 := Tryz.zeroValue3
  t4 := Tryz.underlying4
  a4 := Tryz.isAgg4
  z4 := Tryz.sizeOf4
  v4 := Tryz.zeroValue4
  t5 := Tryz.underlying5
  a5 := Tryz.isAgg5
  z5 := Tryz.sizeOf5
  v5 := Tryz.zeroValue5
  t9 := Tryz.underlying9
  a9 := Tryz.isAgg9
  z9 := Tryz.sizeOf9
  v9 := Tryz.zeroValue9
  t21 := Tryz.underlying21
  a21 := Tryz.isAgg21
  z21 := Tryz.sizeOf21
  v21 := Tryz.zeroValue21
  t31 := Tryz.underlying53
  a31 := Tryz.isAgg53
  z31 := Tryz.sizeOf53
  v31 := Tryz.zeroValue53
  t40 := Tryz.underlying209
  a40 := Tryz.isAgg209
  z40 := Tryz.sizeOf209
  v40 := Tryz.zeroValue209
  t46 := Tryz.underlying134
  a46 := Tryz.isAgg134
  z46 := Tryz.sizeOf134
  v46 := Tryz.zeroValue134
  t49 := Tryz.underlying269
  a49 := Tryz.isAgg269
  z49 := Tryz.sizeOf269
  v49 := Tryz.zeroValue269
  t51 := Tryz.underlying239
  a51 := Tryz.isAgg239
  z51 := Tryz.sizeOf239
  v51 := Tryz.zeroValue239
  t119 := Tryz.underlying207
  a119 := Tryz.isAgg207
  z119 := Tryz.sizeOf207
  t141 := Tryz.underlying241
  a141 := Tryz.isAgg241
  z141 := Tryz.sizeOf241
  v141 := Tryz.zeroValue241
  t152 := Tryz.underlying236
  a152 := Tryz.isAgg236
  z152 := Tryz.sizeOf236
  v152 := Tryz.zeroValue236
  t154 := Tryz.underlying238
  a154 := Tryz.isAgg238
  z154 := Tryz.sizeOf238
  v154 := Tryz.zeroValue238
  t193 := Tryz.underlying265
  a193 := Tryz.isAgg265
  z193 := Tryz.sizeOf265
  v193 := Tryz.zeroValue265
  t194 := Tryz.underlying266
  a194 := Tryz.isAgg266
  z194 := Tryz.sizeOf266
  v194 := Tryz.zeroValue266
  t196 := Tryz.underlying268
  a196 := Tryz.isAgg268
  z196 := Tryz.sizeOf268
  v196 := Tryz.zeroValue268
  t198 := Tryz.underlying271
  a198 := Tryz.isAgg271
  z198 := Tryz.sizeOf271
  v198 := Tryz.zeroValue271
  t201 := Tryz.underlying274
  a201 := Tryz.isAgg274
  z201 := Tryz.sizeOf274
  v201 := Tryz.zeroValue274
  t226 := Tryz.underlying285
  a226 := Tryz.isAgg285
  z226 := Tryz.sizeOf285
  v226 := Tryz.zeroValue285
  t227 := Tryz.underlying286
  a227 := Tryz.isAgg286
  z227 := Tryz.sizeOf286
  v227 := Tryz.zeroValue286
  g0 := by kernel_rfl
  g6 := by kernel_rfl
  i0 := by kernel_rfl
  i3 := by kernel_rfl
  i4 := by kernel_rfl
  i5 := by kernel_rfl
  i9 := by kernel_rfl
  i21 := by kernel_rfl
  i31 := by kernel_rfl
  i40 := by kernel_rfl
  i46 := by kernel_rfl
  i49 := by kernel_rfl
  i51 := by kernel_rfl
  i141 := by kernel_rfl
  i152 := by kernel_rfl
  i154 := by kernel_rfl
  i193 := by kernel_rfl
  i194 := by kernel_rfl
  i196 := by kernel_rfl
  i198 := by kernel_rfl
  i201 := by kernel_rfl
  i226 := by kernel_rfl
  i227 := by kernel_rfl
  m0 := by kernel_rfl
  m6 := by kernel_rfl }
open Go.RowKit Go.Lib in
theorem Tryz.strings_Fields_laid (s : ByteArray) (w : World) (hs : s.size < 4294967281) (hascii : ∀ (j : Nat) b, s.data.toList[j]? = some b → b.toNat < 128) (htab : Lib.TabIs Tryz.prog w "strings.asciiSpace" .u8 Lib.asciiSpaceTab) :
    Calls Tryz.prog 112 #[.string s] w fun e w' =>
      e = .returned (.slice (some ⟨w.heap.size, 0, none⟩) (Lib.fields s.data.toList).length (Lib.fields s.data.toList).length) ∧ w' = w.alloc (.cells ((Lib.fields s.data.toList).map fun l => Value.string ⟨l.toArray⟩).toArray 9) := Any.strings_Fields_laid Tryz.laysM157 s w hs hascii htab
end Go.Proofs
end

section
namespace Go.Proofs.YtonbppofjlpklaaGreatDoor
open Go.Fw
variable [Gl]
set_option maxRecDepth 20000
set_option maxHeartbeats 4000000
def oC : Orc := fun f us => match f, us with
  | 112, [.str s] => if s.length < 4294967281 ∧ s.all (fun b => decide (b.toNat < 128)) = true then some (.fslice ((Lib.fields s).map V.str) (Lib.fields s).length) else none
  | 158, [.str s, .int .u8 c] => some (.int .i64 (Lib.indexByte s c.toNat.toUInt8))
  | _, _ => none
def hzC : FuncId → Nat → Bool := fun f r => match f, r with
  | 15, 1 => true
  | 6, 8 => true
  | _, _ => false
end Go.Proofs.YtonbppofjlpklaaGreatDoor
end

section
namespace Go.Proofs.YtonbppofjlpklaaGreatDoor
open Go.Fw
variable [Gl]
set_option maxRecDepth 20000
set_option maxHeartbeats 4000000
theorem aw_run : eF Tryz.prog oC hzC 100000 30 6 [] [] 0 = some (.bool true, [], 240) := by kernel_rfl
end Go.Proofs.YtonbppofjlpklaaGreatDoor
end

section
namespace Go.Proofs.YtonbppofjlpklaaGreatDoor
open Go.Fw
variable [Gl]
set_option maxRecDepth 20000
set_option maxHeartbeats 4000000
theorem vrs_strs (F : Froz) (r : List By) : VRs F (r.map V.str) (r.map fun l => Value.string ⟨l.toArray⟩).toArray := by
  refine ⟨by simp, fun i v hv => ?_⟩
  rw [List.getElem?_map] at hv
  obtain ⟨b, hb, rfl⟩ := Option.map_eq_some_iff.1 hv
  have hi := (List.getElem?_eq_some_iff.1 hb)
  obtain ⟨hlt, he⟩ := hi
  simp only [Array.getD_eq_getD_getElem?, List.getElem?_toArray, List.getElem?_map, hb, Option.map_some, Option.getD_some]
  exact .str _
theorem PTri.of_alloc {P : Program} {f : FuncId} {us : List V} {r : List By} (C : World → Prop) (A : Array Value) (hargs : ∀ F av, VRs F us av → av = A) (hC : ∀ F w, Go.Fw.Own F [] w → C w)
    (h : ∀ w, C w → Calls P f A w fun e w' => e = .returned (.slice (some ⟨w.heap.size, 0, none⟩) r.length r.length) ∧ w' = w.alloc (.cells (r.map fun l => Value.string ⟨l.toArray⟩).toArray 9)) : Go.Fw.PTri P f us (.fslice (r.map V.str) r.length) := by
  intro F w av ho ha
  rw [hargs F av ha]
  refine callsIn_of ((h w (hC F w ho)).mono ?_)
  rintro e w' ⟨rfl, rfl⟩
  have hor := OR.new (T := 9) (vrs_strs F r)
  have ho1 := ho.push hor
  obtain ⟨F', o', tr, hv⟩ := own_freeze ho1 (b := w.heap.size) (T := 9) (cs := r.map V.str) (nn := (r.map V.str).length) (by simp [hget])
  have e1 : frzH w.heap.size (r.map V.str) (hdel [(w.heap.size, AObj.cells 9 (r.map V.str) (r.map V.str).length)] w.heap.size) = [] := by simp [hdel, frzH]
  rw [e1] at o' tr
  have hx := hv (.slice w.heap.size 0 r.length r.length) _ (.slice _ _ _ _ (Nat.le_refl _))
  simp only [frzV, if_true, List.drop_zero] at hx
  exact ⟨.fslice (r.map V.str) r.length, _, [], F', rfl, ⟨rfl, rfl⟩, o', hx, (Trans.push F [] w _ _).trans tr⟩
def GTab : Prop := ∀ F w, Go.Fw.Own F [] w → Lib.TabIs Tryz.prog w "strings.asciiSpace" .u8 Lib.asciiSpaceTab
theorem vrs_str1 {s : List UInt8} (F : Froz) (av : Array Value) (h : VRs F [.str s] av) : av = #[.string ⟨s.toArray⟩] := by
  have h0 := (h.2 0 _ rfl).str_inv
  have hs := h.1
  simp at hs
  obtain ⟨L⟩ := av
  match L, hs with
  | [x], _ => simp at h0; rw [h0]
theorem vrs_str8 {s : List UInt8} {c : Int} (F : Froz) (av : Array Value) (h : VRs F [.str s, .int .u8 c] av) : av = #[.string ⟨s.toArray⟩, .int .u8 c] := by
  have h0 := (h.2 0 _ rfl).str_inv
  have h1 := (h.2 1 _ rfl).int_inv
  have hs := h.1
  simp at hs
  obtain ⟨L⟩ := av
  match L, hs with
  | [x, y], _ => simp at h0 h1; rw [h0, h1]
theorem st_fields (hG : GTab) (s : By) (hs : s.length < 4294967281) (ha : ∀ b ∈ s, b.toNat < 128) : Go.Fw.PTri Tryz.prog 112 [.str s] (.fslice ((Lib.fields s).map V.str) (Lib.fields s).length) :=
  PTri.of_alloc (fun w => Lib.TabIs Tryz.prog w "strings.asciiSpace" .u8 Lib.asciiSpaceTab) _ (fun F av h => vrs_str1 F av h) (fun F w h => hG F w h)
    (fun w hw => Tryz.strings_Fields_laid ⟨s.toArray⟩ w (show s.toArray.size < 4294967281 by simpa using hs) (fun j b hb => ha b (List.mem_of_getElem? hb)) hw)
theorem ix_byte (s : By) (c : Int) : PTri Tryz.prog 158 [.str s, .int .u8 c] (.int .i64 (Lib.indexByte s c.toNat.toUInt8)) :=
  PTri.of_same _ _ (fun F av h => vrs_str8 F av h) (fun w => Tryz.stringslite_IndexByte _ _ w) (fun F => .int _ _)
theorem oC_ok (hG : GTab) : OrcOk Tryz.prog oC := by
  intro f us v h
  unfold oC at h
  split at h
  · rename_i s
    split at h
    · rename_i hc
      obtain rfl := Option.some.inj h
      refine ⟨by kernel_rfl, rfl, ?_, st_fields hG s hc.1 fun b hb => ?_⟩
      · simpa [dry] using dry_strs _
      · simpa using List.all_eq_true.1 hc.2 b hb
    · cases h
  · obtain rfl := Option.some.inj h
    exact ⟨by kernel_rfl, rfl, rfl, ix_byte _ _⟩
  · cases h
theorem c_awake (hG : GTab) : PTri Tryz.prog 6 [] (.bool true) := PTri.closed (oC_ok hG) mixed hzC 100000 30 aw_run rfl rfl
theorem c_order (hG : GTab) (a b c : Xm) (ha : okX a) (hb : okX b) (hc : okX c) : PTri Tryz.prog 3 [xmV a, xmV b, xmV c] (.bool true) := order_law (c_awake hG) a b c ha hb hc
end Go.Proofs.YtonbppofjlpklaaGreatDoor
end

section
namespace Go.Proofs.YtonbppofjlpklaaGreatDoor
open Go.Deep Go.ChangeShapes Go.WideShapes Go.ChangeAt Go.RowKit Go.Fw Go.ChangeMaps
section
variable {H : Type} {enc : TypeId × Value → H} {W : World} {base : Nat} {sp : Nat → Bool} {held : Bool}
abbrev strK (s : By) : List V := [.str s]
def RcAt (W : World) (vs : List V) (cs : List Value) (off : Nat) : Prop := ∀ i v, vs[i]? = some v → ∃ x, cs[off + i]? = some x ∧ VR (fun b => W.heap[b]?) v x
def Rc (W : World) (vs : List V) (cs : List Value) : Prop := cs.length = vs.length ∧ RcAt W vs cs 0
theorem RcAt.app {a b : List V} {cs : List Value} {off : Nat} (h1 : RcAt W a cs off) (h2 : RcAt W b cs (off + a.length)) : RcAt W (a ++ b) cs off := fun i v hv => by
  by_cases hi : i < a.length
  · rw [List.getElem?_append_left hi] at hv
    exact h1 i v hv
  · rw [List.getElem?_append_right (by omega)] at hv
    obtain ⟨x, hx, r⟩ := h2 _ v hv
    exact ⟨x, by rw [← hx]; congr 1; omega, r⟩
theorem RcAt.of {a : List V} {cs : List Value} {off n : Nat} (h : Rc W a ((cs.drop off).take n)) : RcAt W a cs off := fun i v hv => by
  obtain ⟨x, hx, r⟩ := h.2 i v hv
  rw [Nat.zero_add] at hx
  have hn : i < n := by
    have := (List.getElem?_eq_some_iff.1 hx).1
    simp at this; omega
  rw [List.getElem?_take_of_lt hn, List.getElem?_drop] at hx
  exact ⟨x, hx, r⟩
def RdT {H : Type} (enc : TypeId × Value → H) (W : World) (base : Nat) (sp : Nat → Bool) (held : Bool) (T : TypeId) (n : Nat) {α : Type} (e : α → List V) (ok : α → Prop) : Prop :=
  ∀ cs (x : DataW H × List MemPlace), DataW.trod enc Tryz.prog W base sp held n T cs = some x → Rows.uptoBulk x.1 ≤ 1048576 → ∃ a, Rc W (e a) cs ∧ ok a
theorem rc_one {v : V} {x : Value} (h : VR (fun b => W.heap[b]?) v x) : Rc W [v] [x] := ⟨rfl, fun i u hu => by
  cases i with
  | zero => simp at hu; subst hu; exact ⟨x, rfl, h⟩
  | succ i => simp at hu⟩
theorem rd_str {T n : Nat} (hT : Tryz.prog.underlying T = some .string) : RdT enc W base sp held T n strK (fun s => s.length ≤ big) := fun cs x h hb => by
  obtain ⟨s, rfl, rfl, _⟩ := DataW.trod_string hT h
  refine ⟨s.data.toList, rc_one (.str _), ?_⟩
  simp only [Rows.uptoBulk] at hb
  simp only [big]; omega
theorem rd_int {T n : Nat} {k : IntKind} (hT : Tryz.prog.underlying T = some (.int k)) : RdT enc W base sp held T n (fun z : Int => [V.int k z]) (fun _ => True) := fun cs x h hb => by
  obtain ⟨z, rfl, rfl, _⟩ := DataW.trod_int hT h
  exact ⟨z, rc_one (.int _ _), trivial⟩
theorem bulk_part {d : DataW H} : ∀ {l : List (DataW H)}, d ∈ l → Rows.uptoBulk d ≤ Rows.uptoBulkAll l
  | x :: r, h => by
    simp only [Rows.uptoBulkAll]
    rcases List.mem_cons.1 h with rfl | h
    · omega
    · have := bulk_part h; omega
theorem bulk_pos (d : DataW H) : 1 ≤ Rows.uptoBulk d := by
  cases d with
  | lit y => cases y <;> simp [Rows.uptoBulk]
  | _ => simp [Rows.uptoBulk]
theorem bulk_len : ∀ ls : List (DataW H), ls.length ≤ Rows.uptoBulkAll ls
  | [] => by simp [Rows.uptoBulkAll]
  | d :: r => by
    have := bulk_pos d
    have := bulk_len r
    simp only [Rows.uptoBulkAll, List.length_cons]; omega
theorem list_choose {α : Type} {p : Nat → α → Prop} : ∀ (n : Nat), (∀ i, i < n → ∃ a, p i a) → ∃ l : List α, l.length = n ∧ ∀ i (h : i < l.length), p i l[i]
  | 0, _ => ⟨[], rfl, fun i h => by simp at h⟩
  | n + 1, hp => by
    obtain ⟨l, hl, hi⟩ := list_choose n fun i h => hp i (by omega)
    obtain ⟨a, ha⟩ := hp n (by omega)
    refine ⟨l ++ [a], by simp [hl], fun i h => ?_⟩
    by_cases hil : i < l.length
    · rw [List.getElem_append_left hil]; exact hi i hil
    · have : i = l.length := by simp at h; omega
      subst this
      simp only [List.getElem_concat_length]
      rw [hl]; exact ha
theorem rd_slice {α : Type} {T e k n : Nat} {en : α → List V} {ok : α → Prop} (hT : Tryz.prog.underlying T = some (.slice e)) (hk : Tryz.prog.cellsOf e = k) (hlen : ∀ a, (en a).length = k) (he : ∀ m, m < n → RdT enc W base sp held e m en ok) :
    RdT enc W base sp held T n (fun l : List α => [slV en l]) (fun l => l.length ≤ big ∧ ∀ a ∈ l, ok a) := fun cs x h hb => by
  letI := glOf W
  rcases DataW.trod_slice hT h with ⟨rfl, rfl⟩ | ⟨a, len, cap, elems, rest, m, rfl, rfl, rfl, hbs, hl, hm, hlen', hel, -, -⟩
  · exact ⟨[], rc_one .fnil, by simp, fun a ha => by simp at ha⟩
  · simp only [Rows.uptoBulk] at hb
    obtain ⟨l, hll, hi⟩ := list_choose (α := α) (p := fun i x => ∃ cs', W.cells? base (a.add (i * k)) k = some cs' ∧ Rc W (en x) cs' ∧ ok x) len fun i hil => by
      have h1 := hel i hil
      rw [hk, List.getElem?_eq_getElem (by omega)] at h1
      obtain ⟨cs', h2, h3⟩ := Option.bind_eq_some_iff.1 h1
      have h4 := bulk_part (d := elems[i].1) (l := elems.map (·.1)) (List.mem_map_of_mem (List.getElem_mem _))
      obtain ⟨x, h5, h6⟩ := he m (by omega) cs' _ h3 (by omega)
      exact ⟨x, cs', h2, h5, h6⟩
    refine ⟨l, rc_one ?_, ?_, fun x hx => ?_⟩
    · have hcell : ∀ j r (hj : j < l.length), r < k → ∃ u, W.cell? (a.add (j * k + r)) = some u ∧ ∀ v, (en l[j])[r]? = some v → VR (fun b => W.heap[b]?) v u := fun j r hj hr => by
        obtain ⟨cs', h2, h5, _⟩ := hi j hj
        obtain ⟨_, hlc, hc⟩ := World.cells?_some h2
        have h7 := hc r hr
        rw [List.getElem?_eq_getElem (by omega), Go.Deep.add_add] at h7
        refine ⟨_, h7, fun v hv => ?_⟩
        obtain ⟨u, hu, q⟩ := h5.2 r v hv
        rw [Nat.zero_add, List.getElem?_eq_getElem (by omega), Option.some.injEq] at hu
        rw [hu]; exact q
      have := VR.fslice (F := fun b => W.heap[b]?) (cat en l) l.length a cap (fun i => (W.cell? (a.add i)).getD undef) (by omega) (fun i hil => ?_) (fun i v hv => ?_)
      · unfold slV; rw [← hll]; exact this
      · rw [cat_length hlen] at hil
        have hkp : 0 < k := Nat.pos_of_ne_zero fun e => by subst e; simp at hil
        have hj : i / k < l.length := Nat.div_lt_of_lt_mul (by rw [Nat.mul_comm]; exact hil)
        obtain ⟨u, hu, _⟩ := hcell (i / k) (i % k) hj (Nat.mod_lt _ hkp)
        have e1 : i / k * k + i % k = i := by rw [Nat.mul_comm]; exact Nat.div_add_mod i k
        rw [e1] at hu
        show W.cell? (a.add i) = _
        rw [hu]; rfl
      · have hil := (List.getElem?_eq_some_iff.1 hv).1
        rw [cat_length hlen] at hil
        have hkp : 0 < k := Nat.pos_of_ne_zero fun e => by subst e; simp at hil
        have hj : i / k < l.length := Nat.div_lt_of_lt_mul (by rw [Nat.mul_comm]; exact hil)
        obtain ⟨u, hu, hq⟩ := hcell (i / k) (i % k) hj (Nat.mod_lt _ hkp)
        have e1 : i / k * k + i % k = i := by rw [Nat.mul_comm]; exact Nat.div_add_mod i k
        rw [e1] at hu
        rw [hu]
        refine hq v ?_
        rw [← cat_get hlen hj (Nat.mod_lt _ hkp), e1, hv]
    · have := bulk_len (elems.map (·.1))
      rw [List.length_map] at this
      simp only [big]; omega
    · obtain ⟨i, hil, rfl⟩ := List.getElem_of_mem hx
      obtain ⟨_, _, _, h6⟩ := hi i hil
      exact h6
theorem rd_field {n i : Nat} {f : Field} {fs : Array Field} {xs : List (DataW H × List MemPlace)} {cs : List Value} {α : Type} {e : α → List V} {ok : α → Prop} (hf : ∀ (i : Nat) (f : Field), fs[i]? = some f → DataW.trod enc Tryz.prog W base sp held n f.type ((cs.drop f.offset).take (Tryz.prog.cellsOf f.type)) = xs[i]?) (hlen : xs.length = fs.size)
    (hb : Rows.uptoBulk (.agg (xs.map (·.1))) ≤ 1048576) (hi : fs[i]? = some f) (hr : RdT enc W base sp held f.type n e ok) : ∃ a, RcAt W (e a) cs f.offset ∧ ok a := by
  have h1 := hf i f hi
  have hlt : i < xs.length := by rw [hlen]; exact (Array.getElem?_eq_some_iff.1 hi).1
  rw [List.getElem?_eq_getElem hlt] at h1
  have h2 := bulk_part (d := xs[i].1) (l := xs.map (·.1)) (List.mem_map_of_mem (List.getElem_mem _))
  simp only [Rows.uptoBulk] at hb
  obtain ⟨a, ha, hok⟩ := hr _ _ h1 (by omega)
  exact ⟨a, .of ha, hok⟩
theorem band {a b : Bool} (h : a = true) (h2 : b = true) : (a && b) = true := by rw [h, h2]; rfl
theorem rd_lb {n : Nat} : RdT enc W base sp held 30 n lbC okLb := fun cs x h hb => by
  obtain ⟨xs, m, rfl, rfl, hl, hlen, hf⟩ := DataW.trod_struct Tryz.underlying30 h
  obtain ⟨a0, r0, o0⟩ := rd_field (i := 0) hf hlen hb rfl (rd_str Tryz.underlying9)
  obtain ⟨a1, r1, o1⟩ := rd_field (i := 1) hf hlen hb rfl (rd_str Tryz.underlying9)
  exact ⟨⟨a0, a1⟩, ⟨hl.trans (by kernel_rfl), r0.app r1⟩, o0, o1⟩
theorem rd_lbs {n : Nat} : RdT enc W base sp held 22 n (fun l : List Lb => [slV lbC l]) okLs := rd_slice (k := 2) Tryz.underlying22 (by kernel_rfl) (fun _ => rfl) fun m _ => rd_lb
theorem rd_x {n : Nat} : RdT enc W base sp held 24 n xmC okX := fun cs x h hb => by
  obtain ⟨xs, m, rfl, rfl, hl, hlen, hf⟩ := DataW.trod_struct Tryz.underlying24 h
  obtain ⟨a0, r0, o0⟩ := rd_field (i := 0) hf hlen hb rfl rd_lbs
  obtain ⟨a1, r1, o1⟩ := rd_field (i := 1) hf hlen hb rfl (rd_int Tryz.underlying3)
  obtain ⟨a2, r2, o2⟩ := rd_field (i := 2) hf hlen hb rfl (rd_int Tryz.underlying3)
  obtain ⟨a3, r3, o3⟩ := rd_field (i := 3) hf hlen hb rfl (rd_int Tryz.underlying3)
  obtain ⟨a4, r4, o4⟩ := rd_field (i := 4) hf hlen hb rfl (rd_int Tryz.underlying3)
  exact ⟨⟨a0, a1, a2, a3, a4⟩, ⟨hl.trans (by kernel_rfl), r0.app (r1.app (r2.app (r3.app r4)))⟩, o0⟩
end
end Go.Proofs.YtonbppofjlpklaaGreatDoor
end

section
namespace Go.Proofs.YtonbppofjlpklaaGreatDoor
open Go.Deep Go.ChangeShapes Go.WideShapes Go.ChangeAt Go.RowKit Go.Fw Go.ChangeMaps
theorem vrs_three {F : Froz} {a b c : V} {x y z : Value} (h1 : VR F a x) (h2 : VR F b y) (h3 : VR F c z) : VRs F [a, b, c] #[x, y, z] := ⟨rfl, fun i v hv => by
  match i with
  | 0 => simp at hv; subst hv; simpa using h1
  | 1 => simp at hv; subst hv; simpa using h2
  | 2 => simp at hv; subst hv; simpa using h3
  | i + 3 => simp at hv⟩
theorem laidOut : laidOutB Tryz.prog = true := by kernel_rfl
theorem own : ownKnob Tryz.prog.godebug = none := by kernel_rfl
noncomputable def laidWorld (os : Os) : World :=
  let w0 := World.holding Tryz.prog os ⟨#[], #[], []⟩
  let put (h : Array Obj) (g : Nat) (cs : Array Value) : Array Obj := h.modify g fun
    | .cells _ t frozen => .cells cs t frozen
    | o => o
  let h0 := put w0.heap 3 (Go.Pinned.utf8FirstZ.map fun (z : Nat) => Value.int .u8 (z : Int)).toArray
  let h0 := put h0 4 #[.int .u8 128, .int .u8 191, .int .u8 160, .int .u8 191, .int .u8 128, .int .u8 159, .int .u8 144, .int .u8 191, .int .u8 128, .int .u8 143, .int .u8 0, .int .u8 0, .int .u8 0, .int .u8 0, .int .u8 0, .int .u8 0, .int .u8 0, .int .u8 0, .int .u8 0, .int .u8 0, .int .u8 0, .int .u8 0, .int .u8 0, .int .u8 0, .int .u8 0, .int .u8 0, .int .u8 0, .int .u8 0, .int .u8 0, .int .u8 0, .int .u8 0, .int .u8 0]
  let h1 := put h0 0 (Lib.asciiSpaceTab.map fun z => Value.int .u8 z).toArray
  let h2 := put h1 2 #[.pointer (some ⟨h1.size, 0, none⟩)]
  let h3 := h2.push (.cells #[.slice (some ⟨h1.size + 1, 0, none⟩) 7 7, .slice none 0 0, .int .i64 2] 268 (0, 0))
  let h4 := h3.push (.cells (([9, 13, 1, 32, 133, 101, 160, 5760, 5600, 8192, 8202, 1, 8232, 8233, 1, 8239, 8287, 48, 12288, 12288, 1] : List Int).map fun z => Value.int .u16 z).toArray 271 (0, 0))
  { w0 with heap := h4 }
abbrev laidL : List (String × DataW Unit) := [("unicode/utf8.acceptRanges", Rows.laid_unicode_utf8_acceptRanges), ("unicode.White_Space", Rows.laid_unicode_White_Space), ("strings.asciiSpace", Rows.laid_strings_asciiSpace), ("unicode/utf8.first", Rows.laid_unicode_utf8_first)]
theorem laid_met (os : Os) (args : Array Value) : laidMet Tryz.prog laidL ((laidWorld os).forCall (fun _ _ => 0) ⟨#[], args, []⟩).memory :=
  laidMet_of_run3 8 (by kernel_rfl) (by kernel_rfl) (by kernel_rfl)
theorem ascii_tab : (Rows.laid_strings_asciiSpace : DataW Unit) = Lib.tabData .u8 Lib.asciiSpaceTab := by kernel_rfl
theorem gtab_start {W : World} (h : laidMet Tryz.prog laidL W) : @GTab (glOf W) := by
  obtain ⟨ps, ⟨_, _, _, _, _, _, _, _, _, _, ⟨_, _, _, _, _, _, _, _, _, _, ⟨g', t', cs, fuel, p, q, hg', ht', hvar, hd, _, _⟩, _⟩, _⟩, _⟩ := h
  have hg : Tryz.prog.globalNamed "strings.asciiSpace" = some 0 := by kernel_rfl
  have hty : (Tryz.prog.globals[0]?).map (·.type) = some 207 := by kernel_rfl
  obtain rfl := Option.some.inj (hg.symm.trans hg')
  obtain rfl := Option.some.inj (hty.symm.trans ht')
  rw [ascii_tab] at hd
  have hc := Lib.cells_of_tab Tryz.underlying207 Tryz.underlying5 (by kernel_rfl) (by kernel_rfl) hd
  have hv : W.var? Tryz.prog "strings.asciiSpace" = some (Lib.asciiSpaceTab.map fun z => Value.int .u8 z).toArray := by rw [hvar, ← hc]
  letI := glOf W
  intro F w ho
  show w.var? Tryz.prog "strings.asciiSpace" = _
  unfold World.var? at hv ⊢
  rw [hg] at hv ⊢
  simp only [Option.bind_some] at hv ⊢
  cases hb : W.heap[0]? with
  | none => rw [hb] at hv; cases hv
  | some o =>
    have hF : F 0 = some o := ho.gl 0 o hb
    rw [ho.frz 0 o hF]
    rw [hb] at hv
    exact hv
section
variable {H : Type} {enc : TypeId × Value → H} {W : World} {base b0 : Nat} {r : Reach} {sp : Nat → Bool} {held : Bool} {v : Value} {d : DataW H} {p : List MemPlace}
theorem vr_of_rc {vs : List V} {cs : Array Value} (h : Rc W vs cs.toList) : VR (fun b => W.heap[b]?) (.agg vs) (.agg cs) := by
  letI := glOf W
  refine .agg _ _ (by simpa using h.1) fun i v hv => ?_
  obtain ⟨x, hx, q⟩ := h.2 i v hv
  rw [Nat.zero_add] at hx
  have : cs[i]? = some x := by simpa using hx
  rw [Array.getD_eq_getD_getElem?, this]; exact q
set_option maxRecDepth 100000 in
theorem open_x (hval : Value.okWide Tryz.prog W r b0 24 v) (hd : DataW.Trod enc Tryz.prog W base sp held 24 v d p) (hb : Rows.uptoBulk d ≤ 1048576) : ∃ e : Xm, VR (fun b => W.heap[b]?) (xmV e) v ∧ okX e := by
  obtain ⟨cs, rfl, hsz⟩ := okWide_struct Tryz.underlying24 hval
  obtain ⟨fuel, hf⟩ := hd
  obtain ⟨e, he, ho⟩ := rd_x (n := fuel) _ (d, p) hf hb
  exact ⟨e, vr_of_rc he, ho⟩
end
end Go.Proofs.YtonbppofjlpklaaGreatDoor
end
