/- A part of the proof: C0, C1, C2, C3, C4, C5, C9, C10, C11, C12, C13, C14, C15, C16, C17, C18, C19, C20, CShelf, C6, C21, C7, C8, C22, CRD, CRB, CRE -/
import Derived.Test.YtonbppofjlpklaaGreatDoorFwRow
import Derived.KernelRfl
import Derived.Sort.Walk0
import Derived.Test.YtonbppofjlpklaaGreatDoorProg
import Derived.Shelf.Small.Utf8
import Derived.Shelf.Small.Bits
import Derived.Shelf.Small.Strs
import Derived.Shelf.Strconv.Itoa0
import Derived.Shelf.Strings.Search1
import Derived.Shelf.Strings.Search2
import Derived.Shelf.Strings.Search3
import Derived.Shelf.Strings.Cut
import Derived.Shelf.LaysM
import Derived.Shelf.Strings.Shaped
import Derived.Shelf.Strings.Fields
import Derived.Shelf.Strings.SplitShaped
import Derived.Shelf.Unicode.Latin
import Derived.Shelf.Unicode.Decode
import Derived.Shelf.Strings.Runes
import Derived.Shelf.Strings.AsciiSet
import Derived.Shelf.Unicode.DecodeSlow
import Derived.Shelf.Unicode.DecodeAny
import Derived.Shelf.Unicode.Is16White
import Derived.Shelf.Unicode.IsSpaceAny
import Derived.Shelf.Unicode.Is16Any
import Derived.Shelf.Unicode.Is32Any
import Derived.Shelf.Unicode.ExclAny
import Derived.Ground.Names2Prog
import Derived.Shelf.Slices.SearchI
import Derived.Lib.Fields
import Derived.Test.YtonbppofjlpklaaGreatDoorCards
import Derived.Test.YtonbppofjlpklaaGreatDoorTie
import Derived.WalkKit
import Derived.ProofKit
import Derived.OpenShut
import Derived.Deep.DeepHandedRow
import Derived.Deep.SlicePairs
import Derived.Carry
import Derived.Lib.LaidTab
import Derived.Deep.DeepLaidRun
import Derived.Deep.DeepWitnessRowRef
set_option linter.all false
set_option linter.unusedSectionVars false
set_option linter.unusedVariables false
set_option linter.unusedSimpArgs false
section
namespace Go.Proofs.YtonbppofjlpklaaGreatDoor
open Go.Fw
variable [Gl]
set_option maxRecDepth 20000
set_option maxHeartbeats 4000000
abbrev By := List UInt8
abbrev nI (n : Int) : V := .int .i64 n
theorem mlt {n i : Nat} (h : i < n) : n - (i + 1) < n - i := by omega
def big : Nat := 4194304
theorem isucc {i : Nat} (h : i < 4611686018427387904) : some (V.int .i64 (IntKind.i64.wrap ((i : Int) + 1))) = some (V.int .i64 ((i + 1 : Nat) : Int)) := int_fit (by omega) (by omega) (by omega)
theorem ltc {i n : Nat} (c : decide ((i : Int) < (n : Int)) = true) : i < n := by simpa using c
theorem gec {i n : Nat} (c : decide ((i : Int) < (n : Int)) = false) : n ≤ i := by simpa using c
theorem nIeq {a b : Int} (h : a = b) : some (V.int .i64 a) = some (V.int .i64 b) := by rw [h]
theorem bIeq {a b : Bool} (h : a = b) : some (V.bool a) = some (V.bool b) := by rw [h]
theorem mixed : Tryz.prog.follows .mixedOrders = true := by kernel_rfl
structure Lb where
  name : By
  value : By
structure Xm where
  labels : List Lb
  time : Int
  value : Int
  trace : Int
  span : Int
def lbC (x : Lb) : List V := [.str x.name, .str x.value]
def xmC (x : Xm) : List V := [slV lbC x.labels, nI x.time, nI x.value, nI x.trace, nI x.span]
abbrev xmV (x : Xm) : V := .agg (xmC x)
abbrev lbV' (x : Lb) : V := .agg (lbC x)
def inC (n : Int) : List V := [nI n]
def okLb (x : Lb) : Prop := x.name.length ≤ big ∧ x.value.length ≤ big
def okLs (l : List Lb) : Prop := l.length ≤ big ∧ ∀ x ∈ l, okLb x
def okX (x : Xm) : Prop := okLs x.labels
theorem ldL {l : List Lb} {i : Nat} (hi : i < l.length) : ldAt Tryz.prog 30 (cat lbC l) (i * 2) = some (lbV' l[i]) := ld_cat (enc := lbC) (fun _ => rfl) hi (by kernel_rfl) (by kernel_rfl)
theorem ldL0 {l : List Lb} {i : Nat} (hi : i < l.length) : ldAt Tryz.prog 9 (cat lbC l) (i * 2 + 0) = some (.str l[i].name) := ld_cat1 (enc := lbC) 0 (fun _ => rfl) hi (by decide) (by kernel_rfl) rfl
theorem ldL1 {l : List Lb} {i : Nat} (hi : i < l.length) : ldAt Tryz.prog 9 (cat lbC l) (i * 2 + 1) = some (.str l[i].value) := ld_cat1 (enc := lbC) 1 (fun _ => rfl) hi (by decide) (by kernel_rfl) rfl
theorem ldI {l : List Int} {i : Nat} (hi : i < l.length) : ldAt Tryz.prog 3 (cat inC l) (i * 1) = some (nI l[i]) := by
  have := ld_cat1 (P := Tryz.prog) (T := 3) (enc := inC) 0 (fun _ => rfl) hi (by decide) (by kernel_rfl) rfl
  simpa using this
theorem c_nanI (a : Int) : PTri Tryz.prog 40 [nI a] (.bool false) := by
  refine PTri.of_safe Tryz.func40 rfl Tryz.results40 Tryz.ntmps40 rfl ?_
  refine go 99 rfl ?_
  exact ⟨.inr rfl, trivial, .done (bIeq (by simp)) rfl⟩
theorem c_nanS (a : By) : PTri Tryz.prog 72 [.str a] (.bool false) := by
  refine PTri.of_safe Tryz.func72 rfl Tryz.results72 Tryz.ntmps72 rfl ?_
  refine go 99 rfl ?_
  exact ⟨.inr rfl, trivial, .done (bIeq (by simp)) rfl⟩
def cI (a b : Int) : Int := if a < b then -1 else if b < a then 1 else 0
theorem c_cmpI (a b : Int) : PTri Tryz.prog 21 [nI a, nI b] (nI (cI a b)) := by
  refine PTri.of_safe Tryz.func21 rfl Tryz.results21 Tryz.ntmps21 rfl ?_
  refine go 99 rfl ?_
  refine Safe.call (c_nanI a) rfl rfl rfl ?_
  refine go 99 rfl ?_
  refine Safe.call (c_nanI b) rfl rfl rfl ?_
  refine go 99 rfl ?_
  first | refine Safe.gsK true rfl rfl ?_ | refine Safe.gsK false rfl rfl ?_ | refine Safe.brT rfl rfl ?_ | refine Safe.brF rfl rfl ?_
  refine go 99 rfl ?_
  first | refine Safe.gsK true rfl rfl ?_ | refine Safe.gsK false rfl rfl ?_ | refine Safe.brT rfl rfl ?_ | refine Safe.brF rfl rfl ?_
  refine go 99 rfl ?_
  refine Safe.br rfl (fun c => ?_) (fun c => ?_)
  · have c1 : a < b := of_decide_eq_true c
    refine go 99 rfl ?_
    exact ⟨.inr rfl, trivial, .done (nIeq (by simp [cI, c1])) rfl⟩
  · have c1 : ¬ a < b := of_decide_eq_false c
    refine go 99 rfl ?_
    refine Safe.br rfl (fun d => ?_) (fun d => ?_)
    · have d1 : b < a := of_decide_eq_true d
      refine go 99 rfl ?_
      exact ⟨.inr rfl, trivial, .done (nIeq (by simp [cI, c1, d1])) rfl⟩
    · have d1 : ¬ b < a := of_decide_eq_false d
      refine go 99 rfl ?_
      exact ⟨.inr rfl, trivial, .done (nIeq (by simp [cI, c1, d1])) rfl⟩
theorem le_anti {a b : By} (h : a ≤ b) (h' : b ≤ a) : a = b := List.le_antisymm h h'
theorem lt_le {a b : By} (h : a < b) : a ≤ b := List.le_of_lt h
theorem lt_ne {a b : By} (h : a ≤ b) (hn : a ≠ b) : a < b := Classical.byContradiction fun h1 => hn (le_anti h (by simpa using h1))
theorem bl_iff (x y : By) : Op.bytesLess x y = true ↔ x < y := by rw [Go.Proofs.bytesLess_eq]; simp
theorem bl_no (x y : By) : Op.bytesLess x y = false ↔ y ≤ x := by
  rw [← Bool.not_eq_true, bl_iff]
  exact List.not_lt
theorem le_nl (x p : By) : (Op.bytesLess x p || x == p) = !Op.bytesLess p x := by
  rw [Bool.eq_iff_iff]
  simp only [Bool.or_eq_true, bl_iff, beq_iff_eq, Bool.not_eq_true', bl_no]
  constructor
  · rintro (h | rfl)
    · exact lt_le h
    · exact List.le_refl _
  · intro h
    by_cases e : x = p
    · exact .inr e
    · exact .inl (lt_ne h e)
def cS (a b : By) : Int := if Op.bytesLess a b then -1 else if Op.bytesLess b a then 1 else 0
theorem c_cmpS (a b : By) : PTri Tryz.prog 39 [.str a, .str b] (nI (cS a b)) := by
  refine PTri.of_safe Tryz.func39 rfl Tryz.results39 Tryz.ntmps39 rfl ?_
  refine go 99 rfl ?_
  refine Safe.call (c_nanS a) rfl rfl rfl ?_
  refine go 99 rfl ?_
  refine Safe.call (c_nanS b) rfl rfl rfl ?_
  refine go 99 rfl ?_
  first | refine Safe.gsK true rfl rfl ?_ | refine Safe.gsK false rfl rfl ?_ | refine Safe.brT rfl rfl ?_ | refine Safe.brF rfl rfl ?_
  refine go 99 rfl ?_
  first | refine Safe.gsK true rfl rfl ?_ | refine Safe.gsK false rfl rfl ?_ | refine Safe.brT rfl rfl ?_ | refine Safe.brF rfl rfl ?_
  refine go 99 rfl ?_
  refine Safe.br rfl (fun c => ?_) (fun c => ?_)
  · refine go 99 rfl ?_
    exact ⟨.inr rfl, trivial, .done (nIeq (by simp [cS, c])) rfl⟩
  · refine go 99 rfl ?_
    refine Safe.br rfl (fun d => ?_) (fun d => ?_)
    · refine go 99 rfl ?_
      exact ⟨.inr rfl, trivial, .done (nIeq (by rw [le_nl, Bool.not_not] at d; simp [cS, c, d])) rfl⟩
    · refine go 99 rfl ?_
      exact ⟨.inr rfl, trivial, .done (nIeq (by rw [le_nl, Bool.not_not] at d; simp [cS, c, d])) rfl⟩
def orI : List Int → Int
  | [] => 0
  | a :: r => if a = 0 then orI r else a
theorem orI_drop {l : List Int} {i : Nat} (hi : i < l.length) : orI (l.drop i) = if l[i] = 0 then orI (l.drop (i + 1)) else l[i] := by rw [List.drop_eq_getElem_cons hi]; rfl
theorem c_or (l : List Int) (hl : l.length ≤ big) : PTri Tryz.prog 19 [slV inC l] (nI (orI l)) := by
  simp only [big] at hl
  refine PTri.of_safe Tryz.func19 rfl Tryz.results19 Tryz.ntmps19 rfl ?_
  refine go 99 rfl ?_
  refine Safe.loop (α := Nat) (fun i => [(0, slV inC l), (3, nI 0), (6, slV inC l), (7, nI l.length), (8, nI i)]) (fun i => []) 0 (fun i => l.length - i) (fun i => i ≤ l.length ∧ orI l = orI (l.drop i)) 0 (sgI 0) ⟨⟨fit rfl, fit rfl, fit rfl, fit rfl, fit rfl, trivial⟩, ⟨_, .refl _, List.nil_sublist _⟩, rfl⟩ ⟨Nat.zero_le _, rfl⟩ ?_
  rintro i ⟨hi, ha⟩
  refine go 99 rfl ?_
  refine Safe.br rfl (fun c => ?_) (fun c => ?_)
  · have hi : i < l.length := ltc c
    rw [orI_drop hi] at ha
    refine go 99 rfl ?_
    refine Safe.idxF hi rfl rfl rfl ?_
    refine go 99 rfl ?_
    refine Safe.ldF (ldI hi) rfl rfl rfl ?_
    refine go 99 rfl ?_
    refine Safe.br rfl (fun d => ?_) (fun d => ?_)
    · have d1 : l[i] ≠ 0 := by simpa using d
      refine go 99 rfl ?_
      exact ⟨.inr rfl, trivial, .done (nIeq (by rw [ha, if_neg d1])) rfl⟩
    · have d1 : l[i] = 0 := by simpa using d
      refine go 99 rfl ?_
      exact ⟨sgI 0, i + 1, ⟨hi, by rw [ha, if_pos d1]⟩, mlt hi, rfl, rfl, ⟨fit rfl, fit rfl, fit rfl, fit rfl, fit (isucc (by omega)), trivial⟩, ⟨_, .refl _, List.nil_sublist _⟩, rfl⟩
  · have hi2 : i = l.length := Nat.le_antisymm hi (gec c)
    subst hi2
    rw [List.drop_length] at ha
    refine go 99 rfl ?_
    exact ⟨.inr rfl, trivial, .done (nIeq (by rw [ha]; rfl)) rfl⟩
end Go.Proofs.YtonbppofjlpklaaGreatDoor
end

section
namespace Go.Proofs.YtonbppofjlpklaaGreatDoor
open Go.Fw
variable [Gl]
set_option maxRecDepth 20000
set_option maxHeartbeats 4000000
def cL (a b : Lb) : Int := orI [cS a.name b.name, cS a.value b.value]
theorem c_cmpLb (a b : Lb) : PTri Tryz.prog 38 [lbV' a, lbV' b] (nI (cL a b)) := by
  refine PTri.of_safe Tryz.func38 rfl Tryz.results38 Tryz.ntmps38 rfl ?_
  refine go 99 rfl ?_
  refine Safe.frzC 0 rfl rfl ?_
  refine Safe.frzC 1 rfl rfl ?_
  refine Safe.drawP mixed [0, 1, 2, 3, 4, 5, 6, 7, 8, 9, 10, 11, 12] [(true, true), (true, true), (true, true), (true, true), (true, true), (true, true), (true, true), (true, true), (true, true), (true, true), (true, true), (true, true), (true, true)] (by kernel_rfl) ?_
  refine go 99 rfl ?_
  refine Safe.ldF (rfl) rfl rfl rfl ?_
  refine go 99 rfl ?_
  refine Safe.ldF (rfl) rfl rfl rfl ?_
  refine go 99 rfl ?_
  refine Safe.call (c_cmpS a.name b.name) rfl rfl rfl ?_
  refine go 99 rfl ?_
  refine Safe.ldF (rfl) rfl rfl rfl ?_
  refine go 99 rfl ?_
  refine Safe.ldF (rfl) rfl rfl rfl ?_
  refine go 99 rfl ?_
  refine Safe.call (c_cmpS a.value b.value) rfl rfl rfl ?_
  refine go 99 rfl ?_
  refine Safe.bsF rfl rfl ?_
  refine go 99 rfl ?_
  refine Safe.call (c_or [cS a.name b.name, cS a.value b.value] (by simp [big])) rfl rfl rfl ?_
  refine go 99 rfl ?_
  exact ⟨.inr rfl, trivial, .done (rfl) rfl⟩
end Go.Proofs.YtonbppofjlpklaaGreatDoor
end

section
namespace Go.Proofs.YtonbppofjlpklaaGreatDoor
open Go.Fw
variable [Gl]
set_option maxRecDepth 20000
set_option maxHeartbeats 4000000
def cLs : List Lb → List Lb → Int
  | [], [] => 0
  | [], _ :: _ => -1
  | _ :: _, [] => 1
  | a :: x, b :: y => if cL a b = 0 then cLs x y else cL a b
theorem cLs_drop {l r : List Lb} {i : Nat} (hi : i < l.length) (hj : i < r.length) : cLs (l.drop i) (r.drop i) = if cL l[i] r[i] = 0 then cLs (l.drop (i + 1)) (r.drop (i + 1)) else cL l[i] r[i] := by
  rw [List.drop_eq_getElem_cons hi, List.drop_eq_getElem_cons hj]; rfl
theorem cLs_gt {l r : List Lb} {i : Nat} (hi : i < l.length) (hj : r.length ≤ i) : cLs (l.drop i) (r.drop i) = 1 := by
  rw [List.drop_eq_getElem_cons hi, List.drop_of_length_le hj]; rfl
theorem cLs_lt {l r : List Lb} {i : Nat} (hi : l.length ≤ i) (hj : i < r.length) : cLs (l.drop i) (r.drop i) = -1 := by
  rw [List.drop_eq_getElem_cons hj, List.drop_of_length_le hi]; rfl
theorem cLs_eq {l r : List Lb} {i : Nat} (hi : l.length ≤ i) (hj : r.length ≤ i) : cLs (l.drop i) (r.drop i) = 0 := by
  rw [List.drop_of_length_le hj, List.drop_of_length_le hi]; rfl
theorem c_cmpLF (l r : List Lb) (hl : l.length ≤ big) (hr : r.length ≤ big) : PTri Tryz.prog 37 [slV lbC l, slV lbC r, .clo 38 []] (nI (cLs l r)) := by
  simp only [big] at hl hr
  refine PTri.of_safe Tryz.func37 rfl Tryz.results37 Tryz.ntmps37 rfl ?_
  refine go 99 rfl ?_
  refine Safe.loop (α := Nat) (fun i => [(0, slV lbC l), (1, slV lbC r), (2, .clo 38 []), (11, slV lbC l), (12, nI l.length), (13, nI i)]) (fun i => []) 0 (fun i => l.length - i) (fun i => i ≤ l.length ∧ i ≤ r.length ∧ cLs l r = cLs (l.drop i) (r.drop i)) 0 (sgI 0) ⟨⟨fit rfl, fit rfl, fit rfl, fit rfl, fit rfl, fit rfl, trivial⟩, ⟨_, .refl _, List.nil_sublist _⟩, rfl⟩ ⟨Nat.zero_le _, Nat.zero_le _, rfl⟩ ?_
  rintro i ⟨hi, hj, ha⟩
  refine go 99 rfl ?_
  refine Safe.br rfl (fun c => ?_) (fun c => ?_)
  · have hi : i < l.length := ltc c
    refine go 99 rfl ?_
    refine Safe.idxF hi rfl rfl rfl ?_
    refine go 99 rfl ?_
    refine Safe.ldF (ldL hi) rfl rfl rfl ?_
    refine go 99 rfl ?_
    refine Safe.br rfl (fun d => ?_) (fun d => ?_)
    · have hj2 : r.length ≤ i := by simpa using d
      refine go 99 rfl ?_
      exact ⟨.inr rfl, trivial, .done (nIeq (by rw [ha, cLs_gt hi hj2])) rfl⟩
    · have hj : i < r.length := by simpa using d
      rw [cLs_drop hi hj] at ha
      refine go 99 rfl ?_
      refine Safe.idxF hj rfl rfl rfl ?_
      refine go 99 rfl ?_
      refine Safe.ldF (ldL hj) rfl rfl rfl ?_
      refine go 99 rfl ?_
      refine Safe.call (c_cmpLb l[i] r[i]) rfl rfl rfl ?_
      refine go 99 rfl ?_
      refine Safe.br rfl (fun e => ?_) (fun e => ?_)
      · have e1 : cL l[i] r[i] ≠ 0 := by simpa using e
        refine go 99 rfl ?_
        exact ⟨.inr rfl, trivial, .done (nIeq (by rw [ha, if_neg e1])) rfl⟩
      · have e1 : cL l[i] r[i] = 0 := by simpa using e
        refine go 99 rfl ?_
        exact ⟨sgI 0, i + 1, ⟨hi, hj, by rw [ha, if_pos e1]⟩, mlt hi, rfl, rfl, ⟨fit rfl, fit rfl, fit rfl, fit rfl, fit rfl, fit (isucc (by omega)), trivial⟩, ⟨_, .refl _, List.nil_sublist _⟩, rfl⟩
  · have hi2 : i = l.length := Nat.le_antisymm hi (gec c)
    subst hi2
    refine go 99 rfl ?_
    refine Safe.br rfl (fun d => ?_) (fun d => ?_)
    · have d1 : l.length < r.length := by simpa using d
      refine go 99 rfl ?_
      exact ⟨.inr rfl, trivial, .done (nIeq (by rw [ha, cLs_lt (Nat.le_refl _) d1])) rfl⟩
    · have d1 : r.length ≤ l.length := by simpa using d
      refine go 99 rfl ?_
      exact ⟨.inr rfl, trivial, .done (nIeq (by rw [ha, cLs_eq (Nat.le_refl _) d1])) rfl⟩
theorem c_cmpLs (l r : List Lb) (hl : l.length ≤ big) (hr : r.length ≤ big) : PTri Tryz.prog 20 [slV lbC l, slV lbC r] (nI (cLs l r)) := by
  refine PTri.of_safe Tryz.func20 rfl Tryz.results20 Tryz.ntmps20 rfl ?_
  refine go 99 rfl ?_
  refine Safe.call (c_cmpLF l r hl hr) rfl rfl rfl ?_
  refine go 99 rfl ?_
  exact ⟨.inr rfl, trivial, .done (rfl) rfl⟩
def cX (a b : Xm) : Int := orI [cLs a.labels b.labels, cI a.time b.time, cI a.value b.value, cI a.trace b.trace, cI a.span b.span]
theorem c_cmpX (a b : Xm) (ha : okX a) (hb : okX b) : PTri Tryz.prog 8 [xmV a, xmV b] (nI (cX a b)) := by
  refine PTri.of_safe Tryz.func8 rfl Tryz.results8 Tryz.ntmps8 rfl ?_
  refine go 99 rfl ?_
  refine Safe.frzC 0 rfl rfl ?_
  refine Safe.frzC 1 rfl rfl ?_
  refine Safe.drawP mixed [0, 1, 2, 3, 4, 5, 6, 7, 8, 9, 10, 11, 12, 13, 14, 15, 16, 17, 18, 19, 20, 21, 22, 23, 24, 25, 26, 27] [(true, true), (true, true), (true, true), (true, true), (true, true), (true, true), (true, true), (true, true), (true, true), (true, true), (true, true), (true, true), (true, true), (true, true), (true, true), (true, true), (true, true), (true, true), (true, true), (true, true), (true, true), (true, true), (true, true), (true, true), (true, true), (true, true), (true, true), (true, true)] (by kernel_rfl) ?_
  refine go 99 rfl ?_
  refine Safe.ldF (rfl) rfl rfl rfl ?_
  refine go 99 rfl ?_
  refine Safe.ldF (rfl) rfl rfl rfl ?_
  refine go 99 rfl ?_
  refine Safe.call (c_cmpLs a.labels b.labels ha.1 hb.1) rfl rfl rfl ?_
  refine go 99 rfl ?_
  refine Safe.ldF (rfl) rfl rfl rfl ?_
  refine go 99 rfl ?_
  refine Safe.ldF (rfl) rfl rfl rfl ?_
  refine go 99 rfl ?_
  refine Safe.call (c_cmpI a.time b.time) rfl rfl rfl ?_
  refine go 99 rfl ?_
  refine Safe.ldF (rfl) rfl rfl rfl ?_
  refine go 99 rfl ?_
  refine Safe.ldF (rfl) rfl rfl rfl ?_
  refine go 99 rfl ?_
  refine Safe.call (c_cmpI a.value b.value) rfl rfl rfl ?_
  refine go 99 rfl ?_
  refine Safe.ldF (rfl) rfl rfl rfl ?_
  refine go 99 rfl ?_
  refine Safe.ldF (rfl) rfl rfl rfl ?_
  refine go 99 rfl ?_
  refine Safe.call (c_cmpI a.trace b.trace) rfl rfl rfl ?_
  refine go 99 rfl ?_
  refine Safe.ldF (rfl) rfl rfl rfl ?_
  refine go 99 rfl ?_
  refine Safe.ldF (rfl) rfl rfl rfl ?_
  refine go 99 rfl ?_
  refine Safe.call (c_cmpI a.span b.span) rfl rfl rfl ?_
  refine go 99 rfl ?_
  refine Safe.bsF rfl rfl ?_
  refine go 99 rfl ?_
  refine Safe.call (c_or [cLs a.labels b.labels, cI a.time b.time, cI a.value b.value, cI a.trace b.trace, cI a.span b.span] (by simp [big])) rfl rfl rfl ?_
  refine go 99 rfl ?_
  exact ⟨.inr rfl, trivial, .done (rfl) rfl⟩
end Go.Proofs.YtonbppofjlpklaaGreatDoor
end

section
namespace Go.Proofs.YtonbppofjlpklaaGreatDoor
open Go.Fw
variable [Gl]
set_option maxRecDepth 20000
set_option maxHeartbeats 4000000
theorem any_drop {α : Type} {p : α → Bool} {l : List α} {i : Nat} {q : Bool} (hi : i < l.length) {g : Bool} : (g = ((l.drop i).any p || q)) ↔ (g = (p l[i] || ((l.drop (i + 1)).any p || q))) := by
  rw [List.drop_eq_getElem_cons hi, List.any_cons, Bool.or_assoc]
def grL (x : Lb) : Bool := decide (61 < x.name.length) || decide (201 < x.value.length)
def grLs (l : List Lb) : Bool := l.any grL || decide (17 < l.length)
theorem g_lbs (l : List Lb) (hl : okLs l) : PTri Tryz.prog 5 [slV lbC l] (.bool (grLs l)) := by
  have hb := hl.1
  simp only [big] at hb
  refine PTri.of_safe Tryz.func5 rfl Tryz.results5 Tryz.ntmps5 rfl ?_
  refine go 99 rfl ?_
  refine Safe.loop (α := Nat) (fun i => [(0, slV lbC l), (3, nI i)]) (fun i => []) 0 (fun i => l.length - i) (fun i => i ≤ l.length ∧ grLs l = ((l.drop i).any grL || decide (17 < l.length))) 0 (sgI 0) ⟨⟨fit rfl, fit rfl, trivial⟩, ⟨_, .refl _, List.nil_sublist _⟩, rfl⟩ ⟨Nat.zero_le _, rfl⟩ ?_
  rintro i ⟨hi, ha⟩
  refine go 99 rfl ?_
  refine Safe.br rfl (fun c => ?_) (fun c => ?_)
  · have hi : i < l.length := ltc c
    rw [any_drop hi] at ha
    refine go 99 rfl ?_
    refine Safe.idxF hi rfl rfl rfl ?_
    refine go 99 rfl ?_
    refine Safe.ldF (ldL0 hi) rfl rfl rfl ?_
    refine go 99 rfl ?_
    refine Safe.gs rfl (fun a => ?_) (fun a => ?_)
    · have a1 : 61 < l[i].name.length := ltc a
      refine go 99 rfl ?_
      exact ⟨.inr rfl, trivial, .done (bIeq (by rw [ha]; simp [grL, a1])) rfl⟩
    · have a1 : ¬ 61 < l[i].name.length := Nat.not_lt.2 (gec a)
      refine go 99 rfl ?_
      refine Safe.idxF hi rfl rfl rfl ?_
      refine go 99 rfl ?_
      refine Safe.ldF (ldL1 hi) rfl rfl rfl ?_
      refine go 99 rfl ?_
      refine Safe.br rfl (fun b => ?_) (fun b => ?_)
      · have b1 : 201 < l[i].value.length := ltc b
        refine go 99 rfl ?_
        exact ⟨.inr rfl, trivial, .done (bIeq (by rw [ha]; simp [grL, b1])) rfl⟩
      · have b1 : ¬ 201 < l[i].value.length := Nat.not_lt.2 (gec b)
        have hn : grL l[i] = false := by simp only [grL, decide_eq_false a1, decide_eq_false b1, Bool.or_self]
        rw [hn, Bool.false_or] at ha
        refine go 99 rfl ?_
        exact ⟨sgI 0, i + 1, ⟨hi, ha⟩, mlt hi, rfl, rfl, ⟨fit rfl, fit (isucc (by omega)), trivial⟩, ⟨_, .refl _, List.nil_sublist _⟩, rfl⟩
  · have hi2 : i = l.length := Nat.le_antisymm hi (gec c)
    subst hi2
    rw [List.drop_of_length_le (Nat.le_refl _)] at ha
    refine go 99 rfl ?_
    exact ⟨.inr rfl, trivial, .done (bIeq (by rw [ha]; simp; omega)) rfl⟩
end Go.Proofs.YtonbppofjlpklaaGreatDoor
end

section
namespace Go.Proofs.YtonbppofjlpklaaGreatDoor
open Go.Fw
variable [Gl]
set_option maxRecDepth 20000
set_option maxHeartbeats 4000000
theorem ite0 (b : Int) : (if b = 0 then 0 else b) = b := by split <;> omega
theorem orI2 (a b : Int) : orI [a, b] = if a = 0 then b else a := by
  simp only [orI, ite0]
theorem cL_eq (a b : Lb) : cL a b = if cS a.name b.name = 0 then cS a.value b.value else cS a.name b.name := orI2 _ _
end Go.Proofs.YtonbppofjlpklaaGreatDoor
end

section
namespace Go.Proofs.YtonbppofjlpklaaGreatDoor
open Go.Fw
variable [Gl]
set_option maxRecDepth 20000
set_option maxHeartbeats 4000000
theorem ldX {l : List Xm} {i : Nat} (hi : i < l.length) : ldAt Tryz.prog 24 (cat xmC l) (i * 5) = some (xmV l[i]) := ld_cat (enc := xmC) (fun _ => rfl) hi (by kernel_rfl) (by kernel_rfl)
end Go.Proofs.YtonbppofjlpklaaGreatDoor
end

section
namespace Go.Proofs.YtonbppofjlpklaaGreatDoor
open Go.Fw
variable [Gl]
set_option maxRecDepth 20000
set_option maxHeartbeats 4000000
def btw (a lo hi : Int) : Bool := decide (lo ≤ a) && decide (a ≤ hi)
theorem h_isTime (t : Int) : PTri Tryz.prog 82 [nI t] (.bool (btw t 1 1099511627776)) := by
  refine PTri.of_safe Tryz.func82 rfl Tryz.results82 Tryz.ntmps82 rfl ?_
  refine go 99 rfl ?_
  refine Safe.gs rfl (fun c => ?_) (fun c => ?_)
  · refine go 99 rfl ?_
    exact ⟨.inr rfl, trivial, .done (bIeq (by simp at c; simp [btw, c])) rfl⟩
  · refine go 99 rfl ?_
    exact ⟨.inr rfl, trivial, .done (bIeq (by simp at c; simp [btw]; omega)) rfl⟩
theorem r_between (a lo hi : Int) : PTri Tryz.prog 62 [nI a, nI lo, nI hi] (.bool (btw a lo hi)) := by
  refine PTri.of_safe Tryz.func62 rfl Tryz.results62 Tryz.ntmps62 rfl ?_
  refine go 99 rfl ?_
  refine Safe.gs rfl (fun c => ?_) (fun c => ?_)
  · refine go 99 rfl ?_
    exact ⟨.inr rfl, trivial, .done (bIeq (by simp at c; simp [btw, c])) rfl⟩
  · refine go 99 rfl ?_
    exact ⟨.inr rfl, trivial, .done (bIeq (by simp at c; simp [btw]; omega)) rfl⟩
theorem r_sign (a b : Int) : PTri Tryz.prog 64 [nI a, nI b] (nI (cI a b)) := by
  refine PTri.of_safe Tryz.func64 rfl Tryz.results64 Tryz.ntmps64 rfl ?_
  refine go 99 rfl ?_
  refine Safe.br rfl (fun c => ?_) (fun c => ?_)
  · refine go 99 rfl ?_
    exact ⟨.inr rfl, trivial, .done (nIeq (by simp at c; simp [cI, c])) rfl⟩
  · refine go 99 rfl ?_
    refine Safe.br rfl (fun d => ?_) (fun d => ?_)
    · refine go 99 rfl ?_
      exact ⟨.inr rfl, trivial, .done (nIeq (by simp at c d; simp only [cI]; repeat' split <;> omega)) rfl⟩
    · refine go 99 rfl ?_
      exact ⟨.inr rfl, trivial, .done (nIeq (by simp at c d; simp only [cI]; repeat' split <;> omega)) rfl⟩
theorem r_text (a b : By) : PTri Tryz.prog 87 [.str a, .str b] (nI (cS a b)) := by
  refine PTri.of_safe Tryz.func87 rfl Tryz.results87 Tryz.ntmps87 rfl ?_
  refine go 99 rfl ?_
  refine Safe.br rfl (fun c => ?_) (fun c => ?_)
  · refine go 99 rfl ?_
    exact ⟨.inr rfl, trivial, .done (nIeq (by simp [cS, c])) rfl⟩
  · refine go 99 rfl ?_
    refine Safe.br rfl (fun d => ?_) (fun d => ?_)
    · refine go 99 rfl ?_
      exact ⟨.inr rfl, trivial, .done (nIeq (by rw [le_nl, Bool.not_not] at d; simp [cS, c, d])) rfl⟩
    · refine go 99 rfl ?_
      exact ⟨.inr rfl, trivial, .done (nIeq (by rw [le_nl, Bool.not_not] at d; simp [cS, c, d])) rfl⟩
theorem r_begin (a : Int) : PTri Tryz.prog 59 [nI a] (nI (IntKind.i64.wrap (a.tdiv 1024))) := by
  refine PTri.of_safe Tryz.func59 rfl Tryz.results59 Tryz.ntmps59 rfl ?_
  refine go 99 rfl ?_
  exact ⟨.inr rfl, trivial, .done (rfl) rfl⟩
end Go.Proofs.YtonbppofjlpklaaGreatDoor
end

section
namespace Go.Proofs.YtonbppofjlpklaaGreatDoor
open Go.Fw
variable [Gl]
set_option maxRecDepth 20000
set_option maxHeartbeats 4000000
theorem r_cmpLs (l r : List Lb) (hl : l.length ≤ big) (hr : r.length ≤ big) : PTri Tryz.prog 63 [slV lbC l, slV lbC r] (nI (cLs l r)) := by
  simp only [big] at hl hr
  refine PTri.of_safe Tryz.func63 rfl Tryz.results63 Tryz.ntmps63 rfl ?_
  refine go 99 rfl ?_
  refine Safe.loop (α := Nat) (fun i => [(0, slV lbC l), (1, slV lbC r), (5, nI i)]) (fun i => []) 0 (fun i => l.length - i) (fun i => i ≤ l.length ∧ i ≤ r.length ∧ cLs l r = cLs (l.drop i) (r.drop i)) 0 (sgI 0) ⟨⟨fit rfl, fit rfl, fit rfl, trivial⟩, ⟨_, .refl _, List.nil_sublist _⟩, rfl⟩ ⟨Nat.zero_le _, Nat.zero_le _, rfl⟩ ?_
  rintro i ⟨hi, hj, ha⟩
  refine go 99 rfl ?_
  refine Safe.gs rfl (fun c => ?_) (fun c => ?_)
  · have hi : i < l.length := ltc c
    refine go 99 rfl ?_
    refine Safe.br rfl (fun d => ?_) (fun d => ?_)
    · have hj : i < r.length := ltc d
      rw [cLs_drop hi hj, cL_eq] at ha
      refine go 99 rfl ?_
      refine Safe.drawP mixed [0, 1, 2, 3, 4, 5, 6, 7, 8, 9, 10, 11] [(true, true), (true, true), (true, true), (true, true), (true, true), (true, true), (true, true), (true, true), (true, true), (true, true), (true, true), (true, true)] (by kernel_rfl) ?_
      refine go 99 rfl ?_
      refine Safe.idxF hi rfl rfl rfl ?_
      refine go 99 rfl ?_
      refine Safe.ldF (ldL0 hi) rfl rfl rfl ?_
      refine go 99 rfl ?_
      refine Safe.idxF hj rfl rfl rfl ?_
      refine go 99 rfl ?_
      refine Safe.ldF (ldL0 hj) rfl rfl rfl ?_
      refine go 99 rfl ?_
      refine Safe.call (r_text l[i].name r[i].name) rfl rfl rfl ?_
      refine go 99 rfl ?_
      refine Safe.br rfl (fun e => ?_) (fun e => ?_)
      · have e1 : cS l[i].name r[i].name ≠ 0 := by simpa using e
        rw [if_neg e1, if_neg e1] at ha
        refine go 99 rfl ?_
        exact ⟨.inr rfl, trivial, .done (nIeq ha.symm) rfl⟩
      · have e1 : cS l[i].name r[i].name = 0 := by simpa using e
        rw [if_pos e1] at ha
        refine go 99 rfl ?_
        refine Safe.drawP mixed [0, 1, 2, 3, 4, 5, 6, 7, 8, 9, 10, 11] [(true, true), (true, true), (true, true), (true, true), (true, true), (true, true), (true, true), (true, true), (true, true), (true, true), (true, true), (true, true)] (by kernel_rfl) ?_
        refine go 99 rfl ?_
        refine Safe.idxF hi rfl rfl rfl ?_
        refine go 99 rfl ?_
        refine Safe.ldF (ldL1 hi) rfl rfl rfl ?_
        refine go 99 rfl ?_
        refine Safe.idxF hj rfl rfl rfl ?_
        refine go 99 rfl ?_
        refine Safe.ldF (ldL1 hj) rfl rfl rfl ?_
        refine go 99 rfl ?_
        refine Safe.call (r_text l[i].value r[i].value) rfl rfl rfl ?_
        refine go 99 rfl ?_
        refine Safe.br rfl (fun f => ?_) (fun f => ?_)
        · have f1 : cS l[i].value r[i].value ≠ 0 := by simpa using f
          rw [if_neg f1] at ha
          refine go 99 rfl ?_
          exact ⟨.inr rfl, trivial, .done (nIeq ha.symm) rfl⟩
        · have f1 : cS l[i].value r[i].value = 0 := by simpa using f
          rw [if_pos f1] at ha
          refine go 99 rfl ?_
          exact ⟨sgI 0, i + 1, ⟨hi, hj, ha⟩, mlt hi, rfl, rfl, ⟨fit rfl, fit rfl, fit (isucc (by omega)), trivial⟩, ⟨_, .refl _, List.nil_sublist _⟩, rfl⟩
    · have hj2 : i = r.length := Nat.le_antisymm hj (gec d)
      subst hj2
      rw [cLs_gt hi (Nat.le_refl _)] at ha
      refine go 99 rfl ?_
      refine Safe.br rfl (fun e => ?_) (fun e => ?_)
      · exfalso; simp at e; omega
      · refine go 99 rfl ?_
        refine Safe.br rfl (fun f => ?_) (fun f => ?_)
        · refine go 99 rfl ?_
          exact ⟨.inr rfl, trivial, .done (nIeq ha.symm) rfl⟩
        · exfalso; simp at f; omega
  · have hi2 : i = l.length := Nat.le_antisymm hi (gec c)
    subst hi2
    refine go 99 rfl ?_
    refine Safe.br rfl (fun d => ?_) (fun d => ?_)
    · have d1 : l.length < r.length := by simpa using d
      refine go 99 rfl ?_
      exact ⟨.inr rfl, trivial, .done (nIeq (by rw [ha, cLs_lt (Nat.le_refl _) d1])) rfl⟩
    · have d1 : r.length ≤ l.length := by simpa using d
      refine go 99 rfl ?_
      refine Safe.br rfl (fun e => ?_) (fun e => ?_)
      · exfalso; simp at e; omega
      · refine go 99 rfl ?_
        exact ⟨.inr rfl, trivial, .done (nIeq (by rw [ha, cLs_eq (Nat.le_refl _) d1])) rfl⟩
def sgL : List Int → List Int → Int
  | a :: l, b :: r => if cI a b = 0 then sgL l r else cI a b
  | _, _ => 0
theorem sgL_drop {l r : List Int} {i : Nat} (hi : i < l.length) (hj : i < r.length) : sgL (l.drop i) (r.drop i) = if cI l[i] r[i] = 0 then sgL (l.drop (i + 1)) (r.drop (i + 1)) else cI l[i] r[i] := by
  rw [List.drop_eq_getElem_cons hi, List.drop_eq_getElem_cons hj]; rfl
def xI (a : Xm) : List Int := [a.time, a.value, a.trace, a.span]
theorem cX_ref (a b : Xm) : cX a b = if cLs a.labels b.labels = 0 then sgL (xI a) (xI b) else cLs a.labels b.labels := by
  simp only [cX, orI, xI, sgL]
theorem r_cmpX (a b : Xm) (ha : okX a) (hb : okX b) : PTri Tryz.prog 24 [xmV a, xmV b] (nI (cX a b)) := by
  have hE := cX_ref a b
  refine PTri.of_safe Tryz.func24 rfl Tryz.results24 Tryz.ntmps24 rfl ?_
  refine go 99 rfl ?_
  refine Safe.call (r_cmpLs a.labels b.labels ha.1 hb.1) rfl rfl rfl ?_
  refine go 99 rfl ?_
  refine Safe.br rfl (fun c => ?_) (fun c => ?_)
  · have c1 : cLs a.labels b.labels ≠ 0 := by simpa using c
    refine go 99 rfl ?_
    exact ⟨.inr rfl, trivial, .done (nIeq (by rw [hE, if_neg c1])) rfl⟩
  · have c1 : cLs a.labels b.labels = 0 := by simpa using c
    rw [if_pos c1] at hE
    refine go 99 rfl ?_
    refine Safe.frzC 0 rfl rfl ?_
    refine Safe.frzC 1 rfl rfl ?_
    refine Safe.drawP mixed [0, 1, 2, 3, 4, 5, 6, 7, 8, 9, 10, 11, 12, 13, 14, 15, 16, 17, 18, 19] [(true, true), (true, true), (true, true), (true, true), (true, true), (true, true), (true, true), (true, true), (true, true), (true, true), (true, true), (true, true), (true, true), (true, true), (true, true), (true, true), (true, true), (true, true), (true, true), (true, true)] (by kernel_rfl) ?_
    refine go 99 rfl ?_
    refine Safe.ldF (rfl) rfl rfl rfl ?_
    refine go 99 rfl ?_
    refine Safe.ldF (rfl) rfl rfl rfl ?_
    refine go 99 rfl ?_
    refine Safe.ldF (rfl) rfl rfl rfl ?_
    refine go 99 rfl ?_
    refine Safe.ldF (rfl) rfl rfl rfl ?_
    refine go 99 rfl ?_
    refine Safe.bsF rfl rfl ?_
    refine go 99 rfl ?_
    refine Safe.ldF (rfl) rfl rfl rfl ?_
    refine go 99 rfl ?_
    refine Safe.ldF (rfl) rfl rfl rfl ?_
    refine go 99 rfl ?_
    refine Safe.ldF (rfl) rfl rfl rfl ?_
    refine go 99 rfl ?_
    refine Safe.ldF (rfl) rfl rfl rfl ?_
    refine go 99 rfl ?_
    refine Safe.bsF rfl rfl ?_
    refine go 99 rfl ?_
    refine Safe.loop (α := Nat) (fun i => [(6, slV inC (xI a)), (7, slV inC (xI b)), (8, nI i)]) (fun i => []) 2 (fun i => 4 - i) (fun i => i ≤ 4 ∧ cX a b = sgL ((xI a).drop i) ((xI b).drop i)) 0 (sgI 2) ⟨⟨fit rfl, fit rfl, fit rfl, trivial⟩, ⟨_, .refl _, List.nil_sublist _⟩, rfl⟩ ⟨Nat.zero_le _, hE⟩ ?_
    rintro i ⟨hi, ha⟩
    refine go 99 rfl ?_
    refine Safe.br rfl (fun d => ?_) (fun d => ?_)
    · have hi : i < (xI a).length := ltc d
      have hj : i < (xI b).length := hi
      rw [sgL_drop hi hj] at ha
      refine go 99 rfl ?_
      refine Safe.drawP mixed [0, 1, 2, 3, 4, 5, 6, 7, 8, 9] [(true, true), (true, true), (true, true), (true, true), (true, true), (true, true), (true, true), (true, true), (true, true), (true, true)] (by kernel_rfl) ?_
      refine go 99 rfl ?_
      refine Safe.idxF hi rfl rfl rfl ?_
      refine go 99 rfl ?_
      refine Safe.ldF (ldI hi) rfl rfl rfl ?_
      refine go 99 rfl ?_
      refine Safe.idxF hj rfl rfl rfl ?_
      refine go 99 rfl ?_
      refine Safe.ldF (ldI hj) rfl rfl rfl ?_
      refine go 99 rfl ?_
      refine Safe.call (r_sign (xI a)[i] (xI b)[i]) rfl rfl rfl ?_
      refine go 99 rfl ?_
      refine Safe.br rfl (fun e => ?_) (fun e => ?_)
      · have e1 : cI (xI a)[i] (xI b)[i] ≠ 0 := by simpa using e
        refine go 99 rfl ?_
        exact ⟨.inr rfl, trivial, .done (nIeq (ha.trans (if_neg e1)).symm) rfl⟩
      · have e1 : cI (xI a)[i] (xI b)[i] = 0 := by simpa using e
        refine go 99 rfl ?_
        exact ⟨sgI 2, i + 1, ⟨hi, ha.trans (if_pos e1)⟩, mlt hi, rfl, rfl, ⟨fit rfl, fit rfl, fit (isucc (by simp [xI] at hi; omega)), trivial⟩, ⟨_, .refl _, List.nil_sublist _⟩, rfl⟩
    · have hi2 : 4 ≤ i := gec d
      rw [List.drop_of_length_le (show (xI a).length ≤ i from hi2)] at ha
      refine go 99 rfl ?_
      exact ⟨.inr rfl, trivial, .done (nIeq (by rw [ha]; rfl)) rfl⟩
theorem r_cmpXX (a b : Xm) (ha : okX a) (hb : okX b) : PTri Tryz.prog 11 [xmV a, xmV b] (nI (cX a b)) := by
  refine PTri.of_safe Tryz.func11 rfl Tryz.results11 Tryz.ntmps11 rfl ?_
  refine go 99 rfl ?_
  refine Safe.call (r_cmpX a b ha hb) rfl rfl rfl ?_
  refine go 99 rfl ?_
  exact ⟨.inr rfl, trivial, .done (rfl) rfl⟩
end Go.Proofs.YtonbppofjlpklaaGreatDoor
end

section
namespace Go.Proofs.YtonbppofjlpklaaGreatDoor
open Go.Fw
variable [Gl]
set_option maxRecDepth 20000
set_option maxHeartbeats 4000000
def lettI (z : Int) : Bool := (decide (97 ≤ z) && decide (z ≤ 122)) || (decide (65 ≤ z) && decide (z ≤ 90)) || (decide (48 ≤ z) && decide (z ≤ 57)) || decide (z = 95)
theorem l_nameByte (z : Int) : PTri Tryz.prog 130 [.int .u8 z] (.bool (lettI z)) := by
  refine PTri.of_safe Tryz.func130 rfl Tryz.results130 Tryz.ntmps130 rfl ?_
  refine go 99 rfl ?_
  repeat' (first | (refine Safe.gs rfl (fun a => ?_) (fun a => ?_) <;> refine go 99 rfl ?_) | (refine Safe.br rfl (fun a => ?_) (fun a => ?_) <;> refine go 99 rfl ?_))
  all_goals exact ⟨.inr rfl, trivial, .done (bIeq (by first | (simp_all [lettI]; done) | (simp_all [lettI]; omega) | (simp_all [lettI]; intros; omega) | (rw [Bool.eq_iff_iff]; simp_all [lettI]; omega))) rfl⟩
theorem r_letter (z : Int) : PTri Tryz.prog 109 [.int .u8 z] (.bool (lettI z)) := by
  refine PTri.of_safe Tryz.func109 rfl Tryz.results109 Tryz.ntmps109 rfl ?_
  refine go 99 rfl ?_
  repeat' (first | (refine Safe.gs rfl (fun a => ?_) (fun a => ?_) <;> refine go 99 rfl ?_) | (refine Safe.br rfl (fun a => ?_) (fun a => ?_) <;> refine go 99 rfl ?_))
  all_goals exact ⟨.inr rfl, trivial, .done (bIeq (by first | (simp_all [lettI]; done) | (simp_all [lettI]; omega) | (simp_all [lettI]; intros; omega) | (rw [Bool.eq_iff_iff]; simp_all [lettI]; omega))) rfl⟩
def lettB (c : UInt8) : Bool := lettI (c.toNat : Nat)
def dg (s : By) : Bool := decide (48 ≤ ((s.headD 0).toNat : Int)) && decide (((s.headD 0).toNat : Int) ≤ 57)
theorem hd0 {s : By} (h : 0 < s.length) : s.headD 0 = s[0] := by cases s with | nil => cases h | cons a r => rfl
def nmB (s : By) : Bool := decide (1 ≤ s.length) && decide (s.length ≤ 60) && !dg s && s.all lettB
theorem all_drop {s : By} {i : Nat} (hi : i < s.length) : (s.drop i).all lettB = (lettB s[i] && (s.drop (i + 1)).all lettB) := by
  rw [List.drop_eq_getElem_cons hi, List.all_cons]
theorem l_isName (s : By) (hs : s.length ≤ big) : PTri Tryz.prog 99 [.str s] (.bool (nmB s)) := by
  simp only [big] at hs
  have hE := nmB.eq_1 s
  refine PTri.of_safe Tryz.func99 rfl Tryz.results99 Tryz.ntmps99 rfl ?_
  refine go 99 rfl ?_
  refine Safe.gs rfl (fun c => ?_) (fun c => ?_)
  · refine go 99 rfl ?_
    exact ⟨.inr rfl, trivial, .done (bIeq (by rw [hE, decide_eq_false (by simp at c; omega)]; rfl)) rfl⟩
  · have h0 : 0 < s.length := by simp at c; omega
    rw [decide_eq_true (by omega : 1 ≤ s.length)] at hE
    refine go 99 rfl ?_
    refine Safe.gs rfl (fun d => ?_) (fun d => ?_)
    · refine go 99 rfl ?_
      exact ⟨.inr rfl, trivial, .done (bIeq (by rw [hE]; simp at d; simp; omega)) rfl⟩
    · have h1 : s.length ≤ 60 := by simp at d; omega
      rw [decide_eq_true h1] at hE
      refine go 99 rfl ?_
      refine Safe.idxS h0 rfl rfl rfl ?_
      refine go 99 rfl ?_
      refine Safe.cut1 (α := Unit) (fun _ => [(0, .str s)]) (fun _ => []) 0 (fun _ => dg s = false) ?_ ?_
      · have hd := hd0 h0
        refine Safe.gs rfl (fun e => ?_) (fun e => ?_)
        · refine go 99 rfl ?_
          refine Safe.idxS h0 rfl rfl rfl ?_
          refine go 99 rfl ?_
          refine Safe.br rfl (fun f => ?_) (fun f => ?_)
          · refine go 99 rfl ?_
            exact ⟨.inr rfl, trivial, .done (bIeq (by rw [hE]; simp only [dg, hd]; simp at e f; simp; omega)) rfl⟩
          · refine go 99 rfl ?_
            exact ⟨sgI 0, (), by simp only [dg, hd]; simp at e f; simp; omega, rfl, rfl, ⟨fit rfl, trivial⟩, ⟨_, .refl _, List.nil_sublist _⟩, rfl⟩
        · refine go 99 rfl ?_
          exact ⟨sgI 0, (), by simp only [dg, hd]; simp at e; simp; omega, rfl, rfl, ⟨fit rfl, trivial⟩, ⟨_, .refl _, List.nil_sublist _⟩, rfl⟩
      · rintro ⟨⟩ hn
        rw [hn] at hE
        simp only [Bool.and_self, Bool.not_false, Bool.true_and] at hE
        refine go 99 rfl ?_
        refine Safe.loop (α := Nat) (fun i => [(0, .str s), (3, nI i)]) (fun i => []) 0 (fun i => s.length - i) (fun i => i ≤ s.length ∧ nmB s = (s.drop i).all lettB) 0 (sgI 0) ⟨⟨fit rfl, fit rfl, trivial⟩, ⟨_, .refl _, List.nil_sublist _⟩, rfl⟩ ⟨Nat.zero_le _, hE⟩ ?_
        rintro i ⟨hi, ha⟩
        refine go 99 rfl ?_
        refine Safe.br rfl (fun f => ?_) (fun f => ?_)
        · have hi : i < s.length := ltc f
          rw [all_drop hi] at ha
          refine go 99 rfl ?_
          refine Safe.idxS hi rfl rfl rfl ?_
          refine go 99 rfl ?_
          refine Safe.call (l_nameByte (s[i].toNat : Nat)) rfl rfl rfl ?_
          refine go 99 rfl ?_
          refine Safe.br rfl (fun g => ?_) (fun g => ?_)
          · refine go 99 rfl ?_
            exact ⟨.inr rfl, trivial, .done (bIeq (by rw [ha]; simp at g; simp [lettB, g])) rfl⟩
          · refine go 99 rfl ?_
            exact ⟨sgI 0, i + 1, ⟨hi, by rw [ha]; simp at g; simp [lettB, g]⟩, mlt hi, rfl, rfl, ⟨fit rfl, fit (isucc (by omega)), trivial⟩, ⟨_, .refl _, List.nil_sublist _⟩, rfl⟩
        · have hi2 : i = s.length := Nat.le_antisymm hi (gec f)
          subst hi2
          rw [List.drop_of_length_le (Nat.le_refl _)] at ha
          refine go 99 rfl ?_
          exact ⟨.inr rfl, trivial, .done (bIeq (by rw [ha]; rfl)) rfl⟩
end Go.Proofs.YtonbppofjlpklaaGreatDoor
end

section
namespace Go.Proofs.YtonbppofjlpklaaGreatDoor
open Go.Fw
variable [Gl]
set_option maxRecDepth 20000
set_option maxHeartbeats 4000000
theorem r_name (s : By) (hs : s.length ≤ big) : PTri Tryz.prog 85 [.str s] (.bool (nmB s)) := by
  simp only [big] at hs
  have hE := nmB.eq_1 s
  refine PTri.of_safe Tryz.func85 rfl Tryz.results85 Tryz.ntmps85 rfl ?_
  refine go 99 rfl ?_
  refine Safe.loop (α := Nat) (fun i => [(0, .str s), (3, nI i)]) (fun i => []) 0 (fun i => s.length - i) (fun i => i ≤ s.length ∧ s.all lettB = (s.drop i).all lettB) 0 (sgI 0) ⟨⟨fit rfl, fit rfl, trivial⟩, ⟨_, .refl _, List.nil_sublist _⟩, rfl⟩ ⟨Nat.zero_le _, rfl⟩ ?_
  rintro i ⟨hi, ha⟩
  refine go 99 rfl ?_
  refine Safe.br rfl (fun f => ?_) (fun f => ?_)
  · have hi : i < s.length := ltc f
    rw [all_drop hi] at ha
    refine go 99 rfl ?_
    refine Safe.idxS hi rfl rfl rfl ?_
    refine go 99 rfl ?_
    refine Safe.call (r_letter (s[i].toNat : Nat)) rfl rfl rfl ?_
    refine go 99 rfl ?_
    refine Safe.br rfl (fun g => ?_) (fun g => ?_)
    · refine go 99 rfl ?_
      exact ⟨.inr rfl, trivial, .done (bIeq (by rw [hE, ha]; simp at g; simp [lettB, g])) rfl⟩
    · refine go 99 rfl ?_
      exact ⟨sgI 0, i + 1, ⟨hi, by rw [ha]; simp at g; simp [lettB, g]⟩, mlt hi, rfl, rfl, ⟨fit rfl, fit (isucc (by omega)), trivial⟩, ⟨_, .refl _, List.nil_sublist _⟩, rfl⟩
  · have hi2 : i = s.length := Nat.le_antisymm hi (gec f)
    subst hi2
    rw [List.drop_of_length_le (Nat.le_refl _), List.all_nil] at ha
    rw [ha] at hE
    refine go 99 rfl ?_
    refine Safe.gs rfl (fun c => ?_) (fun c => ?_)
    · have h0 : 0 < s.length := ltc c
      rw [decide_eq_true (by omega : 1 ≤ s.length)] at hE
      have hd := hd0 h0
      refine go 99 rfl ?_
      refine Safe.gs rfl (fun d => ?_) (fun d => ?_)
      · have h1 : s.length ≤ 60 := by simp at d; omega
        rw [decide_eq_true h1] at hE
        refine go 99 rfl ?_
        refine Safe.idxS h0 rfl rfl rfl ?_
        refine go 99 rfl ?_
        refine Safe.gs rfl (fun e => ?_) (fun e => ?_)
        · refine go 99 rfl ?_
          exact ⟨.inr rfl, trivial, .done (bIeq (by rw [hE]; simp only [dg, hd]; simp at e; simp; omega)) rfl⟩
        · refine go 99 rfl ?_
          refine Safe.idxS h0 rfl rfl rfl ?_
          refine go 99 rfl ?_
          exact ⟨.inr rfl, trivial, .done (bIeq (by rw [hE]; simp only [dg, hd]; simp at e; rw [Bool.eq_iff_iff]; simp; omega)) rfl⟩
      · have h1 : ¬ s.length ≤ 60 := by simp at d; omega
        rw [decide_eq_false h1] at hE
        refine go 99 rfl ?_
        exact ⟨.inr rfl, trivial, .done (bIeq (by rw [hE]; rfl)) rfl⟩
    · have h0 : ¬ 1 ≤ s.length := by have := gec (n := 0) (i := 0) (by simpa using c); simp at c; subst c; simp
      rw [decide_eq_false h0] at hE
      refine go 99 rfl ?_
      exact ⟨.inr rfl, trivial, .done (bIeq (by rw [hE]; rfl)) rfl⟩
end Go.Proofs.YtonbppofjlpklaaGreatDoor
end

section
namespace Go.Proofs.YtonbppofjlpklaaGreatDoor
open Go.Fw
variable [Gl]
set_option maxRecDepth 20000
set_option maxHeartbeats 4000000
theorem isub {i : Nat} (h : 0 < i) (h2 : i < 4611686018427387904) : IntKind.i64.wrap ((i : Int) - 1) = ((i - 1 : Nat) : Int) := by rw [wrap64_fit (by omega) (by omega)]; omega
def ordP (p : Option Lb) (x : Lb) : Int := match p with
  | some q => if Op.bytesLess q.name x.name = true then 0 else 9
  | none => 0
def chk1 (p : Option Lb) (x : Lb) : Int := if nmB x.name = false then 5 else if x.value = [] then 1 else if 200 < x.value.length then 4 else ordP p x
def chkF : Option Lb → List Lb → Int
  | _, [] => 0
  | p, x :: r => if chk1 p x = 0 then chkF (some x) r else chk1 p x
def chkLs (l : List Lb) : Int := if 16 < l.length then 4 else chkF none l
def pv (l : List Lb) : Nat → Option Lb
  | 0 => none
  | i + 1 => l[i]?
theorem pv_pos {l : List Lb} {i : Nat} (h : 0 < i) (hi : i - 1 < l.length) : pv l i = some l[i - 1] := by
  cases i with
  | zero => cases h
  | succ k => simp [pv]
theorem chkF_drop {l : List Lb} {i : Nat} (hi : i < l.length) : chkF (pv l i) (l.drop i) = if chk1 (pv l i) l[i] = 0 then chkF (pv l (i + 1)) (l.drop (i + 1)) else chk1 (pv l i) l[i] := by
  rw [List.drop_eq_getElem_cons hi, chkF]
  have : pv l (i + 1) = some l[i] := List.getElem?_eq_getElem hi
  rw [this]
theorem l_check (l : List Lb) (ho : okLs l) : PTri Tryz.prog 73 [slV lbC l] (nI (chkLs l)) := by
  have hl := ho.1
  simp only [big] at hl
  have hE := chkLs.eq_1 l
  refine PTri.of_safe Tryz.func73 rfl Tryz.results73 Tryz.ntmps73 rfl ?_
  refine go 99 rfl ?_
  refine Safe.br rfl (fun c => ?_) (fun c => ?_)
  · have c1 : 16 < l.length := ltc (i := 16) c
    refine go 99 rfl ?_
    exact ⟨.inr rfl, trivial, .done (nIeq (by rw [hE, if_pos c1])) rfl⟩
  · have c1 : ¬ 16 < l.length := by simp at c; omega
    rw [if_neg c1] at hE
    refine go 99 rfl ?_
    refine Safe.loop (α := Nat) (fun i => [(0, slV lbC l), (8, slV lbC l), (9, nI l.length), (10, nI i)]) (fun i => []) 0 (fun i => l.length - i) (fun i => i ≤ l.length ∧ chkLs l = chkF (pv l i) (l.drop i)) 0 (sgI 0) ⟨⟨fit rfl, fit rfl, fit rfl, fit rfl, trivial⟩, ⟨_, .refl _, List.nil_sublist _⟩, rfl⟩ ⟨Nat.zero_le _, hE⟩ ?_
    rintro i ⟨hi, ha⟩
    refine go 99 rfl ?_
    refine Safe.br rfl (fun d => ?_) (fun d => ?_)
    · have hi : i < l.length := ltc d
      have hx := ho.2 l[i] (List.getElem_mem hi)
      rw [chkF_drop hi] at ha
      refine go 99 rfl ?_
      refine Safe.idxF hi rfl rfl rfl ?_
      refine go 99 rfl ?_
      refine Safe.ldF (ldL hi) rfl rfl rfl ?_
      refine go 99 rfl ?_
      refine Safe.call (l_isName l[i].name hx.1) rfl rfl rfl ?_
      refine go 99 rfl ?_
      refine Safe.br rfl (fun e => ?_) (fun e => ?_)
      · have e1 : chk1 (pv l i) l[i] = 5 := by simp at e; simp [chk1, e]
        refine go 99 rfl ?_
        exact ⟨.inr rfl, trivial, .done (nIeq (by rw [ha, e1]; rfl)) rfl⟩
      · have e0 : ¬ nmB l[i].name = false := by simpa using e
        have hc := chk1.eq_1 (pv l i) l[i]
        rw [if_neg e0] at hc
        refine go 99 rfl ?_
        refine Safe.br rfl (fun e => ?_) (fun e => ?_)
        · have e1 : l[i].value = [] := by simpa using e
          rw [if_pos e1] at hc
          refine go 99 rfl ?_
          exact ⟨.inr rfl, trivial, .done (nIeq (by rw [ha, hc]; rfl)) rfl⟩
        · have e1 : ¬ l[i].value = [] := by simpa using e
          rw [if_neg e1] at hc
          refine go 99 rfl ?_
          refine Safe.br rfl (fun e => ?_) (fun e => ?_)
          · have e2 : 200 < l[i].value.length := ltc (i := 200) e
            rw [if_pos e2] at hc
            refine go 99 rfl ?_
            exact ⟨.inr rfl, trivial, .done (nIeq (by rw [ha, hc]; rfl)) rfl⟩
          · have e2 : ¬ 200 < l[i].value.length := by simp at e; omega
            rw [if_neg e2] at hc
            refine go 99 rfl ?_
            refine Safe.frzC 0 rfl rfl ?_
            refine Safe.drawP mixed [0, 1, 2, 3, 4, 5, 6, 7, 8, 9, 10, 11, 12, 13] [(true, true), (true, true), (true, true), (true, true), (true, true), (true, true), (true, true), (true, true), (true, true), (true, true), (true, true), (true, true), (true, true), (true, true)] (by kernel_rfl) ?_
            refine go 99 rfl ?_
            refine Safe.gs rfl (fun f => ?_) (fun f => ?_)
            · have h0 : 0 < i := ltc f
              have h1 : i - 1 < l.length := by omega
              rw [pv_pos h0 h1] at hc ha
              refine go 99 rfl ?_
              refine Safe.ldF (rfl) rfl rfl rfl ?_
              refine go 99 rfl ?_
              refine Safe.idxF (i := i - 1) h1 (isub h0 (by omega)) rfl rfl ?_
              refine go 99 rfl ?_
              refine Safe.ldF (ldL0 h1) rfl rfl rfl ?_
              refine go 99 rfl ?_
              refine Safe.br rfl (fun g => ?_) (fun g => ?_)
              · have g1 : ¬ Op.bytesLess l[i - 1].name l[i].name = true := by rw [le_nl] at g; simpa using g
                have hc2 : chk1 (some l[i - 1]) l[i] = 9 := by rw [hc]; simp only [ordP]; rw [if_neg g1]
                refine go 99 rfl ?_
                exact ⟨.inr rfl, trivial, .done (nIeq (by rw [ha, hc2]; rfl)) rfl⟩
              · have g1 : Op.bytesLess l[i - 1].name l[i].name = true := by rw [le_nl] at g; simpa using g
                have hc2 : chk1 (some l[i - 1]) l[i] = 0 := by rw [hc]; simp only [ordP]; rw [if_pos g1]
                refine go 99 rfl ?_
                exact ⟨sgI 0, i + 1, ⟨hi, by rw [ha, if_pos hc2]⟩, mlt hi, rfl, rfl, ⟨fit rfl, fit rfl, fit rfl, fit (isucc (by omega)), trivial⟩, ⟨_, .refl _, List.nil_sublist _⟩, rfl⟩
            · have h0 : i = 0 := by simp at f; exact f
              subst h0
              have hc2 : chk1 (pv l 0) l[0] = 0 := by rw [hc]; rfl
              refine go 99 rfl ?_
              exact ⟨sgI 0, 1, ⟨hi, by rw [ha, if_pos hc2]⟩, mlt hi, rfl, rfl, ⟨fit rfl, fit rfl, fit rfl, fit (isucc (by omega)), trivial⟩, ⟨_, .refl _, List.nil_sublist _⟩, rfl⟩
    · have hi2 : i = l.length := Nat.le_antisymm hi (gec d)
      subst hi2
      rw [List.drop_of_length_le (Nat.le_refl _)] at ha
      refine go 99 rfl ?_
      exact ⟨.inr rfl, trivial, .done (nIeq (by rw [ha]; cases pv l l.length <;> rfl)) rfl⟩
end Go.Proofs.YtonbppofjlpklaaGreatDoor
end

section
namespace Go.Proofs.YtonbppofjlpklaaGreatDoor
open Go.Fw
variable [Gl]
set_option maxRecDepth 20000
set_option maxHeartbeats 4000000
theorem r_check (l : List Lb) (ho : okLs l) : PTri Tryz.prog 60 [slV lbC l] (nI (chkLs l)) := by
  have hl := ho.1
  simp only [big] at hl
  have hE := chkLs.eq_1 l
  refine PTri.of_safe Tryz.func60 rfl Tryz.results60 Tryz.ntmps60 rfl ?_
  refine go 99 rfl ?_
  refine Safe.br rfl (fun c => ?_) (fun c => ?_)
  · have c1 : 16 < l.length := ltc (i := 16) c
    refine go 99 rfl ?_
    exact ⟨.inr rfl, trivial, .done (nIeq (by rw [hE, if_pos c1])) rfl⟩
  · have c1 : ¬ 16 < l.length := by simp at c; omega
    rw [if_neg c1] at hE
    refine go 99 rfl ?_
    refine Safe.loop (α := Nat) (fun i => [(0, slV lbC l), (3, nI i)]) (fun i => []) 0 (fun i => l.length - i) (fun i => i ≤ l.length ∧ chkLs l = chkF (pv l i) (l.drop i)) 0 (sgI 0) ⟨⟨fit rfl, fit rfl, trivial⟩, ⟨_, .refl _, List.nil_sublist _⟩, rfl⟩ ⟨Nat.zero_le _, hE⟩ ?_
    rintro i ⟨hi, ha⟩
    refine go 99 rfl ?_
    refine Safe.br rfl (fun d => ?_) (fun d => ?_)
    · have hi : i < l.length := ltc d
      have hx := ho.2 l[i] (List.getElem_mem hi)
      rw [chkF_drop hi] at ha
      refine go 99 rfl ?_
      refine Safe.idxF hi rfl rfl rfl ?_
      refine go 99 rfl ?_
      refine Safe.ldF (ldL0 hi) rfl rfl rfl ?_
      refine go 99 rfl ?_
      refine Safe.call (r_name l[i].name hx.1) rfl rfl rfl ?_
      refine go 99 rfl ?_
      refine Safe.br rfl (fun e => ?_) (fun e => ?_)
      · have e1 : chk1 (pv l i) l[i] = 5 := by simp at e; simp [chk1, e]
        refine go 99 rfl ?_
        exact ⟨.inr rfl, trivial, .done (nIeq (by rw [ha, e1]; rfl)) rfl⟩
      · have e0 : ¬ nmB l[i].name = false := by simpa using e
        have hc := chk1.eq_1 (pv l i) l[i]
        rw [if_neg e0] at hc
        refine go 99 rfl ?_
        refine Safe.idxF hi rfl rfl rfl ?_
        refine go 99 rfl ?_
        refine Safe.ldF (ldL1 hi) rfl rfl rfl ?_
        refine go 99 rfl ?_
        refine Safe.br rfl (fun e => ?_) (fun e => ?_)
        · have e1 : l[i].value = [] := by simpa using e
          rw [if_pos e1] at hc
          refine go 99 rfl ?_
          exact ⟨.inr rfl, trivial, .done (nIeq (by rw [ha, hc]; rfl)) rfl⟩
        · have e1 : ¬ l[i].value = [] := by simpa using e
          rw [if_neg e1] at hc
          refine go 99 rfl ?_
          refine Safe.idxF hi rfl rfl rfl ?_
          refine go 99 rfl ?_
          refine Safe.ldF (ldL1 hi) rfl rfl rfl ?_
          refine go 99 rfl ?_
          refine Safe.br rfl (fun e => ?_) (fun e => ?_)
          · have e2 : 200 < l[i].value.length := ltc (i := 200) e
            rw [if_pos e2] at hc
            refine go 99 rfl ?_
            exact ⟨.inr rfl, trivial, .done (nIeq (by rw [ha, hc]; rfl)) rfl⟩
          · have e2 : ¬ 200 < l[i].value.length := by simp at e; omega
            rw [if_neg e2] at hc
            refine go 99 rfl ?_
            refine Safe.drawP mixed [0, 1, 2, 3, 4, 5, 6, 7, 8, 9, 10, 11, 12, 13, 14, 15] [(true, true), (true, true), (true, true), (true, true), (true, true), (true, true), (true, true), (true, true), (true, true), (true, true), (true, true), (true, true), (true, true), (true, true), (true, true), (true, true)] (by kernel_rfl) ?_
            refine go 99 rfl ?_
            refine Safe.gs rfl (fun f => ?_) (fun f => ?_)
            · have h0 : 0 < i := ltc f
              have h1 : i - 1 < l.length := by omega
              rw [pv_pos h0 h1] at hc ha
              refine go 99 rfl ?_
              refine Safe.idxF hi rfl rfl rfl ?_
              refine go 99 rfl ?_
              refine Safe.ldF (ldL0 hi) rfl rfl rfl ?_
              refine go 99 rfl ?_
              refine Safe.idxF (i := i - 1) h1 (isub h0 (by omega)) rfl rfl ?_
              refine go 99 rfl ?_
              refine Safe.ldF (ldL0 h1) rfl rfl rfl ?_
              refine go 99 rfl ?_
              refine Safe.br rfl (fun g => ?_) (fun g => ?_)
              · have g1 : ¬ Op.bytesLess l[i - 1].name l[i].name = true := by rw [le_nl] at g; simpa using g
                have hc2 : chk1 (some l[i - 1]) l[i] = 9 := by rw [hc]; simp only [ordP]; rw [if_neg g1]
                refine go 99 rfl ?_
                exact ⟨.inr rfl, trivial, .done (nIeq (by rw [ha, hc2]; rfl)) rfl⟩
              · have g1 : Op.bytesLess l[i - 1].name l[i].name = true := by rw [le_nl] at g; simpa using g
                have hc2 : chk1 (some l[i - 1]) l[i] = 0 := by rw [hc]; simp only [ordP]; rw [if_pos g1]
                refine go 99 rfl ?_
                exact ⟨sgI 0, i + 1, ⟨hi, by rw [ha, if_pos hc2]⟩, mlt hi, rfl, rfl, ⟨fit rfl, fit (isucc (by omega)), trivial⟩, ⟨_, .refl _, List.nil_sublist _⟩, rfl⟩
            · have h0 : i = 0 := by simp at f; exact f
              subst h0
              have hc2 : chk1 (pv l 0) l[0] = 0 := by rw [hc]; rfl
              refine go 99 rfl ?_
              exact ⟨sgI 0, 1, ⟨hi, by rw [ha, if_pos hc2]⟩, mlt hi, rfl, rfl, ⟨fit rfl, fit (isucc (by omega)), trivial⟩, ⟨_, .refl _, List.nil_sublist _⟩, rfl⟩
    · have hi2 : i = l.length := Nat.le_antisymm hi (gec d)
      subst hi2
      rw [List.drop_of_length_le (Nat.le_refl _)] at ha
      refine go 99 rfl ?_
      exact ⟨.inr rfl, trivial, .done (nIeq (by rw [ha]; cases pv l l.length <;> rfl)) rfl⟩
end Go.Proofs.YtonbppofjlpklaaGreatDoor
end

section
namespace Go.Proofs.YtonbppofjlpklaaGreatDoor
open Go.Fw
variable [Gl]
set_option maxRecDepth 20000
set_option maxHeartbeats 4000000
theorem bc_app (acc : By) (c : UInt8) {z : Int} (h : z = (c.toNat : Int)) : byteCells acc ++ [V.int .u8 z] = byteCells (acc ++ [c]) := by rw [h]; simp [byteCells]
theorem bc_app2 (acc : By) (c d : UInt8) {z y : Int} (h : z = (c.toNat : Int)) (h' : y = (d.toNat : Int)) : byteCells acc ++ [V.int .u8 z, V.int .u8 y] = byteCells (acc ++ [c, d]) := by rw [h, h']; simp [byteCells]
theorem bc_len (acc : By) : (byteCells acc).length = acc.length * 1 := by simp [byteCells]
theorem bc_dry (acc : By) : (byteCells acc).all dry = true := by simp [byteCells, dry]
theorem bc_all (l : By) : bytesOf (((byteCells l).drop 0).take l.length) = some l := by rw [List.drop_zero, List.take_of_length_le (by rw [bc_len]; omega), bytesOf_cells]
theorem bc_le (l : By) : 0 + l.length ≤ (byteCells l).length := by rw [bc_len]; omega
def qc (c : UInt8) : By := if c = 10 then [92, 110] else if c = 92 ∨ c = 34 then [92, c] else [c]
def qu (s : By) : By := s.flatMap qc
theorem qc_len (c : UInt8) : (qc c).length ≤ 2 := by unfold qc; split <;> (try split) <;> simp
theorem qu_len (s : By) : (qu s).length ≤ 2 * s.length := by
  unfold qu
  induction s with
  | nil => simp
  | cons a r ih => have := qc_len a; simp only [List.flatMap_cons, List.length_append, List.length_cons]; omega
theorem u8eq {c d : UInt8} (h : ((c.toNat : Int) == (d.toNat : Int)) = true) : c = d := by
  have := of_decide_eq_true (p := (c.toNat : Int) = d.toNat) (by simpa using h)
  exact UInt8.toNat_inj.1 (by omega)
theorem u8ne {c d : UInt8} (h : ((c.toNat : Int) == (d.toNat : Int)) = false) : c ≠ d := fun e => by subst e; simp at h
theorem stEq {a b : By} (h : a = b) : some (V.str a) = some (V.str b) := by rw [h]
theorem qu_step {s : By} {i : Nat} (hi : i < s.length) : qu (s.take (i + 1)) = qu (s.take i) ++ qc s[i] := by
  rw [qu, List.take_succ_eq_append_getElem hi, List.flatMap_append]; simp [qu, List.flatMap_cons]
theorem qu_bd {s : By} {i : Nat} (hl : s.length ≤ big) : (qu (s.take i)).length ≤ 8388608 := by
  simp only [big] at hl
  have h1 := qu_len (s.take i)
  have h2 : (s.take i).length ≤ s.length := by simp; omega
  omega
theorem r_quoted (s : By) (hl : s.length ≤ big) : PTri Tryz.prog 86 [.str s] (.str (qu s)) := by
  refine PTri.of_safe Tryz.func86 rfl Tryz.results86 Tryz.ntmps86 rfl ?_
  refine go 99 rfl ?_
  refine Safe.loop (α := (Nat × By × Nat)) (fun a => [(0, .str s), (3, .slice 0 0 a.2.1.length a.2.2), (4, nI a.1)]) (fun a => [(0, .cells 5 (byteCells a.2.1) (a.2.2 * 1))]) 1 (fun a => s.length - a.1) (fun a => a.1 ≤ s.length ∧ a.2.1 = qu (s.take a.1)) (0, [], 0) (sgI 1) ⟨⟨fit rfl, fit rfl, fit rfl, trivial⟩, ⟨_, .refl _, .refl _⟩, rfl⟩ ⟨Nat.zero_le _, rfl⟩ ?_
  rintro ⟨i, acc, N⟩ ⟨hi, ha⟩
  dsimp only at hi ha
  have hal := qu_bd (i := i) hl
  rw [← ha] at hal
  simp only [big] at hl
  refine go 99 rfl ?_
  refine Safe.br rfl (fun c => ?_) (fun c => ?_)
  · have hi : i < s.length := ltc c
    have hstep := qu_step hi
    rw [← ha] at hstep
    refine go 99 rfl ?_
    refine Safe.idxS hi rfl rfl rfl ?_
    refine go 99 rfl ?_
    refine Safe.br rfl (fun a => ?_) (fun a => ?_)
    · have a1 : s[i] = 10 := u8eq (d := 10) a
      refine go 99 rfl ?_
      refine Safe.appS (us := [.int .u8 92, .int .u8 110]) rfl rfl rfl rfl rfl rfl (rfl) rfl (bc_app2 _ 92 110 rfl rfl) ((by simp : acc.length + 2 = (acc ++ [92, 110]).length)) (bc_len _) (rfl) (rfl) (by first | omega | (dsimp only; omega) | (simp; omega)) (fun N' hN' => ?_)
      refine go 99 rfl ?_
      exact ⟨[(0, 2)], (i + 1, acc ++ [92, 110], N'), ⟨hi, by dsimp only; rw [hstep, a1]; rfl⟩, mlt hi, rfl, rfl, ⟨fit rfl, fit rfl, fit (isucc (by first | omega | (dsimp only; omega))), trivial⟩, ⟨_, .refl _, subK rfl (renO_dry (bc_dry _)) subN⟩, rfl⟩
    · have a1 : s[i] ≠ 10 := u8ne (d := 10) a
      refine go 99 rfl ?_
      refine Safe.idxS hi rfl rfl rfl ?_
      refine go 99 rfl ?_
      refine Safe.gs rfl (fun b => ?_) (fun b => ?_)
      · have b1 : s[i] = 92 := u8eq (d := 92) b
        refine go 99 rfl ?_
        refine Safe.appS (us := [.int .u8 92]) rfl rfl rfl rfl rfl rfl (rfl) rfl (bc_app _ 92 rfl) ((by simp : acc.length + 1 = (acc ++ [92]).length)) (bc_len _) (rfl) (rfl) (by first | omega | (dsimp only; omega) | (simp; omega)) (fun N' hN' => ?_)
        refine go 99 rfl ?_
        refine Safe.idxS hi rfl rfl rfl ?_
        refine go 99 rfl ?_
        refine Safe.appS (us := [.int .u8 s[i].toNat]) rfl rfl rfl rfl rfl rfl (rfl) rfl (bc_app _ s[i] rfl) ((by simp : (acc ++ [92]).length + 1 = (acc ++ [92] ++ [s[i]]).length)) (bc_len _) (rfl) (rfl) (by first | omega | (dsimp only; omega) | (simp; omega)) (fun N2 hN2 => ?_)
        refine go 99 rfl ?_
        exact ⟨[(0, 4)], (i + 1, acc ++ [92] ++ [s[i]], N2), ⟨hi, by dsimp only; rw [hstep, b1]; simp [qc]⟩, mlt hi, rfl, rfl, ⟨fit rfl, fit rfl, fit (isucc (by first | omega | (dsimp only; omega))), trivial⟩, ⟨_, .refl _, subK rfl (renO_dry (bc_dry _)) subN⟩, rfl⟩
      · have b1 : s[i] ≠ 92 := u8ne (d := 92) b
        refine go 99 rfl ?_
        refine Safe.idxS hi rfl rfl rfl ?_
        refine go 99 rfl ?_
        refine Safe.br rfl (fun d => ?_) (fun d => ?_)
        · have d1 : s[i] = 34 := u8eq (d := 34) d
          refine go 99 rfl ?_
          refine Safe.appS (us := [.int .u8 92]) rfl rfl rfl rfl rfl rfl (rfl) rfl (bc_app _ 92 rfl) ((by simp : acc.length + 1 = (acc ++ [92]).length)) (bc_len _) (rfl) (rfl) (by first | omega | (dsimp only; omega) | (simp; omega)) (fun N' hN' => ?_)
          refine go 99 rfl ?_
          refine Safe.idxS hi rfl rfl rfl ?_
          refine go 99 rfl ?_
          refine Safe.appS (us := [.int .u8 s[i].toNat]) rfl rfl rfl rfl rfl rfl (rfl) rfl (bc_app _ s[i] rfl) ((by simp : (acc ++ [92]).length + 1 = (acc ++ [92] ++ [s[i]]).length)) (bc_len _) (rfl) (rfl) (by first | omega | (dsimp only; omega) | (simp; omega)) (fun N2 hN2 => ?_)
          refine go 99 rfl ?_
          exact ⟨[(0, 4)], (i + 1, acc ++ [92] ++ [s[i]], N2), ⟨hi, by dsimp only; rw [hstep, d1]; simp [qc]⟩, mlt hi, rfl, rfl, ⟨fit rfl, fit rfl, fit (isucc (by first | omega | (dsimp only; omega))), trivial⟩, ⟨_, .refl _, subK rfl (renO_dry (bc_dry _)) subN⟩, rfl⟩
        · have d1 : s[i] ≠ 34 := u8ne (d := 34) d
          refine go 99 rfl ?_
          refine Safe.idxS hi rfl rfl rfl ?_
          refine go 99 rfl ?_
          refine Safe.appS (us := [.int .u8 s[i].toNat]) rfl rfl rfl rfl rfl rfl (rfl) rfl (bc_app _ s[i] rfl) ((by simp : acc.length + 1 = (acc ++ [s[i]]).length)) (bc_len _) (rfl) (rfl) (by first | omega | (dsimp only; omega) | (simp; omega)) (fun N2 hN2 => ?_)
          refine go 99 rfl ?_
          exact ⟨[(0, 2)], (i + 1, acc ++ [s[i]], N2), ⟨hi, by dsimp only; rw [hstep]; simp [qc, a1, b1, d1]⟩, mlt hi, rfl, rfl, ⟨fit rfl, fit rfl, fit (isucc (by first | omega | (dsimp only; omega))), trivial⟩, ⟨_, .refl _, subK rfl (renO_dry (bc_dry _)) subN⟩, rfl⟩
  · have hi2 : i = s.length := Nat.le_antisymm hi (gec c)
    rw [hi2, List.take_length] at ha
    refine go 99 rfl ?_
    refine Safe.cvB (s := acc) (bc_all _) (bc_le _) (bc_dry _) rfl rfl ?_
    refine go 99 rfl ?_
    exact ⟨.inr rfl, trivial, .done (stEq ha) rfl⟩
end Go.Proofs.YtonbppofjlpklaaGreatDoor
end

section
namespace Go.Proofs.YtonbppofjlpklaaGreatDoor
open Go.Fw
variable [Gl]
set_option maxRecDepth 20000
set_option maxHeartbeats 4000000
def quΦ (t : By) : V → Hp → Nat → Prop := fun v h nx => ∃ N', v = .slice 1 0 t.length N' ∧ h = [(1, .cells 5 (byteCells t) (N' * 1))] ∧ nx = 2
theorem l_quoted (pre s : By) (N : Nat) (hl : s.length ≤ big) (hp : pre.length ≤ 16777216) (hs : s ≠ []) : TriL Tryz.prog 108 [.slice 0 0 pre.length N, .str s] [(0, .cells 5 (byteCells pre) (N * 1))] 1 (quΦ (pre ++ qu s)) := by
  refine TriL.of_safeN Tryz.func108 rfl Tryz.results108 Tryz.ntmps108 rfl ?_
  refine go 99 rfl ?_
  refine Safe.loop (α := (Bool × Nat × By × Nat)) (fun a => [(0, .slice (cond a.1 1 0) 0 a.2.2.1.length a.2.2.2), (1, .str s), (5, nI a.2.1)]) (fun a => [(cond a.1 1 0, .cells 5 (byteCells a.2.2.1) (a.2.2.2 * 1))]) 2 (fun a => s.length - a.2.1) (fun a => a.2.1 ≤ s.length ∧ a.2.2.1 = pre ++ qu (s.take a.2.1) ∧ (a.1 = false → a.2.1 = 0)) (false, 0, pre, N) (sgI 1) ⟨⟨fit rfl, fit rfl, fit rfl, trivial⟩, ⟨_, .refl _, subK rfl (renO_dry (bc_dry _)) subN⟩, rfl⟩ ⟨Nat.zero_le _, by simp [qu], fun _ => rfl⟩ ?_
  rintro ⟨k, i, acc, M⟩ ⟨hi, ha, hk⟩
  dsimp only at hi ha hk
  have hal := qu_bd (i := i) hl
  have hal2 : acc.length ≤ 25165824 := by rw [ha, List.length_append]; omega
  simp only [big] at hl
  cases k with
  | false =>
    dsimp only [Bool.cond_false, Bool.cond_true] at *
    refine go 99 rfl ?_
    refine Safe.br rfl (fun c => ?_) (fun c => ?_)
    · have hi : i < s.length := ltc c
      have hstep : pre ++ qu (s.take (i + 1)) = acc ++ qc s[i] := by rw [qu_step hi, ha, List.append_assoc]
      refine go 99 rfl ?_
      refine Safe.idxS hi rfl rfl rfl ?_
      refine go 99 rfl ?_
      refine Safe.br rfl (fun a => ?_) (fun a => ?_)
      · have a1 : s[i] = 92 := u8eq (d := 92) a
        refine go 99 rfl ?_
        refine Safe.idxS hi rfl rfl rfl ?_
        refine go 99 rfl ?_
        refine Safe.appS (us := [.int .u8 92, .int .u8 s[i].toNat]) rfl rfl rfl rfl rfl rfl (rfl) rfl (bc_app2 _ 92 s[i] rfl rfl) ((by simp : acc.length + 2 = (acc ++ [92, s[i]]).length)) (bc_len _) (rfl) (rfl) (by first | omega | (dsimp only; omega) | (simp; omega)) (fun N' hN' => ?_)
        refine go 99 rfl ?_
        exact ⟨[(0, 0), (1, 3)], (true, i + 1, acc ++ [92, s[i]], N'), ⟨hi, by dsimp only; rw [hstep, a1]; rfl, fun h => (by cases h)⟩, mlt hi, rfl, rfl, ⟨fit rfl, fit rfl, fit (isucc (by first | omega | (dsimp only; omega))), trivial⟩, ⟨_, .refl _, subK rfl (renO_dry (bc_dry _)) subN⟩, rfl⟩
      · have a1 : s[i] ≠ 92 := u8ne (d := 92) a
        refine go 99 rfl ?_
        refine Safe.br rfl (fun b => ?_) (fun b => ?_)
        · have b1 : s[i] = 34 := u8eq (d := 34) b
          refine go 99 rfl ?_
          refine Safe.idxS hi rfl rfl rfl ?_
          refine go 99 rfl ?_
          refine Safe.appS (us := [.int .u8 92, .int .u8 s[i].toNat]) rfl rfl rfl rfl rfl rfl (rfl) rfl (bc_app2 _ 92 s[i] rfl rfl) ((by simp : acc.length + 2 = (acc ++ [92, s[i]]).length)) (bc_len _) (rfl) (rfl) (by first | omega | (dsimp only; omega) | (simp; omega)) (fun N' hN' => ?_)
          refine go 99 rfl ?_
          exact ⟨[(0, 0), (1, 3)], (true, i + 1, acc ++ [92, s[i]], N'), ⟨hi, by dsimp only; rw [hstep, b1]; rfl, fun h => (by cases h)⟩, mlt hi, rfl, rfl, ⟨fit rfl, fit rfl, fit (isucc (by first | omega | (dsimp only; omega))), trivial⟩, ⟨_, .refl _, subK rfl (renO_dry (bc_dry _)) subN⟩, rfl⟩
        · have b1 : s[i] ≠ 34 := u8ne (d := 34) b
          refine go 99 rfl ?_
          refine Safe.br rfl (fun d => ?_) (fun d => ?_)
          · have d1 : s[i] = 10 := u8eq (d := 10) d
            refine go 99 rfl ?_
            refine Safe.appS (us := [.int .u8 92, .int .u8 110]) rfl rfl rfl rfl rfl rfl (rfl) rfl (bc_app2 _ 92 110 rfl rfl) ((by simp : acc.length + 2 = (acc ++ [92, 110]).length)) (bc_len _) (rfl) (rfl) (by first | omega | (dsimp only; omega) | (simp; omega)) (fun N' hN' => ?_)
            refine go 99 rfl ?_
            exact ⟨[(0, 0), (1, 3)], (true, i + 1, acc ++ [92, 110], N'), ⟨hi, by dsimp only; rw [hstep, d1]; rfl, fun h => (by cases h)⟩, mlt hi, rfl, rfl, ⟨fit rfl, fit rfl, fit (isucc (by first | omega | (dsimp only; omega))), trivial⟩, ⟨_, .refl _, subK rfl (renO_dry (bc_dry _)) subN⟩, rfl⟩
          · have d1 : s[i] ≠ 10 := u8ne (d := 10) d
            refine go 99 rfl ?_
            refine Safe.idxS hi rfl rfl rfl ?_
            refine go 99 rfl ?_
            refine Safe.appS (us := [.int .u8 s[i].toNat]) rfl rfl rfl rfl rfl rfl (rfl) rfl (bc_app _ s[i] rfl) ((by simp : acc.length + 1 = (acc ++ [s[i]]).length)) (bc_len _) (rfl) (rfl) (by first | omega | (dsimp only; omega) | (simp; omega)) (fun N2 hN2 => ?_)
            refine go 99 rfl ?_
            exact ⟨[(0, 0), (1, 3)], (true, i + 1, acc ++ [s[i]], N2), ⟨hi, by dsimp only; rw [hstep]; simp [qc, a1, b1, d1], fun h => (by cases h)⟩, mlt hi, rfl, rfl, ⟨fit rfl, fit rfl, fit (isucc (by first | omega | (dsimp only; omega))), trivial⟩, ⟨_, .refl _, subK rfl (renO_dry (bc_dry _)) subN⟩, rfl⟩
    · have hi2 : i = s.length := Nat.le_antisymm hi (gec c)
      exact absurd (List.length_eq_zero_iff.1 (hi2.symm.trans (hk rfl))) hs
  | true =>
    dsimp only [Bool.cond_false, Bool.cond_true] at *
    refine go 99 rfl ?_
    refine Safe.br rfl (fun c => ?_) (fun c => ?_)
    · have hi : i < s.length := ltc c
      have hstep : pre ++ qu (s.take (i + 1)) = acc ++ qc s[i] := by rw [qu_step hi, ha, List.append_assoc]
      refine go 99 rfl ?_
      refine Safe.idxS hi rfl rfl rfl ?_
      refine go 99 rfl ?_
      refine Safe.br rfl (fun a => ?_) (fun a => ?_)
      · have a1 : s[i] = 92 := u8eq (d := 92) a
        refine go 99 rfl ?_
        refine Safe.idxS hi rfl rfl rfl ?_
        refine go 99 rfl ?_
        refine Safe.appS (us := [.int .u8 92, .int .u8 s[i].toNat]) rfl rfl rfl rfl rfl rfl (rfl) rfl (bc_app2 _ 92 s[i] rfl rfl) ((by simp : acc.length + 2 = (acc ++ [92, s[i]]).length)) (bc_len _) (rfl) (rfl) (by first | omega | (dsimp only; omega) | (simp; omega)) (fun N' hN' => ?_)
        refine go 99 rfl ?_
        exact ⟨[(0, 0), (1, 3)], (true, i + 1, acc ++ [92, s[i]], N'), ⟨hi, by dsimp only; rw [hstep, a1]; rfl, fun h => (by cases h)⟩, mlt hi, rfl, rfl, ⟨fit rfl, fit rfl, fit (isucc (by first | omega | (dsimp only; omega))), trivial⟩, ⟨_, .refl _, subK rfl (renO_dry (bc_dry _)) subN⟩, rfl⟩
      · have a1 : s[i] ≠ 92 := u8ne (d := 92) a
        refine go 99 rfl ?_
        refine Safe.br rfl (fun b => ?_) (fun b => ?_)
        · have b1 : s[i] = 34 := u8eq (d := 34) b
          refine go 99 rfl ?_
          refine Safe.idxS hi rfl rfl rfl ?_
          refine go 99 rfl ?_
          refine Safe.appS (us := [.int .u8 92, .int .u8 s[i].toNat]) rfl rfl rfl rfl rfl rfl (rfl) rfl (bc_app2 _ 92 s[i] rfl rfl) ((by simp : acc.length + 2 = (acc ++ [92, s[i]]).length)) (bc_len _) (rfl) (rfl) (by first | omega | (dsimp only; omega) | (simp; omega)) (fun N' hN' => ?_)
          refine go 99 rfl ?_
          exact ⟨[(0, 0), (1, 3)], (true, i + 1, acc ++ [92, s[i]], N'), ⟨hi, by dsimp only; rw [hstep, b1]; rfl, fun h => (by cases h)⟩, mlt hi, rfl, rfl, ⟨fit rfl, fit rfl, fit (isucc (by first | omega | (dsimp only; omega))), trivial⟩, ⟨_, .refl _, subK rfl (renO_dry (bc_dry _)) subN⟩, rfl⟩
        · have b1 : s[i] ≠ 34 := u8ne (d := 34) b
          refine go 99 rfl ?_
          refine Safe.br rfl (fun d => ?_) (fun d => ?_)
          · have d1 : s[i] = 10 := u8eq (d := 10) d
            refine go 99 rfl ?_
            refine Safe.appS (us := [.int .u8 92, .int .u8 110]) rfl rfl rfl rfl rfl rfl (rfl) rfl (bc_app2 _ 92 110 rfl rfl) ((by simp : acc.length + 2 = (acc ++ [92, 110]).length)) (bc_len _) (rfl) (rfl) (by first | omega | (dsimp only; omega) | (simp; omega)) (fun N' hN' => ?_)
            refine go 99 rfl ?_
            exact ⟨[(0, 0), (1, 3)], (true, i + 1, acc ++ [92, 110], N'), ⟨hi, by dsimp only; rw [hstep, d1]; rfl, fun h => (by cases h)⟩, mlt hi, rfl, rfl, ⟨fit rfl, fit rfl, fit (isucc (by first | omega | (dsimp only; omega))), trivial⟩, ⟨_, .refl _, subK rfl (renO_dry (bc_dry _)) subN⟩, rfl⟩
          · have d1 : s[i] ≠ 10 := u8ne (d := 10) d
            refine go 99 rfl ?_
            refine Safe.idxS hi rfl rfl rfl ?_
            refine go 99 rfl ?_
            refine Safe.appS (us := [.int .u8 s[i].toNat]) rfl rfl rfl rfl rfl rfl (rfl) rfl (bc_app _ s[i] rfl) ((by simp : acc.length + 1 = (acc ++ [s[i]]).length)) (bc_len _) (rfl) (rfl) (by first | omega | (dsimp only; omega) | (simp; omega)) (fun N2 hN2 => ?_)
            refine go 99 rfl ?_
            exact ⟨[(0, 0), (1, 3)], (true, i + 1, acc ++ [s[i]], N2), ⟨hi, by dsimp only; rw [hstep]; simp [qc, a1, b1, d1], fun h => (by cases h)⟩, mlt hi, rfl, rfl, ⟨fit rfl, fit rfl, fit (isucc (by first | omega | (dsimp only; omega))), trivial⟩, ⟨_, .refl _, subK rfl (renO_dry (bc_dry _)) subN⟩, rfl⟩
    · have hi2 : i = s.length := Nat.le_antisymm hi (gec c)
      rw [hi2, List.take_length] at ha
      refine go 99 rfl ?_
      rw [← ha]
      exact ⟨.inr rfl, trivial, .done rfl ⟨sgI 2, .slice 1 0 acc.length M, [(1, .cells 5 (byteCells acc) (M * 1))], 2, ⟨⟨fit rfl, trivial⟩, ⟨_, .refl _, subK rfl (renO_dry (bc_dry _)) subN⟩, rfl⟩, M, rfl, rfl, rfl⟩⟩
end Go.Proofs.YtonbppofjlpklaaGreatDoor
end

section
namespace Go.Proofs.YtonbppofjlpklaaGreatDoor
open Go.Fw
variable [Gl]
set_option maxRecDepth 20000
set_option maxHeartbeats 4000000
def fmB (f : Bool) (x : Lb) : By := (cond f [44] []) ++ (x.name ++ (61 :: 34 :: (qu x.value ++ [34])))
def fmS : Bool → List Lb → By
  | _, [] => [125]
  | f, x :: r => fmB f x ++ fmS true r
def fmt (l : List Lb) : By := 123 :: fmS false l
def okT (l : List Lb) : Prop := l.length ≤ 16 ∧ ∀ x ∈ l, x.name.length ≤ 60 ∧ x.value.length ≤ 200 ∧ x.value ≠ []
theorem fmS_drop {l : List Lb} {i : Nat} {f : Bool} (hi : i < l.length) : fmS f (l.drop i) = fmB f l[i] ++ fmS true (l.drop (i + 1)) := by
  rw [List.drop_eq_getElem_cons hi, fmS]
theorem fmB_len {f : Bool} {x : Lb} (h : x.name.length ≤ 60 ∧ x.value.length ≤ 200 ∧ x.value ≠ []) : (fmB f x).length ≤ 464 := by
  have := qu_len x.value
  cases f <;> simp [fmB] <;> omega
theorem fmS_len : ∀ (f : Bool) (l : List Lb), (∀ x ∈ l, x.name.length ≤ 60 ∧ x.value.length ≤ 200 ∧ x.value ≠ []) → (fmS f l).length ≤ 1 + l.length * 464
  | f, [], _ => by simp [fmS]
  | f, x :: r, h => by
    have h1 := fmB_len (f := f) (h x (by simp))
    have h2 := fmS_len true r fun y hy => h y (by simp [hy])
    simp only [fmS, List.length_append, List.length_cons]; omega
theorem fmt_len {l : List Lb} (h : okT l) : (fmt l).length ≤ 8000 := by
  have := fmS_len false l h.2
  have := h.1
  simp only [fmt, List.length_cons]; omega
theorem r_format (l : List Lb) (ht : okT l) : PTri Tryz.prog 61 [slV lbC l] (.str (fmt l)) := by
  have hl := ht.1
  have hfl := fmt_len ht
  refine PTri.of_safe Tryz.func61 rfl Tryz.results61 Tryz.ntmps61 rfl ?_
  refine go 99 rfl ?_
  refine Safe.loop (α := (Nat × By)) (fun a => [(0, slV lbC l), (3, .str a.2), (4, nI a.1)]) (fun a => []) 0 (fun a => l.length - a.1) (fun a => a.1 ≤ l.length ∧ fmt l = a.2 ++ fmS (decide (0 < a.1)) (l.drop a.1)) (0, [123]) (sgI 0) ⟨⟨fit rfl, fit rfl, fit rfl, trivial⟩, ⟨_, .refl _, List.nil_sublist _⟩, rfl⟩ ⟨Nat.zero_le _, rfl⟩ ?_
  rintro ⟨i, acc⟩ ⟨hi, ha⟩
  dsimp only at hi ha
  have hal : acc.length ≤ 8000 := by rw [ha, List.length_append] at hfl; omega
  refine go 99 rfl ?_
  refine Safe.br rfl (fun c => ?_) (fun c => ?_)
  · have hi : i < l.length := ltc c
    have hx := ht.2 l[i] (List.getElem_mem hi)
    have hq := qu_len l[i].value
    rw [fmS_drop hi] at ha
    refine go 99 rfl ?_
    refine Safe.br rfl (fun d => ?_) (fun d => ?_)
    · have d1 : 0 < i := ltc d
      rw [decide_eq_true d1] at ha
      refine go 99 rfl ?_
      refine Safe.cat (by simp; omega) rfl rfl ?_
      refine go 99 rfl ?_
      refine Safe.drawP mixed [0, 1, 2, 3, 4, 5, 6, 7, 8, 9, 10, 11, 12, 13, 14, 15, 16] [(true, false), (true, false), (true, false), (true, false), (true, false), (true, false), (true, false), (true, false), (true, true), (true, true), (true, true), (true, true), (true, true), (true, true), (true, true), (true, true), (true, true)] (by kernel_rfl) ?_
      refine go 99 rfl ?_
      refine Safe.idxF hi rfl rfl rfl ?_
      refine go 99 rfl ?_
      refine Safe.ldF (ldL0 hi) rfl rfl rfl ?_
      refine go 99 rfl ?_
      refine Safe.cat (by simp; omega) rfl rfl ?_
      refine go 99 rfl ?_
      refine Safe.cat (by simp; omega) rfl rfl ?_
      refine go 99 rfl ?_
      refine Safe.idxF hi rfl rfl rfl ?_
      refine go 99 rfl ?_
      refine Safe.ldF (ldL1 hi) rfl rfl rfl ?_
      refine go 99 rfl ?_
      refine Safe.call (r_quoted l[i].value (by simp only [big]; omega)) rfl rfl rfl ?_
      refine go 99 rfl ?_
      refine Safe.cat (by simp; omega) rfl rfl ?_
      refine go 99 rfl ?_
      refine Safe.cat (by simp; omega) rfl rfl ?_
      refine go 99 rfl ?_
      exact ⟨sgI 0, (i + 1, acc ++ [44] ++ l[i].name ++ [61, 34] ++ qu l[i].value ++ [34]), ⟨hi, by dsimp only; rw [ha, decide_eq_true (Nat.succ_pos i)]; simp [fmB]⟩, mlt hi, rfl, rfl, ⟨fit rfl, fit rfl, fit (isucc (by omega)), trivial⟩, ⟨_, .refl _, List.nil_sublist _⟩, rfl⟩
    · have d1 : ¬ 0 < i := by simp at d; omega
      rw [decide_eq_false d1] at ha
      refine go 99 rfl ?_
      refine Safe.drawP mixed [0, 1, 2, 3, 4, 5, 6, 7, 8, 9, 10, 11, 12, 13, 14, 15, 16] [(true, false), (true, false), (true, false), (true, false), (true, false), (true, false), (true, false), (true, false), (true, true), (true, true), (true, true), (true, true), (true, true), (true, true), (true, true), (true, true), (true, true)] (by kernel_rfl) ?_
      refine go 99 rfl ?_
      refine Safe.idxF hi rfl rfl rfl ?_
      refine go 99 rfl ?_
      refine Safe.ldF (ldL0 hi) rfl rfl rfl ?_
      refine go 99 rfl ?_
      refine Safe.cat (by simp; omega) rfl rfl ?_
      refine go 99 rfl ?_
      refine Safe.cat (by simp; omega) rfl rfl ?_
      refine go 99 rfl ?_
      refine Safe.idxF hi rfl rfl rfl ?_
      refine go 99 rfl ?_
      refine Safe.ldF (ldL1 hi) rfl rfl rfl ?_
      refine go 99 rfl ?_
      refine Safe.call (r_quoted l[i].value (by simp only [big]; omega)) rfl rfl rfl ?_
      refine go 99 rfl ?_
      refine Safe.cat (by simp; omega) rfl rfl ?_
      refine go 99 rfl ?_
      refine Safe.cat (by simp; omega) rfl rfl ?_
      refine go 99 rfl ?_
      exact ⟨sgI 0, (i + 1, acc ++ l[i].name ++ [61, 34] ++ qu l[i].value ++ [34]), ⟨hi, by dsimp only; rw [ha, decide_eq_true (Nat.succ_pos i)]; simp [fmB]⟩, mlt hi, rfl, rfl, ⟨fit rfl, fit rfl, fit (isucc (by omega)), trivial⟩, ⟨_, .refl _, List.nil_sublist _⟩, rfl⟩
  · have hi2 : i = l.length := Nat.le_antisymm hi (gec c)
    rw [hi2, List.drop_of_length_le (Nat.le_refl _)] at ha
    refine go 99 rfl ?_
    refine Safe.cat (by simp; omega) rfl rfl ?_
    refine go 99 rfl ?_
    exact ⟨.inr rfl, trivial, .done (stEq ha.symm) rfl⟩
end Go.Proofs.YtonbppofjlpklaaGreatDoor
end

section
namespace Go.Proofs.YtonbppofjlpklaaGreatDoor
open Go.Fw
variable [Gl]
set_option maxRecDepth 20000
set_option maxHeartbeats 4000000
theorem bc_cat (a b : By) : byteCells a ++ byteCells b = byteCells (a ++ b) := by simp [byteCells]
theorem bc_leaf (a : By) : (byteCells a).all leafV = true := by simp [byteCells, leafV]
theorem evSrc_st (h : Hp) (s : By) : evSrc h 1 (.str s) = some (byteCells s, s.length) := rfl
theorem l_format (l : List Lb) (ht : okT l) : PTri Tryz.prog 84 [slV lbC l] (.str (fmt l)) := by
  have hl := ht.1
  have hfl := fmt_len ht
  refine PTri.of_safe Tryz.func84 rfl Tryz.results84 Tryz.ntmps84 rfl ?_
  refine go 99 rfl ?_
  refine Safe.cvT (T := 171) (e := 5) rfl (by kernel_rfl) (by kernel_rfl) rfl rfl rfl ?_
  refine go 99 rfl ?_
  refine Safe.loop (α := (Nat × By × Nat)) (fun a => [(3, .slice 0 0 a.2.1.length a.2.2), (8, slV lbC l), (9, nI l.length), (10, nI a.1)]) (fun a => [(0, .cells 5 (byteCells a.2.1) (a.2.2 * 1))]) 1 (fun a => l.length - a.1) (fun a => a.1 ≤ l.length ∧ fmt l = a.2.1 ++ fmS (decide (0 < a.1)) (l.drop a.1)) (0, [123], 1) (sgI 1) ⟨⟨fit rfl, fit rfl, fit rfl, fit rfl, trivial⟩, ⟨_, .refl _, .refl _⟩, rfl⟩ ⟨Nat.zero_le _, rfl⟩ ?_
  rintro ⟨i, acc, N⟩ ⟨hi, ha⟩
  dsimp only at hi ha
  have hal : acc.length ≤ 8000 := by rw [ha, List.length_append] at hfl; omega
  refine go 99 rfl ?_
  refine Safe.br rfl (fun c => ?_) (fun c => ?_)
  · have hi : i < l.length := ltc c
    have hx := ht.2 l[i] (List.getElem_mem hi)
    have hq := qu_len l[i].value
    rw [fmS_drop hi] at ha
    refine go 99 rfl ?_
    refine Safe.idxF hi rfl rfl rfl ?_
    refine go 99 rfl ?_
    refine Safe.ldF (ldL hi) rfl rfl rfl ?_
    refine go 99 rfl ?_
    refine Safe.br rfl (fun d => ?_) (fun d => ?_)
    · have d1 : 0 < i := ltc d
      rw [decide_eq_true d1] at ha
      refine go 99 rfl ?_
      refine Safe.appS (us := [.int .u8 44]) rfl rfl rfl rfl rfl rfl (rfl) rfl (bc_app _ 44 rfl) ((by simp <;> omega : acc.length + 1 = (acc ++ [44]).length)) (bc_len _) (rfl) (rfl) (by first | omega | (dsimp only; omega) | (simp; omega)) (fun N0 hN0 => ?_)
      refine go 99 rfl ?_
      refine Safe.appS (us := (byteCells l[i].name)) rfl rfl rfl rfl rfl rfl (evSrc_st _ _) rfl (bc_cat _ _) ((by simp <;> omega : (acc ++ [44]).length + l[i].name.length = ((acc ++ [44]) ++ l[i].name).length)) (bc_len _) (bc_dry _) (bc_leaf _) (by first | omega | (dsimp only; omega) | (simp; omega)) (fun N1 hN1 => ?_)
      refine go 99 rfl ?_
      refine Safe.appS (us := [.int .u8 61, .int .u8 34]) rfl rfl rfl rfl rfl rfl (rfl) rfl (bc_app2 _ 61 34 rfl rfl) ((by simp <;> omega : ((acc ++ [44]) ++ l[i].name).length + 2 = (acc ++ [44] ++ l[i].name ++ [61, 34]).length)) (bc_len _) (rfl) (rfl) (by first | omega | (dsimp only; omega) | (simp; omega)) (fun N2 hN2 => ?_)
      refine go 99 rfl ?_
      refine Safe.callL (rest := [(5, AObj.cells 5 [V.int .u8 61, V.int .u8 34] 2), (2, AObj.cells 5 [V.int .u8 44] 1), (1, AObj.cells 30 (lbC l[i]) 2)]) [(0, 6)] (l_quoted (acc ++ [44] ++ l[i].name ++ [61, 34]) l[i].value N2 (by simp only [big]; omega) (by simp; omega) hx.2.2) rfl rfl rfl rfl (List.Perm.of_eq (congrArg (fun o => (6, o) :: [(5, AObj.cells 5 [V.int .u8 61, V.int .u8 34] 2), (2, AObj.cells 5 [V.int .u8 44] 1), (1, AObj.cells 30 (lbC l[i]) 2)]) (renO_dry (bc_dry _)))) (fun v h' nx' q => ?_)
      obtain ⟨N3, rfl, rfl, rfl⟩ := q
      refine Safe.hpO (h' := (7, .cells 5 (byteCells (acc ++ [44] ++ l[i].name ++ [61, 34] ++ qu l[i].value)) (N3 * 1)) :: [(5, AObj.cells 5 [V.int .u8 61, V.int .u8 34] 2), (2, AObj.cells 5 [V.int .u8 44] 1), (1, AObj.cells 30 (lbC l[i]) 2)]) (congrArg (fun o => (7, o) :: [(5, AObj.cells 5 [V.int .u8 61, V.int .u8 34] 2), (2, AObj.cells 5 [V.int .u8 44] 1), (1, AObj.cells 30 (lbC l[i]) 2)]) (renO_dry (bc_dry _))) ?_
      refine go 99 rfl ?_
      refine Safe.appS (us := [.int .u8 34]) rfl rfl rfl rfl rfl rfl (rfl) rfl (bc_app _ 34 rfl) ((by simp <;> omega : (acc ++ [44] ++ l[i].name ++ [61, 34] ++ qu l[i].value).length + 1 = (acc ++ [44] ++ l[i].name ++ [61, 34] ++ qu l[i].value ++ [34]).length)) (bc_len _) (rfl) (rfl) (by first | omega | (dsimp only; omega) | (simp; omega)) (fun N4 hN4 => ?_)
      refine go 99 rfl ?_
      exact ⟨[(0, 9)], (i + 1, acc ++ [44] ++ l[i].name ++ [61, 34] ++ qu l[i].value ++ [34], N4), ⟨hi, by dsimp only; rw [ha, decide_eq_true (Nat.succ_pos i)]; simp [fmB]⟩, mlt hi, rfl, rfl, ⟨fit rfl, fit rfl, fit rfl, fit (isucc (by omega)), trivial⟩, ⟨_, .refl _, subK rfl (renO_dry (bc_dry _)) subN⟩, rfl⟩
    · have d1 : ¬ 0 < i := by simp at d; omega
      rw [decide_eq_false d1] at ha
      refine go 99 rfl ?_
      refine Safe.appS (us := (byteCells l[i].name)) rfl rfl rfl rfl rfl rfl (evSrc_st _ _) rfl (bc_cat _ _) ((by simp <;> omega : acc.length + l[i].name.length = (acc ++ l[i].name).length)) (bc_len _) (bc_dry _) (bc_leaf _) (by first | omega | (dsimp only; omega) | (simp; omega)) (fun N1 hN1 => ?_)
      refine go 99 rfl ?_
      refine Safe.appS (us := [.int .u8 61, .int .u8 34]) rfl rfl rfl rfl rfl rfl (rfl) rfl (bc_app2 _ 61 34 rfl rfl) ((by simp <;> omega : (acc ++ l[i].name).length + 2 = (acc ++ l[i].name ++ [61, 34]).length)) (bc_len _) (rfl) (rfl) (by first | omega | (dsimp only; omega) | (simp; omega)) (fun N2 hN2 => ?_)
      refine go 99 rfl ?_
      refine Safe.callL (rest := [(3, AObj.cells 5 [V.int .u8 61, V.int .u8 34] 2), (1, AObj.cells 30 (lbC l[i]) 2)]) [(0, 4)] (l_quoted (acc ++ l[i].name ++ [61, 34]) l[i].value N2 (by simp only [big]; omega) (by simp; omega) hx.2.2) rfl rfl rfl rfl (List.Perm.of_eq (congrArg (fun o => (4, o) :: [(3, AObj.cells 5 [V.int .u8 61, V.int .u8 34] 2), (1, AObj.cells 30 (lbC l[i]) 2)]) (renO_dry (bc_dry _)))) (fun v h' nx' q => ?_)
      obtain ⟨N3, rfl, rfl, rfl⟩ := q
      refine Safe.hpO (h' := (5, .cells 5 (byteCells (acc ++ l[i].name ++ [61, 34] ++ qu l[i].value)) (N3 * 1)) :: [(3, AObj.cells 5 [V.int .u8 61, V.int .u8 34] 2), (1, AObj.cells 30 (lbC l[i]) 2)]) (congrArg (fun o => (5, o) :: [(3, AObj.cells 5 [V.int .u8 61, V.int .u8 34] 2), (1, AObj.cells 30 (lbC l[i]) 2)]) (renO_dry (bc_dry _))) ?_
      refine go 99 rfl ?_
      refine Safe.appS (us := [.int .u8 34]) rfl rfl rfl rfl rfl rfl (rfl) rfl (bc_app _ 34 rfl) ((by simp <;> omega : (acc ++ l[i].name ++ [61, 34] ++ qu l[i].value).length + 1 = (acc ++ l[i].name ++ [61, 34] ++ qu l[i].value ++ [34]).length)) (bc_len _) (rfl) (rfl) (by first | omega | (dsimp only; omega) | (simp; omega)) (fun N4 hN4 => ?_)
      refine go 99 rfl ?_
      exact ⟨[(0, 7)], (i + 1, acc ++ l[i].name ++ [61, 34] ++ qu l[i].value ++ [34], N4), ⟨hi, by dsimp only; rw [ha, decide_eq_true (Nat.succ_pos i)]; simp [fmB]⟩, mlt hi, rfl, rfl, ⟨fit rfl, fit rfl, fit rfl, fit (isucc (by omega)), trivial⟩, ⟨_, .refl _, subK rfl (renO_dry (bc_dry _)) subN⟩, rfl⟩
  · have hi2 : i = l.length := Nat.le_antisymm hi (gec c)
    rw [hi2, List.drop_of_length_le (Nat.le_refl _)] at ha
    refine go 99 rfl ?_
    refine Safe.appS (us := [.int .u8 125]) rfl rfl rfl rfl rfl rfl (rfl) rfl (bc_app _ 125 rfl) ((by simp <;> omega : acc.length + 1 = (acc ++ [125]).length)) (bc_len _) (rfl) (rfl) (by first | omega | (dsimp only; omega) | (simp; omega)) (fun N' hN' => ?_)
    refine go 99 rfl ?_
    refine Safe.cvB (s := acc ++ [125]) (bc_all _) (bc_le _) (bc_dry _) rfl rfl ?_
    refine go 99 rfl ?_
    exact ⟨.inr rfl, trivial, .done (stEq ha.symm) rfl⟩
end Go.Proofs.YtonbppofjlpklaaGreatDoor
end

section
namespace Go.Proofs.YtonbppofjlpklaaGreatDoor
open Go.Fw
variable [Gl]
set_option maxRecDepth 20000
set_option maxHeartbeats 4000000
theorem chk1_ok {p : Option Lb} {x : Lb} (h : chk1 p x = 0) : x.name.length ≤ 60 ∧ x.value.length ≤ 200 ∧ x.value ≠ [] := by
  unfold chk1 at h
  split at h
  · cases h
  · rename_i h1
    split at h
    · cases h
    · rename_i h2
      split at h
      · cases h
      · rename_i h3
        refine ⟨?_, by omega, h2⟩
        simp [nmB] at h1
        omega
theorem chkF_ok : ∀ {l : List Lb} {p : Option Lb}, chkF p l = 0 → ∀ x ∈ l, x.name.length ≤ 60 ∧ x.value.length ≤ 200 ∧ x.value ≠ []
  | [], p, _ => fun x hx => by cases hx
  | a :: r, p, h => by
    rw [chkF] at h
    split at h
    · rename_i h1
      intro x hx
      rcases List.mem_cons.1 hx with rfl | hx
      · exact chk1_ok h1
      · exact chkF_ok h x hx
    · rename_i h1; exact absurd h h1
theorem okT_of {l : List Lb} (h : chkLs l = 0) : okT l := by
  unfold chkLs at h
  split at h
  · cases h
  · exact ⟨by omega, chkF_ok h⟩
def okR (x : Xm) : Prop := okX x ∧ (-9223372036854775808 ≤ x.trace ∧ x.trace ≤ 9223372036854775807)
def trQ (x : Xm) : Int := IntKind.i64.wrap (x.trace.tdiv 1024)
def vlX (x : Xm) : Bool := decide (chkLs x.labels = 0) && (decide ((fmt x.labels).length ≤ 1000) && (btw x.time 1 1099511627776 && (btw x.value (-1099511627776) 1099511627776 && (btw (trQ x) 1 1099511627776 && btw x.span 1 1152921504606846976))))
theorem trQ_pos {x : Xm} (h : okR x) : 1024 ≤ x.trace ↔ 1 ≤ trQ x := by
  obtain ⟨-, h1, h2⟩ := h
  rw [trQ, IntKind.wrap_i64]
  rcases Int.le_total 0 x.trace with h | h
  · rw [Int.tdiv_eq_ediv_of_nonneg h]; omega
  · have e : x.trace.tdiv 1024 = -((-x.trace) / 1024) := by rw [← Int.tdiv_eq_ediv_of_nonneg (by omega), Int.neg_tdiv, Int.neg_neg]
    rw [e]; omega
theorem h_valid (x : Xm) (h : okR x) : PTri Tryz.prog 57 [xmV x] (.bool (vlX x)) := by
  have ho : okLs x.labels := h.1
  have hE := vlX.eq_1 x
  have hq := trQ_pos h
  refine PTri.of_safe Tryz.func57 rfl Tryz.results57 Tryz.ntmps57 rfl ?_
  refine go 99 rfl ?_
  refine Safe.call (l_check x.labels ho) rfl rfl rfl ?_
  refine go 99 rfl ?_
  refine Safe.gs rfl (fun c => ?_) (fun c => ?_)
  · have c1 : ¬ chkLs x.labels = 0 := by simpa using c
    rw [decide_eq_false c1, Bool.false_and] at hE
    refine go 99 rfl ?_
    exact ⟨.inr rfl, trivial, .done (bIeq hE.symm) rfl⟩
  · have c1 : chkLs x.labels = 0 := by simpa using c
    rw [decide_eq_true c1, Bool.true_and] at hE
    refine go 99 rfl ?_
    refine Safe.call (l_format x.labels (okT_of c1)) rfl rfl rfl ?_
    refine go 99 rfl ?_
    refine Safe.br rfl (fun d => ?_) (fun d => ?_)
    · have d1 : ¬ (fmt x.labels).length ≤ 1000 := by simp at d; omega
      rw [decide_eq_false d1, Bool.false_and] at hE
      refine go 99 rfl ?_
      exact ⟨.inr rfl, trivial, .done (bIeq hE.symm) rfl⟩
    · have d1 : (fmt x.labels).length ≤ 1000 := by simp at d; omega
      rw [decide_eq_true d1, Bool.true_and] at hE
      refine go 99 rfl ?_
      refine Safe.call (h_isTime x.time) rfl rfl rfl ?_
      refine go 99 rfl ?_
      refine Safe.gs rfl (fun e => ?_) (fun e => ?_)
      · have e1 : btw x.time 1 1099511627776 = false := by simpa using e
        rw [e1, Bool.false_and] at hE
        refine go 99 rfl ?_
        exact ⟨.inr rfl, trivial, .done (bIeq hE.symm) rfl⟩
      · have e1 : btw x.time 1 1099511627776 = true := by simpa using e
        rw [e1, Bool.true_and] at hE
        refine go 99 rfl ?_
        refine Safe.gs rfl (fun f => ?_) (fun f => ?_)
        · have f1 : btw x.value (-1099511627776) 1099511627776 = false := by simp at f; simp [btw]; omega
          rw [f1, Bool.false_and] at hE
          refine go 99 rfl ?_
          exact ⟨.inr rfl, trivial, .done (bIeq hE.symm) rfl⟩
        · refine go 99 rfl ?_
          refine Safe.br rfl (fun f2 => ?_) (fun f2 => ?_)
          · have f1 : btw x.value (-1099511627776) 1099511627776 = false := by simp at f f2; simp [btw]; omega
            rw [f1, Bool.false_and] at hE
            refine go 99 rfl ?_
            exact ⟨.inr rfl, trivial, .done (bIeq hE.symm) rfl⟩
          · have f1 : btw x.value (-1099511627776) 1099511627776 = true := by simp at f f2; simp [btw]; omega
            rw [f1, Bool.true_and] at hE
            refine go 99 rfl ?_
            refine Safe.gs rfl (fun g => ?_) (fun g => ?_)
            · have g0 : 1 ≤ trQ x := hq.1 (by simpa using g)
              refine go 99 rfl ?_
              refine Safe.gs rfl (fun g2 => ?_) (fun g2 => ?_)
              · have g1 : btw (trQ x) 1 1099511627776 = true := by simp only [btw, trQ, Bool.and_eq_true, decide_eq_true_eq]; exact ⟨decide_eq_true g0, decide_eq_true (by simpa using g2)⟩
                rw [g1, Bool.true_and] at hE
                refine go 99 rfl ?_
                refine Safe.gs rfl (fun k => ?_) (fun k => ?_)
                · refine go 99 rfl ?_
                  exact ⟨.inr rfl, trivial, .done (bIeq (by rw [hE]; simp at k; simp [btw, k])) rfl⟩
                · refine go 99 rfl ?_
                  exact ⟨.inr rfl, trivial, .done (bIeq (by rw [hE]; simp at k; simp [btw]; omega)) rfl⟩
              · have g1 : btw (trQ x) 1 1099511627776 = false := by simp only [btw, trQ, Bool.and_eq_false_iff, decide_eq_false_iff_not]; exact .inr (decide_eq_false (by simpa using g2))
                rw [g1, Bool.false_and] at hE
                refine go 99 rfl ?_
                exact ⟨.inr rfl, trivial, .done (bIeq hE.symm) rfl⟩
            · have g0 : ¬ 1024 ≤ x.trace := by simpa using g
              rw [hq] at g0
              have g1 : btw (trQ x) 1 1099511627776 = false := by simp [btw]; omega
              rw [g1, Bool.false_and] at hE
              refine go 99 rfl ?_
              exact ⟨.inr rfl, trivial, .done (bIeq hE.symm) rfl⟩
end Go.Proofs.YtonbppofjlpklaaGreatDoor
end

section
namespace Go.Proofs.YtonbppofjlpklaaGreatDoor
open Go.Fw
variable [Gl]
set_option maxRecDepth 20000
set_option maxHeartbeats 4000000
theorem r_valid (x : Xm) (h : okR x) : PTri Tryz.prog 23 [xmV x] (.bool (vlX x)) := by
  have ho : okLs x.labels := h.1
  have hE := vlX.eq_1 x
  refine PTri.of_safe Tryz.func23 rfl Tryz.results23 Tryz.ntmps23 rfl ?_
  refine go 99 rfl ?_
  refine Safe.call (r_begin x.trace) rfl rfl rfl ?_
  refine go 99 rfl ?_
  refine Safe.call (r_check x.labels ho) rfl rfl rfl ?_
  refine go 99 rfl ?_
  refine Safe.gs rfl (fun c => ?_) (fun c => ?_)
  · have c1 : chkLs x.labels = 0 := by simpa using c
    rw [decide_eq_true c1, Bool.true_and] at hE
    refine go 99 rfl ?_
    refine Safe.call (r_format x.labels (okT_of c1)) rfl rfl rfl ?_
    refine go 99 rfl ?_
    refine Safe.gs rfl (fun d => ?_) (fun d => ?_)
    · have d1 : (fmt x.labels).length ≤ 1000 := by simp at d; omega
      rw [decide_eq_true d1, Bool.true_and] at hE
      refine go 99 rfl ?_
      refine Safe.call (r_between x.time 1 1099511627776) rfl rfl rfl ?_
      refine go 99 rfl ?_
      refine Safe.gs rfl (fun e => ?_) (fun e => ?_)
      · rw [e, Bool.true_and] at hE
        refine go 99 rfl ?_
        refine Safe.call (r_between x.value (-1099511627776) 1099511627776) rfl rfl rfl ?_
        refine go 99 rfl ?_
        refine Safe.gs rfl (fun f => ?_) (fun f => ?_)
        · rw [f, Bool.true_and] at hE
          refine go 99 rfl ?_
          refine Safe.call (r_between (trQ x) 1 1099511627776) rfl rfl rfl ?_
          refine go 99 rfl ?_
          refine Safe.gs rfl (fun g => ?_) (fun g => ?_)
          · rw [g, Bool.true_and] at hE
            refine go 99 rfl ?_
            refine Safe.call (r_between x.span 1 1152921504606846976) rfl rfl rfl ?_
            refine go 99 rfl ?_
            exact ⟨.inr rfl, trivial, .done (bIeq hE.symm) rfl⟩
          · rw [g, Bool.false_and] at hE
            refine go 99 rfl ?_
            exact ⟨.inr rfl, trivial, .done (bIeq hE.symm) rfl⟩
        · rw [f, Bool.false_and] at hE
          refine go 99 rfl ?_
          exact ⟨.inr rfl, trivial, .done (bIeq hE.symm) rfl⟩
      · rw [e, Bool.false_and] at hE
        refine go 99 rfl ?_
        exact ⟨.inr rfl, trivial, .done (bIeq hE.symm) rfl⟩
    · have d1 : ¬ (fmt x.labels).length ≤ 1000 := by simp at d; omega
      rw [decide_eq_false d1, Bool.false_and] at hE
      refine go 99 rfl ?_
      exact ⟨.inr rfl, trivial, .done (bIeq hE.symm) rfl⟩
  · have c1 : ¬ chkLs x.labels = 0 := by simpa using c
    rw [decide_eq_false c1, Bool.false_and] at hE
    refine go 99 rfl ?_
    exact ⟨.inr rfl, trivial, .done (bIeq hE.symm) rfl⟩
theorem r_checkX (x : Xm) (h : okR x) : PTri Tryz.prog 10 [xmV x] (nI (if vlX x = false then 1 else 0)) := by
  refine PTri.of_safe Tryz.func10 rfl Tryz.results10 Tryz.ntmps10 rfl ?_
  refine go 99 rfl ?_
  refine Safe.call (r_valid x h) rfl rfl rfl ?_
  refine go 99 rfl ?_
  refine Safe.br rfl (fun c => ?_) (fun c => ?_)
  · have c1 : vlX x = false := by simpa using c
    refine go 99 rfl ?_
    exact ⟨.inr rfl, trivial, .done (nIeq (by rw [if_pos c1])) rfl⟩
  · have c1 : ¬ vlX x = false := by simpa using c
    refine go 99 rfl ?_
    exact ⟨.inr rfl, trivial, .done (nIeq (by rw [if_neg c1])) rfl⟩
theorem h_one (x : Xm) (h : okR x) : PTri Tryz.prog 56 [slV xmC [x], nI 1000, .clo 57 [], .clo 58 []] (nI (if vlX x = false then 1 else 0)) := by
  refine PTri.of_safe Tryz.func56 rfl Tryz.results56 Tryz.ntmps56 rfl ?_
  refine go 99 rfl ?_
  first | refine Safe.gsK true rfl rfl ?_ | refine Safe.gsK false rfl rfl ?_ | refine Safe.brT rfl rfl ?_ | refine Safe.brF rfl rfl ?_
  refine go 99 rfl ?_
  refine Safe.loop (α := Nat) (fun i => [(0, slV xmC [x]), (2, .clo 57 []), (3, .clo 58 []), (15, slV xmC [x]), (16, nI [x].length), (17, nI i)]) (fun i => []) 0 (fun i => [x].length - i) (fun i => i ≤ [x].length ∧ (0 < i → vlX x = true)) 0 (sgI 0) ⟨⟨fit rfl, fit rfl, fit rfl, fit rfl, fit rfl, fit rfl, trivial⟩, ⟨_, .refl _, List.nil_sublist _⟩, rfl⟩ ⟨Nat.zero_le _, fun h => absurd h (Nat.lt_irrefl 0)⟩ ?_
  rintro i ⟨hi, hv⟩
  refine go 99 rfl ?_
  refine Safe.br rfl (fun c => ?_) (fun c => ?_)
  · have hi : i < [x].length := ltc c
    have h0 : i = 0 := by simp at hi; exact hi
    subst h0
    refine go 99 rfl ?_
    refine Safe.idxF hi rfl rfl rfl ?_
    refine go 99 rfl ?_
    refine Safe.ldF (ldX hi) rfl rfl rfl ?_
    refine go 99 rfl ?_
    refine Safe.call (h_valid x h) rfl rfl rfl ?_
    refine go 99 rfl ?_
    refine Safe.br rfl (fun d => ?_) (fun d => ?_)
    · have d1 : vlX x = false := by simpa using d
      refine go 99 rfl ?_
      exact ⟨.inr rfl, trivial, .done (nIeq (by rw [if_pos d1])) rfl⟩
    · have d1 : vlX x = true := by simpa using d
      refine go 99 rfl ?_
      refine Safe.frzC 0 rfl rfl ?_
      refine Safe.drawP mixed [0, 1, 2, 3, 4, 5, 6, 7, 8, 9, 10, 11, 12] [(true, true), (true, true), (true, true), (true, true), (true, true), (true, true), (true, true), (true, true), (true, true), (true, true), (true, true), (true, true), (true, true)] (by kernel_rfl) ?_
      refine go 99 rfl ?_
      first | refine Safe.gsK true rfl rfl ?_ | refine Safe.gsK false rfl rfl ?_ | refine Safe.brT rfl rfl ?_ | refine Safe.brF rfl rfl ?_
      refine go 99 rfl ?_
      refine go 99 rfl ?_
      exact ⟨sgI 0, 1, ⟨hi, fun _ => d1⟩, mlt hi, rfl, rfl, ⟨fit rfl, fit rfl, fit rfl, fit rfl, fit rfl, fit (rfl), trivial⟩, ⟨_, .refl _, List.nil_sublist _⟩, rfl⟩
  · have hi2 : [x].length ≤ i := gec c
    have d1 : vlX x = true := hv (Nat.lt_of_lt_of_le Nat.zero_lt_one hi2)
    refine go 99 rfl ?_
    exact ⟨.inr rfl, trivial, .done (nIeq (by rw [if_neg (by rw [d1]; simp)])) rfl⟩
end Go.Proofs.YtonbppofjlpklaaGreatDoor
end

section
namespace Go.Proofs
open Go.Shelf
def Tryz.lays137_ren : Go.Shelf.Ren := ⟨fun | 137 => 223 | 217 => 158 | 266 => 181 | n => n, fun | 9 => 9 | 5 => 5 | 3 => 3 | n => n, fun | n => n⟩
def Tryz.lays217_ren : Go.Shelf.Ren := ⟨fun | 217 => 158 | 266 => 181 | n => n, fun | 9 => 9 | 5 => 5 | 3 => 3 | n => n, fun | n => n⟩
theorem Tryz.lays217 : Go.Proofs.Lays.n217 Tryz.prog Tryz.lays217_ren := {
  mixed := by kernel_rfl
  f217 := Tryz.func158.trans (congrArg some (by kernel_rfl))
  f266 := Tryz.func181.trans (congrArg some (by kernel_rfl))
  t3 := Tryz.underlying3
  a3 := Tryz.isAgg3
  z3 := Tryz.sizeOf3
  v3 := Tryz.zeroValue3
  t5 := Tryz.underlying5
  a5 := Tryz.isAgg5
  z5 := Tryz.sizeOf5
  v5 := Tryz.zeroValue5
  t9 := Tryz.underlying9
  a9 := Tryz.isAgg9
  z9 := Tryz.sizeOf9
  v9 := Tryz.zeroValue9 }
open Go.RowKit Go.Lib in
theorem Tryz.stringslite_IndexByte (s : ByteArray) (c : Int) (w : World) :
    Calls Tryz.prog 158 #[.string s, .int .u8 c] w fun e w' => e = .returned (.int .i64 (Lib.indexByte s.data.toList c.toNat.toUInt8)) ∧ w' = w := Any.stringslite_IndexByte Tryz.lays217 s c w
def Tryz.lays157_ren : Go.Shelf.Ren := ⟨fun | 157 => 112 | 229 => 144 | 199 => 145 | 261 => 165 | 311 => 186 | 312 => 187 | n => n, fun | 9 => 9 | 31 => 53 | 3 => 3 | 5 => 5 | 4 => 4 | 119 => 207 | 0 => 0 | 40 => 209 | 152 => 236 | 21 => 21 | 154 => 238 | 51 => 239 | 141 => 241 | 196 => 268 | 193 => 265 | 198 => 271 | 49 => 269 | 194 => 266 | 201 => 274 | 226 => 285 | 46 => 134 | 227 => 286 | n => n, fun | 0 => 0 | 6 => 2 | n => n⟩
def Tryz.laysM157_ren : Go.Shelf.Ren := ⟨fun | 157 => 112 | 229 => 144 | 199 => 145 | 261 => 165 | 311 => 186 | 312 => 187 | n => n, fun | 9 => 9 | 31 => 53 | 3 => 3 | 5 => 5 | 4 => 4 | 119 => 207 | 0 => 0 | 40 => 209 | 152 => 236 | 21 => 21 | 154 => 238 | 51 => 239 | 141 => 241 | 196 => 268 | 193 => 265 | 198 => 271 | 49 => 269 | 194 => 266 | 201 => 274 | 226 => 285 | 46 => 134 | 227 => 286 | n => n, fun | 0 => 0 | 6 => 2 | n => n⟩
theorem Tryz.laysM157 : Go.Proofs.LaysM.n157 Tryz.prog Tryz.laysM157_ren := {
  mixed := by kernel_rfl
  f157 := Tryz.func112.trans (congrArg some (by kernel_rfl))
  f199 := Tryz.func145.trans (congrArg some (by kernel_rfl))
  f229 := Tryz.func144.trans (congrArg some (by kernel_rfl))
  f261 := Tryz.func165.trans (congrArg some (by kernel_rfl))
  f311 := Tryz.func186.trans (congrArg some (by kernel_rfl))
  f312 := Tryz.func187.trans (congrArg some (by kernel_rfl))
  t0 := Tryz.underlying0
  a0 := Tryz.isAgg0
  z0 := Tryz.sizeOf0
  v0 := Tryz.zeroValue0
  t3 := Tryz.underlying3
  a3 := Tryz.isAgg3
  z3 := Tryz.sizeOf3
  v3 := Tryz.zeroValue3
  t4 := Tryz.underlying4
  a4 := Tryz.isAgg4
  z4 := Tryz.sizeOf4
  v4 := Tryz.zeroValue4
  t5 := Tryz.underlying5
  a5 := Tryz.isAgg5
  z5 := Tryz.sizeOf5
  v5 := Tryz.zeroValue5
  t9 := Tryz.underlying9
  a9 := Tryz.isAgg9
  z9 := Tryz.sizeOf9
  v9 := Tryz.zeroValue9
  t21 := Tryz.underlying21
  a21 := Tryz.isAgg21
  z21 := Tryz.sizeOf21
  v21 := Tryz.zeroValue21
  t31 := Tryz.underlying53
  a31 := Tryz.isAgg53
  z31 := Tryz.sizeOf53
  v31 := Tryz.zeroValue53
  t40 := Tryz.underlying209
  a40 := Tryz.isAgg209
  z40 := Tryz.sizeOf209
  v40 := Tryz.zeroValue209
  t46 := Tryz.underlying134
  a46 := Tryz.isAgg134
  z46 := Tryz.sizeOf134
  v46 := Tryz.zeroValue134
  t49 := Tryz.underlying269
  a49 := Tryz.isAgg269
  z49 := Tryz.sizeOf269
  v49 := Tryz.zeroValue269
  t51 := Tryz.underlying239
  a51 := Tryz.isAgg239
  z51 := Tryz.sizeOf239
  v51 := Tryz.zeroValue239
  t119 := Tryz.underlying207
  a119 := Tryz.isAgg207
  z119 := Tryz.sizeOf207
  t141 := Tryz.underlying241
  a141 := Tryz.isAgg241
  z141 := Tryz.sizeOf241
  v141 := Tryz.zeroValue241
  t152 := Tryz.underlying236
  a152 := Tryz.isAgg236
  z152 := Tryz.sizeOf236
  v152 := Tryz.zeroValue236
  t154 := Tryz.underlying238
  a154 := Tryz.isAgg238
  z154 := Tryz.sizeOf238
  v154 := Tryz.zeroValue238
  t193 := Tryz.underlying265
  a193 := Tryz.isAgg265
  z193 := Tryz.sizeOf265
  v193 := Tryz.zeroValue265
  t194 := Tryz.underlying266
  a194 := Tryz.isAgg266
  z194 := Tryz.sizeOf266
  v194 := Tryz.zeroValue266
  t196 := Tryz.underlying268
  a196 := Tryz.isAgg268
  z196 := Tryz.sizeOf268
  v196 := Tryz.zeroValue268
  t198 := Tryz.underlying271
  a198 := Tryz.isAgg271
  z198 := Tryz.sizeOf271
  v198 := Tryz.zeroValue271
  t201 := Tryz.underlying274
  a201 := Tryz.isAgg274
  z201 := Tryz.sizeOf274
  v201 := Tryz.zeroValue274
  t226 := Tryz.underlying285
  a226 := Tryz.isAgg285
  z226 := Tryz.sizeOf285
  v226 := Tryz.zeroValue285
  t227 := Tryz.underlying286
  a227 := Tryz.isAgg286
  z227 := Tryz.sizeOf286
  v227 := Tryz.zeroValue286
  g0 := by kernel_rfl
  g6 := by kernel_rfl
  i0 := by kernel_rfl
  i3 := by kernel_rfl
  i4 := by kernel_rfl
  i5 := by kernel_rfl
  i9 := by kernel_rfl
  i21 := by kernel_rfl
  i31 := by kernel_rfl
  i40 := by kernel_rfl
  i46 := by kernel_rfl
  i49 := by kernel_rfl
  i51 := by kernel_rfl
  i141 := by kernel_rfl
  i152 := by kernel_rfl
  i154 := by kernel_rfl
  i193 := by kernel_rfl
  i194 := by kernel_rfl
  i196 := by kernel_rfl
  i198 := by kernel_rfl
  i201 := by kernel_rfl
  i226 := by kernel_rfl
  i227 := by kernel_rfl
  m0 := by kernel_rfl
  m6 := by kernel_rfl }
open Go.RowKit Go.Lib in
theorem Tryz.strings_Fields_laid (s : ByteArray) (w : World) (hs : s.size < 4294967281) (hascii : ∀ (j : Nat) b, s.data.toList[j]? = some b → b.toNat < 128) (htab : Lib.TabIs Tryz.prog w "strings.asciiSpace" .u8 Lib.asciiSpaceTab) :
    Calls Tryz.prog 112 #[.string s] w fun e w' =>
      e = .returned (.slice (some ⟨w.heap.size, 0, none⟩) (Lib.fields s.data.toList).length (Lib.fields s.data.toList).length) ∧ w' = w.alloc (.cells ((Lib.fields s.data.toList).map fun l => Value.string ⟨l.toArray⟩).toArray 9) := Any.strings_Fields_laid Tryz.laysM157 s w hs hascii htab
end Go.Proofs
end

section
namespace Go.Proofs.YtonbppofjlpklaaGreatDoor
open Go.Fw
variable [Gl]
set_option maxRecDepth 20000
set_option maxHeartbeats 4000000
def oC : Orc := fun f us => match f, us with
  | 112, [.str s] => if s.length < 4294967281 ∧ s.all (fun b => decide (b.toNat < 128)) = true then some (.fslice ((Lib.fields s).map V.str) (Lib.fields s).length) else none
  | 158, [.str s, .int .u8 c] => some (.int .i64 (Lib.indexByte s c.toNat.toUInt8))
  | _, _ => none
def hzC : FuncId → Nat → Bool := fun f r => match f, r with
  | 15, 1 => true
  | 6, 8 => true
  | _, _ => false
end Go.Proofs.YtonbppofjlpklaaGreatDoor
end

section
namespace Go.Proofs.YtonbppofjlpklaaGreatDoor
open Go.Fw
variable [Gl]
set_option maxRecDepth 20000
set_option maxHeartbeats 4000000
def oN : Orc := fun _ _ => none
def hzN : FuncId → Nat → Bool := fun _ _ => false
theorem oN_ok : OrcOk Tryz.prog oN := fun f us v h => by cases h
theorem k_41 : PTri Tryz.prog 41 [.nilslice, nI 1000, .clo 42 [], .clo 43 []] (nI 0) := PTri.closed (h' := []) (nx' := 0) oN_ok mixed hzN 1000 5 (by kernel_rfl) rfl rfl
theorem k_46 : PTri Tryz.prog 46 [.nilslice, nI 1000, .clo 44 [], .clo 47 []] (nI 0) := PTri.closed (h' := []) (nx' := 0) oN_ok mixed hzN 1000 5 (by kernel_rfl) rfl rfl
theorem k_50 : PTri Tryz.prog 50 [.nilslice, nI 1000, .clo 48 [], .clo 35 []] (nI 0) := PTri.closed (h' := []) (nx' := 0) oN_ok mixed hzN 1000 5 (by kernel_rfl) rfl rfl
theorem k_51 : PTri Tryz.prog 51 [.nilslice] (.bool false) := PTri.closed (h' := []) (nx' := 0) oN_ok mixed hzN 1000 5 (by kernel_rfl) rfl rfl
theorem k_54 : PTri Tryz.prog 54 [.nilslice, nI 1000, .clo 52 [], .clo 55 []] (nI 0) := PTri.closed (h' := []) (nx' := 0) oN_ok mixed hzN 1000 5 (by kernel_rfl) rfl rfl
theorem h_data (x : Xm) (h : okR x) : PTri Tryz.prog 22 [.agg [.nilslice, .nilslice, .nilslice, .nilslice, slV xmC [x]]] (nI (if vlX x = false then 1 else 0)) := by
  refine PTri.of_safe Tryz.func22 rfl Tryz.results22 Tryz.ntmps22 rfl ?_
  refine go 99 rfl ?_
  refine Safe.call (k_41) rfl rfl rfl ?_
  refine go 99 rfl ?_
  first | refine Safe.gsK true rfl rfl ?_ | refine Safe.gsK false rfl rfl ?_ | refine Safe.brT rfl rfl ?_ | refine Safe.brF rfl rfl ?_
  refine go 99 rfl ?_
  refine Safe.call (k_46) rfl rfl rfl ?_
  refine go 99 rfl ?_
  first | refine Safe.gsK true rfl rfl ?_ | refine Safe.gsK false rfl rfl ?_ | refine Safe.brT rfl rfl ?_ | refine Safe.brF rfl rfl ?_
  refine go 99 rfl ?_
  refine Safe.call (k_50) rfl rfl rfl ?_
  refine go 99 rfl ?_
  first | refine Safe.gsK true rfl rfl ?_ | refine Safe.gsK false rfl rfl ?_ | refine Safe.brT rfl rfl ?_ | refine Safe.brF rfl rfl ?_
  refine go 99 rfl ?_
  refine Safe.call (k_51) rfl rfl rfl ?_
  refine go 99 rfl ?_
  first | refine Safe.gsK true rfl rfl ?_ | refine Safe.gsK false rfl rfl ?_ | refine Safe.brT rfl rfl ?_ | refine Safe.brF rfl rfl ?_
  refine go 99 rfl ?_
  refine Safe.call (k_54) rfl rfl rfl ?_
  refine go 99 rfl ?_
  first | refine Safe.gsK true rfl rfl ?_ | refine Safe.gsK false rfl rfl ?_ | refine Safe.brT rfl rfl ?_ | refine Safe.brF rfl rfl ?_
  refine go 99 rfl ?_
  refine Safe.call (h_one x h) rfl rfl rfl ?_
  refine go 99 rfl ?_
  exact ⟨.inr rfl, trivial, .done (rfl) rfl⟩
theorem c_check (x : Xm) (h : okR x) : PTri Tryz.prog 9 [xmV x] (nI (if vlX x = false then 1 else 0)) := by
  refine PTri.of_safe Tryz.func9 rfl Tryz.results9 Tryz.ntmps9 rfl ?_
  refine go 99 rfl ?_
  refine Safe.frzO 1 rfl rfl ?_
  refine Safe.call (h_data x h) rfl rfl rfl ?_
  refine go 99 rfl ?_
  refine Safe.br rfl (fun c => ?_) (fun c => ?_)
  · have c1 : vlX x = false := by simpa using c
    refine go 99 rfl ?_
    exact ⟨.inr rfl, trivial, .done (nIeq (by rw [if_pos c1])) rfl⟩
  · have c1 : ¬ vlX x = false := by simpa using c
    refine go 99 rfl ?_
    exact ⟨.inr rfl, trivial, .done (nIeq (by rw [if_neg c1])) rfl⟩
end Go.Proofs.YtonbppofjlpklaaGreatDoor
end

section
namespace Go.Proofs.YtonbppofjlpklaaGreatDoor
open Go.Fw
variable [Gl]
set_option maxRecDepth 20000
set_option maxHeartbeats 4000000
theorem aw_run : eF Tryz.prog oC hzC 100000 30 6 [] [] 0 = some (.bool true, [], 240) := by kernel_rfl
end Go.Proofs.YtonbppofjlpklaaGreatDoor
end

section
namespace Go.Proofs.YtonbppofjlpklaaGreatDoor
open Go.Fw
variable [Gl]
set_option maxRecDepth 20000
set_option maxHeartbeats 4000000
theorem vrs_strs (F : Froz) (r : List By) : VRs F (r.map V.str) (r.map fun l => Value.string ⟨l.toArray⟩).toArray := by
  refine ⟨by simp, fun i v hv => ?_⟩
  rw [List.getElem?_map] at hv
  obtain ⟨b, hb, rfl⟩ := Option.map_eq_some_iff.1 hv
  have hi := (List.getElem?_eq_some_iff.1 hb)
  obtain ⟨hlt, he⟩ := hi
  simp only [Array.getD_eq_getD_getElem?, List.getElem?_toArray, List.getElem?_map, hb, Option.map_some, Option.getD_some]
  exact .str _
theorem PTri.of_alloc {P : Program} {f : FuncId} {us : List V} {r : List By} (C : World → Prop) (A : Array Value) (hargs : ∀ F av, VRs F us av → av = A) (hC : ∀ F w, Go.Fw.Own F [] w → C w)
    (h : ∀ w, C w → Calls P f A w fun e w' => e = .returned (.slice (some ⟨w.heap.size, 0, none⟩) r.length r.length) ∧ w' = w.alloc (.cells (r.map fun l => Value.string ⟨l.toArray⟩).toArray 9)) : Go.Fw.PTri P f us (.fslice (r.map V.str) r.length) := by
  intro F w av ho ha
  rw [hargs F av ha]
  refine callsIn_of ((h w (hC F w ho)).mono ?_)
  rintro e w' ⟨rfl, rfl⟩
  have hor := OR.new (T := 9) (vrs_strs F r)
  have ho1 := ho.push hor
  obtain ⟨F', o', tr, hv⟩ := own_freeze ho1 (b := w.heap.size) (T := 9) (cs := r.map V.str) (nn := (r.map V.str).length) (by simp [hget])
  have e1 : frzH w.heap.size (r.map V.str) (hdel [(w.heap.size, AObj.cells 9 (r.map V.str) (r.map V.str).length)] w.heap.size) = [] := by simp [hdel, frzH]
  rw [e1] at o' tr
  have hx := hv (.slice w.heap.size 0 r.length r.length) _ (.slice _ _ _ _ (Nat.le_refl _))
  simp only [frzV, if_true, List.drop_zero] at hx
  exact ⟨.fslice (r.map V.str) r.length, _, [], F', rfl, ⟨rfl, rfl⟩, o', hx, (Trans.push F [] w _ _).trans tr⟩
def GTab : Prop := ∀ F w, Go.Fw.Own F [] w → Lib.TabIs Tryz.prog w "strings.asciiSpace" .u8 Lib.asciiSpaceTab
theorem vrs_str1 {s : List UInt8} (F : Froz) (av : Array Value) (h : VRs F [.str s] av) : av = #[.string ⟨s.toArray⟩] := by
  have h0 := (h.2 0 _ rfl).str_inv
  have hs := h.1
  simp at hs
  obtain ⟨L⟩ := av
  match L, hs with
  | [x], _ => simp at h0; rw [h0]
theorem vrs_str8 {s : List UInt8} {c : Int} (F : Froz) (av : Array Value) (h : VRs F [.str s, .int .u8 c] av) : av = #[.string ⟨s.toArray⟩, .int .u8 c] := by
  have h0 := (h.2 0 _ rfl).str_inv
  have h1 := (h.2 1 _ rfl).int_inv
  have hs := h.1
  simp at hs
  obtain ⟨L⟩ := av
  match L, hs with
  | [x, y], _ => simp at h0 h1; rw [h0, h1]
theorem st_fields (hG : GTab) (s : By) (hs : s.length < 4294967281) (ha : ∀ b ∈ s, b.toNat < 128) : Go.Fw.PTri Tryz.prog 112 [.str s] (.fslice ((Lib.fields s).map V.str) (Lib.fields s).length) :=
  PTri.of_alloc (fun w => Lib.TabIs Tryz.prog w "strings.asciiSpace" .u8 Lib.asciiSpaceTab) _ (fun F av h => vrs_str1 F av h) (fun F w h => hG F w h)
    (fun w hw => Tryz.strings_Fields_laid ⟨s.toArray⟩ w (show s.toArray.size < 4294967281 by simpa using hs) (fun j b hb => ha b (List.mem_of_getElem? hb)) hw)
theorem ix_byte (s : By) (c : Int) : PTri Tryz.prog 158 [.str s, .int .u8 c] (.int .i64 (Lib.indexByte s c.toNat.toUInt8)) :=
  PTri.of_same _ _ (fun F av h => vrs_str8 F av h) (fun w => Tryz.stringslite_IndexByte _ _ w) (fun F => .int _ _)
theorem oC_ok (hG : GTab) : OrcOk Tryz.prog oC := by
  intro f us v h
  unfold oC at h
  split at h
  · rename_i s
    split at h
    · rename_i hc
      obtain rfl := Option.some.inj h
      refine ⟨by kernel_rfl, rfl, ?_, st_fields hG s hc.1 fun b hb => ?_⟩
      · simpa [dry] using dry_strs _
      · simpa using List.all_eq_true.1 hc.2 b hb
    · cases h
  · obtain rfl := Option.some.inj h
    exact ⟨by kernel_rfl, rfl, rfl, ix_byte _ _⟩
  · cases h
theorem c_awake (hG : GTab) : PTri Tryz.prog 6 [] (.bool true) := PTri.closed (oC_ok hG) mixed hzC 100000 30 aw_run rfl rfl
end Go.Proofs.YtonbppofjlpklaaGreatDoor
end

section
namespace Go.Proofs.YtonbppofjlpklaaGreatDoor
open Go.Fw
variable [Gl]
set_option maxRecDepth 20000
set_option maxHeartbeats 4000000
theorem check_law (hw : PTri Tryz.prog 6 [] (.bool true)) (a b : Xm) (ha : okR a) (hb : okR b) : PTri Tryz.prog 4 [xmV a, xmV b] (.bool true) := by
  refine PTri.of_safe Tryz.func4 rfl Tryz.results4 Tryz.ntmps4 rfl ?_
  refine go 99 rfl ?_
  refine Safe.call (g_lbs a.labels ha.1) rfl rfl rfl ?_
  refine go 99 rfl ?_
  refine Safe.cut1 (α := Unit) (fun _ => [(2, .ptr 0 0), (3, .ptr 1 0)]) (fun _ => [(1, .cells 24 (xmC b) 5), (0, .cells 24 (xmC a) 5)]) 2 (fun _ => True) ?_ ?_
  · refine Safe.gs rfl (fun c => ?_) (fun c => ?_)
    · refine go 99 rfl ?_
      refine Safe.call (hw) rfl rfl rfl ?_
      refine go 99 rfl ?_
      exact ⟨.inr rfl, trivial, .done (rfl) rfl⟩
    · refine go 99 rfl ?_
      refine Safe.call (g_lbs b.labels hb.1) rfl rfl rfl ?_
      refine go 99 rfl ?_
      refine Safe.br rfl (fun d => ?_) (fun d => ?_)
      · refine go 99 rfl ?_
        refine Safe.call (hw) rfl rfl rfl ?_
        refine go 99 rfl ?_
        exact ⟨.inr rfl, trivial, .done (rfl) rfl⟩
      · refine go 99 rfl ?_
        exact ⟨sgI 2, (), trivial, rfl, rfl, ⟨fit rfl, fit rfl, trivial⟩, ⟨_, .refl _, .refl _⟩, rfl⟩
  · rintro ⟨⟩ -
    refine Safe.frzC 0 rfl rfl ?_
    refine Safe.frzC 1 rfl rfl ?_
    refine go 99 rfl ?_
    refine Safe.drawP mixed [0, 1, 2, 3, 4, 5, 6, 7, 8, 9, 10, 11, 12, 13, 14, 15, 16, 17] [(true, true), (true, true), (true, true), (true, true), (true, true), (true, true), (true, true), (true, true), (true, true), (true, true), (true, true), (true, true), (true, true), (true, true), (true, true), (true, true), (true, true), (true, true)] (by kernel_rfl) ?_
    refine go 99 rfl ?_
    refine Safe.ldF (rfl) rfl rfl rfl ?_
    refine go 99 rfl ?_
    refine Safe.call (c_check a ha) rfl rfl rfl ?_
    refine go 99 rfl ?_
    refine Safe.ldF (rfl) rfl rfl rfl ?_
    refine go 99 rfl ?_
    refine Safe.call (r_checkX a ha) rfl rfl rfl ?_
    refine go 99 rfl ?_
    refine Safe.gs rfl (fun e => ?_) (fun e => ?_)
    · refine go 99 rfl ?_
      refine Safe.ldF (rfl) rfl rfl rfl ?_
      refine go 99 rfl ?_
      refine Safe.ldF (rfl) rfl rfl rfl ?_
      refine go 99 rfl ?_
      refine Safe.call (c_cmpX a b ha.1 hb.1) rfl rfl rfl ?_
      refine go 99 rfl ?_
      refine Safe.ldF (rfl) rfl rfl rfl ?_
      refine go 99 rfl ?_
      refine Safe.ldF (rfl) rfl rfl rfl ?_
      refine go 99 rfl ?_
      refine Safe.call (r_cmpXX a b ha.1 hb.1) rfl rfl rfl ?_
      refine go 99 rfl ?_
      refine Safe.gs rfl (fun f => ?_) (fun f => ?_)
      · refine go 99 rfl ?_
        refine Safe.call (hw) rfl rfl rfl ?_
        refine go 99 rfl ?_
        exact ⟨.inr rfl, trivial, .done (rfl) rfl⟩
      · exfalso
        simp at f
    · exfalso
      simp at e
theorem c_checkLaw (hG : GTab) (a b : Xm) (ha : okR a) (hb : okR b) : PTri Tryz.prog 4 [xmV a, xmV b] (.bool true) := check_law (c_awake hG) a b ha hb
end Go.Proofs.YtonbppofjlpklaaGreatDoor
end

section
namespace Go.Proofs.YtonbppofjlpklaaGreatDoor
open Go.Deep Go.ChangeShapes Go.WideShapes Go.ChangeAt Go.RowKit Go.Fw Go.ChangeMaps
section
variable {H : Type} {enc : TypeId × Value → H} {W : World} {base : Nat} {sp : Nat → Bool} {held : Bool}
abbrev strK (s : By) : List V := [.str s]
def RcAt (W : World) (vs : List V) (cs : List Value) (off : Nat) : Prop := ∀ i v, vs[i]? = some v → ∃ x, cs[off + i]? = some x ∧ VR (fun b => W.heap[b]?) v x
def Rc (W : World) (vs : List V) (cs : List Value) : Prop := cs.length = vs.length ∧ RcAt W vs cs 0
theorem RcAt.app {a b : List V} {cs : List Value} {off : Nat} (h1 : RcAt W a cs off) (h2 : RcAt W b cs (off + a.length)) : RcAt W (a ++ b) cs off := fun i v hv => by
  by_cases hi : i < a.length
  · rw [List.getElem?_append_left hi] at hv
    exact h1 i v hv
  · rw [List.getElem?_append_right (by omega)] at hv
    obtain ⟨x, hx, r⟩ := h2 _ v hv
    exact ⟨x, by rw [← hx]; congr 1; omega, r⟩
theorem RcAt.of {a : List V} {cs : List Value} {off n : Nat} (h : Rc W a ((cs.drop off).take n)) : RcAt W a cs off := fun i v hv => by
  obtain ⟨x, hx, r⟩ := h.2 i v hv
  rw [Nat.zero_add] at hx
  have hn : i < n := by
    have := (List.getElem?_eq_some_iff.1 hx).1
    simp at this; omega
  rw [List.getElem?_take_of_lt hn, List.getElem?_drop] at hx
  exact ⟨x, hx, r⟩
def RdT {H : Type} (enc : TypeId × Value → H) (W : World) (base : Nat) (sp : Nat → Bool) (held : Bool) (T : TypeId) (n : Nat) {α : Type} (e : α → List V) (ok : α → Prop) : Prop :=
  ∀ cs (x : DataW H × List MemPlace), DataW.trod enc Tryz.prog W base sp held n T cs = some x → Rows.uptoBulk x.1 ≤ 1048576 → ∃ a, Rc W (e a) cs ∧ ok a
theorem rc_one {v : V} {x : Value} (h : VR (fun b => W.heap[b]?) v x) : Rc W [v] [x] := ⟨rfl, fun i u hu => by
  cases i with
  | zero => simp at hu; subst hu; exact ⟨x, rfl, h⟩
  | succ i => simp at hu⟩
theorem rd_str {T n : Nat} (hT : Tryz.prog.underlying T = some .string) : RdT enc W base sp held T n strK (fun s => s.length ≤ big) := fun cs x h hb => by
  obtain ⟨s, rfl, rfl, _⟩ := DataW.trod_string hT h
  refine ⟨s.data.toList, rc_one (.str _), ?_⟩
  simp only [Rows.uptoBulk] at hb
  simp only [big]; omega
theorem rd_int {T n : Nat} {k : IntKind} (hT : Tryz.prog.underlying T = some (.int k)) : RdT enc W base sp held T n (fun z : Int => [V.int k z]) (fun _ => True) := fun cs x h hb => by
  obtain ⟨z, rfl, rfl, _⟩ := DataW.trod_int hT h
  exact ⟨z, rc_one (.int _ _), trivial⟩
theorem bulk_part {d : DataW H} : ∀ {l : List (DataW H)}, d ∈ l → Rows.uptoBulk d ≤ Rows.uptoBulkAll l
  | x :: r, h => by
    simp only [Rows.uptoBulkAll]
    rcases List.mem_cons.1 h with rfl | h
    · omega
    · have := bulk_part h; omega
theorem bulk_pos (d : DataW H) : 1 ≤ Rows.uptoBulk d := by
  cases d with
  | lit y => cases y <;> simp [Rows.uptoBulk]
  | _ => simp [Rows.uptoBulk]
theorem bulk_len : ∀ ls : List (DataW H), ls.length ≤ Rows.uptoBulkAll ls
  | [] => by simp [Rows.uptoBulkAll]
  | d :: r => by
    have := bulk_pos d
    have := bulk_len r
    simp only [Rows.uptoBulkAll, List.length_cons]; omega
theorem list_choose {α : Type} {p : Nat → α → Prop} : ∀ (n : Nat), (∀ i, i < n → ∃ a, p i a) → ∃ l : List α, l.length = n ∧ ∀ i (h : i < l.length), p i l[i]
  | 0, _ => ⟨[], rfl, fun i h => by simp at h⟩
  | n + 1, hp => by
    obtain ⟨l, hl, hi⟩ := list_choose n fun i h => hp i (by omega)
    obtain ⟨a, ha⟩ := hp n (by omega)
    refine ⟨l ++ [a], by simp [hl], fun i h => ?_⟩
    by_cases hil : i < l.length
    · rw [List.getElem_append_left hil]; exact hi i hil
    · have : i = l.length := by simp at h; omega
      subst this
      simp only [List.getElem_concat_length]
      rw [hl]; exact ha
theorem rd_slice {α : Type} {T e k n : Nat} {en : α → List V} {ok : α → Prop} (hT : Tryz.prog.underlying T = some (.slice e)) (hk : Tryz.prog.cellsOf e = k) (hlen : ∀ a, (en a).length = k) (he : ∀ m, m < n → RdT enc W base sp held e m en ok) :
    RdT enc W base sp held T n (fun l : List α => [slV en l]) (fun l => l.length ≤ big ∧ ∀ a ∈ l, ok a) := fun cs x h hb => by
  letI := glOf W
  rcases DataW.trod_slice hT h with ⟨rfl, rfl⟩ | ⟨a, len, cap, elems, rest, m, rfl, rfl, rfl, hbs, hl, hm, hlen', hel, -, -⟩
  · exact ⟨[], rc_one .fnil, by simp, fun a ha => by simp at ha⟩
  · simp only [Rows.uptoBulk] at hb
    obtain ⟨l, hll, hi⟩ := list_choose (α := α) (p := fun i x => ∃ cs', W.cells? base (a.add (i * k)) k = some cs' ∧ Rc W (en x) cs' ∧ ok x) len fun i hil => by
      have h1 := hel i hil
      rw [hk, List.getElem?_eq_getElem (by omega)] at h1
      obtain ⟨cs', h2, h3⟩ := Option.bind_eq_some_iff.1 h1
      have h4 := bulk_part (d := elems[i].1) (l := elems.map (·.1)) (List.mem_map_of_mem (List.getElem_mem _))
      obtain ⟨x, h5, h6⟩ := he m (by omega) cs' _ h3 (by omega)
      exact ⟨x, cs', h2, h5, h6⟩
    refine ⟨l, rc_one ?_, ?_, fun x hx => ?_⟩
    · have hcell : ∀ j r (hj : j < l.length), r < k → ∃ u, W.cell? (a.add (j * k + r)) = some u ∧ ∀ v, (en l[j])[r]? = some v → VR (fun b => W.heap[b]?) v u := fun j r hj hr => by
        obtain ⟨cs', h2, h5, _⟩ := hi j hj
        obtain ⟨_, hlc, hc⟩ := World.cells?_some h2
        have h7 := hc r hr
        rw [List.getElem?_eq_getElem (by omega), Go.Deep.add_add] at h7
        refine ⟨_, h7, fun v hv => ?_⟩
        obtain ⟨u, hu, q⟩ := h5.2 r v hv
        rw [Nat.zero_add, List.getElem?_eq_getElem (by omega), Option.some.injEq] at hu
        rw [hu]; exact q
      have := VR.fslice (F := fun b => W.heap[b]?) (cat en l) l.length a cap (fun i => (W.cell? (a.add i)).getD undef) (by omega) (fun i hil => ?_) (fun i v hv => ?_)
      · unfold slV; rw [← hll]; exact this
      · rw [cat_length hlen] at hil
        have hkp : 0 < k := Nat.pos_of_ne_zero fun e => by subst e; simp at hil
        have hj : i / k < l.length := Nat.div_lt_of_lt_mul (by rw [Nat.mul_comm]; exact hil)
        obtain ⟨u, hu, _⟩ := hcell (i / k) (i % k) hj (Nat.mod_lt _ hkp)
        have e1 : i / k * k + i % k = i := by rw [Nat.mul_comm]; exact Nat.div_add_mod i k
        rw [e1] at hu
        show W.cell? (a.add i) = _
        rw [hu]; rfl
      · have hil := (List.getElem?_eq_some_iff.1 hv).1
        rw [cat_length hlen] at hil
        have hkp : 0 < k := Nat.pos_of_ne_zero fun e => by subst e; simp at hil
        have hj : i / k < l.length := Nat.div_lt_of_lt_mul (by rw [Nat.mul_comm]; exact hil)
        obtain ⟨u, hu, hq⟩ := hcell (i / k) (i % k) hj (Nat.mod_lt _ hkp)
        have e1 : i / k * k + i % k = i := by rw [Nat.mul_comm]; exact Nat.div_add_mod i k
        rw [e1] at hu
        rw [hu]
        refine hq v ?_
        rw [← cat_get hlen hj (Nat.mod_lt _ hkp), e1, hv]
    · have := bulk_len (elems.map (·.1))
      rw [List.length_map] at this
      simp only [big]; omega
    · obtain ⟨i, hil, rfl⟩ := List.getElem_of_mem hx
      obtain ⟨_, _, _, h6⟩ := hi i hil
      exact h6
theorem rd_field {n i : Nat} {f : Field} {fs : Array Field} {xs : List (DataW H × List MemPlace)} {cs : List Value} {α : Type} {e : α → List V} {ok : α → Prop} (hf : ∀ (i : Nat) (f : Field), fs[i]? = some f → DataW.trod enc Tryz.prog W base sp held n f.type ((cs.drop f.offset).take (Tryz.prog.cellsOf f.type)) = xs[i]?) (hlen : xs.length = fs.size)
    (hb : Rows.uptoBulk (.agg (xs.map (·.1))) ≤ 1048576) (hi : fs[i]? = some f) (hr : RdT enc W base sp held f.type n e ok) : ∃ a, RcAt W (e a) cs f.offset ∧ ok a := by
  have h1 := hf i f hi
  have hlt : i < xs.length := by rw [hlen]; exact (Array.getElem?_eq_some_iff.1 hi).1
  rw [List.getElem?_eq_getElem hlt] at h1
  have h2 := bulk_part (d := xs[i].1) (l := xs.map (·.1)) (List.mem_map_of_mem (List.getElem_mem _))
  simp only [Rows.uptoBulk] at hb
  obtain ⟨a, ha, hok⟩ := hr _ _ h1 (by omega)
  exact ⟨a, .of ha, hok⟩
theorem band {a b : Bool} (h : a = true) (h2 : b = true) : (a && b) = true := by rw [h, h2]; rfl
theorem rd_lb {n : Nat} : RdT enc W base sp held 30 n lbC okLb := fun cs x h hb => by
  obtain ⟨xs, m, rfl, rfl, hl, hlen, hf⟩ := DataW.trod_struct Tryz.underlying30 h
  obtain ⟨a0, r0, o0⟩ := rd_field (i := 0) hf hlen hb rfl (rd_str Tryz.underlying9)
  obtain ⟨a1, r1, o1⟩ := rd_field (i := 1) hf hlen hb rfl (rd_str Tryz.underlying9)
  exact ⟨⟨a0, a1⟩, ⟨hl.trans (by kernel_rfl), r0.app r1⟩, o0, o1⟩
theorem rd_lbs {n : Nat} : RdT enc W base sp held 22 n (fun l : List Lb => [slV lbC l]) okLs := rd_slice (k := 2) Tryz.underlying22 (by kernel_rfl) (fun _ => rfl) fun m _ => rd_lb
end
end Go.Proofs.YtonbppofjlpklaaGreatDoor
end

section
namespace Go.Proofs.YtonbppofjlpklaaGreatDoor
open Go.Deep Go.ChangeShapes Go.WideShapes Go.ChangeAt Go.RowKit Go.Fw Go.ChangeMaps
theorem vrs_two {F : Froz} {a b : V} {x y : Value} (h1 : VR F a x) (h2 : VR F b y) : VRs F [a, b] #[x, y] := ⟨rfl, fun i v hv => by
  match i with
  | 0 => simp at hv; subst hv; simpa using h1
  | 1 => simp at hv; subst hv; simpa using h2
  | i + 2 => simp at hv⟩
theorem laidOut : laidOutB Tryz.prog = true := by kernel_rfl
theorem own : ownKnob Tryz.prog.godebug = none := by kernel_rfl
noncomputable def laidWorld (os : Os) : World :=
  let w0 := World.holding Tryz.prog os ⟨#[], #[], []⟩
  let put (h : Array Obj) (g : Nat) (cs : Array Value) : Array Obj := h.modify g fun
    | .cells _ t frozen => .cells cs t frozen
    | o => o
  let h0 := put w0.heap 3 (Go.Pinned.utf8FirstZ.map fun (z : Nat) => Value.int .u8 (z : Int)).toArray
  let h0 := put h0 4 #[.int .u8 128, .int .u8 191, .int .u8 160, .int .u8 191, .int .u8 128, .int .u8 159, .int .u8 144, .int .u8 191, .int .u8 128, .int .u8 143, .int .u8 0, .int .u8 0, .int .u8 0, .int .u8 0, .int .u8 0, .int .u8 0, .int .u8 0, .int .u8 0, .int .u8 0, .int .u8 0, .int .u8 0, .int .u8 0, .int .u8 0, .int .u8 0, .int .u8 0, .int .u8 0, .int .u8 0, .int .u8 0, .int .u8 0, .int .u8 0, .int .u8 0, .int .u8 0]
  let h1 := put h0 0 (Lib.asciiSpaceTab.map fun z => Value.int .u8 z).toArray
  let h2 := put h1 2 #[.pointer (some ⟨h1.size, 0, none⟩)]
  let h3 := h2.push (.cells #[.slice (some ⟨h1.size + 1, 0, none⟩) 7 7, .slice none 0 0, .int .i64 2] 268 (0, 0))
  let h4 := h3.push (.cells (([9, 13, 1, 32, 133, 101, 160, 5760, 5600, 8192, 8202, 1, 8232, 8233, 1, 8239, 8287, 48, 12288, 12288, 1] : List Int).map fun z => Value.int .u16 z).toArray 271 (0, 0))
  { w0 with heap := h4 }
abbrev laidL : List (String × DataW Unit) := [("unicode/utf8.acceptRanges", Rows.laid_unicode_utf8_acceptRanges), ("unicode.White_Space", Rows.laid_unicode_White_Space), ("strings.asciiSpace", Rows.laid_strings_asciiSpace), ("unicode/utf8.first", Rows.laid_unicode_utf8_first)]
theorem laid_met (os : Os) (args : Array Value) : laidMet Tryz.prog laidL ((laidWorld os).forCall (fun _ _ => 0) ⟨#[], args, []⟩).memory :=
  laidMet_of_run3 8 (by kernel_rfl) (by kernel_rfl) (by kernel_rfl)
theorem ascii_tab : (Rows.laid_strings_asciiSpace : DataW Unit) = Lib.tabData .u8 Lib.asciiSpaceTab := by kernel_rfl
theorem gtab_start {W : World} (h : laidMet Tryz.prog laidL W) : @GTab (glOf W) := by
  obtain ⟨ps, ⟨_, _, _, _, _, _, _, _, _, _, ⟨_, _, _, _, _, _, _, _, _, _, ⟨g', t', cs, fuel, p, q, hg', ht', hvar, hd, _, _⟩, _⟩, _⟩, _⟩ := h
  have hg : Tryz.prog.globalNamed "strings.asciiSpace" = some 0 := by kernel_rfl
  have hty : (Tryz.prog.globals[0]?).map (·.type) = some 207 := by kernel_rfl
  obtain rfl := Option.some.inj (hg.symm.trans hg')
  obtain rfl := Option.some.inj (hty.symm.trans ht')
  rw [ascii_tab] at hd
  have hc := Lib.cells_of_tab Tryz.underlying207 Tryz.underlying5 (by kernel_rfl) (by kernel_rfl) hd
  have hv : W.var? Tryz.prog "strings.asciiSpace" = some (Lib.asciiSpaceTab.map fun z => Value.int .u8 z).toArray := by rw [hvar, ← hc]
  letI := glOf W
  intro F w ho
  show w.var? Tryz.prog "strings.asciiSpace" = _
  unfold World.var? at hv ⊢
  rw [hg] at hv ⊢
  simp only [Option.bind_some] at hv ⊢
  cases hb : W.heap[0]? with
  | none => rw [hb] at hv; cases hv
  | some o =>
    have hF : F 0 = some o := ho.gl 0 o hb
    rw [ho.frz 0 o hF]
    rw [hb] at hv
    exact hv
section
variable {H : Type} {enc : TypeId × Value → H} {W : World} {base b0 : Nat} {r : Reach} {sp : Nat → Bool} {held : Bool} {v : Value} {d : DataW H} {p : List MemPlace}
theorem vr_of_rc {vs : List V} {cs : Array Value} (h : Rc W vs cs.toList) : VR (fun b => W.heap[b]?) (.agg vs) (.agg cs) := by
  letI := glOf W
  refine .agg _ _ (by simpa using h.1) fun i v hv => ?_
  obtain ⟨x, hx, q⟩ := h.2 i v hv
  rw [Nat.zero_add] at hx
  have : cs[i]? = some x := by simpa using hx
  rw [Array.getD_eq_getD_getElem?, this]; exact q
end
end Go.Proofs.YtonbppofjlpklaaGreatDoor
end

section
namespace Go.Proofs.YtonbppofjlpklaaGreatDoor
open Go.Deep Go.ChangeShapes Go.WideShapes Go.ChangeAt Go.RowKit Go.Fw Go.ChangeMaps
section
variable {H : Type} {enc : TypeId × Value → H} {W : World} {base : Nat} {sp : Nat → Bool} {held : Bool}
theorem rd_intR {T n : Nat} (hT : Tryz.prog.underlying T = some (.int .i64)) : RdT enc W base sp held T n (fun z : Int => [V.int .i64 z]) (fun z => -9223372036854775808 ≤ z ∧ z ≤ 9223372036854775807) := fun cs x h hb => by
  obtain ⟨z, rfl, rfl, hw⟩ := DataW.trod_int hT h
  refine ⟨z, rc_one (.int _ _), ?_⟩
  simp only [Lit.wf, Bool.and_eq_true, decide_eq_true_eq] at hw
  exact ⟨hw.1, hw.2⟩
theorem rd_x2 {n : Nat} : RdT enc W base sp held 24 n xmC okR := fun cs x h hb => by
  obtain ⟨xs, m, rfl, rfl, hl, hlen, hf⟩ := DataW.trod_struct Tryz.underlying24 h
  obtain ⟨a0, r0, o0⟩ := rd_field (i := 0) hf hlen hb rfl rd_lbs
  obtain ⟨a1, r1, o1⟩ := rd_field (i := 1) hf hlen hb rfl (rd_int Tryz.underlying3)
  obtain ⟨a2, r2, o2⟩ := rd_field (i := 2) hf hlen hb rfl (rd_int Tryz.underlying3)
  obtain ⟨a3, r3, o3⟩ := rd_field (i := 3) hf hlen hb rfl (rd_intR Tryz.underlying3)
  obtain ⟨a4, r4, o4⟩ := rd_field (i := 4) hf hlen hb rfl (rd_int Tryz.underlying3)
  exact ⟨⟨a0, a1, a2, a3, a4⟩, ⟨hl.trans (by kernel_rfl), r0.app (r1.app (r2.app (r3.app r4)))⟩, o0, o3⟩
end
section
variable {H : Type} {enc : TypeId × Value → H} {W : World} {base b0 : Nat} {r : Reach} {sp : Nat → Bool} {held : Bool} {v : Value} {d : DataW H} {p : List MemPlace}
set_option maxRecDepth 100000 in
theorem open_x2 (hval : Value.okWide Tryz.prog W r b0 24 v) (hd : DataW.Trod enc Tryz.prog W base sp held 24 v d p) (hb : Rows.uptoBulk d ≤ 1048576) : ∃ e : Xm, VR (fun b => W.heap[b]?) (xmV e) v ∧ okR e := by
  obtain ⟨cs, rfl, hsz⟩ := okWide_struct Tryz.underlying24 hval
  obtain ⟨fuel, hf⟩ := hd
  obtain ⟨e, he, ho⟩ := rd_x2 (n := fuel) _ (d, p) hf hb
  exact ⟨e, vr_of_rc he, ho⟩
end
end Go.Proofs.YtonbppofjlpklaaGreatDoor
end
