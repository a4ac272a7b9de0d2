/- A part of the proof: V57, V58, V59, V60, V61, V62, V25, V26, V27, V28, V29, V30, V37, V32, V33, V34, V35 -/
import Derived.Test.YtijfihbdcdkalaaGreatDoorPartB
set_option linter.all false
set_option linter.unusedSectionVars false
set_option linter.unusedVariables false
set_option linter.unusedSimpArgs false
section
namespace Go.Proofs.YtijfihbdcdkalaaGreatDoor
open Go.Fw
variable [Gl]
set_option maxRecDepth 20000
set_option maxHeartbeats 4000000
def kndZ (x : Knd) : List V := [.str x.name, .bool x.f.fn, .bool x.f.mt, .bool x.f.num, .bool x.f.txt, .bool x.f.ms, .bool x.f.pat, .bool x.f.st, .bool x.f.win, .bool x.f.nam, .bool x.f.wo, .nilslice, nI x.args, nI x.typ]
def kdV (x : Knd) : List V := match x.funcs with
  | [] => kndZ x
  | _ => kndC x
def kd1 : Knd := ⟨[110, 117, 109, 98, 101, 114], ⟨false, false, true, false, false, false, false, false, false, false⟩, [], 0, 1⟩
def kd2 : Knd := ⟨[119, 105, 110, 100, 111, 119], ⟨true, false, false, false, true, false, false, true, false, false⟩, [[108, 97, 115, 116], [99, 111, 117, 110, 116], [115, 117, 109], [109, 105, 110], [109, 97, 120], [97, 118, 103], [100, 101, 108, 116, 97], [105, 110, 99, 114, 101, 97, 115, 101], [114, 97, 116, 101], [113, 117, 97, 110, 116, 105, 108, 101], [104, 105, 115, 116, 113, 117, 97, 110, 116, 105, 108, 101]], 0, 2⟩
def kf2 : By := [108, 97, 115, 116, 32, 99, 111, 117, 110, 116, 32, 115, 117, 109, 32, 109, 105, 110, 32, 109, 97, 120, 32, 97, 118, 103, 32, 100, 101, 108, 116, 97, 32, 105, 110, 99, 114, 101, 97, 115, 101, 32, 114, 97, 116, 101, 32, 113, 117, 97, 110, 116, 105, 108, 101, 32, 104, 105, 115, 116, 113, 117, 97, 110, 116, 105, 108, 101]
theorem kf2_eq : Lib.fields kf2 = kd2.funcs := by kernel_rfl
theorem kf2_call (hG : GTab) : Go.Fw.PTri Tryz.prog 123 [.str kf2] (slV strC kd2.funcs) := by
  have := st_fields hG kf2 (by decide) (by decide)
  rwa [kf2_eq] at this
def kd3 : Knd := ⟨[108, 111, 103, 99, 111, 117, 110, 116], ⟨true, false, false, false, true, false, true, true, true, true⟩, [[108, 105, 110, 101, 115], [98, 121, 116, 101, 115], [117, 110, 119, 114, 97, 112]], 0, 2⟩
def kf3 : By := [108, 105, 110, 101, 115, 32, 98, 121, 116, 101, 115, 32, 117, 110, 119, 114, 97, 112]
theorem kf3_eq : Lib.fields kf3 = kd3.funcs := by kernel_rfl
theorem kf3_call (hG : GTab) : Go.Fw.PTri Tryz.prog 123 [.str kf3] (slV strC kd3.funcs) := by
  have := st_fields hG kf3 (by decide) (by decide)
  rwa [kf3_eq] at this
def kd4 : Knd := ⟨[116, 114, 97, 99, 101, 99, 111, 117, 110, 116], ⟨false, false, false, false, false, true, false, true, true, false⟩, [], 0, 2⟩
def kd5 : Knd := ⟨[102, 108, 97, 109, 101, 119, 101, 105, 103, 104, 116], ⟨false, false, false, true, true, false, false, true, true, true⟩, [], 0, 2⟩
def kd6 : Knd := ⟨[97, 103, 103, 114, 101, 103, 97, 116, 101], ⟨true, false, false, false, false, false, false, false, true, true⟩, [[115, 117, 109], [99, 111, 117, 110, 116], [109, 105, 110], [109, 97, 120], [97, 118, 103], [113, 117, 97, 110, 116, 105, 108, 101], [116, 111, 112], [100, 105, 115, 116, 105, 110, 99, 116], [115, 107, 101, 116, 99, 104]], 1, 2⟩
def kf6 : By := [115, 117, 109, 32, 99, 111, 117, 110, 116, 32, 109, 105, 110, 32, 109, 97, 120, 32, 97, 118, 103, 32, 113, 117, 97, 110, 116, 105, 108, 101, 32, 116, 111, 112, 32, 100, 105, 115, 116, 105, 110, 99, 116, 32, 115, 107, 101, 116, 99, 104]
theorem kf6_eq : Lib.fields kf6 = kd6.funcs := by kernel_rfl
theorem kf6_call (hG : GTab) : Go.Fw.PTri Tryz.prog 123 [.str kf6] (slV strC kd6.funcs) := by
  have := st_fields hG kf6 (by decide) (by decide)
  rwa [kf6_eq] at this
def kd7 : Knd := ⟨[98, 105, 110, 97, 114, 121], ⟨true, true, false, false, false, false, false, false, true, true⟩, [[43], [45], [42], [47], [61, 61], [33, 61], [60], [60, 61], [62], [62, 61]], 2, 0⟩
def kf7 : By := [43, 32, 45, 32, 42, 32, 47, 32, 61, 61, 32, 33, 61, 32, 60, 32, 60, 61, 32, 62, 32, 62, 61]
theorem kf7_eq : Lib.fields kf7 = kd7.funcs := by kernel_rfl
theorem kf7_call (hG : GTab) : Go.Fw.PTri Tryz.prog 123 [.str kf7] (slV strC kd7.funcs) := by
  have := st_fields hG kf7 (by decide) (by decide)
  rwa [kf7_eq] at this
def kd8 : Knd := ⟨[108, 111, 103, 115], ⟨false, false, false, false, true, false, true, true, false, false⟩, [], 0, 3⟩
def kd9 : Knd := ⟨[116, 114, 97, 99, 101, 115], ⟨false, false, false, false, false, true, false, true, false, false⟩, [], 0, 4⟩
def kd10 : Knd := ⟨[102, 108, 97, 109, 101], ⟨false, false, false, false, true, false, false, true, false, false⟩, [], 0, 5⟩
def kd11 : Knd := ⟨[101, 120, 101, 109, 112, 108, 97, 114, 116, 114, 97, 99, 101, 115], ⟨false, false, false, false, true, false, false, true, false, false⟩, [], 0, 4⟩
def kd12 : Knd := ⟨[108, 111, 103, 115, 111, 102], ⟨false, false, false, false, true, false, true, true, false, false⟩, [], 1, 3⟩
def kd13 : Knd := ⟨[118, 105, 101, 119], ⟨false, false, false, true, false, false, false, false, false, false⟩, [], 0, 0⟩
def kdL : List Knd := [kd1, kd2, kd3, kd4, kd5, kd6, kd7, kd8, kd9, kd10, kd11, kd12, kd13]
def kdEs (i : Nat) : List Knd → List (V × V)
  | [] => []
  | k :: r => (nI (i : Nat), .agg (kdV k)) :: kdEs (i + 1) r
def kdM (n : Nat) : List (V × V) := kdEs 1 (kdL.take n)
theorem kdTab (hG : GTab) : TriL Tryz.prog 82 [] [] 0 (fun v h nx => v = .map 0 ∧ h = [(0, .map (kdM 13))] ∧ nx = 1) := by
  refine TriL.of_safe Tryz.func82 rfl Tryz.results82 Tryz.ntmps82 rfl ?_
  refine go 5 rfl ?_
  refine Safe.mkMap rfl rfl ?_
  refine Safe.one (v := .agg (fldC kd1.f)) (by kernel_rfl) rfl ?_
  refine Safe.one (v := .agg (kdV kd1)) (by kernel_rfl) rfl ?_
  refine Safe.mapSet (es := kdM 0) (es' := kdM 1) (by kernel_rfl) (.inr rfl) rfl rfl rfl rfl (by kernel_rfl) rfl rfl (by kernel_rfl) rfl (by kernel_rfl) (by kernel_rfl) ?_
  refine Safe.one (v := .agg (fldC kd2.f)) (by kernel_rfl) rfl ?_
  refine Safe.call (kf2_call hG) rfl rfl rfl ?_
  refine Safe.one (v := .agg (kdV kd2)) (by kernel_rfl) rfl ?_
  refine Safe.mapSet (es := kdM 1) (es' := kdM 2) (by kernel_rfl) (.inr rfl) rfl rfl rfl rfl (by kernel_rfl) rfl rfl (by kernel_rfl) rfl (by kernel_rfl) (by kernel_rfl) ?_
  refine Safe.one (v := .agg (fldC kd3.f)) (by kernel_rfl) rfl ?_
  refine Safe.call (kf3_call hG) rfl rfl rfl ?_
  refine Safe.one (v := .agg (kdV kd3)) (by kernel_rfl) rfl ?_
  refine Safe.mapSet (es := kdM 2) (es' := kdM 3) (by kernel_rfl) (.inr rfl) rfl rfl rfl rfl (by kernel_rfl) rfl rfl (by kernel_rfl) rfl (by kernel_rfl) (by kernel_rfl) ?_
  refine Safe.one (v := .agg (fldC kd4.f)) (by kernel_rfl) rfl ?_
  refine Safe.one (v := .agg (kdV kd4)) (by kernel_rfl) rfl ?_
  refine Safe.mapSet (es := kdM 3) (es' := kdM 4) (by kernel_rfl) (.inr rfl) rfl rfl rfl rfl (by kernel_rfl) rfl rfl (by kernel_rfl) rfl (by kernel_rfl) (by kernel_rfl) ?_
  refine Safe.one (v := .agg (fldC kd5.f)) (by kernel_rfl) rfl ?_
  refine Safe.one (v := .agg (kdV kd5)) (by kernel_rfl) rfl ?_
  refine Safe.mapSet (es := kdM 4) (es' := kdM 5) (by kernel_rfl) (.inr rfl) rfl rfl rfl rfl (by kernel_rfl) rfl rfl (by kernel_rfl) rfl (by kernel_rfl) (by kernel_rfl) ?_
  refine Safe.one (v := .agg (fldC kd6.f)) (by kernel_rfl) rfl ?_
  refine Safe.call (kf6_call hG) rfl rfl rfl ?_
  refine Safe.one (v := .agg (kdV kd6)) (by kernel_rfl) rfl ?_
  refine Safe.mapSet (es := kdM 5) (es' := kdM 6) (by kernel_rfl) (.inr rfl) rfl rfl rfl rfl (by kernel_rfl) rfl rfl (by kernel_rfl) rfl (by kernel_rfl) (by kernel_rfl) ?_
  refine Safe.one (v := .agg (fldC kd7.f)) (by kernel_rfl) rfl ?_
  refine Safe.call (kf7_call hG) rfl rfl rfl ?_
  refine Safe.one (v := .agg (kdV kd7)) (by kernel_rfl) rfl ?_
  refine Safe.mapSet (es := kdM 6) (es' := kdM 7) (by kernel_rfl) (.inr rfl) rfl rfl rfl rfl (by kernel_rfl) rfl rfl (by kernel_rfl) rfl (by kernel_rfl) (by kernel_rfl) ?_
  refine Safe.one (v := .agg (fldC kd8.f)) (by kernel_rfl) rfl ?_
  refine Safe.one (v := .agg (kdV kd8)) (by kernel_rfl) rfl ?_
  refine Safe.mapSet (es := kdM 7) (es' := kdM 8) (by kernel_rfl) (.inr rfl) rfl rfl rfl rfl (by kernel_rfl) rfl rfl (by kernel_rfl) rfl (by kernel_rfl) (by kernel_rfl) ?_
  refine Safe.one (v := .agg (fldC kd9.f)) (by kernel_rfl) rfl ?_
  refine Safe.one (v := .agg (kdV kd9)) (by kernel_rfl) rfl ?_
  refine Safe.mapSet (es := kdM 8) (es' := kdM 9) (by kernel_rfl) (.inr rfl) rfl rfl rfl rfl (by kernel_rfl) rfl rfl (by kernel_rfl) rfl (by kernel_rfl) (by kernel_rfl) ?_
  refine Safe.one (v := .agg (fldC kd10.f)) (by kernel_rfl) rfl ?_
  refine Safe.one (v := .agg (kdV kd10)) (by kernel_rfl) rfl ?_
  refine Safe.mapSet (es := kdM 9) (es' := kdM 10) (by kernel_rfl) (.inr rfl) rfl rfl rfl rfl (by kernel_rfl) rfl rfl (by kernel_rfl) rfl (by kernel_rfl) (by kernel_rfl) ?_
  refine Safe.one (v := .agg (fldC kd11.f)) (by kernel_rfl) rfl ?_
  refine Safe.one (v := .agg (kdV kd11)) (by kernel_rfl) rfl ?_
  refine Safe.mapSet (es := kdM 10) (es' := kdM 11) (by kernel_rfl) (.inr rfl) rfl rfl rfl rfl (by kernel_rfl) rfl rfl (by kernel_rfl) rfl (by kernel_rfl) (by kernel_rfl) ?_
  refine Safe.one (v := .agg (fldC kd12.f)) (by kernel_rfl) rfl ?_
  refine Safe.one (v := .agg (kdV kd12)) (by kernel_rfl) rfl ?_
  refine Safe.mapSet (es := kdM 11) (es' := kdM 12) (by kernel_rfl) (.inr rfl) rfl rfl rfl rfl (by kernel_rfl) rfl rfl (by kernel_rfl) rfl (by kernel_rfl) (by kernel_rfl) ?_
  refine Safe.one (v := .agg (fldC kd13.f)) (by kernel_rfl) rfl ?_
  refine Safe.one (v := .agg (kdV kd13)) (by kernel_rfl) rfl ?_
  refine Safe.mapSet (es := kdM 12) (es' := kdM 13) (by kernel_rfl) (.inr rfl) rfl rfl rfl rfl (by kernel_rfl) rfl rfl (by kernel_rfl) rfl (by kernel_rfl) (by kernel_rfl) ?_
  refine go 99 rfl ?_
  exact ⟨.inr rfl, rfl, rfl, .done rfl ⟨rfl, rfl, rfl⟩⟩
end Go.Proofs.YtijfihbdcdkalaaGreatDoor
end

section
namespace Go.Proofs.YtijfihbdcdkalaaGreatDoor
open Go.Fw
variable [Gl]
set_option maxRecDepth 20000
set_option maxHeartbeats 4000000
def kdO (k : Int) : Option Knd := if 1 ≤ k ∧ k ≤ 13 then kdL[(k - 1).toNat]? else none
theorem kd_find (k : Int) : (∃ i x, kdO k = some x ∧ mix (nI k) (kdM 13) = some (some i) ∧ lkM (.agg (kndZ ⟨[], ⟨false, false, false, false, false, false, false, false, false, false⟩, [], 0, 0⟩)) true (kdM 13) (some i) = .tup [.agg (kdV x), .bool true]) ∨ (kdO k = none ∧ mix (nI k) (kdM 13) = some none) := by
  by_cases h : 1 ≤ k ∧ k ≤ 13
  · left
    obtain ⟨h1, h2⟩ := h
    have : k = 1 ∨ k = 2 ∨ k = 3 ∨ k = 4 ∨ k = 5 ∨ k = 6 ∨ k = 7 ∨ k = 8 ∨ k = 9 ∨ k = 10 ∨ k = 11 ∨ k = 12 ∨ k = 13 := by omega
    rcases this with rfl | rfl | rfl | rfl | rfl | rfl | rfl | rfl | rfl | rfl | rfl | rfl | rfl
    · exact ⟨0, kd1, rfl, rfl, rfl⟩
    · exact ⟨1, kd2, rfl, rfl, rfl⟩
    · exact ⟨2, kd3, rfl, rfl, rfl⟩
    · exact ⟨3, kd4, rfl, rfl, rfl⟩
    · exact ⟨4, kd5, rfl, rfl, rfl⟩
    · exact ⟨5, kd6, rfl, rfl, rfl⟩
    · exact ⟨6, kd7, rfl, rfl, rfl⟩
    · exact ⟨7, kd8, rfl, rfl, rfl⟩
    · exact ⟨8, kd9, rfl, rfl, rfl⟩
    · exact ⟨9, kd10, rfl, rfl, rfl⟩
    · exact ⟨10, kd11, rfl, rfl, rfl⟩
    · exact ⟨11, kd12, rfl, rfl, rfl⟩
    · exact ⟨12, kd13, rfl, rfl, rfl⟩
  · right
    refine ⟨by rw [kdO, if_neg h], ?_⟩
    have e : ∀ j : Nat, 1 ≤ j → j ≤ 13 → ∀ v es, mix (nI k) ((nI (j : Int), v) :: es) = (mix (nI k) es).map (Option.map (· + 1)) := fun j h1 h2 v es => by
      have : (k == (j : Int)) = false := by simp; omega
      simp only [mix, keyq, if_true, this]
    show mix (nI k) (kdEs 1 kdL) = some none
    simp only [kdL, kdEs]
    rw [e 1 (by decide) (by decide), e 2 (by decide) (by decide), e 3 (by decide) (by decide), e 4 (by decide) (by decide), e 5 (by decide) (by decide), e 6 (by decide) (by decide), e 7 (by decide) (by decide), e 8 (by decide) (by decide), e 9 (by decide) (by decide), e 10 (by decide) (by decide), e 11 (by decide) (by decide), e 12 (by decide) (by decide), e 13 (by decide) (by decide)]
    rfl
def kndW (x : Knd) (fv : V) : List V := [.str x.name, .bool x.f.fn, .bool x.f.mt, .bool x.f.num, .bool x.f.txt, .bool x.f.ms, .bool x.f.pat, .bool x.f.st, .bool x.f.win, .bool x.f.nam, .bool x.f.wo, fv, nI x.args, nI x.typ]
theorem kdV_W (x : Knd) : ∃ fv, kdV x = kndW x fv ∧ dryV1 fv = true ∧ (fv = .nilslice ∧ x.funcs = [] ∨ fv = slV strC x.funcs) := by
  unfold kdV
  split
  · rename_i h; exact ⟨.nilslice, rfl, rfl, .inl ⟨rfl, h⟩⟩
  · exact ⟨slV strC x.funcs, rfl, rfl, .inr rfl⟩
theorem alg_fieldsW (x : Knd) (fv : V) (hfv : fv = .nilslice ∧ x.funcs = [] ∨ fv = slV strC x.funcs) (e : Ex) : Go.Fw.PTri Tryz.prog 169 [.agg (kndW x fv), exV e] (.agg (fldC (fldOf x.f e.kind e.fn))) := by
  rcases hfv with ⟨rfl, _⟩ | rfl
  · show Go.Fw.PTri Tryz.prog 169 _ (.agg [.bool x.f.fn, .bool x.f.mt, .bool (numF e.kind e.fn x.f.num), .bool (txtF e.kind e.fn x.f.txt), .bool x.f.ms, .bool x.f.pat, .bool x.f.st, .bool x.f.win, .bool x.f.nam, .bool x.f.wo])
    refine PTri.of_safe Tryz.func169 rfl Tryz.results169 Tryz.ntmps169 rfl ?_
    refine go 99 rfl ?_
    repeat' (first | (refine Safe.gs rfl (fun a => ?_) (fun a => ?_) <;> refine go 99 rfl ?_) | (refine Safe.br rfl (fun a => ?_) (fun a => ?_) <;> refine go 99 rfl ?_))
    all_goals
      refine ⟨.inr rfl, trivial, .done (fldEq ?_ ?_) rfl⟩
    all_goals simp_all [numF, txtF]
  · exact alg_fieldsOf x e
variable {rx : By → Int}
def winB (e : Ex) : Prop := e.range < 1 ∨ 1099511627776 < e.range ∨ e.offset < 0 ∨ 1099511627776 < e.offset
instance (e : Ex) : Decidable (winB e) := by unfold winB; infer_instance
def anyF (x : Fld) : Bool := x.fn || (x.mt || (x.num || (x.txt || (x.ms || (x.pat || (x.st || (x.win || (x.nam || x.wo))))))))
def expX (rx : By → Int) (x : Knd) (e : Ex) : Int :=
  if x.f.fn = true ∧ (e.fn < 1 ∨ (x.funcs.length : Int) < e.fn) then 8
  else if anyF (butF (preF e) (fldOf x.f e.kind e.fn)) = true ∨ (e.args.length : Int) ≠ x.args then 1
  else if x.f.ms = true ∧ matsE rx e.ms ≠ 0 then matsE rx e.ms
  else if x.f.win = true ∧ winB e then 2
  else if numF e.kind e.fn x.f.num = true ∧ numE e ≠ 0 then numE e
  else if grpE e ≠ 0 then grpE e
  else if e.mtch < 0 ∨ 2 < e.mtch then 8
  else if stgsE rx e.stages ≠ 0 then stgsE rx e.stages
  else if x.f.pat = true ∧ patK rx e.pat ≠ 0 then patK rx e.pat
  else if txtF e.kind e.fn x.f.txt = true then txtA e else 0
def expA (rx : By → Int) (e : Ex) : Int := match kdO e.kind with
  | none => 8
  | some x => expX rx x e
abbrev kdH : Hp := [(0, .map (kdM 13))]
theorem kdM_dry : dryM (kdM 13) = true := by kernel_rfl
theorem tfl153 : tflds Tryz.prog 153 = some [(0, 4), (1, 4), (2, 4), (3, 4), (4, 4), (5, 4), (6, 4), (7, 4), (8, 4), (9, 4)] := by kernel_rfl
theorem fine153 (a : List V) : eqFine Tryz.prog 153 (.agg a) = true := by simp only [eqFine, tfl153]; rfl
theorem eq153 (f : Fld) : evEq Tryz.prog 8 153 (.agg (fldC f)) (.agg [.bool false, .bool false, .bool false, .bool false, .bool false, .bool false, .bool false, .bool false, .bool false, .bool false]) = some (!anyF f) := by
  obtain ⟨a0, a1, a2, a3, a4, a5, a6, a7, a8, a9⟩ := f
  have h : evEq Tryz.prog 8 153 (.agg (fldC ⟨a0, a1, a2, a3, a4, a5, a6, a7, a8, a9⟩)) (.agg [.bool false, .bool false, .bool false, .bool false, .bool false, .bool false, .bool false, .bool false, .bool false, .bool false]) = some (a0 == false && (a1 == false && (a2 == false && (a3 == false && (a4 == false && (a5 == false && (a6 == false && (a7 == false && (a8 == false && (a9 == false && true)))))))))) := by
    rw [evEq, tfl153]
    rfl
  rw [h]
  simp [anyF, Bool.not_or]
theorem anyEq {b : Bool} : V.bool ((!b) == false) = V.bool b := by cases b <;> rfl
theorem finK {rs : List ResultVar} {m : Fl} {h : Hp} {nx : Nat} {r r' : Int} (hrs : rs = [.tmp 4]) (h4 : lk m 4 = some (nI r)) (hsub : (relH (sgI 1) kdH).Sublist h) (hr : r' = r) : FinL 1 Tryz.prog rs (fun v h nx => v = nI r' ∧ h = kdH ∧ nx = 1) m h nx := by
  subst hrs hr
  exact .rel (m2 := [(4, nI r')]) (h2 := kdH) (nx2 := 1) (sgI 1) ⟨⟨fit h4, trivial⟩, ⟨_, .refl _, hsub⟩, rfl⟩ (.done rfl ⟨rfl, rfl, rfl⟩)
theorem sub2 {o1 o2 : Nat × AObj} : (relH (sgI 1) kdH).Sublist [o1, o2, (0, .map (kdM 13))] := subD (subD (subK rfl (renO_map kdM_dry) subN))
theorem sub4 {o1 o2 o3 : Nat × AObj} : (relH (sgI 1) kdH).Sublist [o1, o2, o3, (0, .map (kdM 13))] := subD (subD (subD (subK rfl (renO_map kdM_dry) subN)))
theorem alg_expr (H : AlgRx rx) (e : Ex) (ho : okE e) : TriL Tryz.prog 122 [exV e, .map 0] kdH 1 (fun v h nx => v = nI (expA rx e) ∧ h = kdH ∧ nx = 1) := by
  have ho' := ho
  rw [okE_eq] at ho'
  obtain ⟨o1, o2, o3, o4, o5, o6, o7⟩ := ho'
  refine TriL.of_safe Tryz.func122 rfl Tryz.results122 Tryz.ntmps122 rfl ?_
  refine go 99 rfl ?_
  rcases kd_find e.kind with ⟨i, x, hk, hm, hl⟩ | ⟨hk, hm⟩
  · have hE : expA rx e = expX rx x e := by rw [expA, hk]
    obtain ⟨fv, hfe, hfd, hfv⟩ := kdV_W x
    rcases hfv with ⟨rfl, hfn⟩ | rfl
    · have hfn' : (x.funcs.length : Int) = 0 := by rw [hfn]; rfl
      rw [hfe] at hl
      have hW : (kndW x (.nilslice)).all dryV1 = true := rfl
      have hX := expX.eq_1 rx x e
      rw [← hE] at hX
      refine Safe.lookup hm hl rfl rfl rfl rfl rfl rfl rfl rfl kdM_dry rfl rfl ?_
      refine go 99 rfl ?_
      first | refine Safe.gsK true rfl rfl ?_ | refine Safe.gsK false rfl rfl ?_ | refine Safe.brT rfl rfl ?_ | refine Safe.brF rfl rfl ?_
      refine go 99 rfl ?_
      refine Safe.cut1 (α := Unit) (fun _ => [(1, .map 0), (2, .ptr 1 0), (5, .ptr 2 0)]) (fun _ => [(2, .cells 155 (kndW x (.nilslice)) 14), (1, .cells 34 (exC e) 16), (0, .map (kdM 13))]) 3 (fun _ => ¬ (x.f.fn = true ∧ (e.fn < 1 ∨ (x.funcs.length : Int) < e.fn))) ?_ ?_
      · refine Safe.gs rfl (fun c => ?_) (fun c => ?_)
        · replace c : x.f.fn = true := c
          refine go 99 rfl ?_
          refine Safe.gs rfl (fun c2 => ?_) (fun c2 => ?_)
          · replace c2 : e.fn < 1 := of_decide_eq_true c2
            rw [if_pos ⟨c, .inl c2⟩] at hX
            refine go 99 rfl ?_
            exact ⟨.inr rfl, rfl, rfl, finK rfl rfl sub2 hX⟩
          · replace c2 : ¬ e.fn < 1 := of_decide_eq_false c2
            refine go 99 rfl ?_
            refine Safe.br rfl (fun c3 => ?_) (fun c3 => ?_)
            · have c4 : (x.funcs.length : Int) < e.fn := by have := of_decide_eq_true c3; omega
              rw [if_pos ⟨c, .inr c4⟩] at hX
              refine go 99 rfl ?_
              exact ⟨.inr rfl, rfl, rfl, finK rfl rfl sub2 hX⟩
            · have c4 : ¬ (x.funcs.length : Int) < e.fn := by have := of_decide_eq_false c3; omega
              refine go 99 rfl ?_
              exact ⟨sgI 3, (), fun h => h.2.elim c2 c4, rfl, rfl, ⟨fit rfl, fit rfl, fit rfl, trivial⟩, ⟨_, .refl _, subK rfl (renO_dry (dryL1_dry hW)) (subK rfl rfl (subK rfl (renO_map kdM_dry) subN))⟩, rfl⟩
        · replace c : x.f.fn = false := c
          refine go 99 rfl ?_
          exact ⟨sgI 3, (), fun h => by rw [c] at h; exact Bool.false_ne_true h.1, rfl, rfl, ⟨fit rfl, fit rfl, fit rfl, trivial⟩, ⟨_, .refl _, subK rfl (renO_dry (dryL1_dry hW)) (subK rfl rfl (subK rfl (renO_map kdM_dry) subN))⟩, rfl⟩
      · rintro - h1
        rw [if_neg h1] at hX
        refine go 99 rfl ?_
        refine Safe.call (alg_fieldsW x _ (.inl ⟨rfl, hfn⟩) e) rfl rfl rfl ?_
        refine go 99 rfl ?_
        refine Safe.drawP mixed [0, 1, 2, 3, 4, 5, 6, 7, 8, 9, 10, 11, 12, 13] [(true, true), (true, true), (true, true), (true, true), (true, true), (true, true), (true, true), (true, true), (true, true), (true, true), (true, true), (true, true), (true, true), (true, true)] (by kernel_rfl) ?_
        refine go 99 rfl ?_
        refine Safe.call (alg_present e) rfl rfl rfl ?_
        refine go 99 rfl ?_
        refine Safe.call (alg_but (preF e) (fldOf x.f e.kind e.fn)) rfl rfl rfl ?_
        refine go 99 rfl ?_
        refine Safe.cmpA (eq153 _) (fine153 _) rfl rfl rfl ?_
        refine Safe.eqv (anyEq) ?_
        refine go 99 rfl ?_
        refine Safe.cut1 (α := Unit) (fun _ => [(2, .ptr 1 0), (7, .ptr 2 0)]) (fun _ => [(2, .cells 153 (fldC (fldOf x.f e.kind e.fn)) 10), (1, .cells 34 (exC e) 16), (0, .map (kdM 13))]) 3 (fun _ => ¬ (anyF (butF (preF e) (fldOf x.f e.kind e.fn)) = true ∨ (e.args.length : Int) ≠ x.args)) ?_ ?_
        · refine Safe.gs rfl (fun c => ?_) (fun c => ?_)
          · replace c : anyF (butF (preF e) (fldOf x.f e.kind e.fn)) = true := c
            rw [if_pos (.inl c)] at hX
            refine go 99 rfl ?_
            exact ⟨.inr rfl, rfl, rfl, finK rfl rfl sub4 hX⟩
          · replace c : anyF (butF (preF e) (fldOf x.f e.kind e.fn)) = false := c
            refine go 99 rfl ?_
            refine Safe.br rfl (fun c2 => ?_) (fun c2 => ?_)
            · have c3 : (e.args.length : Int) ≠ x.args := by simpa using c2
              rw [if_pos (.inr c3)] at hX
              refine go 99 rfl ?_
              exact ⟨.inr rfl, rfl, rfl, finK rfl rfl sub4 hX⟩
            · have c3 : ¬ (e.args.length : Int) ≠ x.args := by simpa using c2
              refine go 99 rfl ?_
              exact ⟨[(0, 0), (1, 1), (2, 3)], (), fun h => h.elim (fun h => by rw [c] at h; cases h) c3, rfl, rfl, ⟨fit rfl, fit rfl, trivial⟩, ⟨_, .refl _, subK rfl rfl (subD (subK rfl rfl (subK rfl (renO_map kdM_dry) subN)))⟩, rfl⟩
        · rintro - h2
          rw [if_neg h2] at hX
          refine go 99 rfl ?_
          refine Safe.cut (α := Unit) (fun _ => [(2, .ptr 1 0), (7, .ptr 2 0)]) (fun _ => [(2, .cells 153 (fldC (fldOf x.f e.kind e.fn)) 10), (1, .cells 34 (exC e) 16), (0, .map (kdM 13))]) 3 (fun _ => ¬ (x.f.ms = true ∧ matsE rx e.ms ≠ 0)) ?_ ?_
          · refine Safe.br rfl (fun d => ?_) (fun d => ?_)
            · replace d : x.f.ms = true := d
              refine go 99 rfl ?_
              refine Safe.call (alg_mats H e.ms o1) rfl rfl rfl ?_
              refine go 99 rfl ?_
              refine Safe.br rfl (fun d2 => ?_) (fun d2 => ?_)
              · have d3 : matsE rx e.ms ≠ 0 := by simpa using d2
                rw [if_pos ⟨d, d3⟩] at hX
                refine go 99 rfl ?_
                exact ⟨.inr rfl, rfl, rfl, finK rfl rfl sub2 hX⟩
              · have d3 : ¬ matsE rx e.ms ≠ 0 := by simpa using d2
                refine go 99 rfl ?_
                exact ⟨sgI 3, (), fun h => d3 h.2, rfl, rfl, ⟨fit rfl, fit rfl, trivial⟩, ⟨_, .refl _, subK rfl rfl (subK rfl rfl (subK rfl (renO_map kdM_dry) subN))⟩, rfl⟩
            · replace d : x.f.ms = false := d
              refine go 99 rfl ?_
              exact ⟨sgI 3, (), fun h => by rw [d] at h; exact Bool.false_ne_true h.1, rfl, rfl, ⟨fit rfl, fit rfl, trivial⟩, ⟨_, .refl _, subK rfl rfl (subK rfl rfl (subK rfl (renO_map kdM_dry) subN))⟩, rfl⟩
          · rintro - hn
            rw [if_neg hn] at hX
            clear hn
            refine go 99 rfl ?_
            refine Safe.cut1 (α := Unit) (fun _ => [(2, .ptr 1 0), (7, .ptr 2 0)]) (fun _ => [(2, .cells 153 (fldC (fldOf x.f e.kind e.fn)) 10), (1, .cells 34 (exC e) 16), (0, .map (kdM 13))]) 3 (fun _ => ¬ (x.f.win = true ∧ winB e)) ?_ ?_
            · refine Safe.gs rfl (fun c => ?_) (fun c => ?_)
              · replace c : x.f.win = true := c
                refine go 99 rfl ?_
                repeat' (first | (refine Safe.gs rfl (fun a => ?_) (fun a => ?_) <;> refine go 99 rfl ?_) | (refine Safe.br rfl (fun a => ?_) (fun a => ?_) <;> refine go 99 rfl ?_))
                all_goals first
                  | (have hn : winB e := by (unfold winB; clear hX hE hl; simp only [decide_eq_true_eq, decide_eq_false_iff_not] at *; omega)
                     rw [if_pos ⟨c, hn⟩] at hX
                     exact ⟨.inr rfl, rfl, rfl, finK rfl rfl sub2 hX⟩)
                  | (have hn : ¬ winB e := by (unfold winB; clear hX hE hl; simp only [decide_eq_true_eq, decide_eq_false_iff_not] at *; omega)
                     exact ⟨sgI 3, (), fun h => hn h.2, rfl, rfl, ⟨fit rfl, fit rfl, trivial⟩, ⟨_, .refl _, subK rfl rfl (subK rfl rfl (subK rfl (renO_map kdM_dry) subN))⟩, rfl⟩)
              · replace c : x.f.win = false := c
                refine go 99 rfl ?_
                exact ⟨sgI 3, (), fun h => by rw [c] at h; exact Bool.false_ne_true h.1, rfl, rfl, ⟨fit rfl, fit rfl, trivial⟩, ⟨_, .refl _, subK rfl rfl (subK rfl rfl (subK rfl (renO_map kdM_dry) subN))⟩, rfl⟩
            · rintro - hn
              rw [if_neg hn] at hX
              clear hn
              refine go 99 rfl ?_
              refine Safe.cut (α := Unit) (fun _ => [(2, .ptr 1 0), (7, .ptr 2 0)]) (fun _ => [(2, .cells 153 (fldC (fldOf x.f e.kind e.fn)) 10), (1, .cells 34 (exC e) 16), (0, .map (kdM 13))]) 3 (fun _ => ¬ (numF e.kind e.fn x.f.num = true ∧ numE e ≠ 0)) ?_ ?_
              · refine Safe.br rfl (fun d => ?_) (fun d => ?_)
                · replace d : numF e.kind e.fn x.f.num = true := d
                  refine go 99 rfl ?_
                  refine Safe.call (alg_number e) rfl rfl rfl ?_
                  refine go 99 rfl ?_
                  refine Safe.br rfl (fun d2 => ?_) (fun d2 => ?_)
                  · have d3 : numE e ≠ 0 := by simpa using d2
                    rw [if_pos ⟨d, d3⟩] at hX
                    refine go 99 rfl ?_
                    exact ⟨.inr rfl, rfl, rfl, finK rfl rfl sub2 hX⟩
                  · have d3 : ¬ numE e ≠ 0 := by simpa using d2
                    refine go 99 rfl ?_
                    exact ⟨sgI 3, (), fun h => d3 h.2, rfl, rfl, ⟨fit rfl, fit rfl, trivial⟩, ⟨_, .refl _, subK rfl rfl (subK rfl rfl (subK rfl (renO_map kdM_dry) subN))⟩, rfl⟩
                · replace d : numF e.kind e.fn x.f.num = false := d
                  refine go 99 rfl ?_
                  exact ⟨sgI 3, (), fun h => by rw [d] at h; exact Bool.false_ne_true h.1, rfl, rfl, ⟨fit rfl, fit rfl, trivial⟩, ⟨_, .refl _, subK rfl rfl (subK rfl rfl (subK rfl (renO_map kdM_dry) subN))⟩, rfl⟩
              · rintro - hn
                rw [if_neg hn] at hX
                clear hn
                refine go 99 rfl ?_
                refine Safe.call (alg_names e.names (e.kind == 4) o2) rfl rfl rfl ?_
                refine go 99 rfl ?_
                refine Safe.br rfl (fun d => ?_) (fun d => ?_)
                · have d1 : grpE e ≠ 0 := by simpa [grpE] using d
                  rw [if_pos d1] at hX
                  refine go 99 rfl ?_
                  exact ⟨.inr rfl, rfl, rfl, finK rfl rfl sub2 hX⟩
                · have d1 : ¬ grpE e ≠ 0 := by simpa [grpE] using d
                  rw [if_neg d1] at hX
                  refine go 99 rfl ?_
                  refine Safe.cut1 (α := Unit) (fun _ => [(2, .ptr 1 0), (7, .ptr 2 0)]) (fun _ => [(2, .cells 153 (fldC (fldOf x.f e.kind e.fn)) 10), (1, .cells 34 (exC e) 16), (0, .map (kdM 13))]) 3 (fun _ => ¬ (e.mtch < 0 ∨ 2 < e.mtch)) ?_ ?_
                  · repeat' (first | (refine Safe.gs rfl (fun a => ?_) (fun a => ?_) <;> refine go 99 rfl ?_) | (refine Safe.br rfl (fun a => ?_) (fun a => ?_) <;> refine go 99 rfl ?_))
                    all_goals first
                      | (have hn : e.mtch < 0 ∨ 2 < e.mtch := by (clear hX hE hl; simp only [decide_eq_true_eq, decide_eq_false_iff_not] at *; omega)
                         rw [if_pos hn] at hX
                         exact ⟨.inr rfl, rfl, rfl, finK rfl rfl sub2 hX⟩)
                      | (have hn : ¬ (e.mtch < 0 ∨ 2 < e.mtch) := by (clear hX hE hl; simp only [decide_eq_true_eq, decide_eq_false_iff_not] at *; omega)
                         exact ⟨sgI 3, (), hn, rfl, rfl, ⟨fit rfl, fit rfl, trivial⟩, ⟨_, .refl _, subK rfl rfl (subK rfl rfl (subK rfl (renO_map kdM_dry) subN))⟩, rfl⟩)
                  · rintro - hn
                    rw [if_neg hn] at hX
                    clear hn
                    refine go 99 rfl ?_
                    refine Safe.call (alg_stgs H e.stages o3) rfl rfl rfl ?_
                    refine go 99 rfl ?_
                    refine Safe.br rfl (fun d => ?_) (fun d => ?_)
                    · have d1 : stgsE rx e.stages ≠ 0 := by simpa using d
                      rw [if_pos d1] at hX
                      refine go 99 rfl ?_
                      exact ⟨.inr rfl, rfl, rfl, finK rfl rfl sub2 hX⟩
                    · have d1 : ¬ stgsE rx e.stages ≠ 0 := by simpa using d
                      rw [if_neg d1] at hX
                      refine go 99 rfl ?_
                      refine Safe.cut (α := Unit) (fun _ => [(2, .ptr 1 0), (7, .ptr 2 0)]) (fun _ => [(2, .cells 153 (fldC (fldOf x.f e.kind e.fn)) 10), (1, .cells 34 (exC e) 16), (0, .map (kdM 13))]) 3 (fun _ => ¬ (x.f.pat = true ∧ patK rx e.pat ≠ 0)) ?_ ?_
                      · refine Safe.br rfl (fun d => ?_) (fun d => ?_)
                        · replace d : x.f.pat = true := d
                          refine go 99 rfl ?_
                          refine Safe.call (alg_patK H e.pat o4) rfl rfl rfl ?_
                          refine go 99 rfl ?_
                          refine Safe.br rfl (fun d2 => ?_) (fun d2 => ?_)
                          · have d3 : patK rx e.pat ≠ 0 := by simpa using d2
                            rw [if_pos ⟨d, d3⟩] at hX
                            refine go 99 rfl ?_
                            exact ⟨.inr rfl, rfl, rfl, finK rfl rfl sub2 hX⟩
                          · have d3 : ¬ patK rx e.pat ≠ 0 := by simpa using d2
                            refine go 99 rfl ?_
                            exact ⟨sgI 3, (), fun h => d3 h.2, rfl, rfl, ⟨fit rfl, fit rfl, trivial⟩, ⟨_, .refl _, subK rfl rfl (subK rfl rfl (subK rfl (renO_map kdM_dry) subN))⟩, rfl⟩
                        · replace d : x.f.pat = false := d
                          refine go 99 rfl ?_
                          exact ⟨sgI 3, (), fun h => by rw [d] at h; exact Bool.false_ne_true h.1, rfl, rfl, ⟨fit rfl, fit rfl, trivial⟩, ⟨_, .refl _, subK rfl rfl (subK rfl rfl (subK rfl (renO_map kdM_dry) subN))⟩, rfl⟩
                      · rintro - hn
                        rw [if_neg hn] at hX
                        clear hn
                        refine go 99 rfl ?_
                        refine Safe.br rfl (fun d => ?_) (fun d => ?_)
                        · replace d : txtF e.kind e.fn x.f.txt = true := d
                          rw [if_pos d] at hX
                          refine go 99 rfl ?_
                          refine Safe.call (alg_text e ho) rfl rfl rfl ?_
                          refine go 99 rfl ?_
                          exact ⟨.inr rfl, rfl, rfl, finK rfl rfl sub2 hX⟩
                        · replace d : txtF e.kind e.fn x.f.txt = false := d
                          rw [if_neg (by rw [d]; exact Bool.false_ne_true)] at hX
                          refine go 99 rfl ?_
                          exact ⟨.inr rfl, rfl, rfl, finK rfl rfl sub2 hX⟩
    · have hfn' : True := trivial
      rw [hfe] at hl
      have hW : (kndW x (slV strC x.funcs)).all dryV1 = true := rfl
      have hX := expX.eq_1 rx x e
      rw [← hE] at hX
      refine Safe.lookup hm hl rfl rfl rfl rfl rfl rfl rfl rfl kdM_dry rfl rfl ?_
      refine go 99 rfl ?_
      first | refine Safe.gsK true rfl rfl ?_ | refine Safe.gsK false rfl rfl ?_ | refine Safe.brT rfl rfl ?_ | refine Safe.brF rfl rfl ?_
      refine go 99 rfl ?_
      refine Safe.cut1 (α := Unit) (fun _ => [(1, .map 0), (2, .ptr 1 0), (5, .ptr 2 0)]) (fun _ => [(2, .cells 155 (kndW x (slV strC x.funcs)) 14), (1, .cells 34 (exC e) 16), (0, .map (kdM 13))]) 3 (fun _ => ¬ (x.f.fn = true ∧ (e.fn < 1 ∨ (x.funcs.length : Int) < e.fn))) ?_ ?_
      · refine Safe.gs rfl (fun c => ?_) (fun c => ?_)
        · replace c : x.f.fn = true := c
          refine go 99 rfl ?_
          refine Safe.gs rfl (fun c2 => ?_) (fun c2 => ?_)
          · replace c2 : e.fn < 1 := of_decide_eq_true c2
            rw [if_pos ⟨c, .inl c2⟩] at hX
            refine go 99 rfl ?_
            exact ⟨.inr rfl, rfl, rfl, finK rfl rfl sub2 hX⟩
          · replace c2 : ¬ e.fn < 1 := of_decide_eq_false c2
            refine go 99 rfl ?_
            refine Safe.br rfl (fun c3 => ?_) (fun c3 => ?_)
            · have c4 : (x.funcs.length : Int) < e.fn := by have := of_decide_eq_true c3; omega
              rw [if_pos ⟨c, .inr c4⟩] at hX
              refine go 99 rfl ?_
              exact ⟨.inr rfl, rfl, rfl, finK rfl rfl sub2 hX⟩
            · have c4 : ¬ (x.funcs.length : Int) < e.fn := by have := of_decide_eq_false c3; omega
              refine go 99 rfl ?_
              exact ⟨sgI 3, (), fun h => h.2.elim c2 c4, rfl, rfl, ⟨fit rfl, fit rfl, fit rfl, trivial⟩, ⟨_, .refl _, subK rfl (renO_dry (dryL1_dry hW)) (subK rfl rfl (subK rfl (renO_map kdM_dry) subN))⟩, rfl⟩
        · replace c : x.f.fn = false := c
          refine go 99 rfl ?_
          exact ⟨sgI 3, (), fun h => by rw [c] at h; exact Bool.false_ne_true h.1, rfl, rfl, ⟨fit rfl, fit rfl, fit rfl, trivial⟩, ⟨_, .refl _, subK rfl (renO_dry (dryL1_dry hW)) (subK rfl rfl (subK rfl (renO_map kdM_dry) subN))⟩, rfl⟩
      · rintro - h1
        rw [if_neg h1] at hX
        refine go 99 rfl ?_
        refine Safe.call (alg_fieldsW x _ (.inr rfl) e) rfl rfl rfl ?_
        refine go 99 rfl ?_
        refine Safe.drawP mixed [0, 1, 2, 3, 4, 5, 6, 7, 8, 9, 10, 11, 12, 13] [(true, true), (true, true), (true, true), (true, true), (true, true), (true, true), (true, true), (true, true), (true, true), (true, true), (true, true), (true, true), (true, true), (true, true)] (by kernel_rfl) ?_
        refine go 99 rfl ?_
        refine Safe.call (alg_present e) rfl rfl rfl ?_
        refine go 99 rfl ?_
        refine Safe.call (alg_but (preF e) (fldOf x.f e.kind e.fn)) rfl rfl rfl ?_
        refine go 99 rfl ?_
        refine Safe.cmpA (eq153 _) (fine153 _) rfl rfl rfl ?_
        refine Safe.eqv (anyEq) ?_
        refine go 99 rfl ?_
        refine Safe.cut1 (α := Unit) (fun _ => [(2, .ptr 1 0), (7, .ptr 2 0)]) (fun _ => [(2, .cells 153 (fldC (fldOf x.f e.kind e.fn)) 10), (1, .cells 34 (exC e) 16), (0, .map (kdM 13))]) 3 (fun _ => ¬ (anyF (butF (preF e) (fldOf x.f e.kind e.fn)) = true ∨ (e.args.length : Int) ≠ x.args)) ?_ ?_
        · refine Safe.gs rfl (fun c => ?_) (fun c => ?_)
          · replace c : anyF (butF (preF e) (fldOf x.f e.kind e.fn)) = true := c
            rw [if_pos (.inl c)] at hX
            refine go 99 rfl ?_
            exact ⟨.inr rfl, rfl, rfl, finK rfl rfl sub4 hX⟩
          · replace c : anyF (butF (preF e) (fldOf x.f e.kind e.fn)) = false := c
            refine go 99 rfl ?_
            refine Safe.br rfl (fun c2 => ?_) (fun c2 => ?_)
            · have c3 : (e.args.length : Int) ≠ x.args := by simpa using c2
              rw [if_pos (.inr c3)] at hX
              refine go 99 rfl ?_
              exact ⟨.inr rfl, rfl, rfl, finK rfl rfl sub4 hX⟩
            · have c3 : ¬ (e.args.length : Int) ≠ x.args := by simpa using c2
              refine go 99 rfl ?_
              exact ⟨[(0, 0), (1, 1), (2, 3)], (), fun h => h.elim (fun h => by rw [c] at h; cases h) c3, rfl, rfl, ⟨fit rfl, fit rfl, trivial⟩, ⟨_, .refl _, subK rfl rfl (subD (subK rfl rfl (subK rfl (renO_map kdM_dry) subN)))⟩, rfl⟩
        · rintro - h2
          rw [if_neg h2] at hX
          refine go 99 rfl ?_
          refine Safe.cut (α := Unit) (fun _ => [(2, .ptr 1 0), (7, .ptr 2 0)]) (fun _ => [(2, .cells 153 (fldC (fldOf x.f e.kind e.fn)) 10), (1, .cells 34 (exC e) 16), (0, .map (kdM 13))]) 3 (fun _ => ¬ (x.f.ms = true ∧ matsE rx e.ms ≠ 0)) ?_ ?_
          · refine Safe.br rfl (fun d => ?_) (fun d => ?_)
            · replace d : x.f.ms = true := d
              refine go 99 rfl ?_
              refine Safe.call (alg_mats H e.ms o1) rfl rfl rfl ?_
              refine go 99 rfl ?_
              refine Safe.br rfl (fun d2 => ?_) (fun d2 => ?_)
              · have d3 : matsE rx e.ms ≠ 0 := by simpa using d2
                rw [if_pos ⟨d, d3⟩] at hX
                refine go 99 rfl ?_
                exact ⟨.inr rfl, rfl, rfl, finK rfl rfl sub2 hX⟩
              · have d3 : ¬ matsE rx e.ms ≠ 0 := by simpa using d2
                refine go 99 rfl ?_
                exact ⟨sgI 3, (), fun h => d3 h.2, rfl, rfl, ⟨fit rfl, fit rfl, trivial⟩, ⟨_, .refl _, subK rfl rfl (subK rfl rfl (subK rfl (renO_map kdM_dry) subN))⟩, rfl⟩
            · replace d : x.f.ms = false := d
              refine go 99 rfl ?_
              exact ⟨sgI 3, (), fun h => by rw [d] at h; exact Bool.false_ne_true h.1, rfl, rfl, ⟨fit rfl, fit rfl, trivial⟩, ⟨_, .refl _, subK rfl rfl (subK rfl rfl (subK rfl (renO_map kdM_dry) subN))⟩, rfl⟩
          · rintro - hn
            rw [if_neg hn] at hX
            clear hn
            refine go 99 rfl ?_
            refine Safe.cut1 (α := Unit) (fun _ => [(2, .ptr 1 0), (7, .ptr 2 0)]) (fun _ => [(2, .cells 153 (fldC (fldOf x.f e.kind e.fn)) 10), (1, .cells 34 (exC e) 16), (0, .map (kdM 13))]) 3 (fun _ => ¬ (x.f.win = true ∧ winB e)) ?_ ?_
            · refine Safe.gs rfl (fun c => ?_) (fun c => ?_)
              · replace c : x.f.win = true := c
                refine go 99 rfl ?_
                repeat' (first | (refine Safe.gs rfl (fun a => ?_) (fun a => ?_) <;> refine go 99 rfl ?_) | (refine Safe.br rfl (fun a => ?_) (fun a => ?_) <;> refine go 99 rfl ?_))
                all_goals first
                  | (have hn : winB e := by (unfold winB; clear hX hE hl; simp only [decide_eq_true_eq, decide_eq_false_iff_not] at *; omega)
                     rw [if_pos ⟨c, hn⟩] at hX
                     exact ⟨.inr rfl, rfl, rfl, finK rfl rfl sub2 hX⟩)
                  | (have hn : ¬ winB e := by (unfold winB; clear hX hE hl; simp only [decide_eq_true_eq, decide_eq_false_iff_not] at *; omega)
                     exact ⟨sgI 3, (), fun h => hn h.2, rfl, rfl, ⟨fit rfl, fit rfl, trivial⟩, ⟨_, .refl _, subK rfl rfl (subK rfl rfl (subK rfl (renO_map kdM_dry) subN))⟩, rfl⟩)
              · replace c : x.f.win = false := c
                refine go 99 rfl ?_
                exact ⟨sgI 3, (), fun h => by rw [c] at h; exact Bool.false_ne_true h.1, rfl, rfl, ⟨fit rfl, fit rfl, trivial⟩, ⟨_, .refl _, subK rfl rfl (subK rfl rfl (subK rfl (renO_map kdM_dry) subN))⟩, rfl⟩
            · rintro - hn
              rw [if_neg hn] at hX
              clear hn
              refine go 99 rfl ?_
              refine Safe.cut (α := Unit) (fun _ => [(2, .ptr 1 0), (7, .ptr 2 0)]) (fun _ => [(2, .cells 153 (fldC (fldOf x.f e.kind e.fn)) 10), (1, .cells 34 (exC e) 16), (0, .map (kdM 13))]) 3 (fun _ => ¬ (numF e.kind e.fn x.f.num = true ∧ numE e ≠ 0)) ?_ ?_
              · refine Safe.br rfl (fun d => ?_) (fun d => ?_)
                · replace d : numF e.kind e.fn x.f.num = true := d
                  refine go 99 rfl ?_
                  refine Safe.call (alg_number e) rfl rfl rfl ?_
                  refine go 99 rfl ?_
                  refine Safe.br rfl (fun d2 => ?_) (fun d2 => ?_)
                  · have d3 : numE e ≠ 0 := by simpa using d2
                    rw [if_pos ⟨d, d3⟩] at hX
                    refine go 99 rfl ?_
                    exact ⟨.inr rfl, rfl, rfl, finK rfl rfl sub2 hX⟩
                  · have d3 : ¬ numE e ≠ 0 := by simpa using d2
                    refine go 99 rfl ?_
                    exact ⟨sgI 3, (), fun h => d3 h.2, rfl, rfl, ⟨fit rfl, fit rfl, trivial⟩, ⟨_, .refl _, subK rfl rfl (subK rfl rfl (subK rfl (renO_map kdM_dry) subN))⟩, rfl⟩
                · replace d : numF e.kind e.fn x.f.num = false := d
                  refine go 99 rfl ?_
                  exact ⟨sgI 3, (), fun h => by rw [d] at h; exact Bool.false_ne_true h.1, rfl, rfl, ⟨fit rfl, fit rfl, trivial⟩, ⟨_, .refl _, subK rfl rfl (subK rfl rfl (subK rfl (renO_map kdM_dry) subN))⟩, rfl⟩
              · rintro - hn
                rw [if_neg hn] at hX
                clear hn
                refine go 99 rfl ?_
                refine Safe.call (alg_names e.names (e.kind == 4) o2) rfl rfl rfl ?_
                refine go 99 rfl ?_
                refine Safe.br rfl (fun d => ?_) (fun d => ?_)
                · have d1 : grpE e ≠ 0 := by simpa [grpE] using d
                  rw [if_pos d1] at hX
                  refine go 99 rfl ?_
                  exact ⟨.inr rfl, rfl, rfl, finK rfl rfl sub2 hX⟩
                · have d1 : ¬ grpE e ≠ 0 := by simpa [grpE] using d
                  rw [if_neg d1] at hX
                  refine go 99 rfl ?_
                  refine Safe.cut1 (α := Unit) (fun _ => [(2, .ptr 1 0), (7, .ptr 2 0)]) (fun _ => [(2, .cells 153 (fldC (fldOf x.f e.kind e.fn)) 10), (1, .cells 34 (exC e) 16), (0, .map (kdM 13))]) 3 (fun _ => ¬ (e.mtch < 0 ∨ 2 < e.mtch)) ?_ ?_
                  · repeat' (first | (refine Safe.gs rfl (fun a => ?_) (fun a => ?_) <;> refine go 99 rfl ?_) | (refine Safe.br rfl (fun a => ?_) (fun a => ?_) <;> refine go 99 rfl ?_))
                    all_goals first
                      | (have hn : e.mtch < 0 ∨ 2 < e.mtch := by (clear hX hE hl; simp only [decide_eq_true_eq, decide_eq_false_iff_not] at *; omega)
                         rw [if_pos hn] at hX
                         exact ⟨.inr rfl, rfl, rfl, finK rfl rfl sub2 hX⟩)
                      | (have hn : ¬ (e.mtch < 0 ∨ 2 < e.mtch) := by (clear hX hE hl; simp only [decide_eq_true_eq, decide_eq_false_iff_not] at *; omega)
                         exact ⟨sgI 3, (), hn, rfl, rfl, ⟨fit rfl, fit rfl, trivial⟩, ⟨_, .refl _, subK rfl rfl (subK rfl rfl (subK rfl (renO_map kdM_dry) subN))⟩, rfl⟩)
                  · rintro - hn
                    rw [if_neg hn] at hX
                    clear hn
                    refine go 99 rfl ?_
                    refine Safe.call (alg_stgs H e.stages o3) rfl rfl rfl ?_
                    refine go 99 rfl ?_
                    refine Safe.br rfl (fun d => ?_) (fun d => ?_)
                    · have d1 : stgsE rx e.stages ≠ 0 := by simpa using d
                      rw [if_pos d1] at hX
                      refine go 99 rfl ?_
                      exact ⟨.inr rfl, rfl, rfl, finK rfl rfl sub2 hX⟩
                    · have d1 : ¬ stgsE rx e.stages ≠ 0 := by simpa using d
                      rw [if_neg d1] at hX
                      refine go 99 rfl ?_
                      refine Safe.cut (α := Unit) (fun _ => [(2, .ptr 1 0), (7, .ptr 2 0)]) (fun _ => [(2, .cells 153 (fldC (fldOf x.f e.kind e.fn)) 10), (1, .cells 34 (exC e) 16), (0, .map (kdM 13))]) 3 (fun _ => ¬ (x.f.pat = true ∧ patK rx e.pat ≠ 0)) ?_ ?_
                      · refine Safe.br rfl (fun d => ?_) (fun d => ?_)
                        · replace d : x.f.pat = true := d
                          refine go 99 rfl ?_
                          refine Safe.call (alg_patK H e.pat o4) rfl rfl rfl ?_
                          refine go 99 rfl ?_
                          refine Safe.br rfl (fun d2 => ?_) (fun d2 => ?_)
                          · have d3 : patK rx e.pat ≠ 0 := by simpa using d2
                            rw [if_pos ⟨d, d3⟩] at hX
                            refine go 99 rfl ?_
                            exact ⟨.inr rfl, rfl, rfl, finK rfl rfl sub2 hX⟩
                          · have d3 : ¬ patK rx e.pat ≠ 0 := by simpa using d2
                            refine go 99 rfl ?_
                            exact ⟨sgI 3, (), fun h => d3 h.2, rfl, rfl, ⟨fit rfl, fit rfl, trivial⟩, ⟨_, .refl _, subK rfl rfl (subK rfl rfl (subK rfl (renO_map kdM_dry) subN))⟩, rfl⟩
                        · replace d : x.f.pat = false := d
                          refine go 99 rfl ?_
                          exact ⟨sgI 3, (), fun h => by rw [d] at h; exact Bool.false_ne_true h.1, rfl, rfl, ⟨fit rfl, fit rfl, trivial⟩, ⟨_, .refl _, subK rfl rfl (subK rfl rfl (subK rfl (renO_map kdM_dry) subN))⟩, rfl⟩
                      · rintro - hn
                        rw [if_neg hn] at hX
                        clear hn
                        refine go 99 rfl ?_
                        refine Safe.br rfl (fun d => ?_) (fun d => ?_)
                        · replace d : txtF e.kind e.fn x.f.txt = true := d
                          rw [if_pos d] at hX
                          refine go 99 rfl ?_
                          refine Safe.call (alg_text e ho) rfl rfl rfl ?_
                          refine go 99 rfl ?_
                          exact ⟨.inr rfl, rfl, rfl, finK rfl rfl sub2 hX⟩
                        · replace d : txtF e.kind e.fn x.f.txt = false := d
                          rw [if_neg (by rw [d]; exact Bool.false_ne_true)] at hX
                          refine go 99 rfl ?_
                          exact ⟨.inr rfl, rfl, rfl, finK rfl rfl sub2 hX⟩
  · have hE : expA rx e = 8 := by rw [expA, hk]
    refine Safe.lookup hm rfl rfl rfl rfl rfl rfl rfl rfl rfl kdM_dry rfl rfl ?_
    refine go 99 rfl ?_
    first | refine Safe.gsK true rfl rfl ?_ | refine Safe.gsK false rfl rfl ?_ | refine Safe.brT rfl rfl ?_ | refine Safe.brF rfl rfl ?_
    refine go 99 rfl ?_
    exact ⟨.inr rfl, rfl, rfl, finK rfl rfl sub2 hE⟩
end Go.Proofs.YtijfihbdcdkalaaGreatDoor
end

section
namespace Go.Proofs.YtijfihbdcdkalaaGreatDoor
open Go.Fw
variable [Gl]
set_option maxRecDepth 20000
set_option maxHeartbeats 4000000
variable {rx : By → Int}
mutual
def allA (rx : By → Int) : Ex → Int
  | ⟨k, fn, ms, rg, off, num, den, names, wo, mt, st, pat, tx, l⟩ =>
    if expA rx ⟨k, fn, ms, rg, off, num, den, names, wo, mt, st, pat, tx, l⟩ ≠ 0 then expA rx ⟨k, fn, ms, rg, off, num, den, names, wo, mt, st, pat, tx, l⟩ else allAs rx l
def allAs (rx : By → Int) : List Ex → Int
  | [] => 0
  | a :: r => if allA rx a ≠ 0 then allA rx a else allAs rx r
end
theorem allAs_errG (rx : By → Int) : ∀ l : List Ex, allAs rx l = errG (allA rx) l
  | [] => rfl
  | a :: r => by simp only [allAs, errG, allAs_errG rx r]
theorem allA_eq (rx : By → Int) (e : Ex) : allA rx e = if expA rx e ≠ 0 then expA rx e else errG (allA rx) e.args := by
  rw [← allAs_errG]; cases e; rfl
theorem sub0 {h : Hp} : (relH (sgI 1) kdH).Sublist ((0, .map (kdM 13)) :: h) := subK rfl (renO_map kdM_dry) subN
theorem alg_all (H : AlgRx rx) : ∀ (k : Nat) (e : Ex), depE e ≤ k → okE e → TriL Tryz.prog 81 [exV e, .map 0] kdH 1 (fun v h nx => v = nI (allA rx e) ∧ h = kdH ∧ nx = 1) := by
  intro k
  induction k with
  | zero => intro e hb _; rw [depE_eq] at hb; omega
  | succ k ih =>
    intro e hb ho
    rw [depE_eq] at hb
    have ho' := ho
    rw [okE_eq] at ho'
    obtain ⟨_, _, _, _, _, hl, hos⟩ := ho'
    simp only [big] at hl
    have hE := allA_eq rx e
    refine TriL.of_safe Tryz.func81 rfl Tryz.results81 Tryz.ntmps81 rfl ?_
    refine go 99 rfl ?_
    refine Safe.callL (rest := [(1, .cells 34 (exC e) 16)]) (sgI 1) (alg_expr H e ho) rfl (by simp only [renL, dry_ren _ (show dry (exV e) = true from rfl)]; rfl) rfl rfl (.swap _ _ _) (fun v h' nx' q => ?_)
    obtain ⟨rfl, rfl, rfl⟩ := q
    refine go 99 rfl ?_
    refine Safe.br rfl (fun c => ?_) (fun c => ?_)
    · rw [if_pos (by simpa using c)] at hE
      refine go 99 rfl ?_
      exact ⟨.inr rfl, rfl, rfl, finK rfl rfl sub0 hE⟩
    · rw [if_neg (by simpa using c)] at hE
      refine go 99 rfl ?_
      refine Safe.loop (α := Nat) (fun i => [(1, .map 0), (16, slV exL e.args), (17, nI e.args.length), (18, nI i)]) (fun i => kdH) 1 (fun i => e.args.length - i) (fun i => i ≤ e.args.length ∧ allA rx e = errG (allA rx) (e.args.drop i)) 0 (sgI 1) ⟨⟨fit rfl, fit rfl, fit rfl, fit rfl, trivial⟩, ⟨_, .refl _, sub0⟩, rfl⟩ ⟨Nat.zero_le _, hE⟩ ?_
      rintro i ⟨hi, ha⟩
      refine go 99 rfl ?_
      refine Safe.br rfl (fun c1 => ?_) (fun c1 => ?_)
      · have hi : i < e.args.length := ltc c1
        refine go 99 rfl ?_
        refine Safe.idxF hi rfl rfl rfl ?_
        refine Safe.ldF (ldEx hi) rfl rfl rfl ?_
        refine go 99 rfl ?_
        refine Safe.callL (rest := [(1, .cells 34 (exC e.args[i]) 16)]) (sgI 1) (ih e.args[i] (by have := depEs_mem hi; omega) (okEs_get hos hi)) rfl (by simp only [renL, dry_ren _ (show dry (exV e.args[i]) = true from rfl)]; rfl) rfl rfl (.swap _ _ _) (fun v h' nx' q => ?_)
        obtain ⟨rfl, rfl, rfl⟩ := q
        refine go 99 rfl ?_
        refine Safe.br rfl (fun d => ?_) (fun d => ?_)
        · refine go 99 rfl ?_
          exact ⟨.inr rfl, rfl, rfl, finK rfl rfl sub0 ((errS ha hi).1 (by simpa using d))⟩
        · refine go 99 rfl ?_
          exact ⟨sgI 1, i + 1, ⟨hi, (errS ha hi).2 (by simpa using d)⟩, mlt hi, rfl, rfl, ⟨fit rfl, fit rfl, fit rfl, fit (isucc (by omega)), trivial⟩, ⟨_, .refl _, sub0⟩, rfl⟩
      · have hi2 : i = e.args.length := Nat.le_antisymm hi (gec c1)
        subst hi2
        rw [List.drop_length] at ha
        refine go 99 rfl ?_
        exact ⟨.inr rfl, rfl, rfl, finK rfl rfl (subK rfl (renO_map kdM_dry) subN) ha⟩
end Go.Proofs.YtijfihbdcdkalaaGreatDoor
end

section
namespace Go.Proofs.YtijfihbdcdkalaaGreatDoor
open Go.Fw
variable [Gl]
set_option maxRecDepth 20000
set_option maxHeartbeats 4000000
variable {rx : By → Int}
section
variable {P : Program} {ρr : Option Nat} {n nb : Nat} {Q : LPo} {arr : Array Oper} {o : Oper} {os : List Oper} {κ : List Kt} {kn : Kn} {m : Fl} {h hf : Hp} {nx : Nat} {dl : List Nat}
theorem renT_dry {m : Fl} (hd : m.all (fun p => dry p.2) = true) (ρ ρ' : Nat → Option Nat) : renT ρ m = renT ρ' m := by
  funext i
  induction m with
  | nil => rfl
  | cons p r ih =>
    simp only [List.all_cons, Bool.and_eq_true] at hd
    have h2 := ih hd.2
    simp only [renT, lk] at h2 ⊢
    cases Nat.beq i p.1 with
    | true => simp only [cond_true, Option.map_some, dry_ren _ hd.1]
    | false => simp only [cond_false]; exact h2
theorem callMapD {d : Nat} {f : FuncId} {es : List (V × V)} {j : Ord} {c : Bool × Bool} {ck : List (Bool × Bool)} (hp : TriL P f [] [] 0 (fun v h nx => v = .map 0 ∧ h = [(0, .map es)] ∧ nx = 1)) (hes : dryM es = true) (hon : only arr j = true) (hc : callee? m o = some (f, [])) (hr : rdyO arr kn m n o = some d) (hgo : isGo P f = true) (hd : m.all (fun p => dry p.2) = true)
    (hs : Go.Fw.Safe nb P ρr n Q (.ops arr (.at_ (nxO j) ck) os κ ((d, none) :: kn) ((d, .map nx) :: m) [(nx, .map es)] (nx + 1) [] dl)) : Go.Fw.Safe nb P ρr n Q (.ops arr (.at_ j (c :: ck)) (o :: os) κ kn m [] nx [] dl) := by
  refine Safe.effD hon hr fun ρ hg hn ht => ?_
  obtain ⟨cc, fo, caps, bs, hop, hfo, he, hb, hab⟩ := callee?_inv hc
  obtain ⟨rfl, rfl⟩ := List.append_eq_nil_iff.1 hab.symm
  have ha : cc.args.toList = [] := by
    cases hl : cc.args.toList with
    | nil => rfl
    | cons x l =>
      rw [hl] at hb
      simp only [evXs] at hb
      split at hb
      · split at hb <;> cases hb
      · cases hb
  refine OpS.call (caps := []) (g := f) hop hfo ?_ (show evOs _ _ = some [] by rw [ha]; rfl) (CallS.of_tri hgo ?_)
  · rw [evO_rs (by simp [hop, Op.operands, Call.operands, hfo]), evX_ren he]; rfl
  · have t := hp (fun _ => none) ⟨fun _ _ => rfl, fun p hp => by simp at hp, Nat.le_refl _⟩
    refine Tri.mono t ?_
    rintro v h' ⟨ρ1, v0, h0, nx', a, g, rfl, rfl, rfl, rfl, rfl⟩
    obtain ⟨b, hb1⟩ := Option.isSome_iff_exists.1 (g.keys (0, .map es) (by simp))
    refine ⟨⟨fun k => if k = nx then some b else ρ k, .map nx, [(nx, .map es)], nx + 1, ?_, ⟨?_, ?_, ?_⟩, ?_, ?_, ?_, ?_, ?_, renT_dry hd _ _, hs⟩, fun hcalm => ?_⟩
    · intro k hk
      have := hg.base
      show (if k = nx then some b else ρ k) = ρ k
      rw [if_neg (by omega)]
    · intro k hk
      show (if k = nx then some b else ρ k) = none
      rw [if_neg (by omega)]
      exact hg.fresh k (by omega)
    · intro p hp
      simp only [List.mem_singleton] at hp
      subst hp
      simp
    · have := hg.base; omega
    · simp [renV, hb1, rex]
    · exact ⟨b, by simp⟩
    · simp only [renH, List.map_cons, List.map_nil, List.append_nil, renO_map hes]
      simp [ky, hb1]
    · simp [renH, Hp.ns]
    · intro k c hk
      show (if k = nx then some b else ρ k) = some c
      split
      · rename_i h1
        subst h1
        rw [hg.fresh k (Nat.le_refl _)] at hk; cases hk
      · exact hk
    · exfalso
      simp only [calm, hop, hfo] at hcalm
      cases hcalm
end
def chkA (rx : By → Int) (e : Ex) : Int := if 100 < szE e then 4 else if 12 < depE e then 30 else allA rx e
theorem perm_kd : (relH [(0, 1)] kdH ++ []).Perm [(1, .map (kdM 13))] := by
  have h : relH [(0, 1)] kdH = [(1, .map (kdM 13))] := by
    simp only [kdH, relH]
    show [(1, renO _ (.map (kdM 13)))] = _
    rw [renO_map kdM_dry]
  rw [h]; exact .refl _
theorem alg_chk (hG : GTab) (H : AlgRx rx) (e : Ex) (ho : okE e) : Go.Fw.PTri Tryz.prog 40 [exV e] (nI (chkA rx e)) := by
  refine PTri.of_safe Tryz.func40 rfl Tryz.results40 Tryz.ntmps40 rfl ?_
  refine go 99 rfl ?_
  refine Safe.call (alg_size e ho) rfl rfl rfl ?_
  refine go 99 rfl ?_
  refine Safe.br rfl (fun a => ?_) (fun a => ?_)
  · have a1 : 100 < min (szE e) 101 := ltc a
    refine go 99 rfl ?_
    exact ⟨.inr rfl, trivial, .done (nIeq (by simp only [chkA]; rw [if_pos (by omega)])) rfl⟩
  · have a1 : min (szE e) 101 ≤ 100 := gec a
    have hd := depE_sz e
    refine go 99 rfl ?_
    refine Safe.call (alg_depE _ e (Nat.le_refl _) (by omega) ho) rfl rfl rfl ?_
    refine go 99 rfl ?_
    refine Safe.br rfl (fun b => ?_) (fun b => ?_)
    · have b1 : 12 < depE e := ltc b
      refine go 99 rfl ?_
      exact ⟨.inr rfl, trivial, .done (nIeq (by simp only [chkA]; rw [if_neg (by omega), if_pos b1])) rfl⟩
    · have b1 : depE e ≤ 12 := gec b
      refine go 99 rfl ?_
      refine Safe.frzC 0 rfl rfl ?_
      refine Safe.drawP mixed [0, 1, 2, 3] [(true, false), (true, true), (true, true), (true, true)] (by kernel_rfl) ?_
      refine go 99 rfl ?_
      refine Safe.ldF (rfl) rfl rfl rfl ?_
      refine callMapD (kdTab hG) kdM_dry (by kernel_rfl) rfl rfl rfl rfl ?_
      refine Safe.tail (by kernel_rfl) ?_
      refine go 99 rfl ?_
      refine Safe.callL (rest := []) [(0, 1)] (alg_all H _ e (Nat.le_refl _) ho) rfl (by simp only [renL, dry_ren _ (show dry (exV e) = true from rfl)]; rfl) rfl rfl perm_kd (fun v h' nx' q => ?_)
      obtain ⟨rfl, rfl, rfl⟩ := q
      refine go 99 rfl ?_
      exact ⟨.inr rfl, trivial, .done (nIeq (by simp only [chkA]; rw [if_neg (by omega), if_neg (by omega)])) rfl⟩
end Go.Proofs.YtijfihbdcdkalaaGreatDoor
end

section
namespace Go.Proofs.YtijfihbdcdkalaaGreatDoor
open Go.Fw
variable [Gl]
set_option maxRecDepth 20000
set_option maxHeartbeats 4000000
variable {rx : By → Int}
structure KR (x : Knd) (k f : Int) : Prop where
  ms : hM k = x.f.ms
  st : hS k = x.f.st
  pat : hP k = x.f.pat
  win : hW k = x.f.win
  num : hN k f = numF k f x.f.num
  nam : hG k = x.f.nam
  wo : hO k = x.f.wo
  mt : hB k = x.f.mt
  txt : hT k f = txtF k f x.f.txt
  args : hA k = x.args
theorem kr_of {k f : Int} {x : Knd} (h : kdO k = some x) (hf : x.f.fn = true → 1 ≤ f ∧ f ≤ x.funcs.length) : KR x k f ∧ (nF k = if x.f.fn = true then x.funcs.length + 1 else 0) := by
  have hk : 1 ≤ k ∧ k ≤ 13 := by
    unfold kdO at h
    split at h
    · assumption
    · cases h
  rcases kinds13 hk with rfl | rfl | rfl | rfl | rfl | rfl | rfl | rfl | rfl | rfl | rfl | rfl | rfl
  case inr.inl =>
    obtain rfl : kd2 = x := Option.some.inj h
    have := hf rfl
    have h11 : f ≤ 11 := this.2
    refine ⟨⟨rfl, rfl, rfl, rfl, ?_, rfl, rfl, rfl, rfl, rfl⟩, rfl⟩
    show (false || (true && decide (10 ≤ f)) || _) = _
    rw [Bool.eq_iff_iff]
    simp [numF]
    omega
  all_goals
    obtain rfl := Option.some.inj h
    refine ⟨⟨rfl, rfl, rfl, rfl, ?_, rfl, rfl, rfl, ?_, rfl⟩, rfl⟩
  all_goals first
    | rfl
    | (simp [hN, numF]; done)
    | (simp [hT, txtF]; done)
    | (simp [hN, numF, kd1]; done)
    | (rw [Bool.eq_iff_iff]; simp [hN, numF]; omega)
theorem nf_of {k : Int} {x : Knd} (h : kdO k = some x) : okK k ∧ (nF k = if x.f.fn = true then x.funcs.length + 1 else 0) := by
  have hk : 1 ≤ k ∧ k ≤ 13 := by
    unfold kdO at h
    split at h
    · assumption
    · cases h
  refine ⟨hk, ?_⟩
  rcases kinds13 hk with rfl | rfl | rfl | rfl | rfl | rfl | rfl | rfl | rfl | rfl | rfl | rfl | rfl <;> (obtain rfl := Option.some.inj h; rfl)
theorem pat_pos {p : Pat} : (p.kind != 0 || decide (0 < (p.conds.length : Int) + p.args.length)) = hasP p := by
  rw [hasP, Bool.or_assoc]
  congr 1
  rw [Bool.eq_iff_iff]
  simp
  omega
theorem fr_eq {x : Knd} {e : Ex} (h : KR x e.kind e.fn) (hn : ((nF e.kind : Int) == 0) = !x.f.fn) : (anyF (butF (preF e) (fldOf x.f e.kind e.fn)) || ((e.args.length : Int) != x.args)) = frE e := by
  simp only [frE, fr1, fr2, fr3, hn, h.ms, h.st, h.pat, h.win, h.num, h.nam, h.wo, h.mt, h.txt, h.args, pat_pos, anyF, butF, preF, fldOf]
  generalize (e.fn != 0) = a1
  generalize (e.mtch != 0) = a2
  generalize (!(e.num == 0 && e.den == 0)) = a3
  generalize (!(e.text == [])) = a4
  generalize decide (0 < (e.ms.length : Int)) = a5
  generalize hasP e.pat = a6
  generalize decide (0 < (e.stages.length : Int)) = a7
  generalize (e.range != 0 || e.offset != 0) = a8
  generalize decide (0 < (e.names.length : Int)) = a9
  generalize ((e.args.length : Int) != x.args) = a11
  generalize e.without = a10
  generalize numF e.kind e.fn x.f.num = b3
  generalize txtF e.kind e.fn x.f.txt = b4
  obtain ⟨_, ⟨b1, b2, _, _, b5, b6, b7, b8, b9, b10⟩, _, _, _⟩ := x
  dsimp only
  simp only [Bool.and_comm, Bool.or_assoc, Bool.or_left_comm, Bool.or_comm]
theorem opt_if {b : Bool} {z w : Int} (h : b = false → z = 0) : (if b = true ∧ z ≠ 0 then z else w) = if z ≠ 0 then z else w := by
  cases b with
  | true => simp
  | false => rw [h rfl]; simp
theorem txt_eq {e : Ex} (h : hT e.kind e.fn = true) : txtA e = txtE e := by
  have hk : e.kind = 3 ∨ e.kind = 5 ∨ e.kind = 6 ∨ e.kind = 13 := by
    simp only [hT, Bool.or_eq_true, Bool.and_eq_true, beq_iff_eq] at h
    omega
  unfold txtA txtE
  rcases hk with h | h | h | h <;> simp [h]
theorem exp_one (e : Ex) : expA rx e = oneE rx e := by
  unfold expA oneE
  cases hk : kdO e.kind with
  | none =>
    have : ¬ okK e.kind := fun h => by
      rcases kinds13 h with h | h | h | h | h | h | h | h | h | h | h | h | h <;> (rw [h] at hk; cases hk)
    rw [if_pos this]
  | some x =>
    obtain ⟨h1, h2⟩ := nf_of hk
    rw [if_neg (fun h => h h1)]
    dsimp only
    unfold expX
    by_cases hb : badF e
    · have h3 : x.f.fn = true ∧ (e.fn < 1 ∨ (x.funcs.length : Int) < e.fn) := by
        obtain ⟨h4, h5⟩ := hb
        have h6 : x.f.fn = true := by
          cases hx : x.f.fn with
          | true => rfl
          | false => rw [hx, if_neg Bool.false_ne_true] at h2; omega
        rw [h6, if_pos rfl] at h2
        exact ⟨h6, by omega⟩
      rw [if_pos h3, if_pos hb]
    · have h3 : ¬ (x.f.fn = true ∧ (e.fn < 1 ∨ (x.funcs.length : Int) < e.fn)) := fun h => hb (by
        rw [h.1, if_pos rfl] at h2
        exact ⟨by omega, by have := h.2; omega⟩)
      rw [if_neg h3, if_neg hb]
      have hf : x.f.fn = true → 1 ≤ e.fn ∧ e.fn ≤ x.funcs.length := fun h => by
        have : ¬ (e.fn < 1 ∨ (x.funcs.length : Int) < e.fn) := fun h4 => h3 ⟨h, h4⟩
        omega
      obtain ⟨hK, _⟩ := kr_of hk hf
      have hn : ((nF e.kind : Int) == 0) = !x.f.fn := by
        cases hx : x.f.fn with
        | true =>
          rw [hx, if_pos rfl] at h2
          simp [h2]; omega
        | false =>
          rw [hx, if_neg Bool.false_ne_true] at h2
          simp [h2]
      have hF := fr_eq hK hn
      by_cases hfr : frE e = true
      · rw [if_pos hfr]
        rw [hfr, Bool.or_eq_true, bne_iff_ne] at hF
        rw [if_pos hF]
      · rw [if_neg hfr]
        have hfr' : frE e = false := by simpa using hfr
        rw [hfr', Bool.or_eq_false_iff] at hF
        rw [if_neg (fun h => h.elim (fun h => by rw [hF.1] at h; cases h) (fun h => by have := hF.2; simp at this; exact h this))]
        simp only [frE, fr1, fr2, fr3, Bool.or_eq_false_iff, Bool.and_eq_false_iff] at hfr'
        have e1 : x.f.ms = false → matsE rx e.ms = 0 := fun h => by
          have h5 : e.ms = [] := by
            have := hfr'.1.1.1.1.2
            rw [hK.ms, h] at this
            simpa using this
          rw [h5]; rfl
        have e2 : x.f.pat = true ∧ patK rx e.pat ≠ 0 ↔ hP e.kind = true ∧ patK rx e.pat ≠ 0 := by rw [hK.pat]
        rw [opt_if e1]
        have e3 : (x.f.win = true ∧ winB e) = badW e := by rw [badW, hK.win]; rfl
        simp only [e3, ← hK.num, ← hK.pat, ← hK.txt]
        repeat' split
        all_goals first
          | rfl
          | (rename_i h; exact txt_eq h)
          | (exfalso; simp_all; done)
theorem all_eq (rx : By → Int) : ∀ (k : Nat) (e : Ex), depE e ≤ k → allA rx e = allE rx e
  | 0, e, hb => by rw [depE_eq] at hb; omega
  | k + 1, e, hb => by
    rw [depE_eq] at hb
    rw [allA_eq, allE_eq, exp_one]
    congr 1
    have key : ∀ l : List Ex, depEs l ≤ k → errG (allA rx) l = errG (allE rx) l := by
      intro l hl
      induction l with
      | nil => rfl
      | cons a r ih =>
        have h1 : depE a ≤ k := Nat.le_trans (depEs_mem (l := a :: r) (i := 0) (by simp)) hl
        have h2 : depEs r ≤ k := by simp only [depEs] at hl; omega
        simp only [errG, all_eq rx k a h1, ih h2]
    exact key e.args (by omega)
theorem chk_eq (e : Ex) : chkA rx e = chkE rx e := by unfold chkA chkE; rw [all_eq rx _ e (Nat.le_refl _)]
theorem alg_check (hG : GTab) (e : Ex) (ho : okE e) : Go.Fw.PTri Tryz.prog 40 [exV e] (nI (chkE rxC e)) := by
  rw [← chk_eq]; exact alg_chk hG alg_rx e ho
end Go.Proofs.YtijfihbdcdkalaaGreatDoor
end

section
namespace Go.Proofs.YtijfihbdcdkalaaGreatDoor
open Go.Fw
variable [Gl]
set_option maxRecDepth 20000
set_option maxHeartbeats 4000000
theorem vw_name (s : By) (hl : s.length ≤ big) : Go.Fw.PTri Tryz.prog 104 [.str s] (.bool (isVw s)) := by
  simp only [big] at hl
  refine PTri.of_safe Tryz.func104 rfl Tryz.results104 Tryz.ntmps104 rfl ?_
  refine go 99 rfl ?_
  refine Safe.cut1 (α := Unit) (fun _ => [(0, .str s)]) (fun _ => []) 0 (fun _ => 0 < s.length ∧ s.length ≤ 60) ?_ ?_
  · refine Safe.gs rfl (fun c => ?_) (fun c => ?_)
    · have c1 : s = [] := by simpa using c
      refine go 99 rfl ?_
      exact ⟨.inr rfl, trivial, .done (bIeq (by subst c1; rfl)) rfl⟩
    · have c1 : s ≠ [] := fun h => by subst h; simp at c
      have c2 : 0 < s.length := List.length_pos_iff.2 c1
      refine go 99 rfl ?_
      refine Safe.br rfl (fun d => ?_) (fun d => ?_)
      · have d1 : 60 < s.length := by have := of_decide_eq_true d; omega
        refine go 99 rfl ?_
        exact ⟨.inr rfl, trivial, .done (bIeq (by simp only [isVw]; rw [decide_eq_false (show ¬ (s.length : Int) ≤ 60 by omega)]; simp)) rfl⟩
      · have d1 : s.length ≤ 60 := by have := of_decide_eq_false d; omega
        refine go 99 rfl ?_
        exact ⟨sgI 0, (), ⟨c2, d1⟩, rfl, rfl, ⟨fit rfl, trivial⟩, ⟨_, .refl _, List.nil_sublist _⟩, rfl⟩
  · rintro - ⟨h1, h2⟩
    refine go 99 rfl ?_
    refine Safe.loop (α := Nat) (fun i => [(0, .str s), (3, nI i)]) (fun i => []) 0 (fun i => s.length - i) (fun i => i ≤ s.length ∧ s.all (fun c => isVB c.toNat) = (s.drop i).all (fun c => isVB c.toNat)) 0 (sgI 0) ⟨⟨fit rfl, fit rfl, trivial⟩, ⟨_, .refl _, List.nil_sublist _⟩, rfl⟩ ⟨Nat.zero_le _, rfl⟩ ?_
    rintro i ⟨hi, ha⟩
    refine go 99 rfl ?_
    refine Safe.br rfl (fun u => ?_) (fun u => ?_)
    · have hi : i < s.length := ltc u
      rw [all_drop hi] at ha
      refine go 99 rfl ?_
      refine Safe.idxS hi rfl rfl rfl ?_
      refine go 99 rfl ?_
      refine Safe.cut2 (α := Unit) (fun _ => [(0, .str s), (3, nI i)]) (fun _ => []) 0 (fun _ => isVB s[i].toNat = true) ?_ ?_
      · repeat' (first | (refine Safe.idxS hi rfl rfl rfl ?_; refine go 99 rfl ?_) | (refine Safe.gs rfl (fun a => ?_) (fun a => ?_) <;> refine go 99 rfl ?_) | (refine Safe.br rfl (fun a => ?_) (fun a => ?_) <;> refine go 99 rfl ?_))
        all_goals first
          | (have hb : isVB s[i].toNat = false := by simp_all [isVB] <;> omega
             exact ⟨.inr rfl, trivial, .done (bIeq (by simp only [isVw]; rw [ha, hb]; rfl)) rfl⟩)
          | exact ⟨sgI 0, (), by simp_all [isVB] <;> omega, rfl, rfl, ⟨fit rfl, fit rfl, trivial⟩, ⟨_, .refl _, List.nil_sublist _⟩, rfl⟩
      · rintro ⟨⟩ h3
        refine go 99 rfl ?_
        exact ⟨sgI 0, i + 1, ⟨hi, by simp_all⟩, mlt hi, rfl, rfl, ⟨fit rfl, fit (isucc (by omega)), trivial⟩, ⟨_, .refl _, List.nil_sublist _⟩, rfl⟩
    · have hi2 : i = s.length := Nat.le_antisymm hi (gec u)
      subst hi2
      rw [List.drop_length] at ha
      refine go 99 rfl ?_
      exact ⟨.inr rfl, trivial, .done (bIeq (by simp only [isVw, ha]; rw [decide_eq_true (show (0:Int) < s.length by omega), decide_eq_true (show (s.length : Int) ≤ 60 by omega)]; rfl)) rfl⟩
end Go.Proofs.YtijfihbdcdkalaaGreatDoor
end

section
namespace Go.Proofs.YtijfihbdcdkalaaGreatDoor
open Go.Fw
variable [Gl]
set_option maxRecDepth 20000
set_option maxHeartbeats 4000000
theorem catStr_dry (l : List By) : (cat strC l).all dryV1 = true := by
  induction l with
  | nil => rfl
  | cons a r ih => rw [cat_cons, List.all_append, ih]; rfl
theorem catStr_d (l : List By) : (cat strC l).all dry = true := by
  induction l with
  | nil => rfl
  | cons a r ih => rw [cat_cons, List.all_append, ih]; rfl
theorem catStr_len (l : List By) : (cat strC l).length = l.length * 1 := cat_length (k := 1) (fun _ => rfl) l
theorem catStr_app (l : List By) (s : By) : cat strC l ++ [V.str s] = cat strC (l ++ [s]) := by rw [cat_append]; rfl
theorem slEq {l l' : List By} (h : l = l') : some (slV strC l) = some (slV strC l') := by rw [h]
theorem take_succ_get {α : Type} {l : List α} {i : Nat} (hi : i < l.length) : l.take (i + 1) = l.take i ++ [l[i]] := by rw [List.take_succ_eq_append_getElem hi]
theorem ctake {l : List By} {i : Nat} {s : By} (hi : i < l.length) (ha : (l.take i).contains s = false) (hd : l[i] ≠ s) : (l.take (i + 1)).contains s = false := by
  rw [take_succ_get hi, List.contains_append, ha]
  simp [Ne.symm hd]
theorem ref_lhas (l : List By) (s : By) (hl : l.length ≤ big) : PTri Tryz.prog 62 [slV strC l, .str s] (.bool (l.contains s)) := by
  simp only [big] at hl
  refine PTri.of_safe Tryz.func62 rfl Tryz.results62 Tryz.ntmps62 rfl ?_
  refine go 99 rfl ?_
  refine Safe.loop (α := Nat) (fun i => [(0, slV strC l), (1, .str s), (5, nI i)]) (fun i => []) 0 (fun i => l.length - i) (fun i => i ≤ l.length ∧ (l.take i).contains s = false) 0 (sgI 0) ⟨⟨fit rfl, fit rfl, fit rfl, trivial⟩, ⟨_, .refl _, List.nil_sublist _⟩, rfl⟩ ⟨Nat.zero_le _, by simp⟩ ?_
  rintro i ⟨hi, ha⟩
  refine go 99 rfl ?_
  refine Safe.br rfl (fun c1 => ?_) (fun c1 => ?_)
  · have hi : i < l.length := ltc c1
    refine go 99 rfl ?_
    refine Safe.idxF hi rfl rfl rfl ?_
    refine go 99 rfl ?_
    refine Safe.ldF (ldStr hi) rfl rfl rfl ?_
    refine go 99 rfl ?_
    refine Safe.br rfl (fun d => ?_) (fun d => ?_)
    · refine go 99 rfl ?_
      exact ⟨.inr rfl, trivial, .done (bIeq (by simp at d; simp [← d])) rfl⟩
    · refine go 99 rfl ?_
      exact ⟨sgI 0, i + 1, ⟨hi, ctake hi ha (by simpa using d)⟩, mlt hi, rfl, rfl, ⟨fit rfl, fit rfl, fit (isucc (by omega)), trivial⟩, ⟨_, .refl _, List.nil_sublist _⟩, rfl⟩
  · have hi2 : i = l.length := Nat.le_antisymm hi (gec c1)
    subst hi2
    rw [List.take_length] at ha
    refine go 99 rfl ?_
    exact ⟨.inr rfl, trivial, .done (bIeq ha.symm) rfl⟩
def insB (s : By) : List By → List By
  | [] => [s]
  | a :: r => if Op.bytesLess s a = true then s :: a :: r else a :: insB s r
def wth (l : List By) (s : By) : List By := if l.contains s = true then l else insB s l
theorem gtr_lss (a s : By) (h : a ≠ s) : (!(Op.bytesLess a s || a == s)) = Op.bytesLess s a := by rw [le_nl]; simp
theorem ref_with (l : List By) (s : By) (hl : l.length ≤ big) : PTri Tryz.prog 63 [slV strC l, .str s] (slV strC (wth l s)) := by
  simp only [big] at hl
  refine PTri.of_safe Tryz.func63 rfl Tryz.results63 Tryz.ntmps63 rfl ?_
  refine go 99 rfl ?_
  refine Safe.loop (α := (Nat × Bool × List By × Nat × Nat)) (fun a => [(0, slV strC l), (1, .str s), (5, .slice 0 0 a.2.2.1.length a.2.2.2.1), (6, .bool a.2.1), (7, nI a.1)]) (fun a => [(0, .cells 9 (cat strC a.2.2.1) (a.2.2.2.1 * 1))]) 1 (fun a => l.length - a.1) (fun a => a.1 ≤ l.length ∧ a.2.2.1.length ≤ 2 * a.1 ∧ (l.take a.1).contains s = false ∧ insB s l = (if a.2.1 = true then a.2.2.1 ++ l.drop a.1 else a.2.2.1 ++ insB s (l.drop a.1))) (0, false, [], 0, 0) (sgI 1) ⟨⟨fit rfl, fit rfl, fit rfl, fit rfl, fit rfl, trivial⟩, ⟨_, .refl _, .refl _⟩, rfl⟩ ⟨Nat.zero_le _, by simp, by simp, by simp⟩ ?_
  rintro ⟨i, dn, acc, N, z⟩ ⟨hi, hal, ha, hE⟩
  dsimp only at hi hal ha hE
  refine go 99 rfl ?_
  refine Safe.br rfl (fun c1 => ?_) (fun c1 => ?_)
  · have hi : i < l.length := ltc c1
    have hd := List.drop_eq_getElem_cons hi
    refine go 99 rfl ?_
    refine Safe.idxF hi rfl rfl rfl ?_
    refine go 99 rfl ?_
    refine Safe.ldF (ldStr hi) rfl rfl rfl ?_
    refine go 99 rfl ?_
    refine Safe.br rfl (fun d => ?_) (fun d => ?_)
    · refine go 99 rfl ?_
      exact ⟨.inr rfl, trivial, .done (slEq (by simp at d; simp [wth, ← d])) rfl⟩
    · have d0 : l[i] ≠ s := by simpa using d
      have ha2 : (l.take (i + 1)).contains s = false := ctake hi ha d0
      have hb : acc.length ≤ 10000000 := by omega
      cases dn with
      | true =>
        refine go 99 rfl ?_
        first | refine Safe.gsK true rfl rfl ?_ | refine Safe.gsK false rfl rfl ?_ | refine Safe.brT rfl rfl ?_ | refine Safe.brF rfl rfl ?_
        refine go 99 rfl ?_
        refine Safe.idxF hi rfl rfl rfl ?_
        refine go 99 rfl ?_
        refine Safe.ldF (ldStr hi) rfl rfl rfl ?_
        refine go 99 rfl ?_
        refine Safe.appS (us := [.str l[i]]) rfl rfl rfl rfl rfl rfl (rfl) rfl (catStr_app _ _) ((by simp : acc.length + 1 = (acc ++ [l[i]]).length)) (catStr_len _) (rfl) (rfl) (by first | omega | (dsimp only; omega) | (simp; omega)) (fun N' hN' => ?_)
        refine go 99 rfl ?_
        exact ⟨[(0, 2)], (i + 1, true, acc ++ [l[i]], N', 0), ⟨hi, by simp; omega, ha2, by simp only [if_true] at hE ⊢; rw [hE, hd]; simp⟩, mlt hi, rfl, rfl, ⟨fit rfl, fit rfl, fit rfl, fit rfl, fit (isucc (by omega)), trivial⟩, ⟨_, .refl _, subK rfl (renO_dry (catStr_d _)) subN⟩, rfl⟩
      | false =>
        refine go 99 rfl ?_
        first | refine Safe.gsK true rfl rfl ?_ | refine Safe.gsK false rfl rfl ?_ | refine Safe.brT rfl rfl ?_ | refine Safe.brF rfl rfl ?_
        refine go 99 rfl ?_
        refine Safe.idxF hi rfl rfl rfl ?_
        refine go 99 rfl ?_
        refine Safe.ldF (ldStr hi) rfl rfl rfl ?_
        refine go 99 rfl ?_
        refine Safe.br rfl (fun e => ?_) (fun e => ?_)
        · have e1 : Op.bytesLess s l[i] = true := by rw [← gtr_lss _ _ d0]; exact e
          refine go 99 rfl ?_
          refine Safe.appS (us := [.str s]) rfl rfl rfl rfl rfl rfl (rfl) rfl (catStr_app _ _) ((by simp : acc.length + 1 = (acc ++ [s]).length)) (catStr_len _) (rfl) (rfl) (by first | omega | (dsimp only; omega) | (simp; omega)) (fun N' hN' => ?_)
          refine go 99 rfl ?_
          refine Safe.idxF hi rfl rfl rfl ?_
          refine go 99 rfl ?_
          refine Safe.ldF (ldStr hi) rfl rfl rfl ?_
          refine go 99 rfl ?_
          refine Safe.appS (us := [.str l[i]]) rfl rfl rfl rfl rfl rfl (rfl) rfl (catStr_app _ _) ((by simp : (acc ++ [s]).length + 1 = (acc ++ [s] ++ [l[i]]).length)) (catStr_len _) (rfl) (rfl) (by first | omega | (dsimp only; omega) | (simp; omega)) (fun N2 hN2 => ?_)
          refine go 99 rfl ?_
          exact ⟨[(0, 4)], (i + 1, true, acc ++ [s] ++ [l[i]], N2, 0), ⟨hi, by simp; omega, ha2, by rw [hd] at hE; simp only [insB, e1, if_true] at hE ⊢; simpa using hE⟩, mlt hi, rfl, rfl, ⟨fit rfl, fit rfl, fit rfl, fit rfl, fit (isucc (by omega)), trivial⟩, ⟨_, .refl _, subK rfl (renO_dry (catStr_d _)) subN⟩, rfl⟩
        · have e1 : Op.bytesLess s l[i] = false := by rw [← gtr_lss _ _ d0]; exact e
          refine go 99 rfl ?_
          refine Safe.idxF hi rfl rfl rfl ?_
          refine go 99 rfl ?_
          refine Safe.ldF (ldStr hi) rfl rfl rfl ?_
          refine go 99 rfl ?_
          refine Safe.appS (us := [.str l[i]]) rfl rfl rfl rfl rfl rfl (rfl) rfl (catStr_app _ _) ((by simp : acc.length + 1 = (acc ++ [l[i]]).length)) (catStr_len _) (rfl) (rfl) (by first | omega | (dsimp only; omega) | (simp; omega)) (fun N' hN' => ?_)
          refine go 99 rfl ?_
          exact ⟨[(0, 2)], (i + 1, false, acc ++ [l[i]], N', 0), ⟨hi, by simp; omega, ha2, by rw [hd] at hE; simp only [insB, e1] at hE ⊢; simpa using hE⟩, mlt hi, rfl, rfl, ⟨fit rfl, fit rfl, fit rfl, fit rfl, fit (isucc (by omega)), trivial⟩, ⟨_, .refl _, subK rfl (renO_dry (catStr_d _)) subN⟩, rfl⟩
  · have hi2 : i = l.length := Nat.le_antisymm hi (gec c1)
    subst hi2
    rw [List.take_length] at ha
    have hb : acc.length ≤ 10000000 := by omega
    have hw : wth l s = insB s l := by simp only [wth]; rw [if_neg (by simpa using ha)]
    cases dn with
    | true =>
      refine go 99 rfl ?_
      first | refine Safe.gsK true rfl rfl ?_ | refine Safe.gsK false rfl rfl ?_ | refine Safe.brT rfl rfl ?_ | refine Safe.brF rfl rfl ?_
      refine go 99 rfl ?_
      exact ⟨.inr rfl, trivial, .frz 0 rfl (catStr_dry _) (.done (slEq (by rw [hw, hE]; simp)) rfl)⟩
    | false =>
      refine go 99 rfl ?_
      first | refine Safe.gsK true rfl rfl ?_ | refine Safe.gsK false rfl rfl ?_ | refine Safe.brT rfl rfl ?_ | refine Safe.brF rfl rfl ?_
      refine go 99 rfl ?_
      refine Safe.appS (us := [.str s]) rfl rfl rfl rfl rfl rfl (rfl) rfl (catStr_app _ _) ((by simp : acc.length + 1 = (acc ++ [s]).length)) (catStr_len _) (rfl) (rfl) (by first | omega | (dsimp only; omega) | (simp; omega)) (fun N' hN' => ?_)
      refine go 99 rfl ?_
      exact ⟨.inr rfl, trivial, .frz 2 rfl (catStr_dry _) (.done (slEq (by rw [hw, hE]; simp [insB])) rfl)⟩
end Go.Proofs.YtijfihbdcdkalaaGreatDoor
end

section
namespace Go.Proofs.YtijfihbdcdkalaaGreatDoor
open Go.Fw
variable [Gl]
set_option maxRecDepth 20000
set_option maxHeartbeats 4000000
def vwC (v : Vw) : List V := [.str v.name, .int .i64 v.expr.kind, .int .i64 v.expr.fn, slV matC v.expr.ms, .int .i64 v.expr.range, .int .i64 v.expr.offset, .int .i64 v.expr.num, .int .i64 v.expr.den, slV strC v.expr.names, .bool v.expr.without, .int .i64 v.expr.mtch, slV stgC v.expr.stages,
      .int .i64 v.expr.pat.kind, slV cndC v.expr.pat.conds, slV patL v.expr.pat.args, .str v.expr.text, slV exL v.expr.args]
theorem vwC_len (v : Vw) : (vwC v).length = 17 := rfl
abbrev vwV (v : Vw) : V := .agg (vwC v)
theorem ldVw {l : List Vw} {i : Nat} (hi : i < l.length) : ldAt Tryz.prog 47 (cat vwC l) (i * 17) = some (vwV l[i]) := ld_cat vwC_len hi (by kernel_rfl) (by kernel_rfl)
theorem ldVwN {l : List Vw} {i : Nat} (hi : i < l.length) : ldAt Tryz.prog 9 (cat vwC l) (i * 17 + 0) = some (.str l[i].name) := ld_cat1 0 vwC_len hi (by decide) (by kernel_rfl) rfl
theorem ldVwE {l : List Vw} {i : Nat} (hi : i < l.length) : ldAt Tryz.prog 34 (cat vwC l) (i * 17 + 1) = some (exV l[i].expr) := ld_catp (k2 := 16) 1 vwC_len hi (by decide) (by kernel_rfl) (by kernel_rfl) rfl
theorem catVw_dry (l : List Vw) : (cat vwC l).all dryV1 = true := by
  induction l with
  | nil => rfl
  | cons a r ih => rw [cat_cons, List.all_append, ih]; rfl
theorem catVw_d (l : List Vw) : (cat vwC l).all dry = true := by
  induction l with
  | nil => rfl
  | cons a r ih => rw [cat_cons, List.all_append, ih]; rfl
theorem catVw_len (l : List Vw) : (cat vwC l).length = l.length * 17 := cat_length (k := 17) vwC_len l
theorem catVw_app (l : List Vw) (v : Vw) : cat vwC l ++ vwC v = cat vwC (l ++ [v]) := by rw [cat_append]; simp [cat]
def nmsV (l : List Vw) : List By := l.map (·.name)
theorem ref_vnames (l : List Vw) (hl : l.length ≤ big) : PTri Tryz.prog 58 [slV vwC l] (slV strC (nmsV l)) := by
  simp only [big] at hl
  refine PTri.of_safe Tryz.func58 rfl Tryz.results58 Tryz.ntmps58 rfl ?_
  refine go 99 rfl ?_
  refine Safe.loop (α := (Nat × List By × Nat)) (fun a => [(0, slV vwC l), (3, .slice 0 0 a.2.1.length a.2.2), (4, nI a.1)]) (fun a => [(0, .cells 9 (cat strC a.2.1) (a.2.2 * 1))]) 1 (fun a => l.length - a.1) (fun a => a.1 ≤ l.length ∧ a.2.1 = nmsV (l.take a.1)) (0, [], 0) (sgI 1) ⟨⟨fit rfl, fit rfl, fit rfl, trivial⟩, ⟨_, .refl _, .refl _⟩, rfl⟩ ⟨Nat.zero_le _, by simp [nmsV]⟩ ?_
  rintro ⟨i, acc, N⟩ ⟨hi, ha⟩
  dsimp only at hi ha
  have hal : acc.length = i := by rw [ha]; simp [nmsV]; omega
  refine go 99 rfl ?_
  refine Safe.br rfl (fun c1 => ?_) (fun c1 => ?_)
  · have hi : i < l.length := ltc c1
    refine go 99 rfl ?_
    refine Safe.idxF hi rfl rfl rfl ?_
    refine go 99 rfl ?_
    refine Safe.ldF (ldVwN hi) rfl rfl rfl ?_
    refine go 99 rfl ?_
    refine Safe.appS (us := [.str l[i].name]) rfl rfl rfl rfl rfl rfl (rfl) rfl (catStr_app _ _) ((by simp : acc.length + 1 = (acc ++ [l[i].name]).length)) (catStr_len _) (rfl) (rfl) (by first | omega | (dsimp only; omega) | (simp; omega)) (fun N' hN' => ?_)
    refine go 99 rfl ?_
    exact ⟨[(0, 2)], (i + 1, acc ++ [l[i].name], N'), ⟨hi, by dsimp only; rw [ha, take_succ_get hi, nmsV, nmsV, List.map_append]; rfl⟩, mlt hi, rfl, rfl, ⟨fit rfl, fit rfl, fit (isucc (by omega)), trivial⟩, ⟨_, .refl _, subK rfl (renO_dry (catStr_d _)) subN⟩, rfl⟩
  · have hi2 : i = l.length := Nat.le_antisymm hi (gec c1)
    subst hi2
    rw [List.take_length] at ha
    refine go 99 rfl ?_
    exact ⟨.inr rfl, trivial, .frz 0 rfl (catStr_dry _) (.done (slEq ha) rfl)⟩
mutual
def dirE : Ex → List By
  | ⟨k, _, _, _, _, _, _, _, _, _, _, _, tx, l⟩ => dirEs l (if k = 13 then [tx] else [])
def dirEs : List Ex → List By → List By
  | [], acc => acc
  | a :: r, acc => dirEs r ((dirE a).foldl wth acc)
end
theorem dirE_eq (e : Ex) : dirE e = dirEs e.args (if e.kind = 13 then [e.text] else []) := by cases e; rfl
theorem insB_len (s : By) : ∀ l, (insB s l).length = l.length + 1
  | [] => rfl
  | a :: r => by simp only [insB]; split <;> simp [insB_len s r]
theorem wth_len (l : List By) (s : By) : (wth l s).length ≤ l.length + 1 := by
  unfold wth; split
  · omega
  · rw [insB_len]; omega
theorem fold_len : ∀ (l acc : List By), (l.foldl wth acc).length ≤ acc.length + l.length
  | [], acc => by simp
  | a :: r, acc => by have := fold_len r (wth acc a); have := wth_len acc a; simp only [List.foldl_cons, List.length_cons]; omega
mutual
theorem dirE_len : ∀ e : Ex, (dirE e).length ≤ szE e
  | ⟨k, fn, ms, rg, off, num, den, names, wo, mt, st, pat, tx, l⟩ => by
    have := dirEs_len l (if k = 13 then [tx] else [])
    have h2 : (if k = 13 then [tx] else []).length ≤ 1 := by split <;> simp
    simp only [dirE, szE]; omega
theorem dirEs_len : ∀ (l : List Ex) (acc : List By), (dirEs l acc).length ≤ acc.length + szEs l
  | [], acc => by simp [dirEs, szEs]
  | a :: r, acc => by have := dirEs_len r ((dirE a).foldl wth acc); have := fold_len (dirE a) acc; have := dirE_len a; simp only [dirEs, szEs]; omega
end
theorem szEs_mem {l : List Ex} {i : Nat} (h : i < l.length) : szE l[i] ≤ szEs l := by
  have := szEs_take h; have := szEs_tk (l := l) (i := i + 1); omega
theorem drop_get {α : Type} {l : List α} {i : Nat} (h : i < l.length) : l.drop i = l[i] :: l.drop (i + 1) := List.drop_eq_getElem_cons h
theorem ref_dir : ∀ (k : Nat) (e : Ex), depE e ≤ k → szE e ≤ 1000 → okE e → PTri Tryz.prog 61 [exV e] (slV strC (dirE e))
  | 0, e, hb, _, _ => by rw [depE_eq] at hb; omega
  | k + 1, e, hb, hz, ho => by
    rw [depE_eq] at hb
    have ho' := ho
    rw [okE_eq] at ho'
    obtain ⟨_, _, _, _, _, hl, hos⟩ := ho'
    simp only [big] at hl
    have hE := dirE_eq e
    have hzz := szE_eq e
    refine PTri.of_safe Tryz.func61 rfl Tryz.results61 Tryz.ntmps61 rfl ?_
    refine go 99 rfl ?_
    refine Safe.cut (α := List By) (fun acc => [(1, .ptr 0 0), (3, slV strC acc)]) (fun acc => [(0, .cells 34 (exC e) 16)]) 1 (fun acc => acc = (if e.kind = 13 then [e.text] else [])) ?_ ?_
    · refine Safe.br rfl (fun c => ?_) (fun c => ?_)
      · have c1 : e.kind = 13 := by simpa using c
        refine go 99 rfl ?_
        refine Safe.appS (us := [.str e.text]) rfl rfl rfl rfl rfl rfl (rfl) rfl (rfl) (rfl) (rfl) (rfl) (rfl) (by first | omega | (dsimp only; omega) | (simp; omega)) (fun N' hN' => ?_)
        refine Safe.frzO 3 rfl rfl ?_
        refine go 99 rfl ?_
        exact ⟨sgI 1, [e.text], (by rw [if_pos c1]), rfl, rfl, ⟨fit rfl, fit rfl, trivial⟩, ⟨_, .refl _, subD (subK rfl rfl subN)⟩, rfl⟩
      · have c1 : ¬ e.kind = 13 := by simpa using c
        refine Safe.frzC 1 rfl rfl ?_
        refine go 99 rfl ?_
        exact ⟨sgI 1, [], (by rw [if_neg c1]), rfl, rfl, ⟨fit rfl, fit rfl, trivial⟩, ⟨_, .refl _, .refl _⟩, rfl⟩
    · rintro acc0 h0
      have h0l : acc0.length ≤ 1 := by rw [h0]; split <;> simp
      rw [← h0] at hE
      refine go 99 rfl ?_
      refine Safe.loop (α := (Nat × List By)) (fun a => [(1, .ptr 0 0), (3, slV strC a.2), (4, nI a.1)]) (fun a => [(0, .cells 34 (exC e) 16)]) 1 (fun a => e.args.length - a.1) (fun a => a.1 ≤ e.args.length ∧ dirE e = dirEs (e.args.drop a.1) a.2 ∧ a.2.length ≤ 1 + szEs (e.args.take a.1)) (0, acc0) (sgI 1) ⟨⟨fit rfl, fit rfl, fit rfl, trivial⟩, ⟨_, .refl _, .refl _⟩, rfl⟩ ⟨Nat.zero_le _, hE, by simp [szEs]; omega⟩ ?_
      rintro ⟨i, acc⟩ ⟨hi, ha, hal⟩
      dsimp only at hi ha hal
      refine go 99 rfl ?_
      refine Safe.br rfl (fun c1 => ?_) (fun c1 => ?_)
      · have hi : i < e.args.length := ltc c1
        rw [drop_get hi, dirEs] at ha
        have hzi := szEs_mem hi
        have hzt := szEs_take hi
        have hzk := szEs_tk (l := e.args) (i := i)
        have hdl := dirE_len e.args[i]
        refine go 99 rfl ?_
        refine Safe.idxF hi rfl rfl rfl ?_
        refine go 99 rfl ?_
        refine Safe.ldF (ldEx hi) rfl rfl rfl ?_
        refine go 99 rfl ?_
        refine Safe.call (ref_dir k e.args[i] (by have := depEs_mem hi; omega) (by omega) (okEs_get hos hi)) rfl rfl rfl ?_
        refine go 99 rfl ?_
        refine Safe.loop (α := (Nat × List By)) (fun b => [(1, .ptr 0 0), (3, slV strC b.2), (4, nI i), (5, slV strC (dirE e.args[i])), (6, nI b.1)]) (fun b => [(0, .cells 34 (exC e) 16)]) 1 (fun b => (dirE e.args[i]).length - b.1) (fun b => b.1 ≤ (dirE e.args[i]).length ∧ (dirE e.args[i]).foldl wth acc = ((dirE e.args[i]).drop b.1).foldl wth b.2 ∧ b.2.length ≤ acc.length + b.1) (0, acc) (sgI 1) ⟨⟨fit rfl, fit rfl, fit rfl, fit rfl, fit rfl, trivial⟩, ⟨_, .refl _, .refl _⟩, rfl⟩ ⟨Nat.zero_le _, rfl, by simp⟩ ?_
        rintro ⟨j, acc2⟩ ⟨hj, hb1, hb2⟩
        dsimp only at hj hb1 hb2
        refine go 99 rfl ?_
        refine Safe.br rfl (fun c2 => ?_) (fun c2 => ?_)
        · have hj : j < (dirE e.args[i]).length := ltc c2
          rw [drop_get hj, List.foldl_cons] at hb1
          have hw := wth_len acc2 (dirE e.args[i])[j]
          refine go 99 rfl ?_
          refine Safe.idxF hj rfl rfl rfl ?_
          refine go 99 rfl ?_
          refine Safe.ldF (ldStr hj) rfl rfl rfl ?_
          refine go 99 rfl ?_
          refine Safe.call (ref_with acc2 (dirE e.args[i])[j] (by simp only [big]; omega)) rfl rfl rfl ?_
          refine go 99 rfl ?_
          exact ⟨sgI 1, (j + 1, wth acc2 (dirE e.args[i])[j]), ⟨hj, hb1, by dsimp only; omega⟩, mlt hj, rfl, rfl, ⟨fit rfl, fit rfl, fit rfl, fit rfl, fit (isucc (by omega)), trivial⟩, ⟨_, .refl _, .refl _⟩, rfl⟩
        · have hj2 : j = (dirE e.args[i]).length := Nat.le_antisymm hj (gec c2)
          rw [hj2, List.drop_length, List.foldl_nil] at hb1
          rw [hb1] at ha
          have hfin : acc2.length ≤ 1 + szEs (e.args.take (i + 1)) := by omega
          refine go 99 rfl ?_
          exact ⟨sgI 1, (i + 1, acc2), ⟨hi, ha, hfin⟩, mlt hi, rfl, rfl, ⟨fit rfl, fit rfl, fit (isucc (by omega)), trivial⟩, ⟨_, .refl _, .refl _⟩, rfl⟩
      · have hi2 : i = e.args.length := Nat.le_antisymm hi (gec c1)
        rw [hi2, List.drop_length, dirEs] at ha
        refine go 99 rfl ?_
        exact ⟨.inr rfl, trivial, .done (slEq ha.symm) rfl⟩
end Go.Proofs.YtijfihbdcdkalaaGreatDoor
end

section
namespace Go.Proofs.YtijfihbdcdkalaaGreatDoor
open Go.Fw
variable [Gl]
set_option maxRecDepth 20000
set_option maxHeartbeats 4000000
variable {rx : By → Int}
def inL (l : List By) (s : By) : Bool := l.contains s
def covE (e : Ex) (l : List By) : Bool := (dirE e).all (inL l)
theorem all_take {α : Type} {p : α → Bool} {l : List α} {i : Nat} (hi : i < l.length) (h : (l.take i).all p = true) (hp : p l[i] = true) : (l.take (i + 1)).all p = true := by
  rw [take_succ_get hi, List.all_append, h]; simp [hp]
theorem all_no {α : Type} {p : α → Bool} {l : List α} {i : Nat} (hi : i < l.length) (hp : p l[i] = false) : l.all p = false := by
  rw [List.all_eq_false]; exact ⟨l[i], List.getElem_mem hi, by simp [hp]⟩
theorem ref_cov (e : Ex) (l : List By) (hl : l.length ≤ big) (hz : szE e ≤ 1000) (ho : okE e) : PTri Tryz.prog 57 [exV e, slV strC l] (.bool (covE e l)) := by
  have hdl := dirE_len e
  refine PTri.of_safe Tryz.func57 rfl Tryz.results57 Tryz.ntmps57 rfl ?_
  refine go 99 rfl ?_
  refine Safe.call (ref_dir _ e (Nat.le_refl _) hz ho) rfl rfl rfl ?_
  refine go 99 rfl ?_
  refine Safe.loop (α := Nat) (fun i => [(1, slV strC l), (5, slV strC (dirE e)), (6, nI i)]) (fun i => []) 1 (fun i => (dirE e).length - i) (fun i => i ≤ (dirE e).length ∧ ((dirE e).take i).all (inL l) = true) 0 (sgI 1) ⟨⟨fit rfl, fit rfl, fit rfl, trivial⟩, ⟨_, .refl _, List.nil_sublist _⟩, rfl⟩ ⟨Nat.zero_le _, rfl⟩ ?_
  rintro i ⟨hi, ha⟩
  refine go 99 rfl ?_
  refine Safe.br rfl (fun c1 => ?_) (fun c1 => ?_)
  · have hi : i < (dirE e).length := ltc c1
    refine go 99 rfl ?_
    refine Safe.idxF hi rfl rfl rfl ?_
    refine go 99 rfl ?_
    refine Safe.ldF (ldStr hi) rfl rfl rfl ?_
    refine go 99 rfl ?_
    refine Safe.call (ref_lhas l (dirE e)[i] hl) rfl rfl rfl ?_
    refine go 99 rfl ?_
    refine Safe.br rfl (fun d => ?_) (fun d => ?_)
    · refine go 99 rfl ?_
      exact ⟨.inr rfl, trivial, .done (bIeq (by rw [covE, all_no hi]; simpa [inL] using d)) rfl⟩
    · refine go 99 rfl ?_
      exact ⟨sgI 1, i + 1, ⟨hi, all_take hi ha (by simpa [inL] using d)⟩, mlt hi, rfl, rfl, ⟨fit rfl, fit rfl, fit (isucc (by omega)), trivial⟩, ⟨_, .refl _, List.nil_sublist _⟩, rfl⟩
  · have hi2 : i = (dirE e).length := Nat.le_antisymm hi (gec c1)
    rw [hi2, List.take_length] at ha
    refine go 99 rfl ?_
    exact ⟨.inr rfl, trivial, .done (bIeq (by rw [covE, ha])) rfl⟩
def nxtB (out : List By) (v : Vw) : Bool := !inL out v.name && covE v.expr out
def nxtV (l : List Vw) (out : List By) : Option Nat := l.findIdx? (nxtB out)
def ordF (l : List Vw) : Nat → List By → List By
  | 0, out => out
  | f + 1, out => match nxtV l out with
    | some i => match l[i]? with
      | some v => ordF l f (out ++ [v.name])
      | none => out
    | none => out
def ordV (l : List Vw) : List By := ordF l (l.length + 1) []
def lft (l : List Vw) (out : List By) : Nat := l.countP fun v => !inL out v.name
theorem inL_app (l : List By) (s t : By) : inL (l ++ [t]) s = (inL l s || s == t) := by
  rw [Bool.eq_iff_iff]; simp [inL]
theorem lft_lt {l : List Vw} {out : List By} {i : Nat} (hi : i < l.length) (hn : inL out l[i].name = false) : lft l (out ++ [l[i].name]) < lft l out := by
  unfold lft
  rw [List.countP_eq_length_filter, List.countP_eq_length_filter]
  have hs : (l.filter fun v => !inL (out ++ [l[i].name]) v.name).Sublist (l.filter fun v => !inL out v.name) := by
    have : (l.filter fun v => !inL (out ++ [l[i].name]) v.name) = (l.filter fun v => !inL out v.name).filter fun v => !(v.name == l[i].name) := by
      rw [List.filter_filter]
      refine List.filter_congr fun v _ => ?_
      rw [inL_app]; cases inL out v.name <;> simp
    rw [this]; exact List.filter_sublist
  refine Nat.lt_of_le_of_ne hs.length_le fun e => ?_
  have h1 := hs.eq_of_length e
  have h2 : l[i] ∈ l.filter fun v => !inL out v.name := List.mem_filter.2 ⟨List.getElem_mem hi, by simp [hn]⟩
  rw [← h1] at h2
  have := (List.mem_filter.1 h2).2
  rw [inL_app] at this
  simp at this
theorem nxt_at {l : List Vw} {out : List By} {i : Nat} (hi : i < l.length) (h1 : nxtB out l[i] = true) (h0 : ∀ j, j < i → (h : j < l.length) → nxtB out l[j] = false) : nxtV l out = some i := by
  rw [nxtV, List.findIdx?_eq_some_iff_getElem]
  exact ⟨hi, h1, fun j hj => by rw [h0 j hj (by omega)]; simp⟩
theorem nxt_no {l : List Vw} {out : List By} (h0 : ∀ j, (h : j < l.length) → nxtB out l[j] = false) : nxtV l out = none := by
  rw [nxtV, List.findIdx?_eq_none_iff]
  intro v hv
  obtain ⟨j, hj, rfl⟩ := List.getElem_of_mem hv
  exact h0 j hj
def okVs (l : List Vw) : Prop := l.length ≤ big ∧ ∀ v ∈ l, v.name.length ≤ big ∧ okE v.expr
def smVs (l : List Vw) : Prop := ∀ v ∈ l, szE v.expr ≤ 1000
theorem forall_lt {l : List Vw} {p : Vw → Prop} {i : Nat} (hi : i < l.length) (h0 : ∀ j, j < i → (h : j < l.length) → p l[j]) (h1 : p l[i]) : ∀ j, j < i + 1 → (h : j < l.length) → p l[j] := fun j hj h => by
  by_cases e : j = i
  · subst e; exact h1
  · exact h0 j (by omega) h
theorem lft_le (l : List Vw) (out : List By) : lft l out ≤ l.length := List.countP_le_length
theorem ref_order (l : List Vw) (hl : l.length ≤ 100000) (ho : okVs l) (hs : smVs l) : PTri Tryz.prog 73 [slV vwC l] (slV strC (ordV l)) := by
  refine PTri.of_safe Tryz.func73 rfl Tryz.results73 Tryz.ntmps73 rfl ?_
  refine go 99 rfl ?_
  refine Safe.loop (α := (Bool × Nat × List By × Nat)) (fun a => [(0, slV vwC l), (3, .slice 0 0 a.2.2.1.length a.2.2.2), (4, .bool a.1)]) (fun a => [(0, .cells 9 (cat strC a.2.2.1) (a.2.2.2 * 1))]) 1 (fun a => a.2.1) (fun a => (a.1 = true → lft l a.2.2.1 < a.2.1 ∧ ordV l = ordF l a.2.1 a.2.2.1) ∧ (a.1 = false → ordV l = a.2.2.1) ∧ a.2.2.1.length + lft l a.2.2.1 ≤ l.length) (true, l.length + 1, [], 0) (sgI 1) ⟨⟨fit rfl, fit rfl, fit rfl, trivial⟩, ⟨_, .refl _, .refl _⟩, rfl⟩ ⟨fun _ => ⟨by have := lft_le l []; dsimp only; omega, rfl⟩, fun h => (by cases h), by have := lft_le l []; dsimp only [List.length_nil]; omega⟩ ?_
  rintro ⟨fd, f, out, N⟩ ⟨ht, hf, hc⟩
  dsimp only at ht hf hc
  cases fd with
  | false =>
    refine go 99 rfl ?_
    first | refine Safe.gsK true rfl rfl ?_ | refine Safe.gsK false rfl rfl ?_ | refine Safe.brT rfl rfl ?_ | refine Safe.brF rfl rfl ?_
    refine go 99 rfl ?_
    exact ⟨.inr rfl, trivial, .frz 0 rfl (catStr_dry _) (.done (slEq (hf rfl).symm) rfl)⟩
  | true =>
    obtain ⟨h1, h2⟩ := ht rfl
    obtain ⟨f, rfl⟩ : ∃ g, f = g + 1 := ⟨f - 1, by omega⟩
    refine go 99 rfl ?_
    first | refine Safe.gsK true rfl rfl ?_ | refine Safe.gsK false rfl rfl ?_ | refine Safe.brT rfl rfl ?_ | refine Safe.brF rfl rfl ?_
    refine go 99 rfl ?_
    refine Safe.loop (α := (Bool × Nat × List By × Nat)) (fun b => [(0, slV vwC l), (3, .slice 0 0 b.2.2.1.length b.2.2.2), (4, .bool b.1), (5, nI b.2.1)]) (fun b => [(0, .cells 9 (cat strC b.2.2.1) (b.2.2.2 * 1))]) 1 (fun b => l.length + 1 - b.2.1) (fun b => b.2.1 ≤ l.length ∧ (b.1 = false → b.2.2.1 = out ∧ ∀ j, j < b.2.1 → (h : j < l.length) → nxtB out l[j] = false) ∧ (b.1 = true → lft l b.2.2.1 < f ∧ ordV l = ordF l f b.2.2.1 ∧ b.2.2.1.length + lft l b.2.2.1 ≤ l.length)) (false, 0, out, N) (sgI 1) ⟨⟨fit rfl, fit rfl, fit rfl, fit rfl, trivial⟩, ⟨_, .refl _, subK rfl (renO_dry (catStr_d _)) subN⟩, rfl⟩ ⟨Nat.zero_le _, fun _ => ⟨rfl, fun j hj => by dsimp only at hj; omega⟩, fun h => (by cases h)⟩ ?_
    rintro ⟨fd, i, acc, M⟩ ⟨hi, hb0, hb1⟩
    dsimp only at hi hb0 hb1
    cases fd with
    | true =>
      obtain ⟨h3, h4, h5⟩ := hb1 rfl
      refine go 99 rfl ?_
      refine Safe.gs rfl (fun c => ?_) (fun c => ?_)
      · refine go 99 rfl ?_
        first | refine Safe.gsK true rfl rfl ?_ | refine Safe.gsK false rfl rfl ?_ | refine Safe.brT rfl rfl ?_ | refine Safe.brF rfl rfl ?_
        refine go 99 rfl ?_
        refine go 99 rfl ?_
        exact ⟨sgI 1, (true, f, acc, M), ⟨fun _ => ⟨h3, h4⟩, fun h => (by cases h), h5⟩, (by dsimp only; omega), rfl, rfl, ⟨fit rfl, fit rfl, fit rfl, trivial⟩, ⟨_, .refl _, subK rfl (renO_dry (catStr_d _)) subN⟩, rfl⟩
      · refine go 99 rfl ?_
        exact ⟨sgI 1, (true, f, acc, M), ⟨fun _ => ⟨h3, h4⟩, fun h => (by cases h), h5⟩, (by dsimp only; omega), rfl, rfl, ⟨fit rfl, fit rfl, fit rfl, trivial⟩, ⟨_, .refl _, subK rfl (renO_dry (catStr_d _)) subN⟩, rfl⟩
    | false =>
      obtain ⟨rfl, h3⟩ := hb0 rfl
      refine go 99 rfl ?_
      refine Safe.gs rfl (fun c => ?_) (fun c => ?_)
      · have hi : i < l.length := ltc c
        have hv := ho.2 _ (List.getElem_mem hi)
        have hz := hs _ (List.getElem_mem hi)
        refine go 99 rfl ?_
        first | refine Safe.gsK true rfl rfl ?_ | refine Safe.gsK false rfl rfl ?_ | refine Safe.brT rfl rfl ?_ | refine Safe.brF rfl rfl ?_
        refine go 99 rfl ?_
        refine Safe.idxF hi rfl rfl rfl ?_
        refine go 99 rfl ?_
        refine Safe.ldF (ldVwN hi) rfl rfl rfl ?_
        refine go 99 rfl ?_
        refine Safe.callF 0 (ref_lhas acc l[i].name (by have := lft_le l acc; simp only [big]; omega)) rfl rfl rfl rfl ?_ rfl ?_
        · exact catStr_d _
        refine go 99 rfl ?_
        refine Safe.gs rfl (fun d => ?_) (fun d => ?_)
        · have d1 : inL acc l[i].name = false := by simpa [inL] using d
          refine go 99 rfl ?_
          refine Safe.idxF hi rfl rfl rfl ?_
          refine go 99 rfl ?_
          refine Safe.ldF (ldVwE hi) rfl rfl rfl ?_
          refine go 99 rfl ?_
          refine Safe.callF 0 (ref_cov l[i].expr acc (by have := lft_le l acc; simp only [big]; omega) hz hv.2) rfl rfl rfl rfl ?_ rfl ?_
          · exact catStr_d _
          refine go 99 rfl ?_
          refine Safe.br rfl (fun e => ?_) (fun e => ?_)
          · have e1 : nxtB acc l[i] = true := by simp only [nxtB, d1, Bool.not_false, Bool.true_and]; exact e
            have e2 : ordF l (f + 1) acc = ordF l f (acc ++ [l[i].name]) := by
              rw [ordF, nxt_at hi e1 h3]
              simp only [List.getElem?_eq_getElem hi]
            have e3 := lft_lt hi d1
            refine go 99 rfl ?_
            refine Safe.idxF hi rfl rfl rfl ?_
            refine go 99 rfl ?_
            refine Safe.ldF (ldVwN hi) rfl rfl rfl ?_
            refine go 99 rfl ?_
            refine Safe.appS (us := [.str l[i].name]) rfl rfl rfl rfl rfl rfl (rfl) rfl (catStr_app _ _) ((by simp : acc.length + 1 = (acc ++ [l[i].name]).length)) (catStr_len _) (rfl) (rfl) (by first | omega | (dsimp only; omega) | (simp; omega)) (fun N' hN' => ?_)
            refine go 99 rfl ?_
            exact ⟨[(0, 2)], (true, i + 1, acc ++ [l[i].name], N'), ⟨hi, fun h => (by cases h), fun _ => ⟨by dsimp only; omega, by rw [h2, e2], by dsimp only; simp only [List.length_append, List.length_singleton]; omega⟩⟩, (by dsimp only; omega), rfl, rfl, ⟨fit rfl, fit rfl, fit rfl, fit (isucc (by first | omega | (dsimp only; omega))), trivial⟩, ⟨_, .refl _, subK rfl (renO_dry (catStr_d _)) subN⟩, rfl⟩
          · have e1 : nxtB acc l[i] = false := by simp only [nxtB, d1, Bool.not_false, Bool.true_and]; exact e
            refine go 99 rfl ?_
            exact ⟨sgI 1, (false, i + 1, acc, M), ⟨hi, fun _ => ⟨rfl, forall_lt (p := fun v => nxtB acc v = false) hi h3 e1⟩, fun h => (by cases h)⟩, (by dsimp only; omega), rfl, rfl, ⟨fit rfl, fit rfl, fit rfl, fit (isucc (by first | omega | (dsimp only; omega))), trivial⟩, ⟨_, .refl _, subK rfl (renO_dry (catStr_d _)) subN⟩, rfl⟩
        · have d1 : inL acc l[i].name = true := by simpa [inL] using d
          have e1 : nxtB acc l[i] = false := by simp only [nxtB, d1]; rfl
          refine go 99 rfl ?_
          exact ⟨sgI 1, (false, i + 1, acc, M), ⟨hi, fun _ => ⟨rfl, forall_lt (p := fun v => nxtB acc v = false) hi h3 e1⟩, fun h => (by cases h)⟩, (by dsimp only; omega), rfl, rfl, ⟨fit rfl, fit rfl, fit rfl, fit (isucc (by first | omega | (dsimp only; omega))), trivial⟩, ⟨_, .refl _, subK rfl (renO_dry (catStr_d _)) subN⟩, rfl⟩
      · have hi2 : l.length ≤ i := gec c
        have e2 : ordF l (f + 1) acc = acc := by
          rw [ordF, nxt_no fun j h => h3 j (by omega) h]
        refine go 99 rfl ?_
        exact ⟨sgI 1, (false, f, acc, M), ⟨fun h => (by cases h), fun _ => (by rw [h2, e2]), hc⟩, (by dsimp only; omega), rfl, rfl, ⟨fit rfl, fit rfl, fit rfl, trivial⟩, ⟨_, .refl _, subK rfl (renO_dry (catStr_d _)) subN⟩, rfl⟩
end Go.Proofs.YtijfihbdcdkalaaGreatDoor
end

section
namespace Go.Proofs.YtijfihbdcdkalaaGreatDoor
open Go.Fw
variable [Gl]
set_option maxRecDepth 20000
set_option maxHeartbeats 4000000
variable {rx : By → Int}
def vwE (rx : By → Int) : Option By → List Vw → Int
  | _, [] => 0
  | prev, v :: r => if isVw v.name = false then 5 else if lateN prev v.name = true then 9 else if chkE rx v.expr ≠ 0 then chkE rx v.expr else vwE rx (some v.name) r
def chkV (rx : By → Int) (l : List Vw) : Int := if 50 < l.length then 4 else if vwE rx none l ≠ 0 then vwE rx none l else if l.all (fun v => covE v.expr (nmsV l)) = false then 7 else if (ordV l).length < l.length then 27 else 0
def prvW (l : List Vw) (i : Nat) : Option By := if i = 0 then none else (l[i - 1]?).map (·.name)
theorem prvW_pos {l : List Vw} {i : Nat} (h0 : 0 < i) (h : i < l.length) : prvW l i = some (l[i - 1]'(by omega)).name := by
  simp [prvW, Nat.ne_of_gt h0, show i - 1 < l.length by omega]
theorem prvW_s {l : List Vw} {i : Nat} (h : i < l.length) : prvW l (i + 1) = some l[i].name := by simp [prvW, h]
theorem chkE_sz {e : Ex} (h : chkE rx e = 0) : szE e ≤ 100 := by
  unfold chkE at h
  split at h
  · omega
  · omega
theorem ref_vcheck (H : RefRx rx) (l : List Vw) (ho : okVs l) : PTri Tryz.prog 38 [slV vwC l] (nI (chkV rx l)) := by
  refine PTri.of_safe Tryz.func38 rfl Tryz.results38 Tryz.ntmps38 rfl ?_
  refine go 99 rfl ?_
  refine Safe.br rfl (fun a => ?_) (fun a => ?_)
  · have a1 : 50 < l.length := ltc a
    refine go 99 rfl ?_
    exact ⟨.inr rfl, trivial, .done (nIeq (by simp only [chkV]; rw [if_pos a1])) rfl⟩
  · have a1 : l.length ≤ 50 := gec a
    have hE : chkV rx l = if vwE rx none l ≠ 0 then vwE rx none l else if l.all (fun v => covE v.expr (nmsV l)) = false then 7 else if (ordV l).length < l.length then 27 else 0 := by simp only [chkV]; rw [if_neg (by omega)]
    refine go 99 rfl ?_
    refine Safe.loop (α := Nat) (fun i => [(0, slV vwC l), (3, nI i)]) (fun i => []) 0 (fun i => l.length - i) (fun i => i ≤ l.length ∧ vwE rx none l = vwE rx (prvW l i) (l.drop i) ∧ ∀ j, j < i → (h : j < l.length) → chkE rx l[j].expr = 0) 0 (sgI 0) ⟨⟨fit rfl, fit rfl, trivial⟩, ⟨_, .refl _, List.nil_sublist _⟩, rfl⟩ ⟨Nat.zero_le _, rfl, fun j hj => by omega⟩ ?_
    rintro i ⟨hi, ha, hz⟩
    refine go 99 rfl ?_
    refine Safe.br rfl (fun c1 => ?_) (fun c1 => ?_)
    · have hi : i < l.length := ltc c1
      have hv := ho.2 _ (List.getElem_mem hi)
      rw [drop_get hi, vwE] at ha
      have hret : ∀ z, vwE rx none l = z → z ≠ 0 → z = chkV rx l := fun z h1 h2 => by rw [hE, if_pos (by rw [h1]; exact h2), h1]
      refine go 99 rfl ?_
      refine Safe.idxF hi rfl rfl rfl ?_
      refine go 99 rfl ?_
      refine Safe.ldF (ldVwN hi) rfl rfl rfl ?_
      refine go 99 rfl ?_
      refine Safe.call (ref_view l[i].name hv.1) rfl rfl rfl ?_
      refine go 99 rfl ?_
      refine Safe.br rfl (fun d => ?_) (fun d => ?_)
      · rw [if_pos (by simpa using d)] at ha
        refine go 99 rfl ?_
        exact ⟨.inr rfl, trivial, .done (nIeq (hret _ ha (by decide))) rfl⟩
      · rw [if_neg (by simp at d; simp [d])] at ha
        refine go 99 rfl ?_
        refine Safe.ccut1 (α := Unit) (fun _ => [(0, slV vwC l), (3, nI i)]) (fun _ => []) 0 (fun _ => lateN (prvW l i) l[i].name = false) ?_ ?_
        · refine Safe.drawP mixed [0, 1, 2, 3, 4, 5, 6, 7, 8, 9, 10, 11, 12, 13, 14, 15] [(true, true), (true, true), (true, true), (true, true), (true, true), (true, true), (true, true), (true, true), (true, true), (true, true), (true, true), (true, true), (true, true), (true, true), (true, true), (true, true)] (by kernel_rfl) ?_
          refine go 99 rfl ?_
          refine Safe.gs rfl (fun c => ?_) (fun c => ?_)
          · have h0 : 0 < i := by have := of_decide_eq_true c; omega
            rw [prvW_pos h0 hi] at ha
            have hb : i ≤ 50 := by omega
            refine go 99 rfl ?_
            refine Safe.idxF (i := i - 1) (by omega) (isub h0 (by omega)) rfl rfl ?_
            refine go 99 rfl ?_
            refine Safe.ldF (ldVwN (by omega)) rfl rfl rfl ?_
            refine go 99 rfl ?_
            refine Safe.idxF hi rfl rfl rfl ?_
            refine go 99 rfl ?_
            refine Safe.ldF (ldVwN hi) rfl rfl rfl ?_
            refine go 99 rfl ?_
            refine Safe.br rfl (fun e => ?_) (fun e => ?_)
            · rw [if_pos (by simpa [lateN] using e)] at ha
              refine go 99 rfl ?_
              exact ⟨.inr rfl, trivial, .done (nIeq (hret _ ha (by decide))) rfl⟩
            · refine go 99 rfl ?_
              exact ⟨sgI 0, (), (by rw [prvW_pos h0 hi]; simpa [lateN] using e), rfl, rfl, ⟨fit rfl, fit rfl, trivial⟩, ⟨_, .refl _, List.nil_sublist _⟩, rfl⟩
          · have h0 : i = 0 := by have := of_decide_eq_false c; omega
            refine go 99 rfl ?_
            exact ⟨sgI 0, (), (by simp [prvW, h0, lateN]), rfl, rfl, ⟨fit rfl, fit rfl, trivial⟩, ⟨_, .refl _, List.nil_sublist _⟩, rfl⟩
        · rintro ⟨⟩ h1
          rw [if_neg (by simp [h1])] at ha
          refine go 99 rfl ?_
          refine Safe.idxF hi rfl rfl rfl ?_
          refine go 99 rfl ?_
          refine Safe.ldF (ldVwE hi) rfl rfl rfl ?_
          refine go 99 rfl ?_
          refine Safe.call (ref_chk H l[i].expr hv.2) rfl rfl rfl ?_
          refine go 99 rfl ?_
          refine Safe.br rfl (fun e => ?_) (fun e => ?_)
          · have e1 : chkE rx l[i].expr ≠ 0 := by simpa using e
            rw [if_pos e1] at ha
            refine go 99 rfl ?_
            exact ⟨.inr rfl, trivial, .done (nIeq (hret _ ha e1)) rfl⟩
          · have e1 : chkE rx l[i].expr = 0 := by simpa using e
            rw [if_neg (by simp [e1])] at ha
            refine go 99 rfl ?_
            exact ⟨sgI 0, i + 1, ⟨hi, by rw [ha, prvW_s hi], forall_lt (p := fun v => chkE rx v.expr = 0) hi hz e1⟩, mlt hi, rfl, rfl, ⟨fit rfl, fit (isucc (by omega)), trivial⟩, ⟨_, .refl _, List.nil_sublist _⟩, rfl⟩
    · have hi2 : i = l.length := Nat.le_antisymm hi (gec c1)
      rw [hi2, List.drop_length, vwE] at ha
      rw [if_neg (by simp [ha])] at hE
      have hsm : smVs l := fun v hv => by
        obtain ⟨j, hj, rfl⟩ := List.getElem_of_mem hv
        have := chkE_sz (hz j (by omega) hj)
        omega
      have hnl : (nmsV l).length ≤ big := by simp [nmsV, big]; omega
      refine go 99 rfl ?_
      refine Safe.loop (α := Nat) (fun i => [(0, slV vwC l), (5, nI i)]) (fun i => []) 0 (fun i => l.length - i) (fun i => i ≤ l.length ∧ (l.take i).all (fun v => covE v.expr (nmsV l)) = true) 0 (sgI 0) ⟨⟨fit rfl, fit rfl, trivial⟩, ⟨_, .refl _, List.nil_sublist _⟩, rfl⟩ ⟨Nat.zero_le _, rfl⟩ ?_
      rintro i ⟨hi, hc⟩
      refine go 99 rfl ?_
      refine Safe.br rfl (fun c2 => ?_) (fun c2 => ?_)
      · have hi : i < l.length := ltc c2
        have hv := ho.2 _ (List.getElem_mem hi)
        have hzi := hsm _ (List.getElem_mem hi)
        refine go 99 rfl ?_
        refine Safe.drawP mixed [0, 1, 2, 3, 4, 5, 6, 7, 8] [(true, false), (true, false), (true, false), (true, false), (true, false), (true, true), (true, true), (true, true), (true, true)] (by kernel_rfl) ?_
        refine go 99 rfl ?_
        refine Safe.idxF hi rfl rfl rfl ?_
        refine go 99 rfl ?_
        refine Safe.ldF (ldVwE hi) rfl rfl rfl ?_
        refine go 99 rfl ?_
        refine Safe.call (ref_vnames l ho.1) rfl rfl rfl ?_
        refine go 99 rfl ?_
        refine Safe.call (ref_cov l[i].expr (nmsV l) hnl hzi hv.2) rfl rfl rfl ?_
        refine go 99 rfl ?_
        refine Safe.br rfl (fun d => ?_) (fun d => ?_)
        · have d1 : covE l[i].expr (nmsV l) = false := by simpa using d
          refine go 99 rfl ?_
          exact ⟨.inr rfl, trivial, .done (nIeq (by rw [hE, all_no (p := fun v => covE v.expr (nmsV l)) hi d1]; rfl)) rfl⟩
        · refine go 99 rfl ?_
          exact ⟨sgI 0, i + 1, ⟨hi, all_take (p := fun v => covE v.expr (nmsV l)) hi hc (by simpa using d)⟩, mlt hi, rfl, rfl, ⟨fit rfl, fit (isucc (by omega)), trivial⟩, ⟨_, .refl _, List.nil_sublist _⟩, rfl⟩
      · have hi2 : i = l.length := Nat.le_antisymm hi (gec c2)
        rw [hi2, List.take_length] at hc
        rw [if_neg (by simp only [hc]; simp)] at hE
        refine go 99 rfl ?_
        refine Safe.call (ref_order l (by omega) ho hsm) rfl rfl rfl ?_
        refine go 99 rfl ?_
        refine Safe.br rfl (fun d => ?_) (fun d => ?_)
        · refine go 99 rfl ?_
          exact ⟨.inr rfl, trivial, .done (nIeq (by rw [hE, if_pos (by simpa using d)])) rfl⟩
        · refine go 99 rfl ?_
          exact ⟨.inr rfl, trivial, .done (nIeq (by rw [hE, if_neg (by simpa using d)])) rfl⟩
def ordR (rx : By → Int) (l : List Vw) : List By × Int := if chkV rx l ≠ 0 then ([], chkV rx l) else (ordV l, 0)
theorem vwE_sm {prev : Option By} : ∀ {l : List Vw}, vwE rx prev l = 0 → smVs l := fun {l} => by
  induction l generalizing prev with
  | nil => exact fun _ v hv => by simp at hv
  | cons a r ih =>
    intro h v hv
    simp only [vwE] at h
    split at h
    · omega
    · split at h
      · omega
      · split at h
        · exact absurd h (by assumption)
        · rename_i h3
          rcases List.mem_cons.1 hv with rfl | hv
          · have := chkE_sz (rx := rx) (e := v.expr) (by simpa using h3); omega
          · exact ih h v hv
theorem chkV_sm {l : List Vw} (h : chkV rx l = 0) : smVs l ∧ l.length ≤ 50 := by
  unfold chkV at h
  split at h
  · omega
  · split at h
    · exact absurd h (by assumption)
    · rename_i h1 h2
      exact ⟨vwE_sm (by simpa using h2), by omega⟩
theorem ref_Order (H : RefRx rx) (l : List Vw) (ho : okVs l) : PTri Tryz.prog 35 [slV vwC l] (.tup [slV strC (ordR rx l).1, nI (ordR rx l).2]) := by
  refine PTri.of_safe Tryz.func35 rfl Tryz.results35 Tryz.ntmps35 rfl ?_
  refine go 99 rfl ?_
  refine Safe.call (ref_vcheck H l ho) rfl rfl rfl ?_
  refine go 99 rfl ?_
  refine Safe.br rfl (fun d => ?_) (fun d => ?_)
  · have d1 : chkV rx l ≠ 0 := by simpa using d
    refine go 99 rfl ?_
    exact ⟨.inr rfl, trivial, .frz 0 rfl rfl (.done (by rw [ordR, if_pos d1]; rfl) rfl)⟩
  · have d1 : chkV rx l = 0 := by simpa using d
    obtain ⟨h1, h2⟩ := chkV_sm d1
    refine go 99 rfl ?_
    refine Safe.call (ref_order l (by omega) ho h1) rfl rfl rfl ?_
    refine go 99 rfl ?_
    exact ⟨.inr rfl, trivial, .done ((by rw [ordR, if_neg (by simp [d1])]; rfl)) rfl⟩
end Go.Proofs.YtijfihbdcdkalaaGreatDoor
end

section
namespace Go.Proofs.YtijfihbdcdkalaaGreatDoor
open Go.Fw
variable [Gl]
set_option maxRecDepth 20000
set_option maxHeartbeats 4000000
variable {rx : By → Int}
def usStep (out : List By) (v : Vw) : List By := if inL out v.name = true then (dirE v.expr).foldl wth out else out
def usAll (l : List Vw) (out : List By) : List By := l.foldl usStep out
def usIt (l : List Vw) : Nat → List By → List By
  | 0, o => o
  | n + 1, o => usIt l n (usAll l o)
def usR (l : List Vw) (e : Ex) : List By := usIt l l.length (dirE e)
def usesR (rx : By → Int) (l : List Vw) (e : Ex) : List By × Int := if chkV rx l ≠ 0 then ([], chkV rx l) else if chkE rx e ≠ 0 then ([], chkE rx e) else if covE e (nmsV l) = false then ([], 7) else (usR l e, 0)
end Go.Proofs.YtijfihbdcdkalaaGreatDoor
end

section
namespace Go.Proofs.YtijfihbdcdkalaaGreatDoor
open Go.Fw
variable [Gl]
set_option maxRecDepth 20000
set_option maxHeartbeats 4000000
variable {rx : By → Int}
theorem catEx_dry (l : List Ex) : (cat exL l).all dryV1 = true := by
  induction l with
  | nil => rfl
  | cons a r ih => rw [cat_cons, List.all_append, ih, exL_eq]; rfl
theorem catEx_d (l : List Ex) : (cat exL l).all dry = true := by
  induction l with
  | nil => rfl
  | cons a r ih => rw [cat_cons, List.all_append, ih, exL_eq]; rfl
theorem catEx_len (l : List Ex) : (cat exL l).length = l.length * 16 := cat_length (k := 16) exL_len l
theorem catEx_app (l : List Ex) (e : Ex) : cat exL l ++ exC e = cat exL (l ++ [e]) := by rw [cat_append, ← exL_eq]; simp [cat]
def exZ : List V := [nI 0, nI 0, .nilslice, nI 0, nI 0, nI 0, nI 0, .nilslice, .bool false, nI 0, .nilslice, nI 0, .nilslice, .nilslice, .str [], .nilslice]
def zroE : Ex := ⟨0, 0, [], 0, 0, 0, 0, [], false, 0, [], ⟨0, [], []⟩, [], []⟩
end Go.Proofs.YtijfihbdcdkalaaGreatDoor
end

section
namespace Go.Proofs.YtijfihbdcdkalaaGreatDoor
open Go.Fw
variable [Gl]
set_option maxRecDepth 20000
set_option maxHeartbeats 4000000
end Go.Proofs.YtijfihbdcdkalaaGreatDoor
end

section
namespace Go.Proofs.YtijfihbdcdkalaaGreatDoor
open Go.Fw
variable [Gl]
set_option maxRecDepth 20000
set_option maxHeartbeats 4000000
theorem take_succ_getR {α : Type} {l : List α} {i : Nat} (hi : i < l.length) : l.take (i + 1) = l.take i ++ [l[i]] := by rw [List.take_succ_eq_append_getElem hi]
theorem catStr_dryR (l : List By) : (cat strC l).all dryV1 = true := by
  induction l with
  | nil => rfl
  | cons a r ih => rw [cat_cons, List.all_append, ih]; rfl
theorem catStr_dR (l : List By) : (cat strC l).all dry = true := by
  induction l with
  | nil => rfl
  | cons a r ih => rw [cat_cons, List.all_append, ih]; rfl
theorem catStr_lenR (l : List By) : (cat strC l).length = l.length * 1 := cat_length (k := 1) (fun _ => rfl) l
theorem catStr_appR (l : List By) (s : By) : cat strC l ++ [V.str s] = cat strC (l ++ [s]) := by rw [cat_append]; rfl
theorem slEqR {l l' : List By} (h : l = l') : some (slV strC l) = some (slV strC l') := by rw [h]
def sKinds : List By := [[], [110,117,109,98,101,114], [119,105,110,100,111,119], [108,111,103,99,111,117,110,116], [116,114,97,99,101,99,111,117,110,116], [102,108,97,109,101,119,101,105,103,104,116], [97,103,103,114,101,103,97,116,101], [98,105,110,97,114,121], [108,111,103,115], [116,114,97,99,101,115], [102,108,97,109,101], [101,120,101,109,112,108,97,114,116,114,97,99,101,115], [108,111,103,115,111,102], [118,105,101,119]]
def sMatch : List By := [[111,110,101], [109,97,110,121,116,111,111,110,101], [111,110,101,116,111,109,97,110,121]]
def sPats : List By := [[], [115,112,97,110], [99,104,105,108,100], [100,101,115,99,101,110,100,97,110,116], [115,105,98,108,105,110,103], [102,111,108,108,111,119,115], [108,105,110,107,101,100], [97,110,100], [111,114], [110,111,116]]
def sOps : List By := [[], [61], [33,61], [61,126], [33,126], [60], [62]]
def sStgs : List By := [[], [99,111,110,116,97,105,110,115], [110,111,116,99,111,110,116,97,105,110,115], [114,101,103,101,120], [112,97,114,115,101], [102,105,101,108,100], [107,101,101,112], [100,114,111,112], [108,97,98,101,108]]
theorem ref_kinds : PTri Tryz.prog 144 [] (slV strC sKinds) := by
  refine PTri.of_safe Tryz.func144 rfl Tryz.results144 Tryz.ntmps144 rfl ?_
  refine go 99 rfl ?_
  exact ⟨.inr rfl, trivial, .frz 0 rfl rfl (.done rfl rfl)⟩
theorem ref_matchings : PTri Tryz.prog 147 [] (slV strC sMatch) := by
  refine PTri.of_safe Tryz.func147 rfl Tryz.results147 Tryz.ntmps147 rfl ?_
  refine go 99 rfl ?_
  exact ⟨.inr rfl, trivial, .frz 0 rfl rfl (.done rfl rfl)⟩
theorem ref_patterns : PTri Tryz.prog 198 [] (slV strC sPats) := by
  refine PTri.of_safe Tryz.func198 rfl Tryz.results198 Tryz.ntmps198 rfl ?_
  refine go 99 rfl ?_
  exact ⟨.inr rfl, trivial, .frz 0 rfl rfl (.done rfl rfl)⟩
theorem ref_operators : PTri Tryz.prog 200 [] (slV strC sOps) := by
  refine PTri.of_safe Tryz.func200 rfl Tryz.results200 Tryz.ntmps200 rfl ?_
  refine go 99 rfl ?_
  exact ⟨.inr rfl, trivial, .frz 0 rfl rfl (.done rfl rfl)⟩
theorem ref_stages : PTri Tryz.prog 201 [] (slV strC sStgs) := by
  refine PTri.of_safe Tryz.func201 rfl Tryz.results201 Tryz.ntmps201 rfl ?_
  refine go 99 rfl ?_
  exact ⟨.inr rfl, trivial, .frz 0 rfl rfl (.done rfl rfl)⟩
theorem bc_app (acc : By) (c : UInt8) {z : Int} (h : z = (c.toNat : Int)) : byteCells acc ++ [V.int .u8 z] = byteCells (acc ++ [c]) := by rw [h]; simp [byteCells]
theorem bc_len (acc : By) : (byteCells acc).length = acc.length * 1 := by simp [byteCells]
theorem bc_dry (acc : By) : (byteCells acc).all dry = true := by simp [byteCells, dry]
theorem bc_all (l : By) : bytesOf (((byteCells l).drop 0).take l.length) = some l := by rw [List.drop_zero, List.take_of_length_le (by rw [bc_len]; omega), bytesOf_cells]
theorem bc_le (l : By) : 0 + l.length ≤ (byteCells l).length := by rw [bc_len]; omega
def qc (c : UInt8) : By := if c = 10 then [92, 110] else if c = 92 ∨ c = 34 then [92, c] else [c]
def quoS (s : By) : By := 34 :: (s.flatMap qc ++ [34])
theorem qc_len (c : UInt8) : (qc c).length ≤ 2 := by unfold qc; split <;> (try split) <;> simp
theorem fm_len (s : By) : (s.flatMap qc).length ≤ 2 * s.length := by
  induction s with
  | nil => simp
  | cons a r ih => have := qc_len a; simp only [List.flatMap_cons, List.length_append, List.length_cons]; omega
theorem quo_len (s : By) : (quoS s).length ≤ 2 * s.length + 2 := by
  have := fm_len s; simp only [quoS, List.length_cons, List.length_append, List.length_nil]; omega
theorem u8eq {c d : UInt8} (h : ((c.toNat : Int) == (d.toNat : Int)) = true) : c = d := by
  have := of_decide_eq_true (p := (c.toNat : Int) = d.toNat) (by simpa using h)
  exact UInt8.toNat_inj.1 (by omega)
theorem u8ne {c d : UInt8} (h : ((c.toNat : Int) == (d.toNat : Int)) = false) : c ≠ d := fun e => by subst e; simp at h
theorem ref_quoted (s : By) (hl : s.length ≤ big) : PTri Tryz.prog 154 [.str s] (.str (quoS s)) := by
  simp only [big] at hl
  refine PTri.of_safe Tryz.func154 rfl Tryz.results154 Tryz.ntmps154 rfl ?_
  refine go 99 rfl ?_
  refine Safe.loop (α := (Nat × By × Nat)) (fun a => [(0, .str s), (3, .slice 0 0 a.2.1.length a.2.2), (4, nI a.1)]) (fun a => [(0, .cells 5 (byteCells a.2.1) (a.2.2 * 1))]) 1 (fun a => s.length - a.1) (fun a => a.1 ≤ s.length ∧ a.2.1 = 34 :: (s.take a.1).flatMap qc) (0, [34], 1) (sgI 1) ⟨⟨fit rfl, fit rfl, fit rfl, trivial⟩, ⟨_, .refl _, .refl _⟩, rfl⟩ ⟨Nat.zero_le _, by simp⟩ ?_
  rintro ⟨i, acc, N⟩ ⟨hi, ha⟩
  dsimp only at hi ha
  have hal : acc.length ≤ 10000000 := by
    have h1 := fm_len (s.take i)
    have h2 : (s.take i).length ≤ s.length := by simp; omega
    rw [ha, List.length_cons]; omega
  refine go 99 rfl ?_
  refine Safe.br rfl (fun c1 => ?_) (fun c1 => ?_)
  · have hi : i < s.length := ltc c1
    have hstep : ∀ w, qc s[i] = w → acc ++ w = 34 :: (s.take (i + 1)).flatMap qc := fun w hw => by rw [take_succ_getR hi, List.flatMap_append, ha, ← hw]; simp
    refine go 99 rfl ?_
    refine Safe.idxS hi rfl rfl rfl ?_
    refine go 99 rfl ?_
    refine Safe.gs rfl (fun a => ?_) (fun a => ?_)
    · have a1 : s[i] = 92 := u8eq (d := 92) a
      refine go 99 rfl ?_
      refine Safe.appS (us := [.int .u8 92]) rfl rfl rfl rfl rfl rfl (rfl) rfl (bc_app _ 92 rfl) ((by simp : acc.length + 1 = (acc ++ [92]).length)) (bc_len _) (rfl) (rfl) (by first | omega | (dsimp only; omega) | (simp; omega)) (fun N' hN' => ?_)
      refine go 99 rfl ?_
      refine Safe.brF rfl (by rw [a1]; rfl) ?_
      refine go 99 rfl ?_
      refine Safe.appS (us := [.int .u8 s[i].toNat]) rfl rfl rfl rfl rfl rfl (rfl) rfl (bc_app _ s[i] rfl) ((by simp : (acc ++ [92]).length + 1 = (acc ++ [92] ++ [s[i]]).length)) (bc_len _) (rfl) (rfl) (by first | omega | (dsimp only; omega) | (simp; omega)) (fun N2 hN2 => ?_)
      refine go 99 rfl ?_
      exact ⟨[(0, 4)], (i + 1, acc ++ [92] ++ [s[i]], N2), ⟨hi, by dsimp only; rw [← hstep [92, s[i]] (by rw [a1]; rfl)]; simp⟩, mlt hi, rfl, rfl, ⟨fit rfl, fit rfl, fit (isucc (by first | omega | (dsimp only; omega))), trivial⟩, ⟨_, .refl _, subK rfl (renO_dry (bc_dry _)) subN⟩, rfl⟩
    · have a1 : s[i] ≠ 92 := u8ne (d := 92) a
      refine go 99 rfl ?_
      refine Safe.gs rfl (fun b => ?_) (fun b => ?_)
      · have b1 : s[i] = 34 := u8eq (d := 34) b
        refine go 99 rfl ?_
        refine Safe.appS (us := [.int .u8 92]) rfl rfl rfl rfl rfl rfl (rfl) rfl (bc_app _ 92 rfl) ((by simp : acc.length + 1 = (acc ++ [92]).length)) (bc_len _) (rfl) (rfl) (by first | omega | (dsimp only; omega) | (simp; omega)) (fun N' hN' => ?_)
        refine go 99 rfl ?_
        refine Safe.brF rfl (by rw [b1]; rfl) ?_
        refine go 99 rfl ?_
        refine Safe.appS (us := [.int .u8 s[i].toNat]) rfl rfl rfl rfl rfl rfl (rfl) rfl (bc_app _ s[i] rfl) ((by simp : (acc ++ [92]).length + 1 = (acc ++ [92] ++ [s[i]]).length)) (bc_len _) (rfl) (rfl) (by first | omega | (dsimp only; omega) | (simp; omega)) (fun N2 hN2 => ?_)
        refine go 99 rfl ?_
        exact ⟨[(0, 4)], (i + 1, acc ++ [92] ++ [s[i]], N2), ⟨hi, by dsimp only; rw [← hstep [92, s[i]] (by rw [b1]; rfl)]; simp⟩, mlt hi, rfl, rfl, ⟨fit rfl, fit rfl, fit (isucc (by first | omega | (dsimp only; omega))), trivial⟩, ⟨_, .refl _, subK rfl (renO_dry (bc_dry _)) subN⟩, rfl⟩
      · have b1 : s[i] ≠ 34 := u8ne (d := 34) b
        refine go 99 rfl ?_
        refine Safe.br rfl (fun d => ?_) (fun d => ?_)
        · have d1 : s[i] = 10 := u8eq (d := 10) d
          refine go 99 rfl ?_
          refine Safe.appS (us := [.int .u8 92]) rfl rfl rfl rfl rfl rfl (rfl) rfl (bc_app _ 92 rfl) ((by simp : acc.length + 1 = (acc ++ [92]).length)) (bc_len _) (rfl) (rfl) (by first | omega | (dsimp only; omega) | (simp; omega)) (fun N' hN' => ?_)
          refine go 99 rfl ?_
          refine Safe.brT rfl (by rw [d1]; rfl) ?_
          refine go 99 rfl ?_
          refine Safe.appS (us := [.int .u8 110]) rfl rfl rfl rfl rfl rfl (rfl) rfl (bc_app _ 110 rfl) ((by simp : (acc ++ [92]).length + 1 = (acc ++ [92] ++ [110]).length)) (bc_len _) (rfl) (rfl) (by first | omega | (dsimp only; omega) | (simp; omega)) (fun N2 hN2 => ?_)
          refine go 99 rfl ?_
          exact ⟨[(0, 4)], (i + 1, acc ++ [92] ++ [110], N2), ⟨hi, by dsimp only; rw [← hstep [92, 110] (by rw [d1]; rfl)]; simp⟩, mlt hi, rfl, rfl, ⟨fit rfl, fit rfl, fit (isucc (by first | omega | (dsimp only; omega))), trivial⟩, ⟨_, .refl _, subK rfl (renO_dry (bc_dry _)) subN⟩, rfl⟩
        · have d1 : s[i] ≠ 10 := u8ne (d := 10) d
          refine go 99 rfl ?_
          refine Safe.brF rfl d ?_
          refine go 99 rfl ?_
          refine Safe.appS (us := [.int .u8 s[i].toNat]) rfl rfl rfl rfl rfl rfl (rfl) rfl (bc_app _ s[i] rfl) ((by simp : acc.length + 1 = (acc ++ [s[i]]).length)) (bc_len _) (rfl) (rfl) (by first | omega | (dsimp only; omega) | (simp; omega)) (fun N2 hN2 => ?_)
          refine go 99 rfl ?_
          exact ⟨[(0, 2)], (i + 1, acc ++ [s[i]], N2), ⟨hi, by dsimp only; rw [← hstep [s[i]] (by simp [qc, a1, b1, d1])]⟩, mlt hi, rfl, rfl, ⟨fit rfl, fit rfl, fit (isucc (by first | omega | (dsimp only; omega))), trivial⟩, ⟨_, .refl _, subK rfl (renO_dry (bc_dry _)) subN⟩, rfl⟩
  · have hi2 : i = s.length := Nat.le_antisymm hi (gec c1)
    rw [hi2, List.take_length] at ha
    refine go 99 rfl ?_
    refine Safe.appS (us := [.int .u8 34]) rfl rfl rfl rfl rfl rfl (rfl) rfl (bc_app _ 34 rfl) ((by simp : acc.length + 1 = (acc ++ [34]).length)) (bc_len _) (rfl) (rfl) (by first | omega | (dsimp only; omega) | (simp; omega)) (fun N' hN' => ?_)
    refine Safe.cvB (s := acc ++ [34]) (bc_all _) (bc_le _) (bc_dry _) rfl rfl ?_
    refine go 99 rfl ?_
    exact ⟨.inr rfl, trivial, .done ((by rw [ha]; rfl)) rfl⟩
def lstG : Nat → By → List By → By
  | _, out, [] => out ++ [41]
  | i, out, x :: r => lstG (i + 1) ((if 0 < i then out ++ [32] else out) ++ x) r
def lstS (l : List By) : By := lstG 0 [40] l
def sumL : List By → Nat
  | [] => 0
  | a :: r => a.length + 1 + sumL r
theorem sumL_app : ∀ a b : List By, sumL (a ++ b) = sumL a + sumL b
  | [], b => by simp [sumL]
  | x :: r, b => by simp only [List.cons_append, sumL, sumL_app r b]; omega
theorem lstG_len : ∀ (l : List By) (i : Nat) (out : By), (lstG i out l).length ≤ out.length + sumL l + 1
  | [], i, out => by simp [lstG, sumL]
  | x :: r, i, out => by
    have := lstG_len r (i + 1) ((if 0 < i then out ++ [32] else out) ++ x)
    simp only [lstG, sumL]
    have h2 : ((if 0 < i then out ++ [32] else out) ++ x).length ≤ out.length + 1 + x.length := by split <;> simp <;> omega
    omega
theorem lst_len (l : List By) : (lstS l).length ≤ sumL l + 2 := by have := lstG_len l 0 [40]; simp only [lstS, List.length_cons, List.length_nil] at this ⊢; omega
theorem sumL_tk {l : List By} {i : Nat} (h : i < l.length) : sumL (l.take i) + (l[i].length + 1) ≤ sumL l := by
  have h1 := sumL_app (l.take i) (l.drop i)
  rw [List.take_append_drop, List.drop_eq_getElem_cons h, sumL] at h1
  omega
theorem ref_list (l : List By) (hl : l.length ≤ 100000000) (hs : sumL l ≤ 4611686018427387904) : PTri Tryz.prog 149 [slV strC l] (.str (lstS l)) := by
  refine PTri.of_safe Tryz.func149 rfl Tryz.results149 Tryz.ntmps149 rfl ?_
  refine go 99 rfl ?_
  refine Safe.loop (α := (Nat × By)) (fun a => [(0, slV strC l), (3, .str a.2), (4, nI a.1)]) (fun a => []) 0 (fun a => l.length - a.1) (fun a => a.1 ≤ l.length ∧ lstS l = lstG a.1 a.2 (l.drop a.1) ∧ a.2.length ≤ 1 + sumL (l.take a.1)) (0, [40]) (sgI 0) ⟨⟨fit rfl, fit rfl, fit rfl, trivial⟩, ⟨_, .refl _, List.nil_sublist _⟩, rfl⟩ ⟨Nat.zero_le _, rfl, by simp [sumL]⟩ ?_
  rintro ⟨i, out⟩ ⟨hi, ha, hal⟩
  dsimp only at hi ha hal
  refine go 99 rfl ?_
  refine Safe.br rfl (fun c1 => ?_) (fun c1 => ?_)
  · have hi : i < l.length := ltc c1
    have h2 := sumL_tk hi
    have h3 : sumL (l.take (i + 1)) = sumL (l.take i) + (l[i].length + 1) := by rw [take_succ_getR hi, sumL_app]; rfl
    rw [List.drop_eq_getElem_cons hi, lstG] at ha
    refine go 99 rfl ?_
    refine Safe.br rfl (fun d => ?_) (fun d => ?_)
    · have d1 : 0 < i := by simpa using d
      rw [if_pos d1] at ha
      refine go 99 rfl ?_
      refine Safe.cat (by simp; omega) rfl rfl ?_
      refine go 99 rfl ?_
      refine Safe.idxF hi rfl rfl rfl ?_
      refine go 99 rfl ?_
      refine Safe.ldF (ldStr hi) rfl rfl rfl ?_
      refine go 99 rfl ?_
      refine Safe.cat (by simp; omega) rfl rfl ?_
      refine go 99 rfl ?_
      exact ⟨sgI 0, (i + 1, out ++ [32] ++ l[i]), ⟨hi, ha, by simp; omega⟩, mlt hi, rfl, rfl, ⟨fit rfl, fit rfl, fit (isucc (by first | omega | (dsimp only; omega))), trivial⟩, ⟨_, .refl _, List.nil_sublist _⟩, rfl⟩
    · have d1 : ¬ 0 < i := by simpa using d
      rw [if_neg d1] at ha
      refine go 99 rfl ?_
      refine Safe.idxF hi rfl rfl rfl ?_
      refine go 99 rfl ?_
      refine Safe.ldF (ldStr hi) rfl rfl rfl ?_
      refine go 99 rfl ?_
      refine Safe.cat (by simp; omega) rfl rfl ?_
      refine go 99 rfl ?_
      exact ⟨sgI 0, (i + 1, out ++ l[i]), ⟨hi, ha, by simp; omega⟩, mlt hi, rfl, rfl, ⟨fit rfl, fit rfl, fit (isucc (by first | omega | (dsimp only; omega))), trivial⟩, ⟨_, .refl _, List.nil_sublist _⟩, rfl⟩
  · have hi2 : i = l.length := Nat.le_antisymm hi (gec c1)
    rw [hi2, List.drop_length, lstG] at ha
    rw [hi2, List.take_length] at hal
    refine go 99 rfl ?_
    refine Safe.cat (by simp; omega) rfl rfl ?_
    refine go 99 rfl ?_
    exact ⟨.inr rfl, trivial, .done ((by rw [ha]; rfl)) rfl⟩
def decF : Nat → Nat → By
  | 0, n => [UInt8.ofNat (48 + n)]
  | f + 1, n => if n < 10 then [UInt8.ofNat (48 + n)] else decF f (n / 10) ++ [UInt8.ofNat (48 + n % 10)]
theorem decF_len : ∀ f n, (decF f n).length ≤ f + 1
  | 0, n => by simp [decF]
  | f + 1, n => by have := decF_len f (n / 10); simp only [decF]; split <;> simp <;> omega
theorem stEq {a b : By} (h : a = b) : some (V.str a) = some (V.str b) := by rw [h]
theorem dig10 {n : Nat} (h : n < 10) : bytesOf [V.int .u8 (IntKind.u8.wrap (IntKind.i64.wrap (48 + (n : Int))))] = some [UInt8.ofNat (48 + n)] := by
  have : n = 0 ∨ n = 1 ∨ n = 2 ∨ n = 3 ∨ n = 4 ∨ n = 5 ∨ n = 6 ∨ n = 7 ∨ n = 8 ∨ n = 9 := by omega
  rcases this with rfl | rfl | rfl | rfl | rfl | rfl | rfl | rfl | rfl | rfl <;> rfl
theorem q10 {n : Nat} (h : n < 4611686018427387904) : IntKind.i64.wrap ((n : Int).tdiv 10) = ((n / 10 : Nat) : Int) := by
  rw [show (10 : Int) = ((10 : Nat) : Int) from rfl, ← Int.ofNat_tdiv, wrap64_fit (by omega) (by omega)]
theorem r10 {n : Nat} : (n : Int).tmod 10 = ((n % 10 : Nat) : Int) := by
  rw [show (10 : Int) = ((10 : Nat) : Int) from rfl, ← Int.ofNat_tmod]
theorem dig10m {n : Nat} : bytesOf [V.int .u8 (IntKind.u8.wrap (IntKind.i64.wrap (48 + (n : Int).tmod 10)))] = some [UInt8.ofNat (48 + n % 10)] := by
  rw [r10]; exact dig10 (Nat.mod_lt _ (by decide))
theorem ref_decimal : ∀ (f n : Nat), n < 10 ^ (f + 1) → n < 4611686018427387904 → f ≤ 100 → PTri Tryz.prog 196 [nI n] (.str (decF f n)) := by
  intro f
  induction f with
  | zero =>
    intro n hn hb hf
    refine PTri.of_safe Tryz.func196 rfl Tryz.results196 Tryz.ntmps196 rfl ?_
    refine go 99 rfl ?_
    refine Safe.br rfl (fun c => ?_) (fun c => ?_)
    · have c1 : n < 10 := ltc (n := 10) c
      refine go 99 rfl ?_
      refine Safe.cvB (o' := 0) (len := 1) (cs := [.int .u8 (IntKind.u8.wrap (IntKind.i64.wrap (48 + (n : Int))))]) (dig10 c1) (Nat.le_refl _) rfl rfl rfl ?_
      refine go 99 rfl ?_
      exact ⟨.inr rfl, trivial, .done (rfl) rfl⟩
    · exfalso
      simp at c hn
      omega
  | succ f ih =>
    intro n hn hb hf
    have hdl := decF_len f (n / 10)
    refine PTri.of_safe Tryz.func196 rfl Tryz.results196 Tryz.ntmps196 rfl ?_
    refine go 99 rfl ?_
    refine Safe.br rfl (fun c => ?_) (fun c => ?_)
    · have c1 : n < 10 := ltc (n := 10) c
      refine go 99 rfl ?_
      refine Safe.cvB (o' := 0) (len := 1) (cs := [.int .u8 (IntKind.u8.wrap (IntKind.i64.wrap (48 + (n : Int))))]) (dig10 c1) (Nat.le_refl _) rfl rfl rfl ?_
      refine go 99 rfl ?_
      exact ⟨.inr rfl, trivial, .done ((by rw [decF, if_pos c1]; rfl)) rfl⟩
    · have c1 : ¬ n < 10 := by have := gec (n := 10) c; omega
      refine go 99 rfl ?_
      refine Safe.drawP mixed [0, 1, 2, 3, 4, 5, 6, 7, 8, 9, 10] [(true, false), (true, false), (true, false), (true, true), (true, true), (true, true), (true, true), (true, true), (true, true), (true, true), (true, true)] (by kernel_rfl) ?_
      refine go 99 rfl ?_
      refine go 99 rfl ?_
      refine Safe.eqv (congrArg (V.int .i64) (q10 hb)) ?_
      refine Safe.call (ih (n / 10) (by rw [Nat.pow_succ] at hn; omega) (by omega) (by omega)) rfl rfl rfl ?_
      refine go 99 rfl ?_
      refine Safe.bsF rfl rfl ?_
      refine go 99 rfl ?_
      refine Safe.cvF (len := 1) (cs := [.int .u8 (IntKind.u8.wrap (IntKind.i64.wrap (48 + (n : Int).tmod 10)))]) dig10m (Nat.le_refl _) rfl rfl ?_
      refine go 99 rfl ?_
      refine Safe.cat (by simp; omega) rfl rfl ?_
      refine go 99 rfl ?_
      exact ⟨.inr rfl, trivial, .done ((by rw [decF, if_neg c1]; rfl)) rfl⟩
def fmtS (num den : Int) : By := if ratE num den ≠ 0 then [] else (if num < 0 then [45] else []) ++ (decF 20 num.natAbs ++ (if 1 < den then 47 :: decF 20 den.natAbs else []))
theorem fmt_len (num den : Int) : (fmtS num den).length ≤ 44 := by
  have h1 := decF_len 20 num.natAbs
  have h2 := decF_len 20 den.natAbs
  unfold fmtS
  split
  · simp
  · simp only [List.length_append]
    have h3 : (if num < 0 then [45] else [] : By).length ≤ 1 := by split <;> simp
    have h4 : (if 1 < den then 47 :: decF 20 den.natAbs else []).length ≤ 22 := by split <;> simp <;> omega
    omega
theorem ratE_bd {num den : Int} (h : ratE num den = 0) : 1 ≤ den ∧ den ≤ 1152921504606846976 ∧ -1152921504606846976 ≤ num ∧ num ≤ 1152921504606846976 := by
  unfold ratE at h
  split at h
  · cases h
  · omega
theorem ref_format (num den : Int) : PTri Tryz.prog 146 [ratV num den] (.str (fmtS num den)) := by
  have hE := fmtS.eq_1 num den
  refine PTri.of_safe Tryz.func146 rfl Tryz.results146 Tryz.ntmps146 rfl ?_
  refine go 99 rfl ?_
  refine Safe.call (ref_rat num den) rfl rfl rfl ?_
  refine go 99 rfl ?_
  refine Safe.br rfl (fun c => ?_) (fun c => ?_)
  · have c1 : ratE num den ≠ 0 := by simpa using c
    rw [if_pos c1] at hE
    refine go 99 rfl ?_
    exact ⟨.inr rfl, trivial, .done ((by rw [hE]; rfl)) rfl⟩
  · have c1 : ratE num den = 0 := by simpa using c
    obtain ⟨b1, b2, b3, b4⟩ := ratE_bd c1
    rw [if_neg (by simp [c1])] at hE
    have hden : den = (den.natAbs : Int) := by omega
    have hl1 := decF_len 20 num.natAbs
    have hl2 := decF_len 20 den.natAbs
    refine go 99 rfl ?_
    refine Safe.call (ref_abs num ⟨b3, b4⟩) rfl rfl rfl ?_
    refine go 99 rfl ?_
    refine Safe.call (ref_decimal 20 num.natAbs (by simp; omega) (by omega) (by decide)) rfl rfl rfl ?_
    refine go 99 rfl ?_
    refine Safe.br rfl (fun d => ?_) (fun d => ?_)
    · have d1 : num < 0 := by simpa using d
      rw [if_pos d1] at hE
      refine go 99 rfl ?_
      refine Safe.cat (by simp; omega) rfl rfl ?_
      refine go 99 rfl ?_
      refine Safe.br rfl (fun e => ?_) (fun e => ?_)
      · have e1 : 1 < den := by simpa using e
        rw [if_pos e1] at hE
        refine go 99 rfl ?_
        refine Safe.cat (by simp; omega) rfl rfl ?_
        refine go 99 rfl ?_
        refine Safe.eqv (congrArg (V.int .i64) hden) ?_
        refine Safe.call (ref_decimal 20 den.natAbs (by simp; omega) (by omega) (by decide)) rfl rfl rfl ?_
        refine go 99 rfl ?_
        refine Safe.cat (by simp; omega) rfl rfl ?_
        refine go 99 rfl ?_
        exact ⟨.inr rfl, trivial, .done (stEq (by rw [hE]; simp)) rfl⟩
      · have e1 : ¬ 1 < den := by simpa using e
        rw [if_neg e1] at hE
        refine go 99 rfl ?_
        exact ⟨.inr rfl, trivial, .done (stEq (by rw [hE]; simp)) rfl⟩
    · have d1 : ¬ num < 0 := by simpa using d
      rw [if_neg d1] at hE
      refine go 99 rfl ?_
      refine Safe.br rfl (fun e => ?_) (fun e => ?_)
      · have e1 : 1 < den := by simpa using e
        rw [if_pos e1] at hE
        refine go 99 rfl ?_
        refine Safe.cat (by simp; omega) rfl rfl ?_
        refine go 99 rfl ?_
        refine Safe.eqv (congrArg (V.int .i64) hden) ?_
        refine Safe.call (ref_decimal 20 den.natAbs (by simp; omega) (by omega) (by decide)) rfl rfl rfl ?_
        refine go 99 rfl ?_
        refine Safe.cat (by simp; omega) rfl rfl ?_
        refine go 99 rfl ?_
        exact ⟨.inr rfl, trivial, .done (stEq (by rw [hE]; simp)) rfl⟩
      · have e1 : ¬ 1 < den := by simpa using e
        rw [if_neg e1] at hE
        refine go 99 rfl ?_
        exact ⟨.inr rfl, trivial, .done (stEq (by rw [hE]; simp)) rfl⟩
theorem ref_dec (n : Int) : PTri Tryz.prog 152 [nI n] (.str (fmtS n 1)) := by
  refine PTri.of_safe Tryz.func152 rfl Tryz.results152 Tryz.ntmps152 rfl ?_
  refine go 99 rfl ?_
  refine Safe.call (ref_format n 1) rfl rfl rfl ?_
  refine go 99 rfl ?_
  exact ⟨.inr rfl, trivial, .done (rfl) rfl⟩
end Go.Proofs.YtijfihbdcdkalaaGreatDoor
end

section
namespace Go.Proofs.YtijfihbdcdkalaaGreatDoor
open Go.Fw
variable [Gl]
set_option maxRecDepth 20000
set_option maxHeartbeats 4000000
theorem getD_len {l : List By} {b : Nat} (h : ∀ s ∈ l, s.length ≤ b) (i : Nat) : (l.getD i []).length ≤ b := by
  rw [List.getD_eq_getElem?_getD]
  cases he : l[i]? with
  | none => simp
  | some s => exact h s (List.mem_of_getElem? he)
def opS (k : Int) : By := sOps.getD k.toNat []
def stN (k : Int) : By := sStgs.getD k.toNat []
def paN (k : Int) : By := sPats.getD k.toNat []
theorem opS_len (k : Int) : (opS k).length ≤ 2 := getD_len (by decide) _
theorem stN_len (k : Int) : (stN k).length ≤ 20 := getD_len (by decide) _
theorem paN_len (k : Int) : (paN k).length ≤ 20 := getD_len (by decide) _
theorem getD_at {l : List By} {i : Nat} (h : i < l.length) : V.str l[i] = V.str (l.getD i []) := by rw [List.getD_eq_getElem?_getD, List.getElem?_eq_getElem h]; rfl
def matS (x : Mat) : By := lstS [opS x.kind, x.name, quoS x.value]
theorem matS_len {x : Mat} (h : okM x) : (matS x).length ≤ 16777216 := by
  have h1 := lst_len [opS x.kind, x.name, quoS x.value]
  have h2 := opS_len x.kind
  have h3 := quo_len x.value
  have h4 := h.1
  have h5 := h.2
  simp only [big] at h4 h5
  simp only [sumL] at h1
  simp only [matS]; omega
def vM (x : Mat) : Prop := 0 ≤ x.kind ∧ x.kind ≤ 6
theorem ldMat {l : List Mat} {i : Nat} (j : Nat) {T : TypeId} {v : V} (hi : i < l.length) (hj : j < 3) (ht : tagg Tryz.prog T = some false) (hv : (matC l[i])[j]? = some v) : ldAt Tryz.prog T (cat matC l) (i * 3 + j) = some v := ld_cat1 j (fun _ => rfl) hi hj ht hv
theorem ref_matchers (l : List Mat) (hl : okMs l) (hv : ∀ x ∈ l, vM x) : PTri Tryz.prog 150 [slV matC l] (slV strC (l.map matS)) := by
  have hl1 := hl.1
  simp only [big] at hl1
  refine PTri.of_safe Tryz.func150 rfl Tryz.results150 Tryz.ntmps150 rfl ?_
  refine go 99 rfl ?_
  refine Safe.loop (α := (Nat × List By × Nat)) (fun a => [(0, slV matC l), (3, .slice 0 0 a.2.1.length a.2.2), (4, nI a.1)]) (fun a => [(0, .cells 9 (cat strC a.2.1) (a.2.2 * 1))]) 1 (fun a => l.length - a.1) (fun a => a.1 ≤ l.length ∧ a.2.1 = (l.take a.1).map matS) (0, [], 0) (sgI 1) ⟨⟨fit rfl, fit rfl, fit rfl, trivial⟩, ⟨_, .refl _, .refl _⟩, rfl⟩ ⟨Nat.zero_le _, by simp⟩ ?_
  rintro ⟨i, acc, N⟩ ⟨hi, ha⟩
  dsimp only at hi ha
  have hal : acc.length = i := by rw [ha]; simp; omega
  refine go 99 rfl ?_
  refine Safe.br rfl (fun c1 => ?_) (fun c1 => ?_)
  · have hi : i < l.length := ltc c1
    have hvi := hv _ (List.getElem_mem hi)
    have hoi := hl.2 _ (List.getElem_mem hi)
    have hk : l[i].kind = (l[i].kind.toNat : Int) := by have := hvi.1; omega
    have hkl : l[i].kind.toNat < sOps.length := by have := hvi.2; simp only [sOps, List.length_cons, List.length_nil]; omega
    have hml := matS_len hoi
    have h2 := opS_len l[i].kind
    have h3 := quo_len l[i].value
    have h4 := hoi.1
    have h5 := hoi.2
    simp only [big] at h4 h5
    refine go 99 rfl ?_
    refine Safe.drawP mixed [0, 1, 2, 3, 4, 5, 6, 7, 8, 9, 10, 11, 12, 13, 14, 15, 16, 17, 18, 19, 20, 21, 22, 23, 24] [(true, false), (true, true), (true, false), (true, false), (true, false), (true, false), (true, false), (true, false), (true, false), (true, false), (true, false), (true, false), (true, false), (true, false), (true, true), (true, true), (true, true), (true, true), (true, true), (true, true), (true, true), (true, true), (true, true), (true, true), (true, true)] (by kernel_rfl) ?_
    refine go 99 rfl ?_
    refine Safe.call (ref_operators) rfl rfl rfl ?_
    refine go 99 rfl ?_
    refine Safe.idxF hi rfl rfl rfl ?_
    refine go 99 rfl ?_
    refine Safe.ldF (ldMat 0 hi (by decide) (by kernel_rfl) rfl) rfl rfl rfl ?_
    refine go 99 rfl ?_
    refine Safe.idxF (i := l[i].kind.toNat) hkl hk rfl rfl ?_
    refine go 99 rfl ?_
    refine Safe.ldF (ldStr hkl) rfl rfl rfl ?_
    refine Safe.eqv (getD_at hkl) ?_
    refine go 99 rfl ?_
    refine Safe.idxF hi rfl rfl rfl ?_
    refine go 99 rfl ?_
    refine Safe.ldF (ldMat 1 hi (by decide) (by kernel_rfl) rfl) rfl rfl rfl ?_
    refine go 99 rfl ?_
    refine Safe.idxF hi rfl rfl rfl ?_
    refine go 99 rfl ?_
    refine Safe.ldF (ldMat 2 hi (by decide) (by kernel_rfl) rfl) rfl rfl rfl ?_
    refine go 99 rfl ?_
    refine Safe.call (ref_quoted l[i].value (by simp only [big]; omega)) rfl rfl rfl ?_
    refine go 99 rfl ?_
    refine Safe.bsF rfl rfl ?_
    refine go 99 rfl ?_
    refine Safe.call (ref_list [opS l[i].kind, l[i].name, quoS l[i].value] (by simp) (by simp only [sumL]; omega)) rfl rfl rfl ?_
    refine go 99 rfl ?_
    refine Safe.bsF rfl rfl ?_
    refine go 99 rfl ?_
    refine Safe.tail (by kernel_rfl) ?_
    refine go 99 rfl ?_
    refine Safe.appS (us := [.str (matS l[i])]) rfl rfl rfl rfl rfl rfl (rfl) rfl (catStr_appR _ _) ((by simp : acc.length + 1 = (acc ++ [matS l[i]]).length)) (catStr_lenR _) (rfl) (rfl) (by first | omega | (dsimp only; omega) | (simp; omega)) (fun N' hN' => ?_)
    refine go 99 rfl ?_
    exact ⟨[(0, 1)], (i + 1, acc ++ [matS l[i]], N'), ⟨hi, by dsimp only; rw [take_succ_getR hi, List.map_append, ← ha]; rfl⟩, mlt hi, rfl, rfl, ⟨fit rfl, fit rfl, fit (isucc (by first | omega | (dsimp only; omega))), trivial⟩, ⟨_, .refl _, subK rfl (renO_dry (catStr_dR _)) subN⟩, rfl⟩
  · have hi2 : i = l.length := Nat.le_antisymm hi (gec c1)
    rw [hi2, List.take_length] at ha
    refine go 99 rfl ?_
    exact ⟨.inr rfl, trivial, .frz 0 rfl (catStr_dryR _) (.done (slEqR ha) rfl)⟩
theorem evSrc_str {h : Hp} (l : List By) : evSrc h 1 (slV strC l) = some (cat strC l, l.length) := by
  simp only [evSrc, slV]
  rw [if_pos (by rw [catStr_lenR]; omega), List.take_of_length_le (by rw [catStr_lenR]; omega)]
theorem catStr_leaf (l : List By) : (cat strC l).all leafV = true := by
  induction l with
  | nil => rfl
  | cons a r ih => rw [cat_cons, List.all_append, ih]; rfl
theorem catStr_app2 (a b : List By) : cat strC a ++ cat strC b = cat strC (a ++ b) := by rw [cat_append]
def groS (e : Ex) : By := lstS ((if e.without = true then [119,105,116,104,111,117,116] else [98,121]) :: e.names)
theorem sumL_le {b : Nat} : ∀ {l : List By}, (∀ s ∈ l, s.length ≤ b) → sumL l ≤ l.length * (b + 1)
  | [], _ => by simp [sumL]
  | a :: r, h => by
    have h1 := sumL_le (l := r) fun s hs => h s (List.mem_cons_of_mem _ hs)
    have h2 := h a (by simp)
    simp only [sumL, List.length_cons]
    rw [Nat.add_mul]; omega
theorem bigm {n : Nat} (h : n ≤ 4194304) : n * (4194304 + 1) ≤ 17592190238720 := Nat.le_trans (Nat.mul_le_mul_right _ h) (by decide)
theorem sumN {l : List By} (h : okN l) : sumL l ≤ 17592190238720 := by
  have h2 := h.1
  simp only [big] at h2
  exact Nat.le_trans (sumL_le (b := 4194304) h.2) (bigm h2)
theorem groS_len {e : Ex} (h : okN e.names) : (groS e).length ≤ 35184372088832 := by
  have h1 := lst_len ((if e.without = true then [119,105,116,104,111,117,116] else [98,121]) :: e.names)
  have h2 := sumN h
  have h3 : (if e.without = true then [119,105,116,104,111,117,116] else [98,121] : By).length ≤ 7 := by split <;> simp
  simp only [sumL] at h1
  simp only [groS]; omega
theorem ref_groupS (e : Ex) (ho : okE e) : PTri Tryz.prog 153 [exV e] (.str (groS e)) := by
  rw [okE_eq] at ho
  have hn := ho.2.1
  have hs := sumN hn
  have hl := hn.1
  simp only [big] at hl
  refine PTri.of_safe Tryz.func153 rfl Tryz.results153 Tryz.ntmps153 rfl ?_
  refine go 99 rfl ?_
  refine Safe.br rfl (fun c => ?_) (fun c => ?_)
  · have c1 : e.without = true := c
    refine go 99 rfl ?_
    refine Safe.appS (us := (cat strC e.names)) rfl rfl rfl rfl rfl rfl (evSrc_str _) rfl ((rfl : cat strC [[119,105,116,104,111,117,116]] ++ cat strC e.names = cat strC ([119,105,116,104,111,117,116] :: e.names))) ((Nat.add_comm 1 _ : 1 + e.names.length = ([119,105,116,104,111,117,116] :: e.names).length)) (rfl) (catStr_dR _) (catStr_leaf _) (by first | omega | (dsimp only; omega) | (simp; omega)) (fun N' hN' => ?_)
    refine Safe.callF 2 (ref_list ([119,105,116,104,111,117,116] :: e.names) (by simp; omega) (by simp [sumL]; omega)) rfl rfl rfl rfl ?_ rfl ?_
    · exact catStr_dR _
    refine go 99 rfl ?_
    exact ⟨.inr rfl, trivial, .done (stEq (by rw [groS, if_pos c1])) rfl⟩
  · have c1 : e.without = false := c
    refine go 99 rfl ?_
    refine Safe.appS (us := (cat strC e.names)) rfl rfl rfl rfl rfl rfl (evSrc_str _) rfl ((rfl : cat strC [[98,121]] ++ cat strC e.names = cat strC ([98,121] :: e.names))) ((Nat.add_comm 1 _ : 1 + e.names.length = ([98,121] :: e.names).length)) (rfl) (catStr_dR _) (catStr_leaf _) (by first | omega | (dsimp only; omega) | (simp; omega)) (fun N' hN' => ?_)
    refine Safe.callF 2 (ref_list ([98,121] :: e.names) (by simp; omega) (by simp [sumL]; omega)) rfl rfl rfl rfl ?_ rfl ?_
    · exact catStr_dR _
    refine go 99 rfl ?_
    exact ⟨.inr rfl, trivial, .done (stEq (by rw [groS, c1]; rfl)) rfl⟩
def stgL (s : Stg) : List By := (([stN s.kind] ++ (if s.kind ≤ 3 then [quoS s.text] else [])) ++ s.ms.map matS) ++ s.names
def stgS (s : Stg) : By := lstS (stgL s)
def vS (s : Stg) : Prop := 0 ≤ s.kind ∧ s.kind ≤ 8 ∧ ∀ x ∈ s.ms, vM x
theorem sumMs {l : List Mat} (h : okMs l) : sumL (l.map matS) ≤ 70368748371968 := by
  have h1 := sumL_le (b := 16777216) (l := l.map matS) (fun s hs => by
    obtain ⟨x, hx, rfl⟩ := List.mem_map.1 hs
    exact matS_len (h.2 x hx))
  have h2 := h.1
  simp only [big] at h2
  rw [List.length_map] at h1
  exact Nat.le_trans h1 (Nat.le_trans (Nat.mul_le_mul_right _ h2) (by decide))
theorem stgL_sum {s : Stg} (h : okS s) : sumL (stgL s) ≤ 140737488355328 ∧ (stgL s).length ≤ 10000000 := by
  obtain ⟨h1, h2, h3⟩ := h
  have e1 := sumMs h2
  have e2 := sumN h3
  have e3 := quo_len s.text
  have e4 := stN_len s.kind
  have e5 := h2.1
  have e6 := h3.1
  simp only [big] at h1 e5 e6
  simp only [stgL, sumL_app, List.length_append, List.length_map, sumL]
  split <;> simp [sumL] <;> omega
theorem stgS_len {s : Stg} (h : okS s) : (stgS s).length ≤ 140737488355330 := by
  have := lst_len (stgL s); have := stgL_sum h; simp only [stgS]; omega
def pipS (l : List Stg) : By := lstS (l.map stgS)
theorem sumSt {l : List Stg} (h : okSs l) (h2 : l.length ≤ 100) : sumL (l.map stgS) ≤ 14073748835533100 := by
  have h1 := sumL_le (b := 140737488355330) (l := l.map stgS) (fun s hs => by
    obtain ⟨x, hx, rfl⟩ := List.mem_map.1 hs
    exact stgS_len (h.2 x hx))
  rw [List.length_map] at h1
  exact Nat.le_trans h1 (Nat.le_trans (Nat.mul_le_mul_right _ h2) (by decide))
theorem ldStg {l : List Stg} {i : Nat} (j : Nat) {T : TypeId} {v : V} (hi : i < l.length) (hj : j < 4) (ht : tagg Tryz.prog T = some false) (hv : (stgC l[i])[j]? = some v) : ldAt Tryz.prog T (cat stgC l) (i * 4 + j) = some v := ld_cat1 j (fun _ => rfl) hi hj ht hv
theorem okH2 (a b : List By) (T T' : TypeId) (n n' : Nat) : okH [1, 0] [(1, .cells T (cat strC a) n), (0, .cells T' (cat strC b) n')] = true := by
  simp only [okH, List.all_cons, okO, okL_dry1 _ _ (catStr_dryR _)]; rfl
theorem ref_pipeline (l : List Stg) (hl : okSs l) (h100 : l.length ≤ 100) (hv : ∀ x ∈ l, vS x) : PTri Tryz.prog 151 [slV stgC l] (.str (pipS l)) := by
  have hss := sumSt hl h100
  refine PTri.of_safe Tryz.func151 rfl Tryz.results151 Tryz.ntmps151 rfl ?_
  refine go 99 rfl ?_
  refine Safe.loop (α := (Nat × List By × Nat)) (fun a => [(0, slV stgC l), (3, .slice 0 0 a.2.1.length a.2.2), (4, nI a.1)]) (fun a => [(0, .cells 9 (cat strC a.2.1) (a.2.2 * 1))]) 1 (fun a => l.length - a.1) (fun a => a.1 ≤ l.length ∧ a.2.1 = (l.take a.1).map stgS) (0, [], 0) (sgI 1) ⟨⟨fit rfl, fit rfl, fit rfl, trivial⟩, ⟨_, .refl _, .refl _⟩, rfl⟩ ⟨Nat.zero_le _, by simp⟩ ?_
  rintro ⟨i, acc, N⟩ ⟨hi, ha⟩
  dsimp only at hi ha
  have hal : acc.length = i := by rw [ha]; simp; omega
  refine go 99 rfl ?_
  refine Safe.br rfl (fun c1 => ?_) (fun c1 => ?_)
  · have hi : i < l.length := ltc c1
    obtain ⟨hv1, hv2, hv3⟩ := hv _ (List.getElem_mem hi)
    have hoi := hl.2 _ (List.getElem_mem hi)
    have hoi' := hoi
    obtain ⟨o1, o2, o3⟩ := hoi
    have hsum := stgL_sum hoi'
    have hm1 := o2.1
    have hn1 := o3.1
    simp only [big] at hm1 hn1
    have hk : l[i].kind = (l[i].kind.toNat : Int) := by omega
    have hkl : l[i].kind.toNat < sStgs.length := by simp only [sStgs, List.length_cons, List.length_nil]; omega
    refine go 99 rfl ?_
    refine Safe.drawP mixed [0, 1, 2, 3, 4, 5, 6, 7, 8, 9] [(true, true), (true, true), (true, true), (true, true), (true, true), (true, true), (true, true), (true, true), (true, true), (true, true)] (by kernel_rfl) ?_
    refine go 99 rfl ?_
    refine Safe.call (ref_stages) rfl rfl rfl ?_
    refine go 99 rfl ?_
    refine Safe.idxF hi rfl rfl rfl ?_
    refine go 99 rfl ?_
    refine Safe.ldF (ldStg 0 hi (by decide) (by kernel_rfl) rfl) rfl rfl rfl ?_
    refine go 99 rfl ?_
    refine Safe.idxF (i := l[i].kind.toNat) hkl hk rfl rfl ?_
    refine go 99 rfl ?_
    refine Safe.ldF (ldStr hkl) rfl rfl rfl ?_
    refine Safe.eqv (getD_at hkl) ?_
    refine Safe.tail (by kernel_rfl) ?_
    refine go 99 rfl ?_
    refine Safe.idxF hi rfl rfl rfl ?_
    refine go 99 rfl ?_
    refine Safe.ldF (ldStg 0 hi (by decide) (by kernel_rfl) rfl) rfl rfl rfl ?_
    refine go 99 rfl ?_
    refine Safe.cut (α := (List By × Nat)) (fun b => [(0, slV stgC l), (3, .slice 0 0 acc.length N), (4, nI i), (5, .slice 1 0 b.1.length b.2)]) (fun b => [(1, .cells 9 (cat strC b.1) (b.2 * 1)), (0, .cells 9 (cat strC acc) (N * 1))]) 2 (fun b => b.1 = [stN l[i].kind] ++ (if l[i].kind ≤ 3 then [quoS l[i].text] else [])) ?_ ?_
    · refine Safe.br rfl (fun c => ?_) (fun c => ?_)
      · have c2 : l[i].kind ≤ 3 := by simpa using c
        refine go 99 rfl ?_
        refine Safe.idxF hi rfl rfl rfl ?_
        refine go 99 rfl ?_
        refine Safe.ldF (ldStg 1 hi (by decide) (by kernel_rfl) rfl) rfl rfl rfl ?_
        refine go 99 rfl ?_
        refine Safe.call (ref_quoted l[i].text o1) rfl rfl rfl ?_
        refine go 99 rfl ?_
        refine Safe.appS (us := [.str (quoS l[i].text)]) rfl rfl rfl rfl rfl rfl (rfl) rfl ((rfl : _ = cat strC [stN l[i].kind, quoS l[i].text])) ((rfl : 1 + 1 = [stN l[i].kind, quoS l[i].text].length)) (rfl) (rfl) (rfl) (by first | omega | (dsimp only; omega) | (simp; omega)) (fun N' hN' => ?_)
        refine go 99 rfl ?_
        exact ⟨[(0, 0), (1, 3)], ([stN l[i].kind, quoS l[i].text], N'), (by simp [c2]), rfl, rfl, ⟨fit rfl, fit rfl, fit rfl, fit rfl, trivial⟩, ⟨_, .refl _, subK rfl rfl (subD (subK rfl (renO_dry (catStr_dR _)) subN))⟩, rfl⟩
      · have c2 : ¬ l[i].kind ≤ 3 := by simpa using c
        refine go 99 rfl ?_
        exact ⟨sgI 2, ([stN l[i].kind], 1), (by simp [c2]), rfl, rfl, ⟨fit rfl, fit rfl, fit rfl, fit rfl, trivial⟩, ⟨_, .refl _, subK rfl rfl (subK rfl (renO_dry (catStr_dR _)) subN)⟩, rfl⟩
    · rintro ⟨x, M⟩ hx
      dsimp only at hx
      have hxl : x.length ≤ 2 := by rw [hx]; split <;> simp
      refine go 99 rfl ?_
      refine Safe.drawP mixed [0, 1, 2, 3, 4, 5, 6, 8, 9, 10, 11, 12, 7, 13, 14] [(true, false), (true, true), (true, true), (true, true), (true, true), (true, true), (true, true), (true, false), (true, false), (true, false), (true, false), (true, false), (true, true), (true, true), (true, true)] (by kernel_rfl) ?_
      refine go 99 rfl ?_
      refine Safe.idxF hi rfl rfl rfl ?_
      refine go 99 rfl ?_
      refine Safe.ldF (ldStg 2 hi (by decide) (by kernel_rfl) rfl) rfl rfl rfl ?_
      refine go 99 rfl ?_
      refine Safe.call (ref_matchers l[i].ms o2 hv3) rfl rfl rfl ?_
      refine go 99 rfl ?_
      refine Safe.idxF hi rfl rfl rfl ?_
      refine go 99 rfl ?_
      refine Safe.ldF (ldStg 3 hi (by decide) (by kernel_rfl) rfl) rfl rfl rfl ?_
      refine go 99 rfl ?_
      refine Safe.appD (us := (cat strC (l[i].ms.map matS))) rfl rfl rfl rfl rfl rfl (evSrc_str _) rfl (catStr_app2 _ _) ((by simp : x.length + (l[i].ms.map matS).length = (x ++ l[i].ms.map matS).length)) (catStr_lenR _) (catStr_dR _) (catStr_leaf _) ((by simp; omega)) (by kernel_rfl) (rfl) (okH2 _ _ _ _ _ _) (fun M1 hM1 => ?_)
      refine Safe.tail (by kernel_rfl) ?_
      refine go 99 rfl ?_
      refine Safe.appS (us := (cat strC l[i].names)) rfl rfl rfl rfl rfl rfl (evSrc_str _) rfl (catStr_app2 _ _) ((by simp [Nat.add_assoc] : (x ++ l[i].ms.map matS).length + l[i].names.length = (x ++ l[i].ms.map matS ++ l[i].names).length)) (catStr_lenR _) (catStr_dR _) (catStr_leaf _) ((by simp; omega)) (fun M2 hM2 => ?_)
      have hxe : x ++ l[i].ms.map matS ++ l[i].names = stgL l[i] := by rw [hx]; rfl
      refine go 99 rfl ?_
      refine Safe.callF 3 (ref_list (x ++ l[i].ms.map matS ++ l[i].names) (by rw [hxe]; omega) (by rw [hxe]; omega)) rfl rfl rfl rfl ?_ rfl ?_
      · exact catStr_dR _
      refine go 99 rfl ?_
      refine Safe.appS (us := [.str (lstS (x ++ l[i].ms.map matS ++ l[i].names))]) rfl rfl rfl rfl rfl rfl (rfl) rfl ((by rw [hxe]; exact catStr_appR _ _ : cat strC acc ++ [V.str (lstS (x ++ l[i].ms.map matS ++ l[i].names))] = cat strC (acc ++ [stgS l[i]]))) ((by simp : acc.length + 1 = (acc ++ [stgS l[i]]).length)) (catStr_lenR _) (rfl) (rfl) (by first | omega | (dsimp only; omega) | (simp; omega)) (fun N2 hN2 => ?_)
      refine go 99 rfl ?_
      exact ⟨[(0, 5)], (i + 1, acc ++ [stgS l[i]], N2), ⟨hi, by dsimp only; rw [take_succ_getR hi, List.map_append, ← ha]; rfl⟩, mlt hi, rfl, rfl, ⟨fit rfl, fit rfl, fit (isucc (by first | omega | (dsimp only; omega))), trivial⟩, ⟨_, .refl _, subK rfl (renO_dry (catStr_dR _)) subN⟩, rfl⟩
  · have hi2 : i = l.length := Nat.le_antisymm hi (gec c1)
    rw [hi2, List.take_length] at ha
    refine go 99 rfl ?_
    refine Safe.callF 0 (ref_list acc (by omega) (by rw [ha]; omega)) rfl rfl rfl rfl ?_ rfl ?_
    · exact catStr_dR _
    refine go 99 rfl ?_
    exact ⟨.inr rfl, trivial, .done (stEq (by rw [ha]; rfl)) rfl⟩
end Go.Proofs.YtijfihbdcdkalaaGreatDoor
end

section
namespace Go.Proofs.YtijfihbdcdkalaaGreatDoor
open Go.Fw
variable [Gl]
set_option maxRecDepth 20000
set_option maxHeartbeats 4000000
def conS (c : Cnd) : By := lstS [opS c.op, c.field, if isNum c.field = true then fmtS c.number 1 else quoS c.text]
theorem conS_len {c : Cnd} (h : okC c) : (conS c).length ≤ 16777216 ∧ sumL [opS c.op, c.field, if isNum c.field = true then fmtS c.number 1 else quoS c.text] ≤ 16777210 := by
  have h1 := lst_len [opS c.op, c.field, if isNum c.field = true then fmtS c.number 1 else quoS c.text]
  have h2 := opS_len c.op
  have h3 := quo_len c.text
  have h4 := fmt_len c.number 1
  have h5 := h.1
  have h6 := h.2
  have h7 : (if isNum c.field = true then fmtS c.number 1 else quoS c.text).length ≤ 2 * c.text.length + 44 := by split <;> omega
  simp only [big] at h5 h6
  simp only [sumL] at h1 ⊢
  simp only [conS]; omega
mutual
def patS : Pat → By
  | ⟨k, cs, l⟩ => lstS (paN k :: (cs.map conS ++ patSs l))
def patSs : List Pat → List By
  | [] => []
  | a :: r => patS a :: patSs r
end
theorem patSs_map : ∀ l : List Pat, patSs l = l.map patS
  | [] => rfl
  | a :: r => by rw [patSs, patSs_map r]; rfl
theorem patS_eq (p : Pat) : patS p = lstS (paN p.kind :: (p.conds.map conS ++ p.args.map patS)) := by
  cases p; rw [patS, patSs_map]
mutual
def vP : Pat → Prop
  | ⟨k, cs, l⟩ => 0 ≤ k ∧ k ≤ 9 ∧ cs.length ≤ 16 ∧ l.length ≤ 2 ∧ (∀ c ∈ cs, 0 ≤ c.op ∧ c.op ≤ 6) ∧ vPs l
def vPs : List Pat → Prop
  | [] => True
  | a :: r => vP a ∧ vPs r
end
theorem vP_eq (p : Pat) : vP p = (0 ≤ p.kind ∧ p.kind ≤ 9 ∧ p.conds.length ≤ 16 ∧ p.args.length ≤ 2 ∧ (∀ c ∈ p.conds, 0 ≤ c.op ∧ c.op ≤ 6) ∧ vPs p.args) := by cases p; rfl
theorem vPs_get : ∀ {l : List Pat}, vPs l → ∀ {i : Nat} (hi : i < l.length), vP l[i]
  | a :: r, h, 0, hi => h.1
  | a :: r, h, i + 1, hi => by simpa using vPs_get h.2 (i := i) (by simpa using hi)
theorem okP_eq2 (p : Pat) : okP p ↔ ((p.conds.length ≤ big ∧ ∀ c ∈ p.conds, okC c) ∧ p.args.length ≤ big ∧ okPs p.args) := by cases p; exact Iff.rfl
theorem szPs_mem : ∀ {l : List Pat} {i : Nat} (hi : i < l.length), szP l[i] ≤ szPs l
  | a :: r, 0, hi => by simp only [szPs, List.getElem_cons_zero]; omega
  | a :: r, i + 1, hi => by have := szPs_mem (l := r) (i := i) (by simpa using hi); simp only [szPs, List.getElem_cons_succ]; omega
mutual
theorem patS_len : ∀ p : Pat, okP p → vP p → (patS p).length ≤ szP p * 536870912
  | ⟨k, cs, l⟩, ho, hv => by
    rw [okP_eq2] at ho
    rw [vP_eq] at hv
    obtain ⟨_, _, v3, v4, _, v6⟩ := hv
    have h1 := patSs_len l ho.2.2 v6
    have h2 := sumL_le (b := 16777216) (l := cs.map conS) (fun s hs => by
      obtain ⟨x, hx, rfl⟩ := List.mem_map.1 hs
      exact (conS_len (ho.1.2 x hx)).1)
    rw [List.length_map] at h2
    have h3 : cs.length * (16777216 + 1) ≤ 268435472 := Nat.le_trans (Nat.mul_le_mul_right _ v3) (by decide)
    have h4 := paN_len k
    have h5 := lst_len (paN k :: (cs.map conS ++ patSs l))
    simp only [sumL, sumL_app] at h5
    simp only [patS, szP]
    rw [Nat.add_mul]
    simp only at v4
    omega
theorem patSs_len : ∀ l : List Pat, okPs l → vPs l → sumL (patSs l) ≤ szPs l * 536870912 + l.length
  | [], _, _ => by simp [patSs, sumL]
  | a :: r, ho, hv => by
    have h1 := patS_len a ho.1 hv.1
    have h2 := patSs_len r ho.2 hv.2
    simp only [patSs, sumL, szPs, List.length_cons]
    rw [Nat.add_mul]
    omega
end
theorem patL_sum {p : Pat} (ho : okP p) (hv : vP p) (hz : szP p ≤ 100) : sumL (paN p.kind :: (p.conds.map conS ++ p.args.map patS)) ≤ 100000000000 := by
  rw [okP_eq2] at ho
  rw [vP_eq] at hv
  obtain ⟨_, _, v3, v4, _, v6⟩ := hv
  have h1 := patSs_len p.args ho.2.2 v6
  rw [patSs_map] at h1
  have h2 := sumL_le (b := 16777216) (l := p.conds.map conS) (fun s hs => by
    obtain ⟨x, hx, rfl⟩ := List.mem_map.1 hs
    exact (conS_len (ho.1.2 x hx)).1)
  rw [List.length_map] at h2
  have h3 : p.conds.length * (16777216 + 1) ≤ 268435472 := Nat.le_trans (Nat.mul_le_mul_right _ v3) (by decide)
  have h4 := paN_len p.kind
  have h5 : szPs p.args * 536870912 ≤ 100 * 536870912 := Nat.mul_le_mul_right _ (by rw [szP_eq] at hz; omega)
  simp only [sumL, sumL_app]
  omega
theorem ldCndV {l : List Cnd} {i : Nat} (hi : i < l.length) : ldAt Tryz.prog 170 (cat cndC l) (i * 4) = some (.agg (cndC l[i])) := ld_cat (k := 4) (fun _ => rfl) hi (by kernel_rfl) (by kernel_rfl)
theorem ref_structure : ∀ (k : Nat) (p : Pat), depP p ≤ k → szP p ≤ 100 → okP p → vP p → PTri Tryz.prog 148 [patV p] (.str (patS p))
  | 0, p, hb, _, _, _ => by rw [depP_eq] at hb; omega
  | k + 1, p, hb, hz, ho, hv => by
    have hsum := patL_sum ho hv hz
    have hE := patS_eq p
    rw [depP_eq] at hb
    rw [szP_eq] at hz
    rw [okP_eq2] at ho
    rw [vP_eq] at hv
    obtain ⟨v1, v2, v3, v4, v5, v6⟩ := hv
    obtain ⟨o1, _, o3⟩ := ho
    have hk : p.kind = (p.kind.toNat : Int) := by omega
    have hkl : p.kind.toNat < sPats.length := by simp only [sPats, List.length_cons, List.length_nil]; omega
    refine PTri.of_safe Tryz.func148 rfl Tryz.results148 Tryz.ntmps148 rfl ?_
    refine go 99 rfl ?_
    refine Safe.drawP mixed [0, 1, 2, 3, 4, 5, 6] [(true, true), (true, true), (true, true), (true, true), (true, true), (true, true), (true, true)] (by kernel_rfl) ?_
    refine go 99 rfl ?_
    refine Safe.call (ref_patterns) rfl rfl rfl ?_
    refine go 99 rfl ?_
    refine Safe.idxF (i := p.kind.toNat) hkl hk rfl rfl ?_
    refine go 99 rfl ?_
    refine Safe.ldF (ldStr hkl) rfl rfl rfl ?_
    refine Safe.eqv (getD_at hkl) ?_
    refine Safe.tail (by kernel_rfl) ?_
    refine go 99 rfl ?_
    refine Safe.loop (α := (Nat × List By × Nat)) (fun a => [(1, .ptr 0 0), (3, .slice 1 0 a.2.1.length a.2.2), (4, nI a.1)]) (fun a => [(1, .cells 9 (cat strC a.2.1) (a.2.2 * 1)), (0, .cells 31 (patC p) 3)]) 2 (fun a => p.conds.length - a.1) (fun a => a.1 ≤ p.conds.length ∧ a.2.1 = paN p.kind :: (p.conds.take a.1).map conS) (0, [paN p.kind], 1) (sgI 2) ⟨⟨fit rfl, fit rfl, fit rfl, trivial⟩, ⟨_, .refl _, subK rfl rfl (subK rfl rfl subN)⟩, rfl⟩ ⟨Nat.zero_le _, by simp⟩ ?_
    rintro ⟨i, acc, N⟩ ⟨hi, ha⟩
    dsimp only at hi ha
    have hal : acc.length = i + 1 := by rw [ha]; simp; omega
    refine go 99 rfl ?_
    refine Safe.br rfl (fun c1 => ?_) (fun c1 => ?_)
    · have hi : i < p.conds.length := ltc c1
      have hoi := o1.2 _ (List.getElem_mem hi)
      obtain ⟨w1, w2⟩ := v5 _ (List.getElem_mem hi)
      obtain ⟨s1, s2⟩ := conS_len hoi
      have hk2 : p.conds[i].op = (p.conds[i].op.toNat : Int) := by omega
      have hkl2 : p.conds[i].op.toNat < sOps.length := by simp only [sOps, List.length_cons, List.length_nil]; omega
      refine go 99 rfl ?_
      refine Safe.idxF hi rfl rfl rfl ?_
      refine go 99 rfl ?_
      refine Safe.ldF (ldCndV hi) rfl rfl rfl ?_
      refine go 99 rfl ?_
      refine Safe.call (ref_quoted p.conds[i].text hoi.2) rfl rfl rfl ?_
      refine go 99 rfl ?_
      refine Safe.call (ref_num p.conds[i].field) rfl rfl rfl ?_
      refine go 99 rfl ?_
      refine Safe.cut (α := By) (fun b => [(1, .ptr 0 0), (3, .slice 1 0 acc.length N), (4, nI i), (5, .ptr 2 0), (6, .str b)]) (fun b => [(2, .cells 170 (cndC p.conds[i]) 4), (1, .cells 9 (cat strC acc) (N * 1)), (0, .cells 31 (patC p) 3)]) 3 (fun b => b = (if isNum p.conds[i].field = true then fmtS p.conds[i].number 1 else quoS p.conds[i].text)) ?_ ?_
      · refine Safe.br rfl (fun d => ?_) (fun d => ?_)
        · refine go 99 rfl ?_
          refine Safe.call (ref_dec p.conds[i].number) rfl rfl rfl ?_
          refine go 99 rfl ?_
          exact ⟨sgI 3, fmtS p.conds[i].number 1, (by rw [if_pos d]), rfl, rfl, ⟨fit rfl, fit rfl, fit rfl, fit rfl, fit rfl, trivial⟩, ⟨_, .refl _, subK rfl rfl (subK rfl (renO_dry (catStr_dR _)) (subK rfl rfl subN))⟩, rfl⟩
        · refine go 99 rfl ?_
          exact ⟨sgI 3, quoS p.conds[i].text, (by rw [if_neg (by simp [d])]), rfl, rfl, ⟨fit rfl, fit rfl, fit rfl, fit rfl, fit rfl, trivial⟩, ⟨_, .refl _, subK rfl rfl (subK rfl (renO_dry (catStr_dR _)) (subK rfl rfl subN))⟩, rfl⟩
      · rintro val hval
        rw [← hval] at s2
        have hcs : lstS [opS p.conds[i].op, p.conds[i].field, val] = conS p.conds[i] := by rw [hval]; rfl
        refine go 99 rfl ?_
        refine Safe.drawP mixed [0, 1, 2, 3, 4, 5, 6, 7, 8, 9, 10, 11, 12, 13] [(true, false), (true, true), (true, true), (true, true), (true, true), (true, true), (true, true), (true, true), (true, true), (true, true), (true, true), (true, true), (true, true), (true, true)] (by kernel_rfl) ?_
        refine go 99 rfl ?_
        refine Safe.call (ref_operators) rfl rfl rfl ?_
        refine go 99 rfl ?_
        refine Safe.idxF (i := p.conds[i].op.toNat) hkl2 hk2 rfl rfl ?_
        refine go 99 rfl ?_
        refine Safe.ldF (ldStr hkl2) rfl rfl rfl ?_
        refine Safe.eqv (getD_at hkl2) ?_
        refine go 99 rfl ?_
        refine Safe.bsF rfl rfl ?_
        refine go 99 rfl ?_
        refine Safe.call (ref_list [opS p.conds[i].op, p.conds[i].field, val] (by simp) (by omega)) rfl rfl rfl ?_
        refine go 99 rfl ?_
        refine Safe.bsF rfl rfl ?_
        refine go 99 rfl ?_
        refine Safe.tail (by kernel_rfl) ?_
        refine go 99 rfl ?_
        refine Safe.appS (us := [.str (lstS [opS p.conds[i].op, p.conds[i].field, val])]) rfl rfl rfl rfl rfl rfl (rfl) rfl ((by rw [hcs]; exact catStr_appR _ _ : cat strC acc ++ [V.str (lstS [opS p.conds[i].op, p.conds[i].field, val])] = cat strC (acc ++ [conS p.conds[i]]))) ((by simp : acc.length + 1 = (acc ++ [conS p.conds[i]]).length)) (catStr_lenR _) (rfl) (rfl) (by first | omega | (dsimp only; omega) | (simp; omega)) (fun N2 hN2 => ?_)
        refine go 99 rfl ?_
        exact ⟨[(0, 0), (1, 3)], (i + 1, acc ++ [conS p.conds[i]], N2), ⟨hi, by dsimp only; rw [take_succ_getR hi, List.map_append, ha]; rfl⟩, mlt hi, rfl, rfl, ⟨fit rfl, fit rfl, fit (isucc (by first | omega | (dsimp only; omega))), trivial⟩, ⟨_, .refl _, subK rfl (renO_dry (catStr_dR _)) (subD (subK rfl rfl subN))⟩, rfl⟩
    · have hi2 : i = p.conds.length := Nat.le_antisymm hi (gec c1)
      rw [hi2, List.take_length] at ha
      refine go 99 rfl ?_
      refine Safe.loop (α := (Nat × List By × Nat)) (fun a => [(1, .ptr 0 0), (3, .slice 1 0 a.2.1.length a.2.2), (7, nI a.1)]) (fun a => [(1, .cells 9 (cat strC a.2.1) (a.2.2 * 1)), (0, .cells 31 (patC p) 3)]) 2 (fun a => p.args.length - a.1) (fun a => a.1 ≤ p.args.length ∧ a.2.1 = paN p.kind :: (p.conds.map conS ++ (p.args.take a.1).map patS)) (0, acc, N) (sgI 2) ⟨⟨fit rfl, fit rfl, fit rfl, trivial⟩, ⟨_, .refl _, subK rfl (renO_dry (catStr_dR _)) (subK rfl rfl subN)⟩, rfl⟩ ⟨Nat.zero_le _, by simp [ha]⟩ ?_
      rintro ⟨j, acc2, N2⟩ ⟨hj, hb2⟩
      dsimp only at hj hb2
      have hal2 : acc2.length ≤ 19 := by rw [hb2]; simp; omega
      refine go 99 rfl ?_
      refine Safe.br rfl (fun c2 => ?_) (fun c2 => ?_)
      · have hj : j < p.args.length := ltc c2
        refine go 99 rfl ?_
        refine Safe.idxF hj rfl rfl rfl ?_
        refine go 99 rfl ?_
        refine Safe.ldF (ldPat hj) rfl rfl rfl ?_
        refine go 99 rfl ?_
        refine Safe.call (ref_structure k p.args[j] (by have := depPs_mem hj; omega) (by have := szPs_mem hj; omega) (okPs_get o3 hj) (vPs_get v6 hj)) rfl rfl rfl ?_
        refine go 99 rfl ?_
        refine Safe.appS (us := [.str (patS p.args[j])]) rfl rfl rfl rfl rfl rfl (rfl) rfl (catStr_appR _ _) ((by simp : acc2.length + 1 = (acc2 ++ [patS p.args[j]]).length)) (catStr_lenR _) (rfl) (rfl) (by first | omega | (dsimp only; omega) | (simp; omega)) (fun N3 hN3 => ?_)
        refine go 99 rfl ?_
        exact ⟨[(0, 0), (1, 3)], (j + 1, acc2 ++ [patS p.args[j]], N3), ⟨hj, by dsimp only; rw [take_succ_getR hj, List.map_append, hb2]; simp⟩, mlt hj, rfl, rfl, ⟨fit rfl, fit rfl, fit (isucc (by first | omega | (dsimp only; omega))), trivial⟩, ⟨_, .refl _, subK rfl (renO_dry (catStr_dR _)) (subD (subK rfl rfl subN))⟩, rfl⟩
      · have hj2 : j = p.args.length := Nat.le_antisymm hj (gec c2)
        rw [hj2, List.take_length] at hb2
        refine go 99 rfl ?_
        refine Safe.callF 1 (ref_list acc2 (by omega) (by rw [hb2]; omega)) rfl rfl rfl rfl ?_ rfl ?_
        · exact catStr_dR _
        refine go 99 rfl ?_
        exact ⟨.inr rfl, trivial, .done (stEq (by rw [hE, hb2])) rfl⟩
end Go.Proofs.YtijfihbdcdkalaaGreatDoor
end

section
namespace Go.Proofs.YtijfihbdcdkalaaGreatDoor
open Go.Fw
variable [Gl]
set_option maxRecDepth 20000
set_option maxHeartbeats 4000000
def pc1 (e : Ex) : List By := if 0 < nF e.kind then [(fns e.kind).getD e.fn.toNat []] else []
def pc2 (e : Ex) : List By := if hN e.kind e.fn = true then [fmtS e.num e.den] else []
def pc3 (e : Ex) : List By := if hT e.kind e.fn = true ∧ e.kind ≠ 5 then [e.text] else []
def pc4 (e : Ex) : List By := if hB e.kind = true then [sMatch.getD e.mtch.toNat []] else []
def pc5 (e : Ex) : List By := if hP e.kind = true then [patS e.pat] else []
def pc6 (e : Ex) : List By := if hM e.kind = true then [lstS (e.ms.map matS)] else []
def pc7 (e : Ex) : List By := if hS e.kind = true then [pipS e.stages] else []
def pc8 (e : Ex) : List By := if hW e.kind = true then [fmtS e.range 1, fmtS e.offset 1] else []
def pc9 (e : Ex) : List By := if hG e.kind = true then [groS e] else []
def pc10 (e : Ex) : List By := if e.kind = 5 then [quoS e.text] else []
def tx0 (e : Ex) : List By := [sKinds.getD e.kind.toNat []]
def tx1 (e : Ex) : List By := tx0 e ++ pc1 e
def tx2 (e : Ex) : List By := tx1 e ++ pc2 e
def tx3 (e : Ex) : List By := tx2 e ++ pc3 e
def tx4 (e : Ex) : List By := tx3 e ++ pc4 e
def tx5 (e : Ex) : List By := tx4 e ++ pc5 e
def tx6 (e : Ex) : List By := tx5 e ++ pc6 e
def tx7 (e : Ex) : List By := tx6 e ++ pc7 e
def tx8 (e : Ex) : List By := tx7 e ++ pc8 e
def tx9 (e : Ex) : List By := tx8 e ++ pc9 e
def tx10 (e : Ex) : List By := tx9 e ++ pc10 e
theorem if1 {c : Prop} [Decidable c] {a : By} : (if c then [a] else []).length ≤ 1 := by split <;> simp
theorem tx_len (e : Ex) : (tx10 e).length ≤ 12 ∧ (tx9 e).length ≤ 12 ∧ (tx8 e).length ≤ 12 ∧ (tx7 e).length ≤ 12 ∧ (tx6 e).length ≤ 12 ∧ (tx5 e).length ≤ 12 ∧ (tx4 e).length ≤ 12 ∧ (tx3 e).length ≤ 12 ∧ (tx2 e).length ≤ 12 ∧ (tx1 e).length ≤ 12 := by
  have h1 : (pc1 e).length ≤ 1 := if1
  have h2 : (pc2 e).length ≤ 1 := if1
  have h3 : (pc3 e).length ≤ 1 := if1
  have h4 : (pc4 e).length ≤ 1 := if1
  have h5 : (pc5 e).length ≤ 1 := if1
  have h6 : (pc6 e).length ≤ 1 := if1
  have h7 : (pc7 e).length ≤ 1 := if1
  have h8 : (pc8 e).length ≤ 2 := by unfold pc8; split <;> simp
  have h9 : (pc9 e).length ≤ 1 := if1
  have h10 : (pc10 e).length ≤ 1 := if1
  simp only [tx10, tx9, tx8, tx7, tx6, tx5, tx4, tx3, tx2, tx1, tx0, List.length_append, List.length_singleton]
  omega
mutual
def txtS : Ex → By
  | ⟨k, fn, ms, rg, off, num, den, names, wo, mt, st, pat, tx, l⟩ => lstS (tx10 ⟨k, fn, ms, rg, off, num, den, names, wo, mt, st, pat, tx, l⟩ ++ txtSs l)
def txtSs : List Ex → List By
  | [] => []
  | a :: r => txtS a :: txtSs r
end
theorem txtSs_map : ∀ l : List Ex, txtSs l = l.map txtS
  | [] => rfl
  | a :: r => by rw [txtSs, txtSs_map r]; rfl
theorem txtS_eq (e : Ex) : txtS e = lstS (tx10 e ++ e.args.map txtS) := by
  rw [← txtSs_map]; cases e; rfl
def vX (e : Ex) : Prop := 1 ≤ e.kind ∧ e.kind ≤ 13 ∧ (0 < nF e.kind → 1 ≤ e.fn ∧ e.fn < nF e.kind) ∧ (0 ≤ e.mtch ∧ e.mtch ≤ 2) ∧ (∀ x ∈ e.ms, vM x) ∧ e.stages.length ≤ 100 ∧ (∀ s ∈ e.stages, vS s) ∧ (hP e.kind = true → vP e.pat ∧ szP e.pat ≤ 100)
mutual
def vA : Ex → Prop
  | ⟨k, fn, ms, rg, off, num, den, names, wo, mt, st, pat, tx, l⟩ => vX ⟨k, fn, ms, rg, off, num, den, names, wo, mt, st, pat, tx, l⟩ ∧ vAs l
def vAs : List Ex → Prop
  | [] => True
  | a :: r => vA a ∧ vAs r
end
theorem vA_eq (e : Ex) : vA e = (vX e ∧ vAs e.args) := by cases e; rfl
theorem vAs_get : ∀ {l : List Ex}, vAs l → ∀ {i : Nat} (hi : i < l.length), vA l[i]
  | a :: r, h, 0, hi => h.1
  | a :: r, h, i + 1, hi => by simpa using vAs_get h.2 (i := i) (by simpa using hi)
theorem szEs_mem2 : ∀ {l : List Ex} {i : Nat} (hi : i < l.length), szE l[i] ≤ szEs l
  | a :: r, 0, hi => by simp only [szEs, List.getElem_cons_zero]; omega
  | a :: r, i + 1, hi => by have := szEs_mem2 (l := r) (i := i) (by simpa using hi); simp only [szEs, List.getElem_cons_succ]; omega
theorem sum_if {c : Prop} [Decidable c] {a : By} {b : Nat} (h : c → a.length ≤ b) : sumL (if c then [a] else []) ≤ b + 1 := by
  split
  · have := h (by assumption); simp only [sumL]; omega
  · simp [sumL]
theorem fns_b (k : Int) : ∀ s ∈ fns k, s.length ≤ 20 := by
  unfold fns
  repeat' split
  all_goals decide
theorem own_sum {e : Ex} (ho : okE e) (hv : vX e) : sumL (tx10 e) ≤ 14200000000000000 := by
  rw [okE_eq] at ho
  obtain ⟨o1, o2, o3, o4, o5, o6, o7⟩ := ho
  obtain ⟨v1, v2, v3, v4, v5, v6, v7, v8⟩ := hv
  simp only [big] at o5
  have h0 : sumL (tx0 e) ≤ 21 := by
    have := getD_len (l := sKinds) (b := 20) (by decide) e.kind.toNat
    simp only [tx0, sumL]; omega
  have h1 : sumL (pc1 e) ≤ 21 := sum_if fun _ => getD_len (fns_b _) _
  have h2 : sumL (pc2 e) ≤ 45 := sum_if fun _ => fmt_len _ _
  have h3 : sumL (pc3 e) ≤ 4194305 := sum_if fun _ => o5
  have h4 : sumL (pc4 e) ≤ 21 := sum_if fun _ => getD_len (by decide) _
  have h5 : sumL (pc5 e) ≤ 100000000003 := sum_if fun h => by
    have := lst_len (paN e.pat.kind :: (e.pat.conds.map conS ++ e.pat.args.map patS))
    have := patL_sum o4 (v8 h).1 (v8 h).2
    rw [patS_eq]; omega
  have h6 : sumL (pc6 e) ≤ 70368748371971 := sum_if fun _ => by have := lst_len (e.ms.map matS); have := sumMs o1; omega
  have h7 : sumL (pc7 e) ≤ 14073748835533103 := sum_if fun _ => by have := lst_len (e.stages.map stgS); have := sumSt o3 v6; simp only [pipS]; omega
  have h8 : sumL (pc8 e) ≤ 90 := by
    have := fmt_len e.range 1
    have := fmt_len e.offset 1
    unfold pc8; split <;> simp [sumL] <;> omega
  have h9 : sumL (pc9 e) ≤ 35184372088833 := sum_if fun _ => groS_len o2
  have h10 : sumL (pc10 e) ≤ 8388611 := sum_if fun _ => by have := quo_len e.text; omega
  simp only [tx10, tx9, tx8, tx7, tx6, tx5, tx4, tx3, tx2, tx1, sumL_app]
  omega
mutual
theorem txtS_len : ∀ e : Ex, okE e → vA e → (txtS e).length ≤ szE e * 18014398509481984
  | ⟨k, fn, ms, rg, off, num, den, names, wo, mt, st, pat, tx, l⟩, ho, hv => by
    have ho' := ho
    rw [okE_eq] at ho'
    rw [vA_eq] at hv
    have h1 := own_sum ho hv.1
    have h2 := txtSs_len l ho'.2.2.2.2.2.2 hv.2
    have h3 := lst_len (tx10 ⟨k, fn, ms, rg, off, num, den, names, wo, mt, st, pat, tx, l⟩ ++ txtSs l)
    have h4 := ho'.2.2.2.2.2.1
    simp only [big] at h4
    rw [sumL_app] at h3
    have h5 : (szEs l + 1) * 18014398509481984 ≤ szE ⟨k, fn, ms, rg, off, num, den, names, wo, mt, st, pat, tx, l⟩ * 18014398509481984 := Nat.mul_le_mul_right _ (by simp only [szE]; omega)
    rw [Nat.add_mul] at h5
    simp only [txtS]
    omega
theorem txtSs_len : ∀ l : List Ex, okEs l → vAs l → sumL (txtSs l) ≤ szEs l * 18014398509481984 + l.length
  | [], _, _ => by simp [txtSs, sumL]
  | a :: r, ho, hv => by
    have h1 := txtS_len a ho.1 hv.1
    have h2 := txtSs_len r ho.2 hv.2
    simp only [txtSs, sumL, szEs, List.length_cons]
    rw [Nat.add_mul]
    omega
end
theorem txt_sum {e : Ex} (ho : okE e) (hv : vA e) (hz : szE e ≤ 100) : sumL (tx10 e ++ e.args.map txtS) ≤ 4611686018427387904 := by
  have ho' := ho
  rw [okE_eq] at ho'
  rw [vA_eq] at hv
  have h1 := own_sum ho hv.1
  have h2 := txtSs_len e.args ho'.2.2.2.2.2.2 hv.2
  have h3 : szEs e.args * 18014398509481984 ≤ 100 * 18014398509481984 := Nat.mul_le_mul_right _ (by rw [szE_eq] at hz; omega)
  have h4 := ho'.2.2.2.2.2.1
  simp only [big] at h4
  rw [txtSs_map] at h2
  rw [sumL_app]
  omega
theorem ref_textS : ∀ (k : Nat) (e : Ex), depE e ≤ k → szE e ≤ 100 → okE e → vA e → PTri Tryz.prog 101 [exV e] (.str (txtS e))
  | 0, e, hb, _, _, _ => by rw [depE_eq] at hb; omega
  | k + 1, e, hb, hz, hoe, hva => by
    have hsum := txt_sum hoe hva hz
    have hE := txtS_eq e
    rw [depE_eq] at hb
    have ho' := hoe
    rw [okE_eq] at ho'
    obtain ⟨o1, o2, o3, o4, o5, o6, o7⟩ := ho'
    have o6' := o6
    simp only [big] at o6'
    rw [vA_eq] at hva
    obtain ⟨⟨v1, v2, v3, v4, v5, v6, v7, v8⟩, v9⟩ := hva
    have hk : e.kind = (e.kind.toNat : Int) := by omega
    have hkl : e.kind.toNat < sKinds.length := by simp only [sKinds, List.length_cons, List.length_nil]; omega
    have hmk : e.mtch = (e.mtch.toNat : Int) := by omega
    have hml : e.mtch.toNat < sMatch.length := by simp only [sMatch, List.length_cons, List.length_nil]; omega
    refine PTri.of_safe Tryz.func101 rfl Tryz.results101 Tryz.ntmps101 rfl ?_
    refine go 99 rfl ?_
    refine Safe.call (ref_has e) rfl rfl rfl ?_
    refine go 99 rfl ?_
    refine Safe.drawP mixed [0, 1, 2, 3, 4, 5, 6] [(true, true), (true, true), (true, true), (true, true), (true, true), (true, true), (true, true)] (by kernel_rfl) ?_
    refine go 99 rfl ?_
    refine Safe.call (ref_kinds) rfl rfl rfl ?_
    refine go 99 rfl ?_
    refine Safe.idxF (i := e.kind.toNat) hkl hk rfl rfl ?_
    refine go 99 rfl ?_
    refine Safe.ldF (ldStr hkl) rfl rfl rfl ?_
    refine Safe.eqv (getD_at hkl) ?_
    refine Safe.tail (by kernel_rfl) ?_
    refine go 99 rfl ?_
    refine Safe.call (ref_fns e.kind) rfl rfl rfl ?_
    refine go 99 rfl ?_
    refine Safe.cut (α := (List By × Nat)) (fun b => [(1, .ptr 0 0), (3, .ptr 1 0), (4, .slice 2 0 b.1.length b.2)]) (fun b => [(2, .cells 9 (cat strC b.1) (b.2 * 1)), (1, .cells 172 (hasC e.kind e.fn) 10), (0, .cells 34 (exC e) 16)]) 3 (fun b => b.1 = tx1 e) ?_ ?_
    · refine Safe.br rfl (fun c => ?_) (fun c => ?_)
      · have hp : pc1 e = [(fns e.kind).getD e.fn.toNat []] := by rw [pc1, if_pos ((by have := ltc (n := (fns e.kind).length) c; rw [fns_len] at this; omega))]
        have hnf : 0 < nF e.kind := by have := ltc (i := 0) (n := (fns e.kind).length) c; rw [fns_len] at this; omega
        have hfl1 : e.fn.toNat < (fns e.kind).length := by rw [fns_len]; have := v3 hnf; omega
        have hfk1 : e.fn = (e.fn.toNat : Int) := by have := v3 hnf; omega
        refine go 99 rfl ?_
        refine Safe.idxF (i := e.fn.toNat) hfl1 hfk1 rfl rfl ?_
        refine go 99 rfl ?_
        refine Safe.ldF (ldStr hfl1) rfl rfl rfl ?_
        refine Safe.eqv (getD_at hfl1) ?_
        refine go 99 rfl ?_
        refine Safe.appS (us := [.str ((fns e.kind).getD e.fn.toNat [])]) rfl rfl rfl rfl rfl rfl (rfl) rfl (catStr_appR (tx0 e) _) ((by rfl : 1 + 1 = (tx0 e ++ [(fns e.kind).getD e.fn.toNat []]).length)) (rfl) (rfl) (rfl) (by first | omega | (dsimp only; omega) | (simp; omega)) (fun N2 hN2 => ?_)
        refine go 99 rfl ?_
        exact ⟨[(0, 0), (1, 1), (2, 4)], (tx0 e ++ [(fns e.kind).getD e.fn.toNat []], N2), (by dsimp only; rw [tx1, hp]), rfl, rfl, ⟨fit rfl, fit rfl, fit rfl, trivial⟩, ⟨_, .refl _, subK rfl (renO_dry (catStr_dR _)) (subD (subK rfl rfl (subK rfl rfl subN)))⟩, rfl⟩
      · have hp : pc1 e = [] := by rw [pc1, if_neg (by have := gec (i := 0) (n := (fns e.kind).length) c; rw [fns_len] at this; omega)]
        refine go 99 rfl ?_
        exact ⟨sgI 3, (tx0 e, 1), (by dsimp only; rw [tx1, hp, List.append_nil]), rfl, rfl, ⟨fit rfl, fit rfl, fit rfl, trivial⟩, ⟨_, .refl _, subK rfl rfl (subK rfl rfl (subK rfl rfl subN))⟩, rfl⟩
    · skip
      skip
      rintro ⟨acc, N⟩ hacc
      dsimp only at hacc
      have hal : acc.length ≤ 20 := by have := tx_len e; rw [hacc]; omega
      refine go 99 rfl ?_
      refine Safe.cut (α := (List By × Nat)) (fun b => [(1, .ptr 0 0), (3, .ptr 1 0), (4, .slice 2 0 b.1.length b.2)]) (fun b => [(2, .cells 9 (cat strC b.1) (b.2 * 1)), (1, .cells 172 (hasC e.kind e.fn) 10), (0, .cells 34 (exC e) 16)]) 3 (fun b => b.1 = tx2 e) ?_ ?_
      · refine Safe.br rfl (fun c => ?_) (fun c => ?_)
        · have hp : pc2 e = [fmtS e.num e.den] := by rw [pc2, if_pos (c)]
          refine go 99 rfl ?_
          refine Safe.call (ref_format e.num e.den) rfl rfl rfl ?_
          refine go 99 rfl ?_
          refine Safe.appS (us := [.str (fmtS e.num e.den)]) rfl rfl rfl rfl rfl rfl (rfl) rfl (catStr_appR _ _) ((by simp : acc.length + 1 = (acc ++ [fmtS e.num e.den]).length)) (catStr_lenR _) (rfl) (rfl) (by first | omega | (dsimp only; omega) | (simp; omega)) (fun N2 hN2 => ?_)
          refine go 99 rfl ?_
          exact ⟨[(0, 0), (1, 1), (2, 4)], (acc ++ [fmtS e.num e.den], N2), (by dsimp only; rw [hacc, tx2, hp]), rfl, rfl, ⟨fit rfl, fit rfl, fit rfl, trivial⟩, ⟨_, .refl _, subK rfl (renO_dry (catStr_dR _)) (subD (subK rfl rfl (subK rfl rfl subN)))⟩, rfl⟩
        · have hp : pc2 e = [] := by rw [pc2, if_neg (by simp [show hN e.kind e.fn = false from c])]
          refine go 99 rfl ?_
          exact ⟨sgI 3, (acc, N), (by dsimp only; rw [hacc, tx2, hp, List.append_nil]), rfl, rfl, ⟨fit rfl, fit rfl, fit rfl, trivial⟩, ⟨_, .refl _, subK rfl (renO_dry (catStr_dR _)) (subK rfl rfl (subK rfl rfl subN))⟩, rfl⟩
      · clear hal hacc
        clear acc N
        rintro ⟨acc, N⟩ hacc
        dsimp only at hacc
        have hal : acc.length ≤ 20 := by have := tx_len e; rw [hacc]; omega
        refine go 99 rfl ?_
        refine Safe.cut1 (α := (List By × Nat)) (fun b => [(1, .ptr 0 0), (3, .ptr 1 0), (4, .slice 2 0 b.1.length b.2)]) (fun b => [(2, .cells 9 (cat strC b.1) (b.2 * 1)), (1, .cells 172 (hasC e.kind e.fn) 10), (0, .cells 34 (exC e) 16)]) 3 (fun b => b.1 = tx3 e) ?_ ?_
        · refine Safe.gs rfl (fun c => ?_) (fun c => ?_)
          · refine go 99 rfl ?_
            refine Safe.br rfl (fun d => ?_) (fun d => ?_)
            · have hp : pc3 e = [e.text] := by rw [pc3, if_pos ⟨c, by simpa using d⟩]
              refine go 99 rfl ?_
              refine Safe.appS (us := [.str e.text]) rfl rfl rfl rfl rfl rfl (rfl) rfl (catStr_appR _ _) ((by simp : acc.length + 1 = (acc ++ [e.text]).length)) (catStr_lenR _) (rfl) (rfl) (by first | omega | (dsimp only; omega) | (simp; omega)) (fun N2 hN2 => ?_)
              refine go 99 rfl ?_
              exact ⟨[(0, 0), (1, 1), (2, 4)], (acc ++ [e.text], N2), (by dsimp only; rw [hacc, tx3, hp]), rfl, rfl, ⟨fit rfl, fit rfl, fit rfl, trivial⟩, ⟨_, .refl _, subK rfl (renO_dry (catStr_dR _)) (subD (subK rfl rfl (subK rfl rfl subN)))⟩, rfl⟩
            · have hp : pc3 e = [] := by rw [pc3, if_neg (fun h => by simp [h.2] at d)]
              refine go 99 rfl ?_
              exact ⟨sgI 3, (acc, N), (by dsimp only; rw [hacc, tx3, hp, List.append_nil]), rfl, rfl, ⟨fit rfl, fit rfl, fit rfl, trivial⟩, ⟨_, .refl _, subK rfl (renO_dry (catStr_dR _)) (subK rfl rfl (subK rfl rfl subN))⟩, rfl⟩
          · have hp : pc3 e = [] := by rw [pc3, if_neg (fun h => by rw [show hT e.kind e.fn = false from c] at h; exact absurd h.1 (by decide))]
            refine go 99 rfl ?_
            exact ⟨sgI 3, (acc, N), (by dsimp only; rw [hacc, tx3, hp, List.append_nil]), rfl, rfl, ⟨fit rfl, fit rfl, fit rfl, trivial⟩, ⟨_, .refl _, subK rfl (renO_dry (catStr_dR _)) (subK rfl rfl (subK rfl rfl subN))⟩, rfl⟩
        · clear hal hacc
          clear acc N
          rintro ⟨acc, N⟩ hacc
          dsimp only at hacc
          have hal : acc.length ≤ 20 := by have := tx_len e; rw [hacc]; omega
          refine go 99 rfl ?_
          refine Safe.cut (α := (List By × Nat)) (fun b => [(1, .ptr 0 0), (3, .ptr 1 0), (4, .slice 2 0 b.1.length b.2)]) (fun b => [(2, .cells 9 (cat strC b.1) (b.2 * 1)), (1, .cells 172 (hasC e.kind e.fn) 10), (0, .cells 34 (exC e) 16)]) 3 (fun b => b.1 = tx4 e) ?_ ?_
          · refine Safe.br rfl (fun c => ?_) (fun c => ?_)
            · have hp : pc4 e = [sMatch.getD e.mtch.toNat []] := by rw [pc4, if_pos (c)]
              refine go 99 rfl ?_
              refine Safe.drawP mixed [0, 1, 2, 3, 4, 5, 6, 7, 8] [(true, false), (true, true), (true, true), (true, true), (true, true), (true, true), (true, true), (true, true), (true, true)] (by kernel_rfl) ?_
              refine go 99 rfl ?_
              refine Safe.call (ref_matchings) rfl rfl rfl ?_
              refine go 99 rfl ?_
              refine Safe.idxF (i := e.mtch.toNat) hml hmk rfl rfl ?_
              refine go 99 rfl ?_
              refine Safe.ldF (ldStr hml) rfl rfl rfl ?_
              refine Safe.eqv (getD_at hml) ?_
              refine Safe.bsF rfl rfl ?_
              refine go 99 rfl ?_
              refine Safe.tail (by kernel_rfl) ?_
              refine go 99 rfl ?_
              refine Safe.appS (us := [.str (sMatch.getD e.mtch.toNat [])]) rfl rfl rfl rfl rfl rfl (rfl) rfl (catStr_appR _ _) ((by simp : acc.length + 1 = (acc ++ [sMatch.getD e.mtch.toNat []]).length)) (catStr_lenR _) (rfl) (rfl) (by first | omega | (dsimp only; omega) | (simp; omega)) (fun N2 hN2 => ?_)
              refine go 99 rfl ?_
              exact ⟨[(0, 0), (1, 1), (2, 3)], (acc ++ [sMatch.getD e.mtch.toNat []], N2), (by dsimp only; rw [hacc, tx4, hp]), rfl, rfl, ⟨fit rfl, fit rfl, fit rfl, trivial⟩, ⟨_, .refl _, subK rfl (renO_dry (catStr_dR _)) (subK rfl rfl (subK rfl rfl subN))⟩, rfl⟩
            · have hp : pc4 e = [] := by rw [pc4, if_neg (by simp [show hB e.kind = false from c])]
              refine go 99 rfl ?_
              exact ⟨sgI 3, (acc, N), (by dsimp only; rw [hacc, tx4, hp, List.append_nil]), rfl, rfl, ⟨fit rfl, fit rfl, fit rfl, trivial⟩, ⟨_, .refl _, subK rfl (renO_dry (catStr_dR _)) (subK rfl rfl (subK rfl rfl subN))⟩, rfl⟩
          · clear hal hacc
            clear acc N
            rintro ⟨acc, N⟩ hacc
            dsimp only at hacc
            have hal : acc.length ≤ 20 := by have := tx_len e; rw [hacc]; omega
            refine go 99 rfl ?_
            refine Safe.cut (α := (List By × Nat)) (fun b => [(1, .ptr 0 0), (3, .ptr 1 0), (4, .slice 2 0 b.1.length b.2)]) (fun b => [(2, .cells 9 (cat strC b.1) (b.2 * 1)), (1, .cells 172 (hasC e.kind e.fn) 10), (0, .cells 34 (exC e) 16)]) 3 (fun b => b.1 = tx5 e) ?_ ?_
            · refine Safe.br rfl (fun c => ?_) (fun c => ?_)
              · have hp : pc5 e = [patS e.pat] := by rw [pc5, if_pos (c)]
                refine go 99 rfl ?_
                refine Safe.call (ref_structure _ e.pat (Nat.le_refl _) (v8 c).2 o4 (v8 c).1) rfl rfl rfl ?_
                refine go 99 rfl ?_
                refine Safe.appS (us := [.str (patS e.pat)]) rfl rfl rfl rfl rfl rfl (rfl) rfl (catStr_appR _ _) ((by simp : acc.length + 1 = (acc ++ [patS e.pat]).length)) (catStr_lenR _) (rfl) (rfl) (by first | omega | (dsimp only; omega) | (simp; omega)) (fun N2 hN2 => ?_)
                refine go 99 rfl ?_
                exact ⟨[(0, 0), (1, 1), (2, 4)], (acc ++ [patS e.pat], N2), (by dsimp only; rw [hacc, tx5, hp]), rfl, rfl, ⟨fit rfl, fit rfl, fit rfl, trivial⟩, ⟨_, .refl _, subK rfl (renO_dry (catStr_dR _)) (subD (subK rfl rfl (subK rfl rfl subN)))⟩, rfl⟩
              · have hp : pc5 e = [] := by rw [pc5, if_neg (by simp [show hP e.kind = false from c])]
                refine go 99 rfl ?_
                exact ⟨sgI 3, (acc, N), (by dsimp only; rw [hacc, tx5, hp, List.append_nil]), rfl, rfl, ⟨fit rfl, fit rfl, fit rfl, trivial⟩, ⟨_, .refl _, subK rfl (renO_dry (catStr_dR _)) (subK rfl rfl (subK rfl rfl subN))⟩, rfl⟩
            · clear hal hacc
              clear acc N
              rintro ⟨acc, N⟩ hacc
              dsimp only at hacc
              have hal : acc.length ≤ 20 := by have := tx_len e; rw [hacc]; omega
              refine go 99 rfl ?_
              refine Safe.cut (α := (List By × Nat)) (fun b => [(1, .ptr 0 0), (3, .ptr 1 0), (4, .slice 2 0 b.1.length b.2)]) (fun b => [(2, .cells 9 (cat strC b.1) (b.2 * 1)), (1, .cells 172 (hasC e.kind e.fn) 10), (0, .cells 34 (exC e) 16)]) 3 (fun b => b.1 = tx6 e) ?_ ?_
              · refine Safe.br rfl (fun c => ?_) (fun c => ?_)
                · have hp : pc6 e = [lstS (e.ms.map matS)] := by rw [pc6, if_pos (c)]
                  refine go 99 rfl ?_
                  refine Safe.call (ref_matchers e.ms o1 v5) rfl rfl rfl ?_
                  refine go 99 rfl ?_
                  refine Safe.call (ref_list (e.ms.map matS) (by rw [List.length_map]; have := o1.1; simp only [big] at this; omega) (by have := sumMs o1; omega)) rfl rfl rfl ?_
                  refine go 99 rfl ?_
                  refine Safe.appS (us := [.str (lstS (e.ms.map matS))]) rfl rfl rfl rfl rfl rfl (rfl) rfl (catStr_appR _ _) ((by simp : acc.length + 1 = (acc ++ [lstS (e.ms.map matS)]).length)) (catStr_lenR _) (rfl) (rfl) (by first | omega | (dsimp only; omega) | (simp; omega)) (fun N2 hN2 => ?_)
                  refine go 99 rfl ?_
                  exact ⟨[(0, 0), (1, 1), (2, 4)], (acc ++ [lstS (e.ms.map matS)], N2), (by dsimp only; rw [hacc, tx6, hp]), rfl, rfl, ⟨fit rfl, fit rfl, fit rfl, trivial⟩, ⟨_, .refl _, subK rfl (renO_dry (catStr_dR _)) (subD (subK rfl rfl (subK rfl rfl subN)))⟩, rfl⟩
                · have hp : pc6 e = [] := by rw [pc6, if_neg (by simp [show hM e.kind = false from c])]
                  refine go 99 rfl ?_
                  exact ⟨sgI 3, (acc, N), (by dsimp only; rw [hacc, tx6, hp, List.append_nil]), rfl, rfl, ⟨fit rfl, fit rfl, fit rfl, trivial⟩, ⟨_, .refl _, subK rfl (renO_dry (catStr_dR _)) (subK rfl rfl (subK rfl rfl subN))⟩, rfl⟩
              · clear hal hacc
                clear acc N
                rintro ⟨acc, N⟩ hacc
                dsimp only at hacc
                have hal : acc.length ≤ 20 := by have := tx_len e; rw [hacc]; omega
                refine go 99 rfl ?_
                refine Safe.cut (α := (List By × Nat)) (fun b => [(1, .ptr 0 0), (3, .ptr 1 0), (4, .slice 2 0 b.1.length b.2)]) (fun b => [(2, .cells 9 (cat strC b.1) (b.2 * 1)), (1, .cells 172 (hasC e.kind e.fn) 10), (0, .cells 34 (exC e) 16)]) 3 (fun b => b.1 = tx7 e) ?_ ?_
                · refine Safe.br rfl (fun c => ?_) (fun c => ?_)
                  · have hp : pc7 e = [pipS e.stages] := by rw [pc7, if_pos (c)]
                    refine go 99 rfl ?_
                    refine Safe.call (ref_pipeline e.stages o3 v6 v7) rfl rfl rfl ?_
                    refine go 99 rfl ?_
                    refine Safe.appS (us := [.str (pipS e.stages)]) rfl rfl rfl rfl rfl rfl (rfl) rfl (catStr_appR _ _) ((by simp : acc.length + 1 = (acc ++ [pipS e.stages]).length)) (catStr_lenR _) (rfl) (rfl) (by first | omega | (dsimp only; omega) | (simp; omega)) (fun N2 hN2 => ?_)
                    refine go 99 rfl ?_
                    exact ⟨[(0, 0), (1, 1), (2, 4)], (acc ++ [pipS e.stages], N2), (by dsimp only; rw [hacc, tx7, hp]), rfl, rfl, ⟨fit rfl, fit rfl, fit rfl, trivial⟩, ⟨_, .refl _, subK rfl (renO_dry (catStr_dR _)) (subD (subK rfl rfl (subK rfl rfl subN)))⟩, rfl⟩
                  · have hp : pc7 e = [] := by rw [pc7, if_neg (by simp [show hS e.kind = false from c])]
                    refine go 99 rfl ?_
                    exact ⟨sgI 3, (acc, N), (by dsimp only; rw [hacc, tx7, hp, List.append_nil]), rfl, rfl, ⟨fit rfl, fit rfl, fit rfl, trivial⟩, ⟨_, .refl _, subK rfl (renO_dry (catStr_dR _)) (subK rfl rfl (subK rfl rfl subN))⟩, rfl⟩
                · clear hal hacc
                  clear acc N
                  rintro ⟨acc, N⟩ hacc
                  dsimp only at hacc
                  have hal : acc.length ≤ 20 := by have := tx_len e; rw [hacc]; omega
                  refine go 99 rfl ?_
                  refine Safe.cut (α := (List By × Nat)) (fun b => [(1, .ptr 0 0), (3, .ptr 1 0), (4, .slice 2 0 b.1.length b.2)]) (fun b => [(2, .cells 9 (cat strC b.1) (b.2 * 1)), (1, .cells 172 (hasC e.kind e.fn) 10), (0, .cells 34 (exC e) 16)]) 3 (fun b => b.1 = tx8 e) ?_ ?_
                  · refine Safe.br rfl (fun c => ?_) (fun c => ?_)
                    · have hp : pc8 e = [fmtS e.range 1, fmtS e.offset 1] := by rw [pc8, if_pos (c)]
                      refine go 99 rfl ?_
                      refine Safe.drawP mixed [0, 1, 2, 3, 4, 5, 6, 7, 8, 9] [(true, false), (true, true), (true, true), (true, true), (true, true), (true, true), (true, true), (true, true), (true, true), (true, true)] (by kernel_rfl) ?_
                      refine go 99 rfl ?_
                      refine Safe.call (ref_dec e.range) rfl rfl rfl ?_
                      refine go 99 rfl ?_
                      refine Safe.call (ref_dec e.offset) rfl rfl rfl ?_
                      refine go 99 rfl ?_
                      refine Safe.bsF rfl rfl ?_
                      refine go 99 rfl ?_
                      refine Safe.tail (by kernel_rfl) ?_
                      refine go 99 rfl ?_
                      refine Safe.appS (us := [.str (fmtS e.range 1), .str (fmtS e.offset 1)]) rfl rfl rfl rfl rfl rfl (rfl) rfl ((by rw [cat_append]; rfl : cat strC acc ++ [V.str (fmtS e.range 1), V.str (fmtS e.offset 1)] = cat strC (acc ++ [fmtS e.range 1, fmtS e.offset 1]))) ((by simp : acc.length + 2 = (acc ++ [fmtS e.range 1, fmtS e.offset 1]).length)) (catStr_lenR _) (rfl) (rfl) (by first | omega | (dsimp only; omega) | (simp; omega)) (fun N2 hN2 => ?_)
                      refine go 99 rfl ?_
                      exact ⟨[(0, 0), (1, 1), (2, 3)], (acc ++ [fmtS e.range 1, fmtS e.offset 1], N2), (by dsimp only; rw [hacc, tx8, hp]), rfl, rfl, ⟨fit rfl, fit rfl, fit rfl, trivial⟩, ⟨_, .refl _, subK rfl (renO_dry (catStr_dR _)) (subK rfl rfl (subK rfl rfl subN))⟩, rfl⟩
                    · have hp : pc8 e = [] := by rw [pc8, if_neg (by simp [show hW e.kind = false from c])]
                      refine go 99 rfl ?_
                      exact ⟨sgI 3, (acc, N), (by dsimp only; rw [hacc, tx8, hp, List.append_nil]), rfl, rfl, ⟨fit rfl, fit rfl, fit rfl, trivial⟩, ⟨_, .refl _, subK rfl (renO_dry (catStr_dR _)) (subK rfl rfl (subK rfl rfl subN))⟩, rfl⟩
                  · clear hal hacc
                    clear acc N
                    rintro ⟨acc, N⟩ hacc
                    dsimp only at hacc
                    have hal : acc.length ≤ 20 := by have := tx_len e; rw [hacc]; omega
                    refine go 99 rfl ?_
                    refine Safe.cut (α := (List By × Nat)) (fun b => [(1, .ptr 0 0), (3, .ptr 1 0), (4, .slice 2 0 b.1.length b.2)]) (fun b => [(2, .cells 9 (cat strC b.1) (b.2 * 1)), (1, .cells 172 (hasC e.kind e.fn) 10), (0, .cells 34 (exC e) 16)]) 3 (fun b => b.1 = tx9 e) ?_ ?_
                    · refine Safe.br rfl (fun c => ?_) (fun c => ?_)
                      · have hp : pc9 e = [groS e] := by rw [pc9, if_pos (c)]
                        refine go 99 rfl ?_
                        refine Safe.call (ref_groupS e hoe) rfl rfl rfl ?_
                        refine go 99 rfl ?_
                        refine Safe.appS (us := [.str (groS e)]) rfl rfl rfl rfl rfl rfl (rfl) rfl (catStr_appR _ _) ((by simp : acc.length + 1 = (acc ++ [groS e]).length)) (catStr_lenR _) (rfl) (rfl) (by first | omega | (dsimp only; omega) | (simp; omega)) (fun N2 hN2 => ?_)
                        refine go 99 rfl ?_
                        exact ⟨[(0, 0), (1, 1), (2, 4)], (acc ++ [groS e], N2), (by dsimp only; rw [hacc, tx9, hp]), rfl, rfl, ⟨fit rfl, fit rfl, fit rfl, trivial⟩, ⟨_, .refl _, subK rfl (renO_dry (catStr_dR _)) (subD (subK rfl rfl (subK rfl rfl subN)))⟩, rfl⟩
                      · have hp : pc9 e = [] := by rw [pc9, if_neg (by simp [show hG e.kind = false from c])]
                        refine go 99 rfl ?_
                        exact ⟨sgI 3, (acc, N), (by dsimp only; rw [hacc, tx9, hp, List.append_nil]), rfl, rfl, ⟨fit rfl, fit rfl, fit rfl, trivial⟩, ⟨_, .refl _, subK rfl (renO_dry (catStr_dR _)) (subK rfl rfl (subK rfl rfl subN))⟩, rfl⟩
                    · clear hal hacc
                      clear acc N
                      rintro ⟨acc, N⟩ hacc
                      dsimp only at hacc
                      have hal : acc.length ≤ 20 := by have := tx_len e; rw [hacc]; omega
                      refine go 99 rfl ?_
                      refine Safe.cut (α := (List By × Nat)) (fun b => [(1, .ptr 0 0), (3, .ptr 1 0), (4, .slice 2 0 b.1.length b.2)]) (fun b => [(2, .cells 9 (cat strC b.1) (b.2 * 1)), (1, .cells 172 (hasC e.kind e.fn) 10), (0, .cells 34 (exC e) 16)]) 3 (fun b => b.1 = tx10 e) ?_ ?_
                      · refine Safe.br rfl (fun c => ?_) (fun c => ?_)
                        · have hp : pc10 e = [quoS e.text] := by rw [pc10, if_pos (by simpa using c)]
                          refine go 99 rfl ?_
                          refine Safe.call (ref_quoted e.text o5) rfl rfl rfl ?_
                          refine go 99 rfl ?_
                          refine Safe.appS (us := [.str (quoS e.text)]) rfl rfl rfl rfl rfl rfl (rfl) rfl (catStr_appR _ _) ((by simp : acc.length + 1 = (acc ++ [quoS e.text]).length)) (catStr_lenR _) (rfl) (rfl) (by first | omega | (dsimp only; omega) | (simp; omega)) (fun N2 hN2 => ?_)
                          refine go 99 rfl ?_
                          exact ⟨[(0, 0), (1, 1), (2, 4)], (acc ++ [quoS e.text], N2), (by dsimp only; rw [hacc, tx10, hp]), rfl, rfl, ⟨fit rfl, fit rfl, fit rfl, trivial⟩, ⟨_, .refl _, subK rfl (renO_dry (catStr_dR _)) (subD (subK rfl rfl (subK rfl rfl subN)))⟩, rfl⟩
                        · have hp : pc10 e = [] := by rw [pc10, if_neg (by simpa using c)]
                          refine go 99 rfl ?_
                          exact ⟨sgI 3, (acc, N), (by dsimp only; rw [hacc, tx10, hp, List.append_nil]), rfl, rfl, ⟨fit rfl, fit rfl, fit rfl, trivial⟩, ⟨_, .refl _, subK rfl (renO_dry (catStr_dR _)) (subK rfl rfl (subK rfl rfl subN))⟩, rfl⟩
                      · clear hal hacc
                        clear acc N
                        rintro ⟨acc, N⟩ hacc
                        dsimp only at hacc
                        have hal : acc.length ≤ 20 := by have := tx_len e; rw [hacc]; omega
                        refine go 99 rfl ?_
                        refine Safe.loop (α := (Nat × List By × Nat)) (fun a => [(1, .ptr 0 0), (4, .slice 2 0 a.2.1.length a.2.2), (6, nI a.1)]) (fun a => [(2, .cells 9 (cat strC a.2.1) (a.2.2 * 1)), (0, .cells 34 (exC e) 16)]) 3 (fun a => e.args.length - a.1) (fun a => a.1 ≤ e.args.length ∧ a.2.1 = tx10 e ++ (e.args.take a.1).map txtS) (0, acc, N) (sgI 3) ⟨⟨fit rfl, fit rfl, fit rfl, trivial⟩, ⟨_, .refl _, subK rfl (renO_dry (catStr_dR _)) (subD (subK rfl rfl subN))⟩, rfl⟩ ⟨Nat.zero_le _, by simp [hacc]⟩ ?_
                        rintro ⟨i, acc2, N2⟩ ⟨hi, ha⟩
                        dsimp only at hi ha
                        have hal2 : acc2.length ≤ 20 + i := by have := tx_len e; rw [ha]; simp; omega
                        refine go 99 rfl ?_
                        refine Safe.br rfl (fun c1 => ?_) (fun c1 => ?_)
                        · have hi : i < e.args.length := ltc c1
                          refine go 99 rfl ?_
                          refine Safe.idxF hi rfl rfl rfl ?_
                          refine go 99 rfl ?_
                          refine Safe.ldF (ldEx hi) rfl rfl rfl ?_
                          refine go 99 rfl ?_
                          refine Safe.call (ref_textS k e.args[i] (by have := depEs_mem hi; omega) (by have := szEs_mem2 hi; have := szE_eq e; omega) (okEs_get o7 hi) (vAs_get v9 hi)) rfl rfl rfl ?_
                          refine go 99 rfl ?_
                          refine Safe.appS (us := [.str (txtS e.args[i])]) rfl rfl rfl rfl rfl rfl (rfl) rfl (catStr_appR _ _) ((by simp : acc2.length + 1 = (acc2 ++ [txtS e.args[i]]).length)) (catStr_lenR _) (rfl) (rfl) (by first | omega | (dsimp only; omega) | (simp; omega)) (fun N3 hN3 => ?_)
                          refine go 99 rfl ?_
                          exact ⟨[(0, 0), (2, 4)], (i + 1, acc2 ++ [txtS e.args[i]], N3), ⟨hi, by dsimp only; rw [take_succ_getR hi, List.map_append, ha]; simp⟩, mlt hi, rfl, rfl, ⟨fit rfl, fit rfl, fit (isucc (by first | omega | (dsimp only; omega))), trivial⟩, ⟨_, .refl _, subK rfl (renO_dry (catStr_dR _)) (subD (subK rfl rfl subN))⟩, rfl⟩
                        · have hi2 : i = e.args.length := Nat.le_antisymm hi (gec c1)
                          rw [hi2, List.take_length] at ha
                          refine go 99 rfl ?_
                          refine Safe.callF 2 (ref_list acc2 (by omega) (by rw [ha]; omega)) rfl rfl rfl rfl ?_ rfl ?_
                          · exact catStr_dR _
                          refine go 99 rfl ?_
                          exact ⟨.inr rfl, trivial, .done (stEq (by rw [hE, ha])) rfl⟩
end Go.Proofs.YtijfihbdcdkalaaGreatDoor
end
