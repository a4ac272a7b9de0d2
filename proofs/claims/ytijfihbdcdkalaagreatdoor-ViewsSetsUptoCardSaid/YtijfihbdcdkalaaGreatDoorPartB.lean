/- A part of the proof: V18, V23, V24, V40, V19, V20, V21, V22, V41, V42, V43, V44, V45, V46, V47, VShelf, V48, V49, V50, V51, V52, V53, V54, V55, V56 -/
import Derived.Test.YtijfihbdcdkalaaGreatDoorPartA
import Derived.Shelf.Small.Bits
import Derived.Shelf.Small.Strs
import Derived.Shelf.Strconv.Itoa0
import Derived.Shelf.Strings.Search1
import Derived.Shelf.Sort.Plain
import Derived.Shelf.Strings.Fields
import Derived.Shelf.LaysM
import Derived.Shelf.Strings.SplitShaped
import Derived.Shelf.Unicode.Latin
import Derived.Shelf.Unicode.Is16White
import Derived.Shelf.Unicode.IsSpaceAny
import Derived.Shelf.Unicode.Is16Any
import Derived.Shelf.Unicode.Is32Any
import Derived.Shelf.Unicode.ExclAny
import Derived.Ground.Names2Prog
import Derived.Shelf.Slices.Clone
import Derived.Shelf.Slices.CompactS
import Derived.Shelf.Slices.Cells
import Derived.Ground.SlgnProg
import Derived.Shelf.SlicesE.Clone
import Derived.Test.YtijfihbdcdkalaaGreatDoorProg
set_option linter.all false
set_option linter.unusedSectionVars false
set_option linter.unusedVariables false
set_option linter.unusedSimpArgs false
section
namespace Go.Proofs.YtijfihbdcdkalaaGreatDoor
open Go.Fw
variable [Gl]
set_option maxRecDepth 20000
set_option maxHeartbeats 4000000
variable {rx : By → Int}
mutual
def allE (rx : By → Int) : Ex → Int
  | ⟨k, fn, ms, rg, off, num, den, names, wo, mt, st, pat, tx, l⟩ =>
    if oneE rx ⟨k, fn, ms, rg, off, num, den, names, wo, mt, st, pat, tx, l⟩ ≠ 0 then oneE rx ⟨k, fn, ms, rg, off, num, den, names, wo, mt, st, pat, tx, l⟩ else allEs rx l
def allEs (rx : By → Int) : List Ex → Int
  | [] => 0
  | a :: r => if allE rx a ≠ 0 then allE rx a else allEs rx r
end
theorem allEs_errG (rx : By → Int) : ∀ l : List Ex, allEs rx l = errG (allE rx) l
  | [] => rfl
  | a :: r => by simp only [allEs, errG, allEs_errG rx r]
theorem allE_eq (rx : By → Int) (e : Ex) : allE rx e = if oneE rx e ≠ 0 then oneE rx e else errG (allE rx) e.args := by
  rw [← allEs_errG]; cases e; rfl
theorem ref_all (H : RefRx rx) : ∀ (k : Nat) (e : Ex), depE e ≤ k → okE e → PTri Tryz.prog 66 [exV e] (nI (allE rx e))
  | 0, e, hb, _ => by rw [depE_eq] at hb; omega
  | k + 1, e, hb, ho => by
    rw [depE_eq] at hb
    have ho' := ho
    rw [okE_eq] at ho'
    obtain ⟨_, _, _, _, _, hl, hos⟩ := ho'
    simp only [big] at hl
    have hE := allE_eq rx e
    refine PTri.of_safe Tryz.func66 rfl Tryz.results66 Tryz.ntmps66 rfl ?_
    refine go 99 rfl ?_
    refine Safe.call (ref_one H e ho) rfl rfl rfl ?_
    refine go 99 rfl ?_
    refine Safe.br rfl (fun c => ?_) (fun c => ?_)
    · rw [if_pos (by simpa using c)] at hE
      refine go 99 rfl ?_
      exact ⟨.inr rfl, trivial, .done (nIeq hE.symm) rfl⟩
    · rw [if_neg (by simpa using c)] at hE
      refine go 99 rfl ?_
      refine Safe.loop (α := Nat) (fun i => [(1, .ptr 0 0), (4, nI i)]) (fun i => [(0, .cells 34 (exC e) 16)]) 1 (fun i => e.args.length - i) (fun i => i ≤ e.args.length ∧ allE rx e = errG (allE rx) (e.args.drop i)) 0 (sgI 1) ⟨⟨fit rfl, fit rfl, trivial⟩, ⟨_, .refl _, .refl _⟩, rfl⟩ ⟨Nat.zero_le _, hE⟩ ?_
      rintro i ⟨hi, ha⟩
      refine go 99 rfl ?_
      refine Safe.br rfl (fun c1 => ?_) (fun c1 => ?_)
      · have hi : i < e.args.length := ltc c1
        refine go 99 rfl ?_
        refine Safe.idxF hi rfl rfl rfl ?_
        refine Safe.ldF (ldEx hi) rfl rfl rfl ?_
        refine go 99 rfl ?_
        refine Safe.call (ref_all H k e.args[i] (by have := depEs_mem hi; omega) (okEs_get hos hi)) rfl rfl rfl ?_
        refine go 99 rfl ?_
        refine Safe.br rfl (fun d => ?_) (fun d => ?_)
        · refine go 99 rfl ?_
          exact ⟨.inr rfl, trivial, .done (nIeq ((errS ha hi).1 (by simpa using d)).symm) rfl⟩
        · refine go 99 rfl ?_
          exact ⟨sgI 1, i + 1, ⟨hi, (errS ha hi).2 (by simpa using d)⟩, mlt hi, rfl, rfl, ⟨fit rfl, fit (isucc (by omega)), trivial⟩, ⟨_, .refl _, .refl _⟩, rfl⟩
      · have hi2 : i = e.args.length := Nat.le_antisymm hi (gec c1)
        subst hi2
        rw [List.drop_length] at ha
        refine go 99 rfl ?_
        exact ⟨.inr rfl, trivial, .done (nIeq ha.symm) rfl⟩
def chkE (rx : By → Int) (e : Ex) : Int := if 100 < szE e then 4 else if 12 < depE e then 30 else allE rx e
theorem ref_chk (H : RefRx rx) (e : Ex) (ho : okE e) : PTri Tryz.prog 23 [exV e] (nI (chkE rx e)) := by
  refine PTri.of_safe Tryz.func23 rfl Tryz.results23 Tryz.ntmps23 rfl ?_
  refine go 99 rfl ?_
  refine Safe.call (ref_size e ho) rfl rfl rfl ?_
  refine go 99 rfl ?_
  refine Safe.br rfl (fun a => ?_) (fun a => ?_)
  · have a1 : 100 < min (szE e) 101 := ltc a
    refine go 99 rfl ?_
    exact ⟨.inr rfl, trivial, .done (nIeq (by simp only [chkE]; rw [if_pos (by omega)])) rfl⟩
  · have a1 : min (szE e) 101 ≤ 100 := gec a
    have hd := depE_sz e
    refine go 99 rfl ?_
    refine Safe.call (ref_depE _ e (Nat.le_refl _) (by omega) ho) rfl rfl rfl ?_
    refine go 99 rfl ?_
    refine Safe.br rfl (fun b => ?_) (fun b => ?_)
    · have b1 : 12 < depE e := ltc b
      refine go 99 rfl ?_
      exact ⟨.inr rfl, trivial, .done (nIeq (by simp only [chkE]; rw [if_neg (by omega), if_pos b1])) rfl⟩
    · have b1 : depE e ≤ 12 := gec b
      refine go 99 rfl ?_
      refine Safe.call (ref_all H _ e (Nat.le_refl _) ho) rfl rfl rfl ?_
      refine go 99 rfl ?_
      exact ⟨.inr rfl, trivial, .done (nIeq (by simp only [chkE]; rw [if_neg (by omega), if_neg (by omega)])) rfl⟩
end Go.Proofs.YtijfihbdcdkalaaGreatDoor
end

section
namespace Go.Proofs.YtijfihbdcdkalaaGreatDoor
open Go.Fw
variable [Gl]
set_option maxRecDepth 20000
set_option maxHeartbeats 4000000
variable {rx : By → Int}
theorem alg_number (e : Ex) : PTri Tryz.prog 173 [exV e] (nI (numE e)) := by
  refine PTri.of_safe Tryz.func173 rfl Tryz.results173 Tryz.ntmps173 rfl ?_
  refine go 99 rfl ?_
  refine Safe.call (alg_rat e.num e.den) rfl rfl rfl ?_
  refine go 99 rfl ?_
  refine Safe.br rfl (fun a => ?_) (fun a => ?_)
  · refine go 99 rfl ?_
    exact ⟨.inr rfl, trivial, .done (nIeq (by simp only [numE]; rw [if_pos (by simpa using a)])) rfl⟩
  · have a1 : ¬ ratE e.num e.den ≠ 0 := by simpa using a
    refine go 99 rfl ?_
    repeat' (first | (refine Safe.gs rfl (fun a => ?_) (fun a => ?_) <;> refine go 99 rfl ?_) | (refine Safe.br rfl (fun a => ?_) (fun a => ?_) <;> refine go 99 rfl ?_))
    all_goals
      refine ⟨.inr rfl, trivial, .done (nIeq ?_) rfl⟩
      simp only [numE, topE]
      rw [if_neg a1]
      first
        | (simp_all; done)
        | (simp_all; omega)
        | (simp at *; simp [*]; omega)
        | (simp at *; simp [*]; done)
end Go.Proofs.YtijfihbdcdkalaaGreatDoor
end

section
namespace Go.Proofs.YtijfihbdcdkalaaGreatDoor
open Go.Fw
variable [Gl]
set_option maxRecDepth 20000
set_option maxHeartbeats 4000000
structure Fld where
  fn : Bool
  mt : Bool
  num : Bool
  txt : Bool
  ms : Bool
  pat : Bool
  st : Bool
  win : Bool
  nam : Bool
  wo : Bool
def fldC (x : Fld) : List V := [.bool x.fn, .bool x.mt, .bool x.num, .bool x.txt, .bool x.ms, .bool x.pat, .bool x.st, .bool x.win, .bool x.nam, .bool x.wo]
structure Knd where
  name : By
  f : Fld
  funcs : List By
  args : Int
  typ : Int
def kndC (x : Knd) : List V := [.str x.name, .bool x.f.fn, .bool x.f.mt, .bool x.f.num, .bool x.f.txt, .bool x.f.ms, .bool x.f.pat, .bool x.f.st, .bool x.f.win, .bool x.f.nam, .bool x.f.wo, slV strC x.funcs, nI x.args, nI x.typ]
def numF (k f : Int) (b : Bool) : Bool := if k = 2 then f == 10 || f == 11 else if k = 6 then f == 6 || f == 7 || f == 9 else b
def txtF (k f : Int) (b : Bool) : Bool := if k = 3 then f == 3 else if k = 6 then f == 8 else b
def fldOf (x : Fld) (k f : Int) : Fld := { x with num := numF k f x.num, txt := txtF k f x.txt }
theorem fldEq {a b c d e f g h i j c' d' : Bool} (h1 : c = c') (h2 : d = d') : some (V.agg [.bool a, .bool b, .bool c, .bool d, .bool e, .bool f, .bool g, .bool h, .bool i, .bool j]) = some (V.agg [.bool a, .bool b, .bool c', .bool d', .bool e, .bool f, .bool g, .bool h, .bool i, .bool j]) := by rw [h1, h2]
theorem alg_fieldsOf (x : Knd) (e : Ex) : PTri Tryz.prog 169 [.agg (kndC x), exV e] (.agg (fldC (fldOf x.f e.kind e.fn))) := by
  show PTri Tryz.prog 169 [.agg (kndC x), exV e] (.agg [.bool x.f.fn, .bool x.f.mt, .bool (numF e.kind e.fn x.f.num), .bool (txtF e.kind e.fn x.f.txt), .bool x.f.ms, .bool x.f.pat, .bool x.f.st, .bool x.f.win, .bool x.f.nam, .bool x.f.wo])
  refine PTri.of_safe Tryz.func169 rfl Tryz.results169 Tryz.ntmps169 rfl ?_
  refine go 99 rfl ?_
  repeat' (first | (refine Safe.gs rfl (fun a => ?_) (fun a => ?_) <;> refine go 99 rfl ?_) | (refine Safe.br rfl (fun a => ?_) (fun a => ?_) <;> refine go 99 rfl ?_))
  all_goals
    refine ⟨.inr rfl, trivial, .done (fldEq ?_ ?_) rfl⟩
  all_goals simp_all [numF, txtF]
end Go.Proofs.YtijfihbdcdkalaaGreatDoor
end

section
namespace Go.Proofs.YtijfihbdcdkalaaGreatDoor
open Go.Fw
variable [Gl]
set_option maxRecDepth 20000
set_option maxHeartbeats 4000000
def alnI (c : Int) : Bool := (decide (97 ≤ c) && decide (c ≤ 122)) || ((decide (65 ≤ c) && decide (c ≤ 90)) || (decide (48 ≤ c) && decide (c ≤ 57)))
def spcI (c : Int) : Bool := c == 46 || c == 91 || c == 93 || c == 40 || c == 41 || c == 124 || c == 42 || c == 43 || c == 63 || c == 92
theorem rr_alnum (c : Int) : PTri Tryz.prog 277 [.int .u8 c] (.bool (alnI c)) := by
  refine PTri.of_safe Tryz.func277 rfl Tryz.results277 Tryz.ntmps277 rfl ?_
  refine go 99 rfl ?_
  repeat' (first | (refine Safe.gs rfl (fun a => ?_) (fun a => ?_) <;> refine go 99 rfl ?_) | (refine Safe.br rfl (fun a => ?_) (fun a => ?_) <;> refine go 99 rfl ?_))
  all_goals exact ⟨.inr rfl, trivial, .done (bIeq (by first | (simp_all [alnI]; done) | (simp_all [alnI]; omega) | (simp_all [alnI]; intros; omega) | (rw [Bool.eq_iff_iff]; simp_all [alnI]; omega))) rfl⟩
theorem rr_special (c : Int) : PTri Tryz.prog 267 [.int .u8 c] (.bool (spcI c)) := by
  refine PTri.of_safe Tryz.func267 rfl Tryz.results267 Tryz.ntmps267 rfl ?_
  refine go 99 rfl ?_
  repeat' (first | (refine Safe.gs rfl (fun a => ?_) (fun a => ?_) <;> refine go 99 rfl ?_) | (refine Safe.br rfl (fun a => ?_) (fun a => ?_) <;> refine go 99 rfl ?_))
  all_goals exact ⟨.inr rfl, trivial, .done (bIeq (by simp_all [spcI])) rfl⟩
def escI (c : Int) : Int := if c = 110 then 10 else if c = 116 then 9 else c
def escK (c : Int) : Bool := c == 110 || c == 116 || !alnI c
theorem rr_escaped (c : Int) : PTri Tryz.prog 276 [.int .u8 c] (.tup [.int .u8 (escI c), .bool (escK c)]) := by
  refine PTri.of_safe Tryz.func276 rfl Tryz.results276 Tryz.ntmps276 rfl ?_
  refine go 99 rfl ?_
  refine Safe.br rfl (fun a => ?_) (fun a => ?_)
  · have a1 : c = 110 := by simpa using a
    subst a1
    refine go 99 rfl ?_
    exact ⟨.inr rfl, trivial, .done (rfl) rfl⟩
  · have a1 : ¬ c = 110 := by simpa using a
    refine go 99 rfl ?_
    refine Safe.br rfl (fun b => ?_) (fun b => ?_)
    · have b1 : c = 116 := by simpa using b
      subst b1
      refine go 99 rfl ?_
      exact ⟨.inr rfl, trivial, .done (rfl) rfl⟩
    · have b1 : ¬ c = 116 := by simpa using b
      refine go 99 rfl ?_
      refine Safe.call (rr_alnum c) rfl rfl rfl ?_
      refine go 99 rfl ?_
      exact ⟨.inr rfl, trivial, .done ((by simp only [escI, escK]; rw [if_neg a1, if_neg b1, show (c == 110) = false by simpa using a1, show (c == 116) = false by simpa using b1]; rfl)) rfl⟩
theorem u8eqR {c d : UInt8} (h : ((c.toNat : Int) == (d.toNat : Int)) = true) : c = d := by
  have := of_decide_eq_true (p := (c.toNat : Int) = d.toNat) (by simpa using h)
  exact UInt8.toNat_inj.1 (by omega)
theorem u8neR {c d : UInt8} (h : ((c.toNat : Int) == (d.toNat : Int)) = false) : c ≠ d := fun e => by subst e; simp at h
def itR (s : By) (i : Nat) : Int × Nat × Bool := match s[i]? with
  | none => (0, i, false)
  | some c => if c = 93 then (0, i, false) else if c ≠ 92 then (c.toNat, i + 1, true) else match s[i + 1]? with
    | none => (0, i, false)
    | some d => (escI d.toNat, i + 2, escK d.toNat)
theorem itEq {a a' : Int} {b b' : Int} {c c' : Bool} (h1 : a = a') (h2 : b = b') (h3 : c = c') : some (V.tup [.int .u8 a, nI b, .bool c]) = some (V.tup [.int .u8 a', nI b', .bool c']) := by rw [h1, h2, h3]
theorem w1 {i : Nat} (h : i < 4611686018427387904) : IntKind.i64.wrap ((i : Int) + 1) = ((i + 1 : Nat) : Int) := by rw [wrap64_fit (by omega) (by omega)]; rfl
theorem w2 {i : Nat} (h : i < 4611686018427387904) : IntKind.i64.wrap ((i : Int) + 2) = ((i + 2 : Nat) : Int) := by rw [wrap64_fit (by omega) (by omega)]; rfl
theorem rr_item (s : By) (i : Nat) (hs : s.length ≤ 200) (hi : i ≤ 1000) : PTri Tryz.prog 278 [.str s, nI i] (.tup [.int .u8 (itR s i).1, nI (itR s i).2.1, .bool (itR s i).2.2]) := by
  have hE := itR.eq_1 s i
  refine PTri.of_safe Tryz.func278 rfl Tryz.results278 Tryz.ntmps278 rfl ?_
  refine go 99 rfl ?_
  refine Safe.gs rfl (fun a => ?_) (fun a => ?_)
  · have h0 : s.length ≤ i := by simpa using a
    rw [List.getElem?_eq_none h0] at hE
    refine go 99 rfl ?_
    exact ⟨.inr rfl, trivial, .done (itEq (by rw [hE]) (by rw [hE]) (by rw [hE])) rfl⟩
  · have h0 : i < s.length := by simpa using a
    rw [List.getElem?_eq_getElem h0] at hE
    simp only at hE
    refine go 99 rfl ?_
    refine Safe.idxS h0 rfl rfl rfl ?_
    refine go 99 rfl ?_
    refine Safe.br rfl (fun b => ?_) (fun b => ?_)
    · have b1 : s[i] = 93 := u8eqR (d := 93) b
      rw [if_pos b1] at hE
      refine go 99 rfl ?_
      exact ⟨.inr rfl, trivial, .done (itEq (by rw [hE]) (by rw [hE]) (by rw [hE])) rfl⟩
    · have b1 : s[i] ≠ 93 := u8neR (d := 93) b
      rw [if_neg b1] at hE
      refine go 99 rfl ?_
      refine Safe.idxS h0 rfl rfl rfl ?_
      refine go 99 rfl ?_
      refine Safe.br rfl (fun c => ?_) (fun c => ?_)
      · have c1 : s[i] ≠ 92 := u8neR (d := 92) (by simpa using c)
        rw [if_pos c1] at hE
        refine go 99 rfl ?_
        refine Safe.idxS h0 rfl rfl rfl ?_
        refine go 99 rfl ?_
        exact ⟨.inr rfl, trivial, .done (itEq (by rw [hE]) (by rw [hE]; exact w1 (by omega)) (by rw [hE])) rfl⟩
      · have c1 : ¬ s[i] ≠ 92 := fun h => h (u8eqR (d := 92) (by simpa using c))
        rw [if_neg c1] at hE
        refine go 99 rfl ?_
        refine Safe.br rfl (fun d => ?_) (fun d => ?_)
        · have d1 : s.length ≤ i + 1 := by simp only [w1 (show i < 4611686018427387904 by omega)] at d; have := of_decide_eq_true d; omega
          rw [List.getElem?_eq_none d1] at hE
          refine go 99 rfl ?_
          exact ⟨.inr rfl, trivial, .done (itEq (by rw [hE]) (by rw [hE]) (by rw [hE])) rfl⟩
        · have d1 : i + 1 < s.length := by simp only [w1 (show i < 4611686018427387904 by omega)] at d; have := of_decide_eq_false d; omega
          rw [List.getElem?_eq_getElem d1] at hE
          simp only at hE
          refine go 99 rfl ?_
          refine Safe.idxS d1 (w1 (by omega)) rfl rfl ?_
          refine go 99 rfl ?_
          refine Safe.call (rr_escaped s[i + 1].toNat) rfl rfl rfl ?_
          refine go 99 rfl ?_
          exact ⟨.inr rfl, trivial, .done (itEq (by rw [hE]) (by rw [hE]; exact w2 (by omega)) (by rw [hE])) rfl⟩
def ndk (cs : List V) : Prop := cs.length = 259 ∧ cs.all dryV1 = true
theorem tz230 : tzL Tryz.prog 230 259 = true := by kernel_rfl
theorem sz230 : tsz Tryz.prog 230 = some 259 := by kernel_rfl
theorem ag230 : tagg Tryz.prog 230 = some true := by kernel_rfl
theorem ndk.leaf {cs : List V} (h : ndk cs) : cs.all leafV = true := dryL1_leaf h.2
theorem rr_single (c : Nat) (hc : c < 256) : ETri Tryz.prog 268 [.int .u8 c] (fun v => ∃ cs, v = .agg cs ∧ ndk cs) := by
  refine ETri.of_safe Tryz.func268 rfl Tryz.results268 Tryz.ntmps268 rfl ?_
  refine go 99 rfl ?_
  refine Safe.allocB tz230 rfl rfl (fun A hAl hAd => ?_)
  refine go 99 rfl ?_
  refine Safe.buildB (k := 259) (by kernel_rfl) rfl (fun B hBl hBd => ?_)
  refine go 99 rfl ?_
  refine Safe.allocB tz230 rfl rfl (fun C hCl hCd => ?_)
  refine go 99 rfl ?_
  refine Safe.storeB sz230 hBl hCl (dryL1_leaf hBd) rfl rfl rfl rfl rfl ?_
  refine go 99 rfl ?_
  refine Safe.idxO hc rfl rfl rfl ?_
  refine Safe.stB (off := 0 + 1 + c * 1) (by rw [hBl]; omega) hBd rfl rfl rfl rfl rfl rfl rfl (fun D hDl hDd => ?_)
  replace hDl := hDl.trans hBl
  refine go 99 rfl ?_
  refine Safe.ldO (ldAll ag230 sz230 hDl) rfl rfl ?_
  refine go 99 rfl ?_
  refine Safe.storeB sz230 hDl hAl (dryL1_leaf hDd) rfl rfl rfl rfl rfl ?_
  refine go 99 rfl ?_
  exact ⟨.inr rfl, trivial, .done (r := .agg D) (resA_c1 (ldAll ag230 sz230 hDl) rfl rfl) hDd ⟨D, rfl, hDl, hDd⟩⟩
theorem rr_repeated (c : Int) (X : List V) (hcs : ndk X) : ETri Tryz.prog 260 [.agg X, .int .u8 c] (fun v => ∃ cs', v = .agg cs' ∧ ndk cs') := by
  obtain ⟨hXl, hXd⟩ := hcs
  refine ETri.of_safe Tryz.func260 rfl Tryz.results260 Tryz.ntmps260 (by simp [dry, hXd]) ?_
  refine go 99 rfl ?_
  refine Safe.allocB tz230 rfl rfl (fun A hAl hAd => ?_)
  refine go 99 rfl ?_
  refine Safe.br rfl (fun a => ?_) (fun a => ?_)
  · refine go 99 rfl ?_
    refine Safe.ldO (ldAll ag230 sz230 hXl) rfl rfl ?_
    refine go 99 rfl ?_
    refine Safe.bsB1 tz230 sz230 ⟨by decide, by decide⟩ hXl hXd rfl rfl rfl rfl ?_
    refine go 99 rfl ?_
    refine Safe.buildB (k := 259) (by kernel_rfl) rfl (fun B hBl hBd => ?_)
    refine go 99 rfl ?_
    refine Safe.storeB sz230 hBl hAl (dryL1_leaf hBd) rfl rfl rfl rfl rfl ?_
    refine go 99 rfl ?_
    exact ⟨.inr rfl, trivial, .done (r := .agg B) (resA_c1 (ldAll ag230 sz230 hBl) rfl rfl) hBd ⟨B, rfl, hBl, hBd⟩⟩
  · refine go 99 rfl ?_
    refine Safe.br rfl (fun b => ?_) (fun b => ?_)
    · refine go 99 rfl ?_
      refine Safe.ldO (ldAll ag230 sz230 hXl) rfl rfl ?_
      refine go 99 rfl ?_
      refine Safe.bsB1 tz230 sz230 ⟨by decide, by decide⟩ hXl hXd rfl rfl rfl rfl ?_
      refine go 99 rfl ?_
      refine Safe.buildB (k := 259) (by kernel_rfl) rfl (fun B hBl hBd => ?_)
      refine go 99 rfl ?_
      refine Safe.storeB sz230 hBl hAl (dryL1_leaf hBd) rfl rfl rfl rfl rfl ?_
      refine go 99 rfl ?_
      exact ⟨.inr rfl, trivial, .done (r := .agg B) (resA_c1 (ldAll ag230 sz230 hBl) rfl rfl) hBd ⟨B, rfl, hBl, hBd⟩⟩
    · refine go 99 rfl ?_
      refine Safe.buildB (k := 259) (by kernel_rfl) rfl (fun C hCl hCd => ?_)
      refine go 99 rfl ?_
      refine Safe.ldO (ldAll ag230 sz230 hXl) rfl rfl ?_
      refine go 99 rfl ?_
      refine Safe.bsB2 tz230 sz230 ⟨by decide, by decide⟩ hCl hCd hXl hXd rfl rfl rfl rfl ?_
      refine go 99 rfl ?_
      refine Safe.buildB (k := 259) (by kernel_rfl) rfl (fun B hBl hBd => ?_)
      refine go 99 rfl ?_
      refine Safe.storeB sz230 hBl hAl (dryL1_leaf hBd) rfl rfl rfl rfl rfl ?_
      refine go 99 rfl ?_
      exact ⟨.inr rfl, trivial, .done (r := .agg B) (resA_c1 (ldAll ag230 sz230 hBl) rfl rfl) hBd ⟨B, rfl, hBl, hBd⟩⟩
def escO (c : Int) : Bool := if c ≠ 100 ∧ c ≠ 119 then escK c else true
theorem escI_nat (c : Nat) : ∃ d : Nat, escI (c : Int) = (d : Int) ∧ (c < 256 → d < 256) := by
  unfold escI
  split
  · exact ⟨10, rfl, fun _ => by omega⟩
  · split
    · exact ⟨9, rfl, fun _ => by omega⟩
    · exact ⟨c, rfl, id⟩
theorem rr_escape (c : Nat) (hc : c < 256) : ETri Tryz.prog 269 [.int .u8 c] (fun v => ∃ cs, v = .tup [.agg cs, .bool (escO c)] ∧ ndk cs) := by
  have hE := escO.eq_1 c
  obtain ⟨d, hd, hd2⟩ := escI_nat c
  have hd2 := hd2 hc
  refine ETri.of_safe Tryz.func269 rfl Tryz.results269 Tryz.ntmps269 rfl ?_
  refine go 99 rfl ?_
  refine Safe.allocB tz230 rfl rfl (fun A hAl hAd => ?_)
  refine go 99 rfl ?_
  refine Safe.buildB (k := 259) (by kernel_rfl) rfl (fun B hBl hBd => ?_)
  refine go 99 rfl ?_
  refine Safe.allocB tz230 rfl rfl (fun C hCl hCd => ?_)
  refine go 99 rfl ?_
  refine Safe.storeB sz230 hBl hCl (dryL1_leaf hBd) rfl rfl rfl rfl rfl ?_
  refine go 99 rfl ?_
  refine Safe.cut1 (α := Unit) (fun _ => [(0, .int .u8 c), (2, .ptr 0 0), (4, .ptr 1 0)]) (fun _ => [(1, .cells 230 B 259), (0, .cells 230 A 259)]) 2 (fun _ => ¬ ((c : Int) ≠ 100 ∧ (c : Int) ≠ 119)) ?_ ?_
  · refine Safe.gs rfl (fun a => ?_) (fun a => ?_)
    · have a1 : (c : Int) ≠ 100 := by simpa using a
      refine go 99 rfl ?_
      refine Safe.br rfl (fun b => ?_) (fun b => ?_)
      · have b1 : (c : Int) ≠ 119 := by simpa using b
        rw [if_pos ⟨a1, b1⟩] at hE
        refine go 99 rfl ?_
        refine Safe.call (rr_escaped c) rfl rfl rfl ?_
        refine go 99 rfl ?_
        simp only [hd]
        refine Safe.callE (rr_single d hd2) rfl rfl rfl ?_
        rintro v hv ⟨cs, rfl, hcsl, hcsd⟩
        refine go 99 rfl ?_
        refine Safe.storeB sz230 hcsl hAl (dryL1_leaf hcsd) rfl rfl rfl rfl rfl ?_
        refine go 99 rfl ?_
        exact ⟨.inr rfl, trivial, .done (r := .tup [.agg cs, .bool (escO c)]) (resA_c2 (ldAll ag230 sz230 hcsl) rfl rfl (by rw [hE]; rfl)) (by simp [dry, hcsd, dryV1]) ⟨cs, rfl, hcsl, hcsd⟩⟩
      · have b1 : (c : Int) = 119 := by simpa using b
        refine go 99 rfl ?_
        exact ⟨sgI 2, (), fun h => h.2 b1, rfl, rfl, ⟨fit rfl, fit rfl, fit rfl, trivial⟩, ⟨_, .refl _, subK rfl (renO_dry (dryL1_dry hBd)) (subK rfl (renO_dry (dryL1_dry hAd)) subN)⟩, rfl⟩
    · have a1 : (c : Int) = 100 := by simpa using a
      refine go 99 rfl ?_
      exact ⟨sgI 2, (), fun h => h.1 a1, rfl, rfl, ⟨fit rfl, fit rfl, fit rfl, trivial⟩, ⟨_, .refl _, subK rfl (renO_dry (dryL1_dry hBd)) (subK rfl (renO_dry (dryL1_dry hAd)) subN)⟩, rfl⟩
  · rintro - h1
    rw [if_neg h1] at hE
    refine go 99 rfl ?_
    refine Safe.loop (α := (Nat × List V)) (fun a => [(0, .int .u8 c), (2, .ptr 0 0), (4, .ptr 1 0), (7, nI a.1)]) (fun a => [(1, .cells 230 a.2 259), (0, .cells 230 A 259)]) 2 (fun a => 256 - a.1) (fun a => a.1 ≤ 256 ∧ a.2.length = 259 ∧ a.2.all dryV1 = true) (0, B) (sgI 2) ⟨⟨fit rfl, fit rfl, fit rfl, fit rfl, trivial⟩, ⟨_, .refl _, subK rfl (renO_dry (dryL1_dry hBd)) (subK rfl (renO_dry (dryL1_dry hAd)) subN)⟩, rfl⟩ ⟨Nat.zero_le _, hBl, hBd⟩ ?_
    rintro ⟨i, X⟩ ⟨hi, hXl, hXd⟩
    dsimp only at hi hXl hXd
    refine go 99 rfl ?_
    refine Safe.br rfl (fun t => ?_) (fun t => ?_)
    · have hi : i < 256 := ltc t
      refine go 99 rfl ?_
      repeat' (first | (refine Safe.call (rr_alnum _) rfl rfl rfl ?_; refine go 99 rfl ?_) | (refine Safe.gs rfl (fun a => ?_) (fun a => ?_) <;> refine go 99 rfl ?_) | (refine Safe.br rfl (fun a => ?_) (fun a => ?_) <;> refine go 99 rfl ?_))
      all_goals (refine Safe.idxO hi rfl rfl rfl ?_)
      all_goals (refine Safe.stB (off := 0 + 1 + i * 1) (by rw [hXl]; omega) hXd rfl rfl rfl rfl rfl rfl rfl (fun X2 hX2l hX2d => ?_); replace hX2l := hX2l.trans hXl; refine go 99 rfl ?_)
      all_goals exact ⟨sgI 2, (i + 1, X2), ⟨hi, hX2l, hX2d⟩, mlt hi, rfl, rfl, ⟨fit rfl, fit rfl, fit rfl, fit (isucc (by first | omega | (dsimp only; omega))), trivial⟩, ⟨_, .refl _, subK rfl (renO_dry (dryL1_dry hX2d)) (subK rfl (renO_dry (dryL1_dry hAd)) subN)⟩, rfl⟩
    · refine go 99 rfl ?_
      refine Safe.ldO (ldAll ag230 sz230 hXl) rfl rfl ?_
      refine go 99 rfl ?_
      refine Safe.storeB sz230 hXl hAl (dryL1_leaf hXd) rfl rfl rfl rfl rfl ?_
      refine go 99 rfl ?_
      exact ⟨.inr rfl, trivial, .done (r := .tup [.agg X, .bool (escO c)]) (resA_c2 (ldAll ag230 sz230 hXl) rfl rfl (by rw [hE]; rfl)) (by simp [dry, hXd, dryV1]) ⟨X, rfl, hXl, hXd⟩⟩
end Go.Proofs.YtijfihbdcdkalaaGreatDoor
end

section
namespace Go.Proofs.YtijfihbdcdkalaaGreatDoor
open Go.Fw
variable [Gl]
set_option maxRecDepth 20000
set_option maxHeartbeats 4000000
def nxt (s : By) (i : Nat) (c : UInt8) : Bool := s[i]? == some c
abbrev prs (s : By) (i : Nat) : Hp := [(0, .cells 280 [.str s, nI i] 2)]
theorem hpEq {s : By} {i j : Nat} {v : V} (h : v = nI j) (hij : i = j) : [(0, AObj.cells 280 [.str s, v] 2)] = prs s i := by rw [h, hij]
theorem rx_skip (s : By) (i : Nat) (q : UInt8) (hs : s.length ≤ 200) (hi : i ≤ s.length) : TriL Tryz.prog 264 [.ptr 0 0, .int .u8 q.toNat] (prs s i) 1 (fun v h nx => v = .bool (nxt s i q) ∧ h = prs s (if nxt s i q = true then i + 1 else i) ∧ nx = 1) := by
  refine TriL.of_safe Tryz.func264 rfl Tryz.results264 Tryz.ntmps264 rfl ?_
  refine go 99 rfl ?_
  refine Safe.draw mixed ?_
  refine DS.go [0,1,2,3,4,5,6,7,8,9,10] rfl rfl (by kernel_rfl) ?_
  refine DS.gs 11 rfl rfl (fun c => ?_) (fun c => ?_)
  · have h0 : i = s.length := by simp at c; omega
    have hn : nxt s i q = false := by simp [nxt, h0]
    refine DS.go [11,12,13,14,15,16,17,18,19,20,21,22] rfl rfl (by kernel_rfl) ?_
    refine DS.fin (by kernel_rfl) rfl ?_
    refine go 99 rfl ?_
    exact ⟨.inr rfl, rfl, rfl, .done rfl ⟨by rw [hn], by rw [hn]; rfl, rfl⟩⟩
  · have h0 : i < s.length := by simp at c; omega
    refine DS.go [11,12,13,14,15,16,17,18] rfl rfl (by kernel_rfl) ?_
    refine DS.val (i := 19) (ev_idxS h0 rfl rfl).ev rfl rfl rfl rfl (by kernel_rfl) ?_
    refine DS.go [20,21,22] rfl rfl (by kernel_rfl) ?_
    refine DS.fin (by kernel_rfl) rfl ?_
    refine go 99 rfl ?_
    refine Safe.br rfl (fun d => ?_) (fun d => ?_)
    · have hn : nxt s i q = false := by
        simp only [nxt, List.getElem?_eq_getElem h0]
        simp at d
        simp [← UInt8.toNat_inj]
        omega
      refine go 99 rfl ?_
      exact ⟨.inr rfl, rfl, rfl, .done rfl ⟨by rw [hn], by rw [hn]; rfl, rfl⟩⟩
    · have hn : nxt s i q = true := by
        simp only [nxt, List.getElem?_eq_getElem h0]
        simp at d
        simp [← UInt8.toNat_inj]
        omega
      refine go 99 rfl ?_
      exact ⟨.inr rfl, rfl, rfl, .done rfl ⟨by rw [hn], by rw [hn, if_pos rfl]; exact hpEq (congrArg (V.int .i64) (wrap64_fit (by omega) (by omega))) rfl, rfl⟩⟩
end Go.Proofs.YtijfihbdcdkalaaGreatDoor
end

section
namespace Go.Proofs.YtijfihbdcdkalaaGreatDoor
open Go.Fw
variable [Gl]
set_option maxRecDepth 20000
set_option maxHeartbeats 4000000
def pkV (s : By) (i : Nat) : V := match s[i]? with
  | some c => .tup [.int .u8 c.toNat, .bool true]
  | none => .tup [.int .u8 0, .bool false]
theorem rx_peek (s : By) (i : Nat) (hi : i ≤ s.length) : TriL Tryz.prog 272 [.ptr 0 0] (prs s i) 1 (fun v h nx => v = pkV s i ∧ h = prs s i ∧ nx = 1) := by
  refine TriL.of_safe Tryz.func272 rfl Tryz.results272 Tryz.ntmps272 rfl ?_
  refine go 99 rfl ?_
  refine Safe.draw mixed ?_
  refine DS.go [0,1,2,3,4,5,6,7,8,9] rfl rfl (by kernel_rfl) ?_
  refine DS.fin (by kernel_rfl) rfl ?_
  refine go 99 rfl ?_
  refine Safe.br rfl (fun c => ?_) (fun c => ?_)
  · have h0 : i = s.length := by simp at c; omega
    refine go 99 rfl ?_
    exact ⟨.inr rfl, rfl, rfl, .done rfl ⟨by simp [pkV, h0], rfl, rfl⟩⟩
  · have h0 : i < s.length := by simp at c; omega
    refine go 99 rfl ?_
    refine Safe.draw mixed ?_
    refine DS.go [0,1,2,3,4,5,6,7] rfl rfl (by kernel_rfl) ?_
    refine DS.val (i := 8) (ev_idxS h0 rfl rfl).ev rfl rfl rfl rfl (by kernel_rfl) ?_
    refine DS.go [9,10] rfl rfl (by kernel_rfl) ?_
    refine DS.fin (by kernel_rfl) rfl ?_
    refine go 99 rfl ?_
    exact ⟨.inr rfl, rfl, rfl, .done rfl ⟨by simp [pkV, h0], rfl, rfl⟩⟩
def isDg (c : Int) : Bool := decide (48 ≤ c) && decide (c ≤ 57)
def isLt (c : Int) : Bool := (decide (97 ≤ c) && decide (c ≤ 122)) || (decide (65 ≤ c) && decide (c ≤ 90))
theorem rx_digit (c : Int) : PTri Tryz.prog 289 [.int .u8 c] (.bool (isDg c)) := by
  refine PTri.of_safe Tryz.func289 rfl Tryz.results289 Tryz.ntmps289 rfl ?_
  refine go 99 rfl ?_
  repeat' (first | (refine Safe.gs rfl (fun a => ?_) (fun a => ?_) <;> refine go 99 rfl ?_) | (refine Safe.br rfl (fun a => ?_) (fun a => ?_) <;> refine go 99 rfl ?_))
  all_goals exact ⟨.inr rfl, trivial, .done (bIeq (by simp_all [isDg] <;> omega)) rfl⟩
theorem rx_letter (c : Int) : PTri Tryz.prog 291 [.int .u8 c] (.bool (isLt c)) := by
  refine PTri.of_safe Tryz.func291 rfl Tryz.results291 Tryz.ntmps291 rfl ?_
  refine go 99 rfl ?_
  repeat' (first | (refine Safe.gs rfl (fun a => ?_) (fun a => ?_) <;> refine go 99 rfl ?_) | (refine Safe.br rfl (fun a => ?_) (fun a => ?_) <;> refine go 99 rfl ?_))
  all_goals exact ⟨.inr rfl, trivial, .done (bIeq (by simp_all [isLt] <;> omega)) rfl⟩
end Go.Proofs.YtijfihbdcdkalaaGreatDoor
end

section
namespace Go.Proofs.YtijfihbdcdkalaaGreatDoor
open Go.Fw
variable [Gl]
set_option maxRecDepth 20000
set_option maxHeartbeats 4000000
def rngB (s : By) (i : Nat) : Bool := decide (i + 1 < s.length) && s[i]? == some 45 && !(s[i + 1]? == some 93)
theorem u8eqZ {a b : UInt8} : ((a.toNat : Int) == b.toNat) = (a == b) := by
  rw [Bool.eq_iff_iff]; simp [← UInt8.toNat_inj]; omega
theorem rx_range (s : By) (i : Nat) (hs : s.length ≤ 200) (hi : i ≤ s.length) : TriL Tryz.prog 287 [.ptr 0 0] (prs s i) 1 (fun v h nx => v = .bool (rngB s i) ∧ h = prs s i ∧ nx = 1) := by
  have hw : IntKind.i64.wrap ((i : Int) + 1) = ((i + 1 : Nat) : Int) := by rw [wrap64_fit (by omega) (by omega)]; rfl
  refine TriL.of_safe Tryz.func287 rfl Tryz.results287 Tryz.ntmps287 rfl ?_
  refine go 99 rfl ?_
  refine Safe.draw mixed ?_
  refine DS.go [0,1,2,3,4,5,6,7,8,9,10,11] rfl rfl (by kernel_rfl) ?_
  refine DS.gs 12 rfl rfl (fun c => ?_) (fun c => ?_)
  · have h1 : i + 1 < s.length := ltc (by rw [← hw]; exact c)
    have h0 : i < s.length := by omega
    refine DS.go [12,13,14,15,16,17,18,19] rfl rfl (by kernel_rfl) ?_
    refine DS.val (i := 20) (ev_idxS h0 rfl rfl).ev rfl rfl rfl rfl (by kernel_rfl) ?_
    refine DS.go [21,22,23] rfl rfl (by kernel_rfl) ?_
    refine DS.gs 24 rfl rfl (fun c => ?_) (fun c => ?_)
    · have h2 : s[i] = 45 := by
        have c2 : ((s[i].toNat : Int) == 45) = true := c
        rw [show (45 : Int) = ((45 : UInt8).toNat : Int) from rfl, u8eqZ] at c2
        simpa using c2
      refine DS.go [24,25,26,27,28,29,30,31,32] rfl rfl (by kernel_rfl) ?_
      refine DS.val (i := 33) (ev_idxS (i := i + 1) h1 hw rfl).ev rfl rfl rfl rfl (by kernel_rfl) ?_
      refine DS.go [34,35,36] rfl rfl (by kernel_rfl) ?_
      refine DS.fin (by kernel_rfl) rfl ?_
      refine go 99 rfl ?_
      refine ⟨.inr rfl, rfl, rfl, .done rfl ⟨congrArg V.bool ?_, rfl, rfl⟩⟩
      have e1 : (((s[i + 1].toNat : Int)) == 93) = (s[i + 1] == 93) := by rw [show (93 : Int) = ((93 : UInt8).toNat : Int) from rfl, u8eqZ]
      simp only [rngB, bne, List.getElem?_eq_getElem h0, List.getElem?_eq_getElem h1, h2, e1, decide_eq_true h1]
      simp
    · have c2 : ((s[i].toNat : Int) == 45) = false := c
      rw [show (45 : Int) = ((45 : UInt8).toNat : Int) from rfl, u8eqZ] at c2
      refine DS.go [24,25,26,27,28,29,30,31,32,33,34,35,36] rfl rfl (by kernel_rfl) ?_
      refine DS.fin (by kernel_rfl) rfl ?_
      refine go 99 rfl ?_
      refine ⟨.inr rfl, rfl, rfl, .done rfl ⟨congrArg V.bool ?_, rfl, rfl⟩⟩
      have e2 : (((s[i].toNat : Int)) == 45) = (s[i] == 45) := by rw [show (45 : Int) = ((45 : UInt8).toNat : Int) from rfl, u8eqZ]
      simp only [rngB, List.getElem?_eq_getElem h0, e2]
      simp at c2
      simp [c2]
  · have h1 : ¬ i + 1 < s.length := fun h => by have := gec (i := i + 1) (n := s.length) (by rw [← hw]; exact c); omega
    refine DS.go [12,13,14,15,16,17,18,19,20,21,22,23,24,25,26,27,28,29,30,31,32,33,34,35,36] rfl rfl (by kernel_rfl) ?_
    refine DS.fin (by kernel_rfl) rfl ?_
    refine go 99 rfl ?_
    exact ⟨.inr rfl, rfl, rfl, .done rfl ⟨by simp only [rngB]; rw [decide_eq_false h1]; rfl, rfl, rfl⟩⟩
end Go.Proofs.YtijfihbdcdkalaaGreatDoor
end

section
namespace Go.Proofs.YtijfihbdcdkalaaGreatDoor
open Go.Fw
variable [Gl]
set_option maxRecDepth 20000
set_option maxHeartbeats 4000000
def isWd (c : Int) : Bool := isLt c || isDg c || c == 95
theorem rx_word (c : Int) : PTri Tryz.prog 290 [.int .u8 c] (.bool (isWd c)) := by
  refine PTri.of_safe Tryz.func290 rfl Tryz.results290 Tryz.ntmps290 rfl ?_
  refine go 99 rfl ?_
  refine Safe.call (rx_letter c) rfl rfl rfl ?_
  refine go 99 rfl ?_
  repeat' (first | (refine Safe.call (rx_digit c) rfl rfl rfl ?_; refine go 99 rfl ?_) | (refine Safe.gs rfl (fun a => ?_) (fun a => ?_) <;> refine go 99 rfl ?_) | (refine Safe.br rfl (fun a => ?_) (fun a => ?_) <;> refine go 99 rfl ?_))
  all_goals first
    | (exfalso; simp_all; done)
    | (refine ⟨.inr rfl, trivial, .done (bIeq ?_) rfl⟩; simp_all [isWd]; done)
theorem rx_any (c : Int) : PTri Tryz.prog 282 [.int .u8 c] (.bool true) := by
  refine PTri.of_safe Tryz.func282 rfl Tryz.results282 Tryz.ntmps282 rfl ?_
  refine go 99 rfl ?_
  exact ⟨.inr rfl, trivial, .done (bIeq rfl) rfl⟩
end Go.Proofs.YtijfihbdcdkalaaGreatDoor
end

section
namespace Go.Proofs.YtijfihbdcdkalaaGreatDoor
open Go.Fw
variable [Gl]
set_option maxRecDepth 20000
set_option maxHeartbeats 4000000
def brI (s : By) (i : Nat) : Option Nat :=
  if (itR s i).2.2 = true then
    if rngB s (itR s i).2.1 = true then
      if (itR s ((itR s i).2.1 + 1)).2.2 = true ∧ ¬ (itR s ((itR s i).2.1 + 1)).1 < (itR s i).1 then some (itR s ((itR s i).2.1 + 1)).2.1 else none
    else some (itR s i).2.1
  else none
def brL (s : By) (st : Nat) : Nat → Nat → Option Nat
  | 0, _ => none
  | f + 1, i => match s[i]? with
    | none => none
    | some c => if c = 93 then (if i = st then none else some (i + 1)) else match brI s i with
      | none => none
      | some j => brL s st f j
def brk (s : By) (i : Nat) : Option Nat := brL s i (s.length + 1 - i) i
theorem itR_le {s : By} {i : Nat} (h : (itR s i).2.2 = true) : i < (itR s i).2.1 ∧ (itR s i).2.1 ≤ s.length := by
  unfold itR at h ⊢
  cases hc : s[i]? with
  | none => simp [hc] at h
  | some c =>
    have h1 := List.getElem?_eq_some_iff.1 hc
    obtain ⟨h1, _⟩ := h1
    simp only [hc] at h ⊢
    split
    · rename_i h93; simp [h93] at h
    · rename_i h93
      rw [if_neg h93] at h
      split
      · simp only; omega
      · rename_i h92
        rw [if_neg h92] at h
        cases hd : s[i + 1]? with
        | none => simp [hd] at h
        | some d =>
          have h2 := List.getElem?_eq_some_iff.1 hd
          obtain ⟨h2, _⟩ := h2
          simp only; omega
theorem brI_le {s : By} {i j : Nat} (h : brI s i = some j) : i < j ∧ j ≤ s.length := by
  unfold brI at h
  split at h
  · rename_i h1
    have := itR_le h1
    split at h
    · split at h
      · rename_i h2
        have h3 := itR_le h2.1
        injection h with h; omega
      · cases h
    · injection h with h; omega
  · cases h
theorem brL_le {s : By} {st : Nat} : ∀ {f i j : Nat}, brL s st f i = some j → i < j ∧ j ≤ s.length
  | 0, _, _, h => by cases h
  | f + 1, i, j, h => by
    simp only [brL] at h
    split at h
    · cases h
    · rename_i c hc
      obtain ⟨h1, _⟩ := List.getElem?_eq_some_iff.1 hc
      split at h
      · split at h
        · cases h
        · injection h with h; omega
      · split at h
        · cases h
        · rename_i k hk
          have := brI_le hk
          have := brL_le h
          omega
def Ans (r : Option Nat) (j : Nat) (o : Bool) : Prop := o = r.isSome ∧ ∀ k, r = some k → j = k
def AnsV (r : Option Nat) (v : V) : Prop := ∃ (cs : List V) (j : Nat) (o : Bool), v = .tup [.agg cs, nI j, .bool o] ∧ ndk cs ∧ Ans r j o
def RRb (s : By) (i : Nat) (neg : Bool) : Prop := ETri Tryz.prog 270 [.str s, nI i, .bool neg] (AnsV (brk s i))
theorem itR_1 (s : By) (i : Nat) : 0 ≤ (itR s i).1 ∧ (itR s i).1 ≤ 255 := by
  have hb : ∀ c : UInt8, (0 : Int) ≤ c.toNat ∧ (c.toNat : Int) ≤ 255 := fun c => by have := c.toNat_lt; omega
  unfold itR
  split
  · simp
  · split
    · simp
    · split
      · exact hb _
      · split
        · simp
        · rename_i d _
          have := hb d
          simp only [escI]
          split
          · omega
          · split <;> omega
theorem itR_b (s : By) (i : Nat) (hi : i ≤ s.length) : i ≤ (itR s i).2.1 ∧ (itR s i).2.1 ≤ s.length := by
  unfold itR
  split
  · exact ⟨Nat.le_refl _, hi⟩
  · rename_i c hc
    obtain ⟨h1, _⟩ := List.getElem?_eq_some_iff.1 hc
    split
    · exact ⟨Nat.le_refl _, hi⟩
    · split
      · simp only; omega
      · split
        · exact ⟨Nat.le_refl _, hi⟩
        · rename_i d hd
          obtain ⟨h2, _⟩ := List.getElem?_eq_some_iff.1 hd
          simp only; omega
theorem AnsV.no {cs : List V} (j : Nat) (h : ndk cs) : AnsV none (.tup [.agg cs, nI j, .bool false]) := ⟨cs, j, false, rfl, h, rfl, fun _ h => by cases h⟩
theorem AnsV.ok {cs : List V} {j : Nat} (h : ndk cs) : AnsV (some j) (.tup [.agg cs, nI j, .bool true]) := ⟨cs, j, true, rfl, h, rfl, fun _ h => by injection h⟩
theorem brL_end {s : By} {st f i : Nat} (h : s.length ≤ i) (hf : 0 < f) : brL s st f i = none := by
  match f with
  | 0 => omega
  | f + 1 => simp only [brL, List.getElem?_eq_none h]
theorem brL_93 {s : By} {st f i : Nat} (h : i < s.length) (h2 : s[i] = 93) (hf : 0 < f) : brL s st f i = if i = st then none else some (i + 1) := by
  match f with
  | 0 => omega
  | f + 1 => simp only [brL, List.getElem?_eq_getElem h]; rw [if_pos h2]
theorem brL_go {s : By} {st f i : Nat} (h : i < s.length) (h2 : s[i] ≠ 93) : brL s st (f + 1) i = match brI s i with
      | none => none
      | some j => brL s st f j := by simp only [brL, List.getElem?_eq_getElem h]; rw [if_neg h2]
theorem d3d {X : List V} {j : Nat} {o : Bool} (h : X.all dryV1 = true) : dry (.tup [.agg X, nI j, .bool o]) = true := by simp [dry, h, dryV1]
def isBl : V → Bool
  | .bool _ => true
  | _ => false
def bls (cs : List V) : Bool := ((cs.drop 1).take 256).all isBl
theorem bls_at {cs : List V} {k : Nat} (h : bls cs = true) (hl : cs.length = 259) (hk : k < 256) : ∃ b, cs[0 + 1 + k * 1]? = some (.bool b) := by
  have h1 : 0 + 1 + k * 1 < cs.length := by omega
  have h2 := List.all_eq_true.1 h (cs[0 + 1 + k * 1]) (by
    refine List.mem_of_getElem? (i := k) ?_
    rw [List.getElem?_take_of_lt hk, List.getElem?_drop, List.getElem?_eq_getElem (by omega)]
    congr 2
    omega)
  rw [List.getElem?_eq_getElem h1]
  generalize cs[0 + 1 + k * 1] = v at h2 ⊢
  match v, h2 with
  | .bool b, _ => exact ⟨b, rfl⟩
theorem bls_set {cs : List V} {k : Nat} {b : Bool} (h : bls cs = true) : bls (cs.set k (.bool b)) = true := by
  refine List.all_eq_true.2 fun v hv => ?_
  have hv2 := List.mem_of_mem_take hv
  match k with
  | 0 =>
    have e : (cs.set 0 (.bool b)).drop 1 = cs.drop 1 := by cases cs <;> simp
    rw [e] at hv
    exact List.all_eq_true.1 h v hv
  | k + 1 =>
    have e : (cs.set (k + 1) (.bool b)).drop 1 = (cs.drop 1).set k (.bool b) := by cases cs <;> simp
    rw [e, List.take_set] at hv
    rcases List.mem_or_eq_of_mem_set hv with h1 | h1
    · exact List.all_eq_true.1 h v h1
    · rw [h1]; rfl
theorem ld_bool {cs : List V} {k : Nat} {b : Bool} (h : cs[k]? = some (.bool b)) : ldAt Tryz.prog 4 cs k = some (.bool b) := by
  unfold ldAt
  simp only [show tagg Tryz.prog 4 = some false from by kernel_rfl]
  exact h
theorem iw {x : Int} (h1 : 0 ≤ x) (h2 : x ≤ 9223372036854775807) : some (V.int .i64 (IntKind.i64.wrap x)) = some (V.int .i64 x) := by rw [wrap64_fit h1 h2]
theorem rr_brackets (s : By) (st : Nat) (neg : Bool) (hs : s.length ≤ 200) (hi : st ≤ s.length) : RRb s st neg := by
  unfold RRb
  refine ETri.of_safe Tryz.func270 rfl Tryz.results270 Tryz.ntmps270 rfl ?_
  refine go 99 rfl ?_
  refine Safe.allocB tz230 rfl rfl (fun A hAl hAd => ?_)
  refine go 99 rfl ?_
  refine Safe.buildBp (k := 259) (p := bls) (by kernel_rfl) rfl (fun B hBl hBd hBb => ?_)
  refine go 99 rfl ?_
  refine Safe.allocB tz230 rfl rfl (fun C hCl hCd => ?_)
  refine go 99 rfl ?_
  refine Safe.storeB sz230 hBl hCl (dryL1_leaf hBd) rfl rfl rfl rfl rfl ?_
  refine go 99 rfl ?_
  refine Safe.loop (α := (Nat × List V)) (fun a => [(0, .str s), (1, nI a.1), (2, .bool neg), (6, .ptr 0 0), (9, .ptr 1 0), (10, nI st)]) (fun a => [(1, .cells 230 a.2 259), (0, .cells 230 A 259)]) 2 (fun a => s.length - a.1) (fun a => st ≤ a.1 ∧ a.1 ≤ s.length ∧ (∃ f, s.length - a.1 < f ∧ brk s st = brL s st f a.1) ∧ a.2.length = 259 ∧ a.2.all dryV1 = true ∧ bls a.2 = true) (st, B) (sgI 2) ⟨⟨fit rfl, fit rfl, fit rfl, fit rfl, fit rfl, fit rfl, trivial⟩, ⟨_, .refl _, subK rfl (renO_dry (dryL1_dry hBd)) (subK rfl (renO_dry (dryL1_dry hAd)) subN)⟩, rfl⟩ ⟨Nat.le_refl _, hi, ⟨_, by dsimp only; omega, rfl⟩, hBl, hBd, hBb⟩ ?_
  rintro ⟨i, X⟩ ⟨hi1, hi2, ⟨f, hf, hE⟩, hXl, hXd, hXb⟩
  dsimp only at hi1 hi2 hf hE hXl hXd hXb
  refine go 99 rfl ?_
  refine Safe.gs rfl (fun a => ?_) (fun a => ?_)
  · have h0 : i < s.length := by simpa using a
    refine go 99 rfl ?_
    refine Safe.idxS h0 rfl rfl rfl ?_
    refine go 99 rfl ?_
    refine Safe.br rfl (fun b => ?_) (fun b => ?_)
    · have b1 : s[i] ≠ 93 := u8neR (d := 93) (by simpa using b)
      match f, hf, hE with
      | 0, hf, _ => exact absurd hf (by omega)
      | f + 1, hf, hE =>
      rw [brL_go h0 b1] at hE
      obtain ⟨l1, l2⟩ := itR_1 s i
      obtain ⟨p1, p2⟩ := itR_b s i hi2
      have hB := brI.eq_1 s i
      refine go 99 rfl ?_
      refine Safe.call (rr_item s i hs (by omega)) rfl rfl rfl ?_
      refine go 99 rfl ?_
      generalize hr : itR s i = r at *
      obtain ⟨lo, j, ok⟩ := r
      dsimp only at l1 l2 p1 p2 hB ⊢
      refine Safe.cut1 (α := (Int × Nat × Bool)) (fun b => [(0, .str s), (1, nI i), (2, .bool neg), (6, .ptr 0 0), (9, .ptr 1 0), (10, nI st), (11, .int .u8 lo), (12, nI b.2.1), (13, .bool b.2.2), (14, .int .u8 b.1)]) (fun b => [(1, .cells 230 X 259), (0, .cells 230 A 259)]) 2 (fun b => 0 ≤ b.1 ∧ b.1 ≤ 255 ∧ brI s i = if b.2.2 = true ∧ ¬ b.1 < lo then some b.2.1 else none) ?_ ?_
      · refine Safe.gs rfl (fun a2 => ?_) (fun a2 => ?_)
        · have a3 : ok = true := a2
          subst a3
          refine go 99 rfl ?_
          refine Safe.gs rfl (fun a4 => ?_) (fun a4 => ?_)
          · have hj : j + 1 < s.length := by have := of_decide_eq_true a4; rw [w1 (by omega)] at this; omega
            refine go 99 rfl ?_
            refine Safe.idxS (show j < s.length by omega) rfl rfl rfl ?_
            refine go 99 rfl ?_
            refine Safe.gs rfl (fun a5 => ?_) (fun a5 => ?_)
            · have h45 : s[j] = 45 := u8eqR (d := 45) a5
              refine go 99 rfl ?_
              refine Safe.idxS hj (w1 (by omega)) rfl rfl ?_
              refine go 99 rfl ?_
              refine Safe.br rfl (fun a6 => ?_) (fun a6 => ?_)
              · have hn : s[j + 1] ≠ 93 := u8neR (d := 93) (by simpa using a6)
                have hR : rngB s j = true := by
                  unfold rngB
                  rw [List.getElem?_eq_getElem hj, List.getElem?_eq_getElem (show j < s.length by omega), h45, decide_eq_true hj]
                  simp [hn]
                rw [if_pos rfl, if_pos hR] at hB
                refine go 99 rfl ?_
                refine Safe.eqv (congrArg (V.int .i64) (w1 (show j < 4611686018427387904 by omega))) ?_
                refine Safe.call (rr_item s (j + 1) hs (by omega)) rfl rfl rfl ?_
                refine go 99 rfl ?_
                obtain ⟨k1, k2⟩ := itR_1 s (j + 1)
                exact ⟨sgI 2, (_, _, _), ⟨k1, k2, hB⟩, rfl, rfl, ⟨fit rfl, fit rfl, fit rfl, fit rfl, fit rfl, fit rfl, fit rfl, fit rfl, fit rfl, fit rfl, trivial⟩, ⟨_, .refl _, subK rfl (renO_dry (dryL1_dry hXd)) (subK rfl (renO_dry (dryL1_dry hAd)) subN)⟩, rfl⟩
              · have hn : s[j + 1] = 93 := u8eqR (d := 93) (by simpa using a6)
                have hR : rngB s j = false := by
                  unfold rngB
                  rw [List.getElem?_eq_getElem hj, hn]
                  simp
                rw [if_pos rfl, hR, if_neg Bool.false_ne_true] at hB
                refine go 99 rfl ?_
                exact ⟨sgI 2, (lo, j, true), ⟨l1, l2, by rw [hB, if_pos ⟨rfl, Int.lt_irrefl _⟩]⟩, rfl, rfl, ⟨fit rfl, fit rfl, fit rfl, fit rfl, fit rfl, fit rfl, fit rfl, fit rfl, fit rfl, fit rfl, trivial⟩, ⟨_, .refl _, subK rfl (renO_dry (dryL1_dry hXd)) (subK rfl (renO_dry (dryL1_dry hAd)) subN)⟩, rfl⟩
            · have h45 : s[j] ≠ 45 := u8neR (d := 45) a5
              have hR : rngB s j = false := by
                unfold rngB
                rw [List.getElem?_eq_getElem (show j < s.length by omega)]
                simp [h45]
              rw [if_pos rfl, hR, if_neg Bool.false_ne_true] at hB
              refine go 99 rfl ?_
              exact ⟨sgI 2, (lo, j, true), ⟨l1, l2, by rw [hB, if_pos ⟨rfl, Int.lt_irrefl _⟩]⟩, rfl, rfl, ⟨fit rfl, fit rfl, fit rfl, fit rfl, fit rfl, fit rfl, fit rfl, fit rfl, fit rfl, fit rfl, trivial⟩, ⟨_, .refl _, subK rfl (renO_dry (dryL1_dry hXd)) (subK rfl (renO_dry (dryL1_dry hAd)) subN)⟩, rfl⟩
          · have hj : ¬ j + 1 < s.length := by have := of_decide_eq_false a4; rw [w1 (by omega)] at this; omega
            have hR : rngB s j = false := by
              unfold rngB
              rw [decide_eq_false hj]
              simp
            rw [if_pos rfl, hR, if_neg Bool.false_ne_true] at hB
            refine go 99 rfl ?_
            exact ⟨sgI 2, (lo, j, true), ⟨l1, l2, by rw [hB, if_pos ⟨rfl, Int.lt_irrefl _⟩]⟩, rfl, rfl, ⟨fit rfl, fit rfl, fit rfl, fit rfl, fit rfl, fit rfl, fit rfl, fit rfl, fit rfl, fit rfl, trivial⟩, ⟨_, .refl _, subK rfl (renO_dry (dryL1_dry hXd)) (subK rfl (renO_dry (dryL1_dry hAd)) subN)⟩, rfl⟩
        · have a3 : ok = false := a2
          subst a3
          rw [if_neg Bool.false_ne_true] at hB
          refine go 99 rfl ?_
          exact ⟨sgI 2, (lo, j, false), ⟨l1, l2, by rw [hB, if_neg (fun h => Bool.false_ne_true h.1)]⟩, rfl, rfl, ⟨fit rfl, fit rfl, fit rfl, fit rfl, fit rfl, fit rfl, fit rfl, fit rfl, fit rfl, fit rfl, trivial⟩, ⟨_, .refl _, subK rfl (renO_dry (dryL1_dry hXd)) (subK rfl (renO_dry (dryL1_dry hAd)) subN)⟩, rfl⟩
      · rintro ⟨hi', j', ok'⟩ ⟨q1, q2, hB'⟩
        dsimp only at q1 q2 hB'
        have hno : brI s i = none → brk s st = none := fun h => by rw [hE, h]
        refine go 99 rfl ?_
        refine Safe.gs rfl (fun e => ?_) (fun e => ?_)
        · have e1 : ok' = false := by simpa using e
          subst e1
          rw [if_neg (fun h => Bool.false_ne_true h.1)] at hB'
          refine go 99 rfl ?_
          refine Safe.ldO (ldAll ag230 sz230 hXl) rfl rfl ?_
          refine go 99 rfl ?_
          refine Safe.storeB sz230 hXl hAl (dryL1_leaf hXd) rfl rfl rfl rfl rfl ?_
          refine go 99 rfl ?_
          exact ⟨.inr rfl, trivial, .done (r := .tup [.agg X, nI i, .bool false]) (resA_c3 (ldAll ag230 sz230 hXl) rfl rfl rfl rfl) (d3d hXd) (by rw [hno hB']; exact AnsV.no _ ⟨hXl, hXd⟩)⟩
        · have e1 : ok' = true := by simpa using e
          subst e1
          refine go 99 rfl ?_
          refine Safe.br rfl (fun e2 => ?_) (fun e2 => ?_)
          · have e3 : hi' < lo := of_decide_eq_true e2
            rw [if_neg (fun h => h.2 e3)] at hB'
            refine go 99 rfl ?_
            refine Safe.ldO (ldAll ag230 sz230 hXl) rfl rfl ?_
            refine go 99 rfl ?_
            refine Safe.storeB sz230 hXl hAl (dryL1_leaf hXd) rfl rfl rfl rfl rfl ?_
            refine go 99 rfl ?_
            exact ⟨.inr rfl, trivial, .done (r := .tup [.agg X, nI i, .bool false]) (resA_c3 (ldAll ag230 sz230 hXl) rfl rfl rfl rfl) (d3d hXd) (by rw [hno hB']; exact AnsV.no _ ⟨hXl, hXd⟩)⟩
          · have e3 : ¬ hi' < lo := of_decide_eq_false e2
            rw [if_pos ⟨rfl, e3⟩] at hB'
            have hjl := brI_le hB'
            rw [hB'] at hE
            dsimp only at hE
            refine go 99 rfl ?_
            obtain ⟨ln, rfl⟩ := Int.eq_ofNat_of_zero_le l1
            obtain ⟨hn, rfl⟩ := Int.eq_ofNat_of_zero_le q1
            refine Safe.loop (α := (Nat × List V)) (fun a => [(0, .str s), (1, nI i), (2, .bool neg), (6, .ptr 0 0), (9, .ptr 1 0), (10, nI st), (12, nI j'), (14, .int .u8 hn), (15, nI a.1)]) (fun a => [(1, .cells 230 a.2 259), (0, .cells 230 A 259)]) 2 (fun a => 256 - a.1) (fun a => a.1 ≤ 256 ∧ a.2.length = 259 ∧ a.2.all dryV1 = true ∧ bls a.2 = true) (ln, X) (sgI 2) ⟨⟨fit rfl, fit rfl, fit rfl, fit rfl, fit rfl, fit rfl, fit rfl, fit rfl, fit (iw (by omega) (by omega)), trivial⟩, ⟨_, .refl _, subK rfl (renO_dry (dryL1_dry hXd)) (subK rfl (renO_dry (dryL1_dry hAd)) subN)⟩, rfl⟩ ⟨by dsimp only; omega, hXl, hXd, hXb⟩ ?_
            rintro ⟨k, Y⟩ ⟨hk, hYl, hYd, hYb⟩
            dsimp only at hk hYl hYd hYb
            refine go 99 rfl ?_
            refine Safe.br rfl (fun t => ?_) (fun t => ?_)
            · have hk2 : k < 256 := by have := of_decide_eq_true t; rw [wrap64_fit (by omega) (by omega)] at this; omega
              refine go 99 rfl ?_
              refine Safe.idxO hk2 rfl rfl rfl ?_
              refine Safe.stB2 (off := 0 + 1 + k * 1) (by rw [hYl]; omega) hYd rfl rfl rfl rfl rfl rfl rfl (fun Z hZ hZl hZd => ?_)
              have hZb : bls Z = true := by rw [hZ]; exact bls_set hYb
              replace hZl := hZl.trans hYl
              refine go 99 rfl ?_
              exact ⟨sgI 2, (k + 1, Z), ⟨hk2, hZl, hZd, hZb⟩, mlt hk2, rfl, rfl, ⟨fit rfl, fit rfl, fit rfl, fit rfl, fit rfl, fit rfl, fit rfl, fit rfl, fit (isucc (by first | omega | (dsimp only; omega))), trivial⟩, ⟨_, .refl _, subK rfl (renO_dry (dryL1_dry hZd)) (subK rfl (renO_dry (dryL1_dry hAd)) subN)⟩, rfl⟩
            · refine go 99 rfl ?_
              exact ⟨sgI 2, (j', Y), ⟨by dsimp only; omega, by dsimp only; omega, ⟨f, by dsimp only; omega, hE⟩, hYl, hYd, hYb⟩, by dsimp only; omega, rfl, rfl, ⟨fit rfl, fit rfl, fit rfl, fit rfl, fit rfl, fit rfl, trivial⟩, ⟨_, .refl _, subK rfl (renO_dry (dryL1_dry hYd)) (subK rfl (renO_dry (dryL1_dry hAd)) subN)⟩, rfl⟩
    · have b1 : s[i] = 93 := u8eqR (d := 93) (by simpa using b)
      rw [brL_93 h0 b1 (by omega)] at hE
      refine go 99 rfl ?_
      refine Safe.gs rfl (fun c => ?_) (fun c => ?_)
      · exact absurd (of_decide_eq_true c) (by dsimp only; omega)
      · refine go 99 rfl ?_
        refine Safe.br rfl (fun d => ?_) (fun d => ?_)
        · have d1 : i = st := by have := of_decide_eq_true (p := (i : Int) = st) (by simpa using d); omega
          rw [if_pos d1] at hE
          refine go 99 rfl ?_
          refine Safe.ldO (ldAll ag230 sz230 hXl) rfl rfl ?_
          refine go 99 rfl ?_
          refine Safe.storeB sz230 hXl hAl (dryL1_leaf hXd) rfl rfl rfl rfl rfl ?_
          refine go 99 rfl ?_
          exact ⟨.inr rfl, trivial, .done (r := .tup [.agg X, nI i, .bool false]) (resA_c3 (ldAll ag230 sz230 hXl) rfl rfl rfl rfl) (d3d hXd) (by rw [hE]; exact AnsV.no _ ⟨hXl, hXd⟩)⟩
        · have d1 : i ≠ st := fun h => by subst h; simp at d
          rw [if_neg d1] at hE
          refine go 99 rfl ?_
          refine Safe.loop (α := (Nat × List V)) (fun a => [(1, nI i), (2, .bool neg), (6, .ptr 0 0), (9, .ptr 1 0), (16, nI a.1)]) (fun a => [(1, .cells 230 a.2 259), (0, .cells 230 A 259)]) 2 (fun a => 256 - a.1) (fun a => a.1 ≤ 256 ∧ a.2.length = 259 ∧ a.2.all dryV1 = true ∧ bls a.2 = true) (0, X) (sgI 2) ⟨⟨fit rfl, fit rfl, fit rfl, fit rfl, fit rfl, trivial⟩, ⟨_, .refl _, subK rfl (renO_dry (dryL1_dry hXd)) (subK rfl (renO_dry (dryL1_dry hAd)) subN)⟩, rfl⟩ ⟨Nat.zero_le _, hXl, hXd, hXb⟩ ?_
          rintro ⟨k, Y⟩ ⟨hk, hYl, hYd, hYb⟩
          dsimp only at hk hYl hYd hYb
          refine go 99 rfl ?_
          refine Safe.br rfl (fun t => ?_) (fun t => ?_)
          · have hk2 : k < 256 := ltc t
            refine go 99 rfl ?_
            refine Safe.idxO hk2 rfl rfl rfl ?_
            obtain ⟨bb, hbb⟩ := bls_at hYb hYl hk2
            refine Safe.ldO (ld_bool hbb) rfl rfl ?_
            refine go 99 rfl ?_
            refine Safe.idxO hk2 rfl rfl rfl ?_
            refine Safe.stB2 (off := 0 + 1 + k * 1) (by rw [hYl]; omega) hYd rfl rfl rfl rfl rfl rfl rfl (fun Z hZ hZl hZd => ?_)
            have hZb : bls Z = true := by rw [hZ]; exact bls_set hYb
            replace hZl := hZl.trans hYl
            refine go 99 rfl ?_
            exact ⟨sgI 2, (k + 1, Z), ⟨hk2, hZl, hZd, hZb⟩, mlt hk2, rfl, rfl, ⟨fit rfl, fit rfl, fit rfl, fit rfl, fit (isucc (by first | omega | (dsimp only; omega))), trivial⟩, ⟨_, .refl _, subK rfl (renO_dry (dryL1_dry hZd)) (subK rfl (renO_dry (dryL1_dry hAd)) subN)⟩, rfl⟩
          · refine go 99 rfl ?_
            refine Safe.ldO (ldAll ag230 sz230 hYl) rfl rfl ?_
            refine go 99 rfl ?_
            refine Safe.storeB sz230 hYl hAl (dryL1_leaf hYd) rfl rfl rfl rfl rfl ?_
            refine go 99 rfl ?_
            exact ⟨.inr rfl, trivial, .done (r := .tup [.agg Y, nI (i + 1 : Nat), .bool true]) (resA_c3 (ldAll ag230 sz230 hYl) rfl rfl (iw (x := (i : Int) + 1) (by omega) (by omega)) rfl) (d3d hYd) (by rw [hE]; exact AnsV.ok ⟨hYl, hYd⟩)⟩
  · have h0 : s.length ≤ i := by simpa using a
    rw [brL_end h0 (by omega)] at hE
    refine go 99 rfl ?_
    refine Safe.gs rfl (fun c => ?_) (fun c => ?_)
    · refine go 99 rfl ?_
      refine Safe.ldO (ldAll ag230 sz230 hXl) rfl rfl ?_
      refine go 99 rfl ?_
      refine Safe.storeB sz230 hXl hAl (dryL1_leaf hXd) rfl rfl rfl rfl rfl ?_
      refine go 99 rfl ?_
      exact ⟨.inr rfl, trivial, .done (r := .tup [.agg X, nI i, .bool false]) (resA_c3 (ldAll ag230 sz230 hXl) rfl rfl rfl rfl) (d3d hXd) (by rw [hE]; exact AnsV.no _ ⟨hXl, hXd⟩)⟩
    · exact absurd (of_decide_eq_false c) (by dsimp only; omega)
end Go.Proofs.YtijfihbdcdkalaaGreatDoor
end

section
namespace Go.Proofs.YtijfihbdcdkalaaGreatDoor
open Go.Fw
variable [Gl]
set_option maxRecDepth 20000
set_option maxHeartbeats 4000000
def posB (s : By) (j : Nat) : Bool := match s[j]? with
  | some c => c == 42 || (c == 43 || c == 63)
  | none => false
def escP (s : By) (i : Nat) : Option Nat := match s[i]? with
  | none => none
  | some c => if escO c.toNat = true then some (i + 1) else none
mutual
def raA (s : By) : Nat → Nat → Option Nat
  | 0, _ => none
  | f + 1, i => match s[i]? with
    | none => none
    | some c =>
      if spcI c.toNat = false then some (i + 1) else if c = 46 then some (i + 1) else if c = 92 then escP s (i + 1)
      else if c = 91 then brk s (if s[i + 1]? = some 94 then i + 2 else i + 1)
      else if c = 40 then (match raE s f (i + 1) with
        | none => none
        | some j => if s[j]? = some 41 then some (j + 1) else none)
      else none
def raE (s : By) : Nat → Nat → Option Nat
  | 0, _ => none
  | f + 1, i => match s[i]? with
    | none => some i
    | some c => if c = 41 then some i else if c = 124 then raE s f (i + 1) else match raA s f i with
      | none => none
      | some j => raE s f (if posB s j = true then j + 1 else j)
end
def CA (s : By) (i : Nat) : Prop := ∀ f, 2 * (s.length - i) + 1 ≤ f → ETri Tryz.prog 259 [.str s, nI i] (AnsV (raA s f i))
def CE (s : By) (i : Nat) : Prop := ∀ f, 2 * (s.length - i) + 2 ≤ f → ETri Tryz.prog 247 [.str s, nI i] (AnsV (raE s f i))
theorem rr_atom (s : By) (i : Nat) (hs : s.length ≤ 200) (hi : i < s.length) (ih : CE s (i + 1)) : CA s i := by
  intro f hf
  match f, hf with
  | 0, hf => exact absurd hf (by omega)
  | f + 1, hf =>
  have hE := raA.eq_2 s i f
  rw [List.getElem?_eq_getElem hi] at hE
  simp only at hE
  have hc := s[i].toNat_lt
  generalize hcc : s[i] = c at *
  refine ETri.of_safe Tryz.func259 rfl Tryz.results259 Tryz.ntmps259 rfl ?_
  refine go 99 rfl ?_
  refine Safe.allocB tz230 rfl rfl (fun A hAl hAd => ?_)
  refine go 99 rfl ?_
  refine Safe.idxS hi rfl rfl rfl ?_
  refine go 99 rfl ?_
  rw [hcc]
  refine Safe.call (rr_special c.toNat) rfl rfl rfl ?_
  refine go 99 rfl ?_
  refine Safe.br rfl (fun a => ?_) (fun a => ?_)
  · have a1 : spcI c.toNat = false := by simpa using a
    rw [if_pos a1] at hE
    refine go 99 rfl ?_
    refine Safe.callE (rr_single c.toNat hc) rfl rfl rfl ?_
    rintro v hv ⟨cs, rfl, hcsl, hcsd⟩
    refine go 99 rfl ?_
    refine Safe.storeB sz230 hcsl hAl (dryL1_leaf hcsd) rfl rfl rfl rfl rfl ?_
    refine go 99 rfl ?_
    exact ⟨.inr rfl, trivial, .done (r := .tup [.agg cs, nI (i + 1 : Nat), .bool true]) (resA_c3 (ldAll ag230 sz230 hcsl) rfl rfl (iw (x := (i : Int) + 1) (by omega) (by omega)) rfl) (d3d hcsd) (by rw [hE]; exact AnsV.ok ⟨hcsl, hcsd⟩)⟩
  · have a1 : ¬ spcI c.toNat = false := by simpa using a
    rw [if_neg a1] at hE
    refine go 99 rfl ?_
    refine Safe.br rfl (fun b => ?_) (fun b => ?_)
    · have b1 : c = 46 := u8eqR (d := 46) b
      rw [if_pos b1] at hE
      refine go 99 rfl ?_
      refine Safe.buildB (k := 259) (by kernel_rfl) rfl (fun B hBl hBd => ?_)
      refine go 99 rfl ?_
      refine Safe.allocB tz230 rfl rfl (fun C hCl hCd => ?_)
      refine go 99 rfl ?_
      refine Safe.storeB sz230 hBl hCl (dryL1_leaf hBd) rfl rfl rfl rfl rfl ?_
      refine go 99 rfl ?_
      refine Safe.loop (α := (Nat × List V)) (fun a => [(0, .str s), (1, nI i), (4, .ptr 0 0), (8, .ptr 1 0), (9, nI a.1)]) (fun a => [(1, .cells 230 a.2 259), (0, .cells 230 A 259)]) 2 (fun a => 256 - a.1) (fun a => a.1 ≤ 256 ∧ a.2.length = 259 ∧ a.2.all dryV1 = true) (0, B) (sgI 2) ⟨⟨fit rfl, fit rfl, fit rfl, fit rfl, fit rfl, trivial⟩, ⟨_, .refl _, subK rfl (renO_dry (dryL1_dry hBd)) (subK rfl (renO_dry (dryL1_dry hAd)) subN)⟩, rfl⟩ ⟨Nat.zero_le _, hBl, hBd⟩ ?_
      rintro ⟨k, Y⟩ ⟨hk, hYl, hYd⟩
      dsimp only at hk hYl hYd
      refine go 99 rfl ?_
      refine Safe.br rfl (fun t => ?_) (fun t => ?_)
      · have hk2 : k < 256 := ltc t
        refine go 99 rfl ?_
        refine Safe.idxO hk2 rfl rfl rfl ?_
        refine Safe.stB (off := 0 + 1 + k * 1) (by rw [hYl]; omega) hYd rfl rfl rfl rfl rfl rfl rfl (fun Z hZl hZd => ?_)
        replace hZl := hZl.trans hYl
        refine go 99 rfl ?_
        exact ⟨sgI 2, (k + 1, Z), ⟨hk2, hZl, hZd⟩, mlt hk2, rfl, rfl, ⟨fit rfl, fit rfl, fit rfl, fit rfl, fit (isucc (by first | omega | (dsimp only; omega))), trivial⟩, ⟨_, .refl _, subK rfl (renO_dry (dryL1_dry hZd)) (subK rfl (renO_dry (dryL1_dry hAd)) subN)⟩, rfl⟩
      · refine go 99 rfl ?_
        refine Safe.ldO (ldAll ag230 sz230 hYl) rfl rfl ?_
        refine go 99 rfl ?_
        refine Safe.storeB sz230 hYl hAl (dryL1_leaf hYd) rfl rfl rfl rfl rfl ?_
        refine go 99 rfl ?_
        exact ⟨.inr rfl, trivial, .done (r := .tup [.agg Y, nI (i + 1 : Nat), .bool true]) (resA_c3 (ldAll ag230 sz230 hYl) rfl rfl (iw (x := (i : Int) + 1) (by omega) (by omega)) rfl) (d3d hYd) (by rw [hE]; exact AnsV.ok ⟨hYl, hYd⟩)⟩
    · have b1 : ¬ c = 46 := u8neR (d := 46) b
      rw [if_neg b1] at hE
      refine go 99 rfl ?_
      refine Safe.gs rfl (fun d => ?_) (fun d => ?_)
      · have d1 : c = 92 := u8eqR (d := 92) d
        rw [if_pos d1] at hE
        refine go 99 rfl ?_
        refine Safe.br rfl (fun e => ?_) (fun e => ?_)
        · have e1 : i + 1 < s.length := by have := of_decide_eq_true e; rw [w1 (by omega)] at this; omega
          simp only [escP, List.getElem?_eq_getElem e1] at hE
          refine go 99 rfl ?_
          refine Safe.idxS e1 (w1 (by omega)) rfl rfl ?_
          refine go 99 rfl ?_
          refine Safe.callE (rr_escape s[i + 1].toNat s[i + 1].toNat_lt) rfl rfl rfl ?_
          rintro v hv ⟨cs, rfl, hcsl, hcsd⟩
          refine go 99 rfl ?_
          refine Safe.allocB tz230 rfl rfl (fun G hGl hGd => ?_)
          refine go 99 rfl ?_
          refine Safe.storeB sz230 hcsl hGl (dryL1_leaf hcsd) rfl rfl rfl rfl rfl ?_
          refine go 99 rfl ?_
          refine Safe.ldO (ldAll ag230 sz230 hcsl) rfl rfl ?_
          refine go 99 rfl ?_
          refine Safe.storeB sz230 hcsl hAl (dryL1_leaf hcsd) rfl rfl rfl rfl rfl ?_
          refine go 99 rfl ?_
          exact ⟨.inr rfl, trivial, .done (r := .tup [.agg cs, nI (i + 2 : Nat), .bool (escO (s[i + 1].toNat : Nat))]) (resA_c3 (ldAll ag230 sz230 hcsl) rfl rfl (iw (x := (i : Int) + 2) (by omega) (by omega)) rfl) (d3d hcsd) (by rw [hE]; exact ⟨cs, i + 2, _, rfl, ⟨hcsl, hcsd⟩, by split <;> simp_all, fun k hk => by split at hk <;> simp_all⟩)⟩
        · have e1 : ¬ i + 1 < s.length := by have := of_decide_eq_false e; rw [w1 (by omega)] at this; omega
          simp only [escP, List.getElem?_eq_none (show s.length ≤ i + 1 by omega)] at hE
          subst d1
          refine go 99 rfl ?_
          refine Safe.gs rfl (fun x1 => ?_) (fun x1 => ?_)
          · exact absurd x1 (by decide)
          · refine go 99 rfl ?_
            refine Safe.br rfl (fun x2 => ?_) (fun x2 => ?_)
            · exact absurd x2 (by decide)
            · refine go 99 rfl ?_
              refine Safe.br rfl (fun x3 => ?_) (fun x3 => ?_)
              · refine go 99 rfl ?_
                refine Safe.buildB (k := 259) (by kernel_rfl) rfl (fun E hEl hEd => ?_)
                refine go 99 rfl ?_
                refine Safe.storeB sz230 hEl hAl (dryL1_leaf hEd) rfl rfl rfl rfl rfl ?_
                refine go 99 rfl ?_
                exact ⟨.inr rfl, trivial, .done (r := .tup [.agg E, nI i, .bool false]) (resA_c3 (ldAll ag230 sz230 hEl) rfl rfl rfl rfl) (d3d hEd) (by rw [hE]; exact AnsV.no _ ⟨hEl, hEd⟩)⟩
              · exact absurd x3 (by decide)
      · have d1 : ¬ c = 92 := u8neR (d := 92) d
        rw [if_neg d1] at hE
        refine go 99 rfl ?_
        refine Safe.gs rfl (fun e => ?_) (fun e => ?_)
        · have e1 : c = 91 := u8eqR (d := 91) e
          rw [if_pos e1] at hE
          refine go 99 rfl ?_
          refine Safe.gs rfl (fun x1 => ?_) (fun x1 => ?_)
          · have x2 : i + 1 < s.length := by have := of_decide_eq_true x1; rw [w1 (by omega)] at this; omega
            rw [List.getElem?_eq_getElem x2] at hE
            refine go 99 rfl ?_
            refine Safe.idxS x2 (w1 (by omega)) rfl rfl ?_
            refine go 99 rfl ?_
            refine Safe.br rfl (fun x3 => ?_) (fun x3 => ?_)
            · have x4 : s[i + 1] = 94 := u8eqR (d := 94) x3
              rw [if_pos (by rw [x4])] at hE
              refine go 99 rfl ?_
              refine Safe.eqv (congrArg (V.int .i64) (w2 (show i < 4611686018427387904 by omega))) ?_
              refine Safe.callE (rr_brackets s (i + 2) true hs (by omega)) rfl rfl rfl ?_
              rintro v hv ⟨cs, j, o, rfl, ⟨hcsl, hcsd⟩, hA⟩
              refine go 99 rfl ?_
              refine Safe.storeB sz230 hcsl hAl (dryL1_leaf hcsd) rfl rfl rfl rfl rfl ?_
              refine go 99 rfl ?_
              exact ⟨.inr rfl, trivial, .done (r := .tup [.agg cs, nI j, .bool o]) (resA_c3 (ldAll ag230 sz230 hcsl) rfl rfl rfl rfl) (d3d hcsd) (by rw [hE]; exact ⟨cs, j, o, rfl, ⟨hcsl, hcsd⟩, hA⟩)⟩
            · have x4 : s[i + 1] ≠ 94 := u8neR (d := 94) x3
              rw [if_neg (fun h => x4 (Option.some.inj h))] at hE
              refine go 99 rfl ?_
              refine Safe.br rfl (fun x5 => ?_) (fun x5 => ?_)
              · refine go 99 rfl ?_
                refine Safe.eqv (congrArg (V.int .i64) (w1 (show i < 4611686018427387904 by omega))) ?_
                refine Safe.callE (rr_brackets s (i + 1) false hs (by omega)) rfl rfl rfl ?_
                rintro v hv ⟨cs, j, o, rfl, ⟨hcsl, hcsd⟩, hA⟩
                refine go 99 rfl ?_
                refine Safe.storeB sz230 hcsl hAl (dryL1_leaf hcsd) rfl rfl rfl rfl rfl ?_
                refine go 99 rfl ?_
                exact ⟨.inr rfl, trivial, .done (r := .tup [.agg cs, nI j, .bool o]) (resA_c3 (ldAll ag230 sz230 hcsl) rfl rfl rfl rfl) (d3d hcsd) (by rw [hE]; exact ⟨cs, j, o, rfl, ⟨hcsl, hcsd⟩, hA⟩)⟩
              · exact absurd e1 (u8neR (d := 91) x5)
          · have x2 : ¬ i + 1 < s.length := by have := of_decide_eq_false x1; rw [w1 (by omega)] at this; omega
            rw [List.getElem?_eq_none (show s.length ≤ i + 1 by omega), if_neg (by simp)] at hE
            refine go 99 rfl ?_
            refine Safe.br rfl (fun x5 => ?_) (fun x5 => ?_)
            · refine go 99 rfl ?_
              refine Safe.eqv (congrArg (V.int .i64) (w1 (show i < 4611686018427387904 by omega))) ?_
              refine Safe.callE (rr_brackets s (i + 1) false hs (by omega)) rfl rfl rfl ?_
              rintro v hv ⟨cs, j, o, rfl, ⟨hcsl, hcsd⟩, hA⟩
              refine go 99 rfl ?_
              refine Safe.storeB sz230 hcsl hAl (dryL1_leaf hcsd) rfl rfl rfl rfl rfl ?_
              refine go 99 rfl ?_
              exact ⟨.inr rfl, trivial, .done (r := .tup [.agg cs, nI j, .bool o]) (resA_c3 (ldAll ag230 sz230 hcsl) rfl rfl rfl rfl) (d3d hcsd) (by rw [hE]; exact ⟨cs, j, o, rfl, ⟨hcsl, hcsd⟩, hA⟩)⟩
            · exact absurd e1 (u8neR (d := 91) x5)
        · have e1 : ¬ c = 91 := u8neR (d := 91) e
          rw [if_neg e1] at hE
          refine go 99 rfl ?_
          refine Safe.br rfl (fun x5 => ?_) (fun x5 => ?_)
          · exact absurd (u8eqR (d := 91) x5) e1
          · refine go 99 rfl ?_
            refine Safe.br rfl (fun x6 => ?_) (fun x6 => ?_)
            · have x7 : c ≠ 40 := u8neR (d := 40) (by simpa using x6)
              rw [if_neg x7] at hE
              refine go 99 rfl ?_
              refine Safe.buildB (k := 259) (by kernel_rfl) rfl (fun E hEl hEd => ?_)
              refine go 99 rfl ?_
              refine Safe.storeB sz230 hEl hAl (dryL1_leaf hEd) rfl rfl rfl rfl rfl ?_
              refine go 99 rfl ?_
              exact ⟨.inr rfl, trivial, .done (r := .tup [.agg E, nI i, .bool false]) (resA_c3 (ldAll ag230 sz230 hEl) rfl rfl rfl rfl) (d3d hEd) (by rw [hE]; exact AnsV.no _ ⟨hEl, hEd⟩)⟩
            · have x7 : c = 40 := u8eqR (d := 40) (by simpa using x6)
              rw [if_pos x7] at hE
              refine go 99 rfl ?_
              refine Safe.eqv (congrArg (V.int .i64) (w1 (show i < 4611686018427387904 by omega))) ?_
              refine Safe.callE (ih f (by omega)) rfl rfl rfl ?_
              rintro v hv ⟨cs, j, o, rfl, ⟨hcsl, hcsd⟩, hA1, hA2⟩
              refine go 99 rfl ?_
              refine Safe.allocB tz230 rfl rfl (fun G hGl hGd => ?_)
              refine go 99 rfl ?_
              refine Safe.storeB sz230 hcsl hGl (dryL1_leaf hcsd) rfl rfl rfl rfl rfl ?_
              refine go 99 rfl ?_
              refine Safe.gs rfl (fun y1 => ?_) (fun y1 => ?_)
              · have y2 : o = false := by simpa using y1
                rw [y2] at hA1
                have y3 : raE s f (i + 1) = none := by revert hA1; cases raE s f (i + 1) <;> simp
                rw [y3] at hE
                refine go 99 rfl ?_
                refine go 99 rfl ?_
                refine Safe.buildB (k := 259) (by kernel_rfl) rfl (fun E hEl hEd => ?_)
                refine go 99 rfl ?_
                refine Safe.storeB sz230 hEl hAl (dryL1_leaf hEd) rfl rfl rfl rfl rfl ?_
                refine go 99 rfl ?_
                exact ⟨.inr rfl, trivial, .done (r := .tup [.agg E, nI i, .bool false]) (resA_c3 (ldAll ag230 sz230 hEl) rfl rfl rfl rfl) (d3d hEd) (by rw [hE]; exact AnsV.no _ ⟨hEl, hEd⟩)⟩
              · have y2 : o = true := by simpa using y1
                rw [y2] at hA1
                obtain ⟨j', y3⟩ : ∃ j', raE s f (i + 1) = some j' := Option.isSome_iff_exists.1 hA1.symm
                have y4 := hA2 j' y3
                subst y4
                rw [y3] at hE
                dsimp only at hE
                refine go 99 rfl ?_
                refine Safe.gs rfl (fun z1 => ?_) (fun z1 => ?_)
                · have z2 : s.length ≤ j := by have := of_decide_eq_true z1; omega
                  rw [List.getElem?_eq_none z2, if_neg (by simp)] at hE
                  refine go 99 rfl ?_
                  refine Safe.buildB (k := 259) (by kernel_rfl) rfl (fun E hEl hEd => ?_)
                  refine go 99 rfl ?_
                  refine Safe.storeB sz230 hEl hAl (dryL1_leaf hEd) rfl rfl rfl rfl rfl ?_
                  refine go 99 rfl ?_
                  exact ⟨.inr rfl, trivial, .done (r := .tup [.agg E, nI i, .bool false]) (resA_c3 (ldAll ag230 sz230 hEl) rfl rfl rfl rfl) (d3d hEd) (by rw [hE]; exact AnsV.no _ ⟨hEl, hEd⟩)⟩
                · have z2 : j < s.length := by have := of_decide_eq_false z1; omega
                  rw [List.getElem?_eq_getElem z2] at hE
                  refine go 99 rfl ?_
                  refine Safe.idxS z2 rfl rfl rfl ?_
                  refine go 99 rfl ?_
                  refine Safe.br rfl (fun z3 => ?_) (fun z3 => ?_)
                  · have z4 : s[j] ≠ 41 := u8neR (d := 41) (by simpa using z3)
                    rw [if_neg (fun h => z4 (Option.some.inj h))] at hE
                    refine go 99 rfl ?_
                    refine Safe.buildB (k := 259) (by kernel_rfl) rfl (fun E hEl hEd => ?_)
                    refine go 99 rfl ?_
                    refine Safe.storeB sz230 hEl hAl (dryL1_leaf hEd) rfl rfl rfl rfl rfl ?_
                    refine go 99 rfl ?_
                    exact ⟨.inr rfl, trivial, .done (r := .tup [.agg E, nI i, .bool false]) (resA_c3 (ldAll ag230 sz230 hEl) rfl rfl rfl rfl) (d3d hEd) (by rw [hE]; exact AnsV.no _ ⟨hEl, hEd⟩)⟩
                  · have z4 : s[j] = 41 := u8eqR (d := 41) (by simpa using z3)
                    rw [if_pos (by rw [z4])] at hE
                    refine go 99 rfl ?_
                    refine Safe.ldO (ldAll ag230 sz230 hcsl) rfl rfl ?_
                    refine go 99 rfl ?_
                    refine Safe.storeB sz230 hcsl hAl (dryL1_leaf hcsd) rfl rfl rfl rfl rfl ?_
                    refine go 99 rfl ?_
                    exact ⟨.inr rfl, trivial, .done (r := .tup [.agg cs, nI (j + 1 : Nat), .bool true]) (resA_c3 (ldAll ag230 sz230 hcsl) rfl rfl (iw (x := (j : Int) + 1) (by omega) (by omega)) rfl) (d3d hcsd) (by rw [hE]; exact AnsV.ok ⟨hcsl, hcsd⟩)⟩
end Go.Proofs.YtijfihbdcdkalaaGreatDoor
end

section
namespace Go.Proofs.YtijfihbdcdkalaaGreatDoor
open Go.Fw
variable [Gl]
set_option maxRecDepth 20000
set_option maxHeartbeats 4000000
structure NdB where
  P : List V
  c : List V
  n : Nat
  G : Option Nat
def NdB.ok (x : NdB) (i : Nat) : Prop := x.P.length = 258 ∧ x.P.all dryV1 = true ∧ x.c.length = x.n * 259 ∧ x.c.all dryV1 = true ∧ (x.G = none → x.c = [] ∧ x.n = 0) ∧ x.n ≤ i
theorem ndN {P : List V} {v : V} (h1 : P.length = 258) (h2 : P.all dryV1 = true) (hv : dryV1 v = true) : ndk (P ++ [v]) := ⟨by simp [h1], by rw [List.all_append, h2]; simp [hv]⟩
theorem nd_frz {k n N : Nat} {P cs : List V} (h1 : P.length = 258) (h2 : P.all dryV1 = true) : ndk (frzX k cs (P ++ [.slice k 0 n N])) := by
  rw [frzX_app, frzX_d1 _ _ h2]
  refine ndN h1 h2 ?_
  simp only [frzW, Nat.beq_refl]; rfl
theorem el228 : ∃ by_ z, elemE Tryz.prog 228 = some (230, 259, by_, z) := elemK_ok (by kernel_rfl)
theorem NdB.ok.mono {x : NdB} {i j : Nat} (h : x.ok i) (hij : i ≤ j) : x.ok j := ⟨h.1, h.2.1, h.2.2.1, h.2.2.2.1, h.2.2.2.2.1, Nat.le_trans h.2.2.2.2.2 hij⟩
abbrev exHp (A : List V) (x y : NdB) : Hp := [(2, .cells 230 (x.P ++ [gV 4 x.n x.G]) 259), (1, .cells 230 (y.P ++ [gV 3 y.n y.G]) 259), (0, .cells 230 A 259)] ++ (gH 230 259 3 y.c y.G ++ gH 230 259 4 x.c x.G)
theorem gV_ren {sg : Sg} {k k' n : Nat} {G : Option Nat} (h : sgF sg k = some k') : renV (sgF sg) (gV k n G) = gV k' n G := by
  cases G with
  | none => rfl
  | some N => simp only [gV, renV, h, rex]
theorem subGH {sg : Sg} {e : TypeId} {kk k k' : Nat} {cs : List V} {G : Option Nat} {r h3 : Hp} (h : sgF sg k = some k') (hd : cs.all dryV1 = true) (hr : (relH sg r).Sublist h3) : (relH sg (gH e kk k cs G ++ r)).Sublist (gH e kk k' cs G ++ h3) := by
  cases G with
  | none => exact hr
  | some N => exact subK h (renO_dry (dryL1_dry hd)) hr
theorem renO_nd {sg : Sg} {k k' n : Nat} {G : Option Nat} {P : List V} (hP : P.all dryV1 = true) (h : sgF sg k = some k') : renO (sgF sg) (.cells 230 (P ++ [gV k n G]) 259) = .cells 230 (P ++ [gV k' n G]) 259 := by
  rw [renO, renL_append, dryL1_ren _ hP]
  simp only [renL, gV_ren h]
theorem sub_ex {A : List V} {x y : NdB} {i j : Nat} (hA : A.all dryV1 = true) (hx : x.ok i) (hy : y.ok j) {sg : Sg} {k0 k1 k2 k3 k4 : Nat} (h0 : sgF sg 0 = some k0) (h1 : sgF sg 1 = some k1) (h2 : sgF sg 2 = some k2) (h3 : sgF sg 3 = some k3) (h4 : sgF sg 4 = some k4) :
    (relH sg (exHp A x y)).Sublist ([(k2, .cells 230 (x.P ++ [gV k4 x.n x.G]) 259), (k1, .cells 230 (y.P ++ [gV k3 y.n y.G]) 259), (k0, .cells 230 A 259)] ++ (gH 230 259 k3 y.c y.G ++ gH 230 259 k4 x.c x.G)) := by
  refine subK h2 (renO_nd hx.2.1 h4) (subK h1 (renO_nd hy.2.1 h3) (subK h0 (renO_dry (dryL1_dry hA)) (subGH h3 hy.2.2.2.1 ?_)))
  have := subGH (G := x.G) (e := 230) (kk := 259) (r := []) (h3 := []) h4 hx.2.2.2.1 (List.Sublist.refl _)
  simpa using this
theorem sub_exN {A : List V} {B P1 c1 : List V} {n1 N1 i j k3 : Nat} (hA : A.all dryV1 = true) (hx : NdB.ok ⟨B, [], 0, none⟩ i) (hy : NdB.ok ⟨P1, c1, n1, some N1⟩ j) :
    (relH [(0, 0), (1, 1), (2, 2), (3, k3)] (exHp A ⟨B, [], 0, none⟩ ⟨P1, c1, n1, some N1⟩)).Sublist ([(2, .cells 230 (B ++ [.nilslice]) 259), (1, .cells 230 (P1 ++ [.slice k3 0 n1 N1]) 259), (0, .cells 230 A 259)] ++ [(k3, .cells 230 c1 (N1 * 259))]) :=
  subK rfl (renO_dry (dryL1_dry (ndN hx.1 hx.2.1 rfl).2)) (subK rfl (renO_nd hy.2.1 rfl) (subK rfl (renO_dry (dryL1_dry hA)) (subK rfl (renO_dry (dryL1_dry hy.2.2.2.1)) subN)))
theorem escP_le {s : By} {i j : Nat} (h : escP s i = some j) : i < j ∧ j ≤ s.length := by
  unfold escP at h
  split at h
  · cases h
  · rename_i c hc
    obtain ⟨h1, _⟩ := List.getElem?_eq_some_iff.1 hc
    split at h
    · injection h with h; omega
    · cases h
theorem posB_lt {s : By} {j : Nat} (h : posB s j = true) : j < s.length := by
  unfold posB at h
  split at h
  · rename_i c hc
    exact (List.getElem?_eq_some_iff.1 hc).1
  · cases h
mutual
theorem raA_le {s : By} : ∀ {f i j : Nat}, raA s f i = some j → i < j ∧ j ≤ s.length
  | 0, _, _, h => by simp [raA] at h
  | f + 1, i, j, h => by
    rw [raA.eq_2] at h
    split at h
    · cases h
    · rename_i c hc
      obtain ⟨h1, _⟩ := List.getElem?_eq_some_iff.1 hc
      split at h
      · injection h with h; omega
      split at h
      · injection h with h; omega
      split at h
      · have := escP_le h; omega
      split at h
      · have := brL_le h
        split at this <;> omega
      split at h
      · split at h
        · cases h
        · rename_i k hk
          have := raE_le (i := i + 1) (by omega) hk
          split at h
          · rename_i h41
            obtain ⟨h2, _⟩ := List.getElem?_eq_some_iff.1 h41
            injection h with h; omega
          · cases h
      · cases h
theorem raE_le {s : By} : ∀ {f i j : Nat}, i ≤ s.length → raE s f i = some j → i ≤ j ∧ j ≤ s.length
  | 0, _, _, _, h => by simp [raE] at h
  | f + 1, i, j, hi, h => by
    rw [raE.eq_2] at h
    split at h
    · injection h with h; omega
    · rename_i c hc
      obtain ⟨h1, _⟩ := List.getElem?_eq_some_iff.1 hc
      split at h
      · injection h with h; omega
      split at h
      · have := raE_le (i := i + 1) (by omega) h; omega
      split at h
      · cases h
      · rename_i k hk
        have h2 := raA_le hk
        split at h
        · rename_i hp
          have := posB_lt hp
          have := raE_le (i := k + 1) (by omega) h; omega
        · have := raE_le (i := k) (by omega) h; omega
end
theorem pos63 {c : UInt8} (h1 : c ≠ 42) (h2 : c ≠ 43) : ((c.toNat : Int) == 63) = (c == 42 || (c == 43 || c == 63)) := by
  rw [beq_eq_false_iff_ne.2 h1, beq_eq_false_iff_ne.2 h2, Bool.false_or, Bool.false_or]
  cases h : ((c.toNat : Int) == 63) with
  | true => rw [u8eqR (d := 63) h]; rfl
  | false => exact (beq_eq_false_iff_ne.2 (u8neR (d := 63) h)).symm
theorem perm_ex {z x : Nat × AObj} {rows g : Hp} : (z :: (rows ++ (g ++ [x]))).Perm (x :: ((z :: (rows ++ g)) ++ [])) := by
  have := List.perm_append_comm (l₁ := z :: (rows ++ g)) (l₂ := [x])
  simpa using this
theorem raE_pos {s : By} {f k : Nat} (h : posB s k = true) (hf : 1 ≤ f) : raE s f k = none := by
  match f, hf with
  | f + 1, _ =>
    rw [raE.eq_2]
    have hk := posB_lt h
    simp only [posB, List.getElem?_eq_getElem hk] at h
    rw [List.getElem?_eq_getElem hk]
    have h3 : s[k] = 42 ∨ s[k] = 43 ∨ s[k] = 63 := by simpa using h
    have e : raA s f k = none := by
      match f with
      | 0 => simp [raA]
      | f + 1 =>
        rw [raA.eq_2, List.getElem?_eq_getElem hk]
        rcases h3 with h3 | h3 | h3 <;> rw [h3] <;> rfl
    rcases h3 with h3 | h3 | h3 <;> simp [e, h3]
abbrev rwG (A P2 : List V) (n2 : Nat) (G2 : Option Nat) (P1 : List V) (n1 : Nat) (G1 : Option Nat) : Hp := [(2, .cells 230 (P2 ++ [gV 4 n2 G2]) 259), (1, .cells 230 (P1 ++ [gV 3 n1 G1]) 259), (0, .cells 230 A 259)]
abbrev rwX (A X P1 : List V) (n1 : Nat) (G1 : Option Nat) : Hp := [(2, .cells 230 X 259), (1, .cells 230 (P1 ++ [gV 3 n1 G1]) 259), (0, .cells 230 A 259)]
theorem frz_heap {A P2 c2 P1 c1 : List V} {n2 N2 n1 : Nat} {G1 : Option Nat} (hA : A.all dryV1 = true) (y2 : P1.all dryV1 = true) (y4 : c1.all dryV1 = true) :
    frzHp 4 c2 (hdel (exHp A ⟨P2, c2, n2, some N2⟩ ⟨P1, c1, n1, G1⟩) 4) = rwX A (frzX 4 c2 (P2 ++ [.slice 4 0 n2 N2])) P1 n1 G1 ++ gH 230 259 3 c1 G1 := by
  cases G1 <;> simp [exHp, gH, gV, hdel, frzHp, frzOb, frzX_app, frzX_d1, hA, y2, y4, frzX, frzW] <;> rfl
theorem frzN_C {P : Program} {ρr : Option Nat} {n nb : Nat} {Q : LPo} {κ : List Kt} {kn : Kn} {m : Fl} {h hf : Hp} {nx : Nat} {dl : List Nat} {c : Code} {A P2 c2 P1 c1 : List V} {n2 n1 : Nat} {G2 G1 : Option Nat} (x1 : P2.length = 258) (x2 : P2.all dryV1 = true) (x4 : c2.all dryV1 = true) (hA : A.all dryV1 = true) (y2 : P1.all dryV1 = true) (y4 : c1.all dryV1 = true) (hh : h = exHp A ⟨P2, c2, n2, G2⟩ ⟨P1, c1, n1, G1⟩) (hm : frzM 4 c2 m = m)
    (hs : ∀ X, ndk X → Go.Fw.Safe nb P ρr n Q (.code c κ kn m (rwX A X P1 n1 G1 ++ gH 230 259 3 c1 G1) nx hf dl)) : Go.Fw.Safe nb P ρr n Q (.code c κ kn m h nx hf dl) := by
  subst hh
  cases G2 with
  | none =>
    have := hs (P2 ++ [.nilslice]) (ndN x1 x2 rfl)
    have e : exHp A ⟨P2, c2, n2, none⟩ ⟨P1, c1, n1, G1⟩ = rwX A (P2 ++ [.nilslice]) P1 n1 G1 ++ gH 230 259 3 c1 G1 := by simp [exHp, gV, gH]
    rw [e]; exact this
  | some N2 =>
    refine Safe.frzC 4 (T := 230) (cs := c2) (nn := N2 * 259) ?_ x4 ?_
    · cases G1 <;> rfl
    · rw [hm, frz_heap hA y2 y4]
      exact hs _ (nd_frz x1 x2)
theorem rr_expr (s : By) (i0 : Nat) (hs : s.length ≤ 200) (hi0 : i0 ≤ s.length) (ih : ∀ k, i0 ≤ k → k < s.length → CA s k) : CE s i0 := by
  intro f0 hf0
  refine ETri.of_safe Tryz.func247 rfl Tryz.results247 Tryz.ntmps247 rfl ?_
  refine go 99 rfl ?_
  refine Safe.allocB tz230 rfl rfl (fun A hAl hAd => ?_)
  refine go 99 rfl ?_
  refine Safe.buildN (k := 258) (by kernel_rfl) rfl (fun B1 hB1l hB1d => ?_)
  refine go 99 rfl ?_
  refine Safe.allocB tz230 rfl rfl (fun C1 hC1l hC1d => ?_)
  refine go 99 rfl ?_
  refine Safe.storeB sz230 (ndN hB1l hB1d rfl).1 hC1l (ndN hB1l hB1d rfl).leaf rfl rfl rfl rfl rfl ?_
  refine go 99 rfl ?_
  refine Safe.buildN (k := 258) (by kernel_rfl) rfl (fun B2 hB2l hB2d => ?_)
  refine go 99 rfl ?_
  refine Safe.allocB tz230 rfl rfl (fun C2 hC2l hC2d => ?_)
  refine go 99 rfl ?_
  refine Safe.storeB sz230 (ndN hB2l hB2d rfl).1 hC2l (ndN hB2l hB2d rfl).leaf rfl rfl rfl rfl rfl ?_
  refine go 99 rfl ?_
  have hx0 : NdB.ok ⟨B2, [], 0, none⟩ i0 := ⟨hB2l, hB2d, rfl, rfl, fun _ => ⟨rfl, rfl⟩, Nat.zero_le _⟩
  have hy0 : NdB.ok ⟨B1, [], 0, none⟩ i0 := ⟨hB1l, hB1d, rfl, rfl, fun _ => ⟨rfl, rfl⟩, Nat.zero_le _⟩
  refine Safe.ccut1 (α := (Nat × NdB × NdB)) (fun a => [(0, .str s), (1, nI a.1), (4, .ptr 0 0), (7, .ptr 1 0), (8, .ptr 2 0)]) (fun a => exHp A a.2.1 a.2.2) 5 (fun a => a.1 ≤ s.length ∧ raE s f0 i0 = some a.1 ∧ a.2.1.ok a.1 ∧ a.2.2.ok a.1) ?_ ?_
  · refine Safe.loop (α := (Nat × NdB × NdB)) (fun a => [(0, .str s), (1, nI a.1), (4, .ptr 0 0), (7, .ptr 1 0), (8, .ptr 2 0)]) (fun a => exHp A a.2.1 a.2.2) 5 (fun a => s.length - a.1) (fun a => i0 ≤ a.1 ∧ a.1 ≤ s.length ∧ (∃ f, 2 * (s.length - a.1) + 2 ≤ f ∧ raE s f0 i0 = raE s f a.1) ∧ a.2.1.ok a.1 ∧ a.2.2.ok a.1) (i0, ⟨B2, [], 0, none⟩, ⟨B1, [], 0, none⟩) (sgI 5) ⟨⟨fit rfl, fit rfl, fit rfl, fit rfl, fit rfl, trivial⟩, ⟨_, .refl _, sub_ex hAd hx0 hy0 rfl rfl rfl rfl rfl⟩, rfl⟩ ⟨Nat.le_refl _, hi0, ⟨f0, hf0, rfl⟩, hx0, hy0⟩ ?_
    rintro ⟨i, x, y⟩ ⟨hi1, hi2, ⟨f, hf, hE⟩, hx, hy⟩
    dsimp only at hi1 hi2 hf hE hx hy
    refine go 99 rfl ?_
    obtain ⟨P2, c2, n2, G2⟩ := x
    obtain ⟨P1, c1, n1, G1⟩ := y
    have hx' := hx
    have hy' := hy
    obtain ⟨x1, x2, x3, x4, x5, x6⟩ := hx
    obtain ⟨y1, y2, y3, y4, y5, y6⟩ := hy
    dsimp only at x1 x2 x3 x4 x5 x6 y1 y2 y3 y4 y5 y6
    match f, hf, hE with
    | 0, hf, _ => exact absurd hf (by omega)
    | f + 1, hf, hE =>
    rw [raE.eq_2] at hE
    refine Safe.gs rfl (fun a => ?_) (fun a => ?_)
    · have h0 : i < s.length := by simpa using a
      rw [List.getElem?_eq_getElem h0] at hE
      dsimp only at hE
      refine go 99 rfl ?_
      refine Safe.idxS h0 rfl rfl rfl ?_
      refine go 99 rfl ?_
      refine Safe.br rfl (fun b => ?_) (fun b => ?_)
      · have b1 : ¬ s[i] = 41 := u8neR (d := 41) (by simpa using b)
        rw [if_neg b1] at hE
        refine go 99 rfl ?_
        refine Safe.idxS h0 rfl rfl rfl ?_
        refine go 99 rfl ?_
        refine Safe.br rfl (fun c => ?_) (fun c => ?_)
        · have c1' : s[i] = 124 := u8eqR (d := 124) c
          rw [if_pos c1'] at hE
          obtain ⟨by_, z, he⟩ := el228
          refine go 1 rfl ?_
          refine frzN_C x1 x2 x4 hAd y2 y4 rfl rfl (fun X hX => ?_)
          refine go 1 rfl ?_
          refine Safe.one rfl rfl ?_
          refine Safe.ldO (ldLast (k := 258) (by kernel_rfl) y1) rfl rfl ?_
          refine Safe.ldO (ldAll ag230 sz230 hX.1) rfl rfl ?_
          refine Safe.bsB1 tz230 sz230 ⟨by decide, by decide⟩ hX.1 hX.2 rfl rfl rfl rfl ?_
          refine Safe.appG (k := 3) (G := G1) (h1 := rwX A X P1 n1 G1) (h2 := []) he (by simp [Hp.ns]) y5 (by simp) rfl rfl rfl rfl (fun h => evSrc_f1 hX.1) (by decide) rfl y3 (dryL1_dry hX.2) hX.leaf (by omega) (fun N' hN' => ?_)
          refine Safe.one rfl rfl ?_
          refine Safe.stLast rfl rfl rfl rfl rfl rfl y1 rfl rfl ?_
          refine go 99 rfl ?_
          refine Safe.buildN (k := 258) (by kernel_rfl) rfl (fun B hBl hBd => ?_)
          refine go 99 rfl ?_
          refine Safe.storeB sz230 (ndN hBl hBd rfl).1 hX.1 (ndN hBl hBd rfl).leaf rfl rfl rfl rfl rfl ?_
          refine go 99 rfl ?_
          have hx2 : NdB.ok ⟨B, [], 0, none⟩ (i + 1) := ⟨hBl, hBd, rfl, rfl, fun _ => ⟨rfl, rfl⟩, Nat.zero_le _⟩
          have hy2 : NdB.ok ⟨P1, c1 ++ X, n1 + 1, some N'⟩ (i + 1) := ⟨y1, y2, by rw [List.length_append, hX.1, y3]; exact (Nat.succ_mul n1 259).symm, by rw [List.all_append, y4, hX.2]; rfl, fun h => (by cases h), Nat.succ_le_succ y6⟩
          exact ⟨[(0, 0), (1, 1), (2, 2), (3, 5)], (i + 1, ⟨B, [], 0, none⟩, ⟨P1, c1 ++ X, n1 + 1, some N'⟩), ⟨by dsimp only; omega, h0, ⟨f, by dsimp only; omega, hE⟩, hx2, hy2⟩, mlt h0, rfl, rfl, ⟨fit rfl, fit (isucc (by first | omega | (dsimp only; omega))), fit rfl, fit rfl, fit rfl, trivial⟩, ⟨_, List.perm_append_comm (l₂ := [(5, AObj.cells 230 (c1 ++ X) (N' * 259))]), sub_exN hAd hx2 hy2⟩, rfl⟩
        · have c1' : ¬ s[i] = 124 := u8neR (d := 124) c
          rw [if_neg c1'] at hE
          refine go 99 rfl ?_
          refine Safe.callE (ih i hi1 h0 f (by omega)) rfl rfl rfl ?_
          rintro v hv ⟨X, j, o, rfl, ⟨hXl, hXd⟩, hA1, hA2⟩
          refine go 99 rfl ?_
          refine Safe.allocB tz230 rfl rfl (fun D hDl hDd => ?_)
          refine go 99 rfl ?_
          refine Safe.storeB sz230 hXl hDl (dryL1_leaf hXd) rfl rfl rfl rfl rfl ?_
          refine go 99 rfl ?_
          have hlf : (P1 ++ [gV 3 n1 G1]).all leafV = true := by rw [List.all_append, dryL1_leaf y2]; cases G1 <;> rfl
          have hln : (P1 ++ [gV 3 n1 G1]).length = 259 := by simp [y1]
          refine Safe.br rfl (fun d => ?_) (fun d => ?_)
          · have o1 : o = false := by simpa using d
            rw [o1] at hA1
            have o2 : raA s f i = none := by revert hA1; cases raA s f i <;> simp
            rw [o2] at hE
            dsimp only at hE
            refine go 99 rfl ?_
            refine Safe.ldO (cs := P1 ++ [gV 3 n1 G1]) (ldAll ag230 sz230 hln) rfl rfl ?_
            refine go 99 rfl ?_
            refine Safe.storeB sz230 hln hAl hlf rfl rfl rfl rfl rfl ?_
            refine go 99 rfl ?_
            cases G1 with
            | none => exact ⟨.inr rfl, trivial, .done (r := .tup [.agg (P1 ++ [.nilslice]), nI i, .bool false]) (resA_c3 (ldAll ag230 sz230 (ndN y1 y2 rfl).1) rfl rfl rfl rfl) (d3d (ndN y1 y2 rfl).2) (by rw [hE]; exact AnsV.no _ (ndN y1 y2 rfl))⟩
            | some N1 => exact ⟨.inr rfl, trivial, .frz 3 rfl y4 (.done (r := .tup [.agg (frzX 3 c1 (P1 ++ [.slice 3 0 n1 N1])), nI i, .bool false]) (resA_c3 (ldAll ag230 sz230 (nd_frz y1 y2).1) rfl rfl rfl rfl) (d3d (nd_frz y1 y2).2) (by rw [hE]; exact AnsV.no _ (nd_frz y1 y2)))⟩
          · have o1 : o = true := by simpa using d
            rw [o1] at hA1
            obtain ⟨j', o2⟩ : ∃ j', raA s f i = some j' := Option.isSome_iff_exists.1 hA1.symm
            have o3 := hA2 j' o2
            subst o3
            rw [o2] at hE
            dsimp only at hE
            have hjl := raA_le o2
            refine go 99 rfl ?_
            refine Safe.cut0 (α := Unit) (fun _ => [(0, .str s), (1, nI (j : Nat)), (4, .ptr 0 0), (7, .ptr 1 0), (8, .ptr 2 0), (9, .ptr 5 0), (70, .bool (posB s (j)))]) (fun _ => (5, .cells 230 X 259) :: exHp A ⟨P2, c2, n2, G2⟩ ⟨P1, c1, n1, G1⟩) 6 (fun _ => True) ?_ ?_
            · refine Safe.gs rfl (fun p1 => ?_) (fun p1 => ?_)
              · have q1 : j < s.length := by simpa using p1
                have hpB : posB s (j) = (s[j] == 42 || (s[j] == 43 || s[j] == 63)) := by simp only [posB, List.getElem?_eq_getElem q1]
                refine go 99 rfl ?_
                refine Safe.idxS q1 rfl rfl rfl ?_
                refine go 99 rfl ?_
                refine Safe.gs rfl (fun p2 => ?_) (fun p2 => ?_)
                · have q2 : s[j] = 42 := u8eqR (d := 42) p2
                  refine go 99 rfl ?_
                  exact ⟨sgI 6, (), trivial, rfl, rfl, ⟨fit rfl, fit rfl, fit rfl, fit rfl, fit rfl, fit rfl, fit (bIeq (by rw [hpB, q2]; rfl)), trivial⟩, ⟨_, .refl _, subK rfl (renO_dry (dryL1_dry hXd)) (sub_ex hAd hx' hy' rfl rfl rfl rfl rfl)⟩, by cases G1 <;> cases G2 <;> rfl⟩
                · have q2 : s[j] ≠ 42 := u8neR (d := 42) p2
                  refine go 99 rfl ?_
                  refine Safe.idxS q1 rfl rfl rfl ?_
                  refine go 99 rfl ?_
                  refine Safe.gs rfl (fun p3 => ?_) (fun p3 => ?_)
                  · have q3 : s[j] = 43 := u8eqR (d := 43) p3
                    refine go 99 rfl ?_
                    exact ⟨sgI 6, (), trivial, rfl, rfl, ⟨fit rfl, fit rfl, fit rfl, fit rfl, fit rfl, fit rfl, fit (bIeq (by rw [hpB, q3]; rfl)), trivial⟩, ⟨_, .refl _, subK rfl (renO_dry (dryL1_dry hXd)) (sub_ex hAd hx' hy' rfl rfl rfl rfl rfl)⟩, by cases G1 <;> cases G2 <;> rfl⟩
                  · have q3 : s[j] ≠ 43 := u8neR (d := 43) p3
                    refine go 99 rfl ?_
                    refine Safe.idxS q1 rfl rfl rfl ?_
                    refine go 99 rfl ?_
                    exact ⟨sgI 6, (), trivial, rfl, rfl, ⟨fit rfl, fit rfl, fit rfl, fit rfl, fit rfl, fit rfl, fit (bIeq (by rw [hpB]; exact pos63 q2 q3)), trivial⟩, ⟨_, .refl _, subK rfl (renO_dry (dryL1_dry hXd)) (sub_ex hAd hx' hy' rfl rfl rfl rfl rfl)⟩, by cases G1 <;> cases G2 <;> rfl⟩
              · have q1 : s.length ≤ j := by simpa using p1
                have hpB : posB s (j) = false := by simp only [posB, List.getElem?_eq_none q1]
                refine go 99 rfl ?_
                exact ⟨sgI 6, (), trivial, rfl, rfl, ⟨fit rfl, fit rfl, fit rfl, fit rfl, fit rfl, fit rfl, fit (bIeq (by rw [hpB])), trivial⟩, ⟨_, .refl _, subK rfl (renO_dry (dryL1_dry hXd)) (sub_ex hAd hx' hy' rfl rfl rfl rfl rfl)⟩, by cases G1 <;> cases G2 <;> rfl⟩
            · rintro - -
              refine go 99 rfl ?_
              refine Safe.cut (α := (List V × Nat)) (fun b => [(0, .str s), (1, nI b.2), (4, .ptr 0 0), (7, .ptr 1 0), (8, .ptr 2 0), (9, .ptr 5 0)]) (fun b => (5, .cells 230 b.1 259) :: exHp A ⟨P2, c2, n2, G2⟩ ⟨P1, c1, n1, G1⟩) 6 (fun b => ndk b.1 ∧ i < b.2 ∧ b.2 ≤ s.length ∧ raE s f0 i0 = raE s f b.2) ?_ ?_
              · refine Safe.br rfl (fun r1 => ?_) (fun r1 => ?_)
                · have r1' : posB s j = true := r1
                  rw [if_pos r1'] at hE
                  have hjl2 := posB_lt r1'
                  refine go 99 rfl ?_
                  refine Safe.drawP mixed [0, 1, 2, 3, 4, 5] [(true, true), (true, true), (true, true), (true, true), (true, true), (true, true)] (by kernel_rfl) ?_
                  refine go 99 rfl ?_
                  refine Safe.ldO (ldAll ag230 sz230 hXl) rfl rfl ?_
                  refine go 99 rfl ?_
                  refine Safe.idxS hjl2 rfl rfl rfl ?_
                  refine Safe.tail (by kernel_rfl) ?_
                  refine go 99 rfl ?_
                  refine Safe.callE (rr_repeated s[j].toNat X ⟨hXl, hXd⟩) rfl rfl (by rw [show isGo Tryz.prog 260 = true from by kernel_rfl]; simp [dry, hXd]) ?_
                  rintro v hv2 ⟨Y, rfl, hYl, hYd⟩
                  refine go 99 rfl ?_
                  refine Safe.storeB sz230 hYl hXl (dryL1_leaf hYd) rfl rfl rfl rfl rfl ?_
                  refine go 99 rfl ?_
                  refine Safe.cut0 (α := Unit) (fun _ => [(0, .str s), (1, nI (j + 1 : Nat)), (4, .ptr 0 0), (7, .ptr 1 0), (8, .ptr 2 0), (9, .ptr 5 0), (99, .bool (posB s (j + 1)))]) (fun _ => (5, .cells 230 Y 259) :: exHp A ⟨P2, c2, n2, G2⟩ ⟨P1, c1, n1, G1⟩) 6 (fun _ => True) ?_ ?_
                  · refine Safe.gs rfl (fun p1 => ?_) (fun p1 => ?_)
                    · have q1 : j + 1 < s.length := by have := of_decide_eq_true p1; rw [w1 (by omega)] at this; omega
                      have hpB : posB s (j + 1) = (s[j + 1] == 42 || (s[j + 1] == 43 || s[j + 1] == 63)) := by simp only [posB, List.getElem?_eq_getElem q1]
                      refine go 99 rfl ?_
                      refine Safe.idxS q1 (w1 (by omega)) rfl rfl ?_
                      refine go 99 rfl ?_
                      refine Safe.gs rfl (fun p2 => ?_) (fun p2 => ?_)
                      · have q2 : s[j + 1] = 42 := u8eqR (d := 42) p2
                        refine go 99 rfl ?_
                        exact ⟨sgI 6, (), trivial, rfl, rfl, ⟨fit rfl, fit (isucc (by first | omega | (dsimp only; omega))), fit rfl, fit rfl, fit rfl, fit rfl, fit (bIeq (by rw [hpB, q2]; rfl)), trivial⟩, ⟨_, .refl _, subK rfl (renO_dry (dryL1_dry hYd)) (sub_ex hAd hx' hy' rfl rfl rfl rfl rfl)⟩, by cases G1 <;> cases G2 <;> rfl⟩
                      · have q2 : s[j + 1] ≠ 42 := u8neR (d := 42) p2
                        refine go 99 rfl ?_
                        refine Safe.idxS q1 (w1 (by omega)) rfl rfl ?_
                        refine go 99 rfl ?_
                        refine Safe.gs rfl (fun p3 => ?_) (fun p3 => ?_)
                        · have q3 : s[j + 1] = 43 := u8eqR (d := 43) p3
                          refine go 99 rfl ?_
                          exact ⟨sgI 6, (), trivial, rfl, rfl, ⟨fit rfl, fit (isucc (by first | omega | (dsimp only; omega))), fit rfl, fit rfl, fit rfl, fit rfl, fit (bIeq (by rw [hpB, q3]; rfl)), trivial⟩, ⟨_, .refl _, subK rfl (renO_dry (dryL1_dry hYd)) (sub_ex hAd hx' hy' rfl rfl rfl rfl rfl)⟩, by cases G1 <;> cases G2 <;> rfl⟩
                        · have q3 : s[j + 1] ≠ 43 := u8neR (d := 43) p3
                          refine go 99 rfl ?_
                          refine Safe.idxS q1 (w1 (by omega)) rfl rfl ?_
                          refine go 99 rfl ?_
                          exact ⟨sgI 6, (), trivial, rfl, rfl, ⟨fit rfl, fit (isucc (by first | omega | (dsimp only; omega))), fit rfl, fit rfl, fit rfl, fit rfl, fit (bIeq (by rw [hpB]; exact pos63 q2 q3)), trivial⟩, ⟨_, .refl _, subK rfl (renO_dry (dryL1_dry hYd)) (sub_ex hAd hx' hy' rfl rfl rfl rfl rfl)⟩, by cases G1 <;> cases G2 <;> rfl⟩
                    · have q1 : s.length ≤ j + 1 := by have := of_decide_eq_false p1; rw [w1 (by omega)] at this; omega
                      have hpB : posB s (j + 1) = false := by simp only [posB, List.getElem?_eq_none q1]
                      refine go 99 rfl ?_
                      exact ⟨sgI 6, (), trivial, rfl, rfl, ⟨fit rfl, fit (isucc (by first | omega | (dsimp only; omega))), fit rfl, fit rfl, fit rfl, fit rfl, fit (bIeq (by rw [hpB])), trivial⟩, ⟨_, .refl _, subK rfl (renO_dry (dryL1_dry hYd)) (sub_ex hAd hx' hy' rfl rfl rfl rfl rfl)⟩, by cases G1 <;> cases G2 <;> rfl⟩
                  · rintro - -
                    refine go 99 rfl ?_
                    refine Safe.br rfl (fun r2 => ?_) (fun r2 => ?_)
                    · have r2' : posB s (j + 1) = true := r2
                      have hnn := raE_pos (f := f) r2' (by omega)
                      rw [hnn] at hE
                      refine go 99 rfl ?_
                      refine Safe.ldO (cs := P1 ++ [gV 3 n1 G1]) (ldAll ag230 sz230 hln) rfl rfl ?_
                      refine go 99 rfl ?_
                      refine Safe.storeB sz230 hln hAl hlf rfl rfl rfl rfl rfl ?_
                      refine go 99 rfl ?_
                      cases G1 with
                      | none => exact ⟨.inr rfl, trivial, .done (r := .tup [.agg (P1 ++ [.nilslice]), nI (j + 1 : Nat), .bool false]) (resA_c3 (ldAll ag230 sz230 (ndN y1 y2 rfl).1) rfl rfl rfl rfl) (d3d (ndN y1 y2 rfl).2) (by rw [hE]; exact AnsV.no _ (ndN y1 y2 rfl))⟩
                      | some N1 => exact ⟨.inr rfl, trivial, .frz 3 rfl y4 (.done (r := .tup [.agg (frzX 3 c1 (P1 ++ [.slice 3 0 n1 N1])), nI (j + 1 : Nat), .bool false]) (resA_c3 (ldAll ag230 sz230 (nd_frz y1 y2).1) rfl rfl rfl rfl) (d3d (nd_frz y1 y2).2) (by rw [hE]; exact AnsV.no _ (nd_frz y1 y2)))⟩
                    · refine go 99 rfl ?_
                      exact ⟨sgI 6, (Y, j + 1), ⟨⟨hYl, hYd⟩, by dsimp only; omega, hjl2, hE⟩, rfl, rfl, ⟨fit rfl, fit rfl, fit rfl, fit rfl, fit rfl, fit rfl, trivial⟩, ⟨_, .refl _, subK rfl (renO_dry (dryL1_dry hYd)) (sub_ex hAd hx' hy' rfl rfl rfl rfl rfl)⟩, by cases G1 <;> cases G2 <;> rfl⟩
                · have r1' : ¬ posB s j = true := by simpa using r1
                  rw [if_neg r1'] at hE
                  refine go 99 rfl ?_
                  exact ⟨sgI 6, (X, j), ⟨⟨hXl, hXd⟩, hjl.1, hjl.2, hE⟩, rfl, rfl, ⟨fit rfl, fit rfl, fit rfl, fit rfl, fit rfl, fit rfl, trivial⟩, ⟨_, .refl _, subK rfl (renO_dry (dryL1_dry hXd)) (sub_ex hAd hx' hy' rfl rfl rfl rfl rfl)⟩, by cases G1 <;> cases G2 <;> rfl⟩
              · rintro ⟨Z, j'⟩ ⟨hZ, hj1, hj2, hE'⟩
                dsimp only at hZ hj1 hj2 hE'
                obtain ⟨by_, z, he⟩ := el228
                refine go 1 rfl ?_
                refine Safe.one rfl rfl ?_
                refine Safe.ldO (ldLast (k := 258) (by kernel_rfl) x1) rfl rfl ?_
                refine Safe.ldO (ldAll ag230 sz230 hZ.1) rfl rfl ?_
                refine Safe.bsB1 tz230 sz230 ⟨by decide, by decide⟩ hZ.1 hZ.2 rfl rfl rfl rfl ?_
                refine Safe.appG (k := 4) (G := G2) (h1 := (5, .cells 230 Z 259) :: (rwG A P2 n2 G2 P1 n1 G1 ++ gH 230 259 3 c1 G1)) (h2 := []) he (by cases G1 <;> simp [Hp.ns, gH]) x5 (by simp) rfl rfl rfl rfl (fun h => evSrc_f1 hZ.1) (by decide) rfl x3 (dryL1_dry hZ.2) hZ.leaf (by omega) (fun N' hN' => ?_)
                refine Safe.one rfl rfl ?_
                refine Safe.stLast rfl rfl rfl rfl rfl rfl x1 rfl rfl ?_
                refine go 99 rfl ?_
                have hx2 : NdB.ok ⟨P2, c2 ++ Z, n2 + 1, some N'⟩ j' := ⟨x1, x2, by rw [List.length_append, hZ.1, x3]; exact (Nat.succ_mul n2 259).symm, by rw [List.all_append, x4, hZ.2]; rfl, fun h => (by cases h), by dsimp only; omega⟩
                have hy2 := hy'.mono (j := j') (by omega)
                exact ⟨[(0, 0), (1, 1), (2, 2), (3, 3), (4, 6)], (j', ⟨P2, c2 ++ Z, n2 + 1, some N'⟩, ⟨P1, c1, n1, G1⟩), ⟨by dsimp only; omega, hj2, ⟨f, by dsimp only; omega, hE'⟩, hx2, hy2⟩, (by dsimp only; omega), rfl, rfl, ⟨fit rfl, fit rfl, fit rfl, fit rfl, fit rfl, trivial⟩, ⟨_, perm_ex (z := (5, .cells 230 Z 259)) (x := (6, .cells 230 (c2 ++ Z) (N' * 259))) (rows := [(2, .cells 230 (P2 ++ [.slice 6 0 (n2 + 1) N']) 259), (1, .cells 230 (P1 ++ [gV 3 n1 G1]) 259), (0, .cells 230 A 259)]) (g := gH 230 259 3 c1 G1), subD (sub_ex hAd hx2 hy2 rfl rfl rfl rfl rfl)⟩, by cases G1 <;> rfl⟩
      · have b1 : s[i] = 41 := u8eqR (d := 41) (by simpa using b)
        rw [if_pos b1] at hE
        refine go 99 rfl ?_
        exact ⟨sgI 5, (i, ⟨P2, c2, n2, G2⟩, ⟨P1, c1, n1, G1⟩), ⟨hi2, hE, hx', hy'⟩, rfl, rfl, ⟨fit rfl, fit rfl, fit rfl, fit rfl, fit rfl, trivial⟩, ⟨_, .refl _, sub_ex hAd hx' hy' rfl rfl rfl rfl rfl⟩, by cases G1 <;> cases G2 <;> rfl⟩
    · have h0 : s.length ≤ i := by simpa using a
      rw [List.getElem?_eq_none h0] at hE
      refine go 99 rfl ?_
      exact ⟨sgI 5, (i, ⟨P2, c2, n2, G2⟩, ⟨P1, c1, n1, G1⟩), ⟨hi2, hE, hx', hy'⟩, rfl, rfl, ⟨fit rfl, fit rfl, fit rfl, fit rfl, fit rfl, trivial⟩, ⟨_, .refl _, sub_ex hAd hx' hy' rfl rfl rfl rfl rfl⟩, by cases G1 <;> cases G2 <;> rfl⟩
  · rintro ⟨i, x, y⟩ ⟨hi2, hE, hx, hy⟩
    dsimp only at hi2 hE hx hy
    obtain ⟨P2, c2, n2, G2⟩ := x
    obtain ⟨P1, c1, n1, G1⟩ := y
    obtain ⟨x1, x2, x3, x4, x5, x6⟩ := hx
    obtain ⟨y1, y2, y3, y4, y5, y6⟩ := hy
    dsimp only at x1 x2 x3 x4 x5 x6 y1 y2 y3 y4 y5 y6
    obtain ⟨by_, z, he⟩ := el228
    refine frzN_C x1 x2 x4 hAd y2 y4 rfl rfl (fun X hX => ?_)
    refine go 2 rfl ?_
    refine Safe.one rfl rfl ?_
    refine Safe.ldO (ldLast (k := 258) (by kernel_rfl) y1) rfl rfl ?_
    refine Safe.ldO (ldAll ag230 sz230 hX.1) rfl rfl ?_
    refine Safe.bsB1 tz230 sz230 ⟨by decide, by decide⟩ hX.1 hX.2 rfl rfl rfl rfl ?_
    refine Safe.appG (k := 3) (G := G1) (h1 := rwX A X P1 n1 G1) (h2 := []) he (by simp [Hp.ns]) y5 (by simp) rfl rfl rfl rfl (fun h => evSrc_f1 hX.1) (by decide) rfl y3 (dryL1_dry hX.2) hX.leaf (by omega) (fun N' hN' => ?_)
    refine Safe.one rfl rfl ?_
    refine Safe.stLast rfl rfl rfl rfl rfl rfl y1 rfl rfl ?_
    refine go 99 rfl ?_
    have hlf : (P1 ++ [V.slice 5 0 (n1 + 1) N']).all leafV = true := by rw [List.all_append, dryL1_leaf y2]; rfl
    refine Safe.ldO (cs := P1 ++ [V.slice 5 0 (n1 + 1) N']) (ldAll ag230 sz230 (by simp [y1])) rfl rfl ?_
    refine go 99 rfl ?_
    refine Safe.storeB sz230 (by simp [y1]) hAl hlf rfl rfl rfl rfl rfl ?_
    refine go 99 rfl ?_
    exact ⟨.inr rfl, trivial, .frz 5 rfl (by rw [List.all_append, y4, hX.2]; rfl) (.done (r := .tup [.agg (frzX 5 (c1 ++ X) (P1 ++ [.slice 5 0 (n1 + 1) N'])), nI i, .bool true]) (resA_c3 (ldAll ag230 sz230 (nd_frz y1 y2).1) rfl rfl rfl rfl) (d3d (nd_frz y1 y2).2) (by rw [hE]; exact AnsV.ok (nd_frz y1 y2)))⟩
end Go.Proofs.YtijfihbdcdkalaaGreatDoor
end

section
namespace Go.Proofs.YtijfihbdcdkalaaGreatDoor
open Go.Fw
variable [Gl]
set_option maxRecDepth 20000
set_option maxHeartbeats 4000000
theorem rr_all (s : By) (hs : s.length ≤ 200) : ∀ (n i : Nat), s.length - i ≤ n → i ≤ s.length → CE s i
  | 0, i, hn, hi => rr_expr s i hs hi fun k h1 h2 => absurd hn (by omega)
  | n + 1, i, hn, hi => rr_expr s i hs hi fun k h1 h2 => rr_atom s k hs h2 (rr_all s hs n (k + 1) (by omega) (by omega))
def rxC (s : By) : Int := if 200 < s.length then 4 else match raE s (2 * s.length + 2) 0 with
  | some j => if j = s.length then 0 else 3
  | none => 3
def PrsV (r : Int) (v : V) : Prop := ∃ cs, v = .tup [.agg cs, .int .i64 r] ∧ ndk cs
theorem rr_parse (s : By) (hs : s.length < 4611686018427387904) : ETri Tryz.prog 227 [.str s] (PrsV (rxC s)) := by
  have hE := rxC.eq_1 s
  refine ETri.of_safe Tryz.func227 rfl Tryz.results227 Tryz.ntmps227 rfl ?_
  refine go 99 rfl ?_
  refine Safe.allocB tz230 rfl rfl (fun A hAl hAd => ?_)
  refine go 99 rfl ?_
  refine Safe.br rfl (fun a => ?_) (fun a => ?_)
  · have a1 : 200 < s.length := by have := of_decide_eq_true a; omega
    rw [if_pos a1] at hE
    refine go 99 rfl ?_
    refine Safe.buildB (k := 259) (by kernel_rfl) rfl (fun B hBl hBd => ?_)
    refine go 99 rfl ?_
    refine Safe.storeB sz230 hBl hAl (dryL1_leaf hBd) rfl rfl rfl rfl rfl ?_
    refine go 99 rfl ?_
    exact ⟨.inr rfl, trivial, .done (r := .tup [.agg B, .int .i64 4]) (resA_c2 (ldAll ag230 sz230 hBl) rfl rfl rfl) (by simp [dry, hBd, dryV1]) ⟨B, by rw [hE], hBl, hBd⟩⟩
  · have a1 : ¬ 200 < s.length := by have := of_decide_eq_false a; omega
    rw [if_neg a1] at hE
    refine go 99 rfl ?_
    refine Safe.callE (rr_all s (by omega) s.length 0 (by omega) (by omega) (2 * s.length + 2) (by omega)) rfl rfl rfl ?_
    rintro v hv ⟨X, j, o, rfl, ⟨hXl, hXd⟩, hA1, hA2⟩
    refine go 99 rfl ?_
    refine Safe.allocB tz230 rfl rfl (fun C hCl hCd => ?_)
    refine go 99 rfl ?_
    refine Safe.storeB sz230 hXl hCl (dryL1_leaf hXd) rfl rfl rfl rfl rfl ?_
    refine go 99 rfl ?_
    refine Safe.gs rfl (fun b => ?_) (fun b => ?_)
    · have o1 : o = false := by simpa using b
      rw [o1] at hA1
      have o2 : raE s (2 * s.length + 2) 0 = none := by revert hA1; cases raE s (2 * s.length + 2) 0 <;> simp
      rw [o2] at hE
      dsimp only at hE
      refine go 99 rfl ?_
      refine Safe.buildB (k := 259) (by kernel_rfl) rfl (fun B hBl hBd => ?_)
      refine go 99 rfl ?_
      refine Safe.storeB sz230 hBl hAl (dryL1_leaf hBd) rfl rfl rfl rfl rfl ?_
      refine go 99 rfl ?_
      exact ⟨.inr rfl, trivial, .done (r := .tup [.agg B, .int .i64 3]) (resA_c2 (ldAll ag230 sz230 hBl) rfl rfl rfl) (by simp [dry, hBd, dryV1]) ⟨B, by rw [hE], hBl, hBd⟩⟩
    · have o1 : o = true := by simpa using b
      rw [o1] at hA1
      obtain ⟨j', o2⟩ : ∃ j', raE s (2 * s.length + 2) 0 = some j' := Option.isSome_iff_exists.1 hA1.symm
      have o3 := hA2 j' o2
      subst o3
      rw [o2] at hE
      dsimp only at hE
      refine go 99 rfl ?_
      refine Safe.br rfl (fun c => ?_) (fun c => ?_)
      · have c1 : ¬ j = s.length := fun h => by subst h; simp at c
        rw [if_neg c1] at hE
        refine go 99 rfl ?_
        refine Safe.buildB (k := 259) (by kernel_rfl) rfl (fun B hBl hBd => ?_)
        refine go 99 rfl ?_
        refine Safe.storeB sz230 hBl hAl (dryL1_leaf hBd) rfl rfl rfl rfl rfl ?_
        refine go 99 rfl ?_
        exact ⟨.inr rfl, trivial, .done (r := .tup [.agg B, .int .i64 3]) (resA_c2 (ldAll ag230 sz230 hBl) rfl rfl rfl) (by simp [dry, hBd, dryV1]) ⟨B, by rw [hE], hBl, hBd⟩⟩
      · have c1 : j = s.length := by have := of_decide_eq_true (p := (j : Int) = s.length) (by simpa using c); omega
        rw [if_pos c1] at hE
        refine go 99 rfl ?_
        refine Safe.ldO (ldAll ag230 sz230 hXl) rfl rfl ?_
        refine go 99 rfl ?_
        refine Safe.storeB sz230 hXl hAl (dryL1_leaf hXd) rfl rfl rfl rfl rfl ?_
        refine go 99 rfl ?_
        exact ⟨.inr rfl, trivial, .done (r := .tup [.agg X, .int .i64 0]) (resA_c2 (ldAll ag230 sz230 hXl) rfl rfl rfl) (by simp [dry, hXd, dryV1]) ⟨X, by rw [hE], hXl, hXd⟩⟩
theorem ref_rx : RefRx rxC := by
  intro s hs
  simp only [big] at hs
  refine ETri.p ?_
  refine ETri.of_safe Tryz.func226 rfl Tryz.results226 Tryz.ntmps226 rfl ?_
  refine go 99 rfl ?_
  refine Safe.callE (rr_parse s (by omega)) rfl rfl rfl ?_
  rintro v hv ⟨X, rfl, hXl, hXd⟩
  refine go 99 rfl ?_
  refine Safe.allocB tz230 rfl rfl (fun C hCl hCd => ?_)
  refine go 99 rfl ?_
  refine Safe.storeB sz230 hXl hCl (dryL1_leaf hXd) rfl rfl rfl rfl rfl ?_
  refine go 99 rfl ?_
  exact ⟨.inr rfl, trivial, .done rfl rfl rfl⟩
end Go.Proofs.YtijfihbdcdkalaaGreatDoor
end

section
namespace Go.Proofs.YtijfihbdcdkalaaGreatDoor
open Go.Fw
variable [Gl]
set_option maxRecDepth 20000
set_option maxHeartbeats 4000000
theorem rx_peekS (s : By) (i : Nat) (hi : i < s.length) : TriL Tryz.prog 272 [.ptr 0 0] (prs s i) 1 (fun v h nx => v = .tup [.int .u8 s[i].toNat, .bool true] ∧ h = prs s i ∧ nx = 1) :=
  (rx_peek s i (by omega)).mono fun v h k e => ⟨by rw [e.1, pkV, List.getElem?_eq_getElem hi], e.2⟩
theorem rx_peekN (s : By) : TriL Tryz.prog 272 [.ptr 0 0] (prs s s.length) 1 (fun v h nx => v = .tup [.int .u8 0, .bool false] ∧ h = prs s s.length ∧ nx = 1) :=
  (rx_peek s s.length (by omega)).mono fun v h k e => ⟨by rw [e.1, pkV, List.getElem?_eq_none (Nat.le_refl _)], e.2⟩
def plC (c : Int) : List V := [nI 0, .bool true, .int .u8 c, .nilptr, .nilslice]
theorem rx_plainE (c : Int) : ETri Tryz.prog 285 [.int .u8 c] (fun v => v = .fptr (plC c) 0) := by
  refine ETri.of_safe Tryz.func285 rfl Tryz.results285 Tryz.ntmps285 rfl ?_
  refine go 99 rfl ?_
  exact ⟨.inr rfl, trivial, .frz 0 rfl rfl (.done rfl rfl rfl)⟩
theorem wrap8 {i : Nat} (h : i < 256) : IntKind.u8.wrap (i : Int) = (i : Int) := by
  simp only [IntKind.wrap, IntKind.signed, IntKind.bits]
  have e : ((2 ^ 8 : Nat) : Int) = 256 := by decide
  simp
  omega
theorem tz310 : tzL Tryz.prog 310 256 = true := by kernel_rfl
theorem cloR {f : FuncId} {caps : List V} {ρ : Nat → Option Nat} (hd : caps.all dryV1 = true) : some (V.clo f caps) = some (renV ρ (.clo f caps)) := by rw [dry_ren ρ (show dry (.clo f caps) = true from hd)]
theorem rx_where (f : FuncId) (caps : List V) (hgo : isGo Tryz.prog f = true) (hd : caps.all dryV1 = true) (hf : ∀ c : Nat, c < 256 → ∃ b, PTri Tryz.prog f ([.int .u8 c] ++ caps) (.bool b)) : ETri Tryz.prog 281 [.clo f caps] (fun v => ∃ cs, v = .fptr cs 0) := by
  refine ETri.of_safe Tryz.func281 rfl Tryz.results281 Tryz.ntmps281 (by simp [dry, hd]) ?_
  refine go 99 rfl ?_
  refine Safe.allocB tz310 rfl rfl (fun A hAl hAd => ?_)
  refine go 99 rfl ?_
  refine Safe.loop (α := (Nat × List V)) (fun a => [(0, .clo f caps), (3, .ptr 0 0), (5, nI a.1)]) (fun a => [(0, .cells 310 a.2 256)]) 1 (fun a => 256 - a.1) (fun a => a.1 ≤ 256 ∧ a.2.length = 256 ∧ a.2.all dryV1 = true) (0, A) (sgI 1) ⟨⟨fit (cloR hd), fit rfl, fit rfl, trivial⟩, ⟨_, .refl _, subK rfl (renO_dry (dryL1_dry hAd)) subN⟩, rfl⟩ ⟨Nat.zero_le _, hAl, hAd⟩ ?_
  rintro ⟨i, X⟩ ⟨hi, hXl, hXd⟩
  dsimp only at hi hXl hXd
  refine go 99 rfl ?_
  refine Safe.br rfl (fun t => ?_) (fun t => ?_)
  · have hi2 : i < 256 := ltc t
    obtain ⟨b, hb⟩ := hf i hi2
    refine go 99 rfl ?_
    refine Safe.eqv (congrArg (V.int .u8) (wrap8 hi2)) ?_
    refine Safe.call hb rfl rfl (by rw [hgo, List.all_append, dryL1_dry hd]; rfl) ?_
    refine go 99 rfl ?_
    refine Safe.idxO hi2 rfl rfl rfl ?_
    refine Safe.stB (off := 0 + i * 1) (by rw [hXl]; omega) hXd rfl rfl rfl rfl rfl rfl rfl (fun Y hYl hYd => ?_)
    replace hYl := hYl.trans hXl
    refine go 99 rfl ?_
    exact ⟨sgI 1, (i + 1, Y), ⟨hi2, hYl, hYd⟩, mlt hi2, rfl, rfl, ⟨fit (cloR hd), fit rfl, fit (isucc (by first | omega | (dsimp only; omega))), trivial⟩, ⟨_, .refl _, subK rfl (renO_dry (dryL1_dry hYd)) subN⟩, rfl⟩
  · refine go 99 rfl ?_
    exact ⟨.inr rfl, trivial, .frz 0 rfl hXd (.done rfl rfl ⟨X, rfl⟩)⟩
def TreA (s : By) (r : Option Nat) (v : V) (h : Hp) (nx : Nat) : Prop := ∃ j, j ≤ s.length ∧ h = prs s j ∧ nx = 1 ∧ ((r = some j ∧ ∃ cs, v = .tup [.fptr cs 0, .bool true]) ∨ (r = none ∧ v = .tup [.nilptr, .bool false]))
def EscA (s : By) (i : Nat) (v : V) (h : Hp) (nx : Nat) : Prop := ∃ j, j ≤ s.length ∧ h = prs s j ∧ nx = 1 ∧ match s[i]? with
  | none => v = .tup [.nilptr, .bool false]
  | some c => (escO c.toNat = false ∧ v = .tup [.nilptr, .bool false]) ∨ (j = i + 1 ∧ escO c.toNat = true ∧ ∃ b x cs, v = .tup [.fptr (nI 0 :: .bool b :: .int .u8 x :: cs) 0, .bool true] ∧ b = escK c.toNat ∧ (b = true → x = escI c.toNat))
theorem rx_any_go : isGo Tryz.prog 282 = true ∧ isGo Tryz.prog 289 = true ∧ isGo Tryz.prog 290 = true ∧ isGo Tryz.prog 288 = true := ⟨by kernel_rfl, by kernel_rfl, by kernel_rfl, by kernel_rfl⟩
theorem aln_alg (c : Int) : alnI c = (isLt c || isDg c) := by simp only [alnI, isLt, isDg, Bool.or_assoc]
theorem u8i {c d : UInt8} (h : ¬ c = d) : ((c.toNat : Int) == (d.toNat : Int)) = false := by
  cases e : ((c.toNat : Int) == (d.toNat : Int)) with
  | false => rfl
  | true => exact absurd (u8eqR e) h
theorem escK_alg {c : UInt8} (h1 : ¬ c = 110) (h2 : ¬ c = 116) : escK c.toNat = !(isLt c.toNat || isDg c.toNat) := by
  rw [escK, aln_alg, show ((c.toNat : Int) == 110) = false from u8i h1, show ((c.toNat : Int) == 116) = false from u8i h2]; rfl
theorem u8j {c d : UInt8} (h : ¬ c = d) : ¬ (c.toNat : Int) = (d.toNat : Int) := fun e => h (UInt8.toNat_inj.1 (by omega))
theorem escO_alg {c : UInt8} (h1 : ¬ c = 100) (h2 : ¬ c = 119) : escO c.toNat = escK c.toNat := by
  rw [escO, if_pos ⟨u8j (d := 100) h1, u8j (d := 119) h2⟩]
theorem escI_alg {c : UInt8} (h1 : ¬ c = 110) (h2 : ¬ c = 116) : escI c.toNat = c.toNat := by
  have a1 : ¬ (c.toNat : Int) = 110 := u8j (d := 110) h1
  have a2 : ¬ (c.toNat : Int) = 116 := u8j (d := 116) h2
  rw [escI, if_neg a1, if_neg a2]
theorem subQ {s : By} {i : Nat} {x : Int} (h : x = ((i : Nat) : Int)) : (relH (sgI 1) (prs s i)).Sublist [(0, .cells 280 [.str s, .int .i64 x] 2)] := by subst h; exact List.Sublist.refl _
theorem rx_escape (s : By) (i : Nat) (hs : s.length ≤ 200) (hi : i ≤ s.length) : TriL Tryz.prog 283 [.ptr 0 0] (prs s i) 1 (EscA s i) := by
  refine TriL.of_safe Tryz.func283 rfl Tryz.results283 Tryz.ntmps283 rfl ?_
  refine go 99 rfl ?_
  rcases Nat.lt_or_ge i s.length with h0 | h0
  · refine Safe.callL (rest := []) (sgI 1) (rx_peekS s i h0) rfl rfl rfl rfl (.refl _) (fun v h' nx' e => ?_)
    obtain ⟨rfl, rfl, rfl⟩ := e
    generalize hc : s[i] = c
    have hg : s[i]? = some c := by rw [List.getElem?_eq_getElem h0, hc]
    refine go 99 rfl ?_
    first | refine Safe.gsK true rfl rfl ?_ | refine Safe.gsK false rfl rfl ?_ | refine Safe.brT rfl rfl ?_ | refine Safe.brF rfl rfl ?_
    refine go 99 rfl ?_
    refine Safe.br rfl (fun c1 => ?_) (fun c1 => ?_)
    · have e1 : c = 110 := u8eqR (d := 110) c1
      refine go 99 rfl ?_
      refine Safe.callE (rx_plainE 10) rfl rfl rfl ?_
      rintro v hv rfl
      refine go 99 rfl ?_
      exact ⟨.inr rfl, rfl, rfl, .done rfl ⟨i + 1, h0, hpEq (congrArg (V.int .i64) (w1 (by omega))) rfl, rfl, by rw [hg]; exact .inr ⟨rfl, by rw [e1]; rfl, true, 10, _, rfl, by rw [e1]; rfl, fun _ => by rw [e1]; rfl⟩⟩⟩
    · have e1 : ¬ c = 110 := u8neR (d := 110) c1
      refine go 99 rfl ?_
      refine Safe.br rfl (fun c2 => ?_) (fun c2 => ?_)
      · have e2 : c = 116 := u8eqR (d := 116) c2
        refine go 99 rfl ?_
        refine Safe.callE (rx_plainE 9) rfl rfl rfl ?_
        rintro v hv rfl
        refine go 99 rfl ?_
        exact ⟨.inr rfl, rfl, rfl, .done rfl ⟨i + 1, h0, hpEq (congrArg (V.int .i64) (w1 (by omega))) rfl, rfl, by rw [hg]; exact .inr ⟨rfl, by rw [e2]; rfl, true, 9, _, rfl, by rw [e2]; rfl, fun _ => by rw [e2]; rfl⟩⟩⟩
      · have e2 : ¬ c = 116 := u8neR (d := 116) c2
        refine go 99 rfl ?_
        refine Safe.br rfl (fun c3 => ?_) (fun c3 => ?_)
        · have e3 : c = 100 := u8eqR (d := 100) c3
          refine go 99 rfl ?_
          refine Safe.callE (rx_where 289 [] rx_any_go.2.1 rfl (fun c _ => ⟨_, rx_digit c⟩)) rfl rfl rfl ?_
          rintro v hv ⟨cs, rfl⟩
          refine go 99 rfl ?_
          exact ⟨.inr rfl, rfl, rfl, .frz 1 rfl rfl (.rel (m2 := [(2, .fptr [nI 0, .bool false, .int .u8 0, .fptr cs 0, .nilslice] 0), (3, .bool true)]) (h2 := prs s (i + 1)) (nx2 := 1) (sgI 1) ⟨⟨fit rfl, fit rfl, trivial⟩, ⟨_, .refl _, subQ (w1 (by omega))⟩, rfl⟩ (.done rfl ⟨i + 1, h0, rfl, rfl, by rw [hg]; exact .inr ⟨rfl, by rw [e3]; rfl, false, 0, _, rfl, by rw [e3]; rfl, fun h => by cases h⟩⟩))⟩
        · have e3 : ¬ c = 100 := u8neR (d := 100) c3
          refine go 99 rfl ?_
          refine Safe.br rfl (fun c4 => ?_) (fun c4 => ?_)
          · have e4 : c = 119 := u8eqR (d := 119) c4
            refine go 99 rfl ?_
            refine Safe.callE (rx_where 290 [] rx_any_go.2.2.1 rfl (fun c _ => ⟨_, rx_word c⟩)) rfl rfl rfl ?_
            rintro v hv ⟨cs, rfl⟩
            refine go 99 rfl ?_
            exact ⟨.inr rfl, rfl, rfl, .frz 1 rfl rfl (.rel (m2 := [(2, .fptr [nI 0, .bool false, .int .u8 0, .fptr cs 0, .nilslice] 0), (3, .bool true)]) (h2 := prs s (i + 1)) (nx2 := 1) (sgI 1) ⟨⟨fit rfl, fit rfl, trivial⟩, ⟨_, .refl _, subQ (w1 (by omega))⟩, rfl⟩ (.done rfl ⟨i + 1, h0, rfl, rfl, by rw [hg]; exact .inr ⟨rfl, by rw [e4]; rfl, false, 0, _, rfl, by rw [e4]; rfl, fun h => by cases h⟩⟩))⟩
          · have e4 : ¬ c = 119 := u8neR (d := 119) c4
            have hK := escK_alg (c := c) e1 e2
            have hO : escO c.toNat = escK c.toNat := escO_alg e3 e4
            have hI : escI c.toNat = c.toNat := escI_alg e1 e2
            refine go 99 rfl ?_
            refine Safe.call (rx_letter c.toNat) rfl rfl rfl ?_
            refine go 99 rfl ?_
            have hfin : isLt c.toNat = true ∨ isDg c.toNat = true → escK c.toNat = false := fun h => by rw [hK]; rcases h with h | h <;> simp [h]
            refine Safe.gs rfl (fun d1 => ?_) (fun d1 => ?_)
            · refine go 99 rfl ?_
              exact ⟨.inr rfl, rfl, rfl, .done rfl ⟨i + 1, h0, hpEq (congrArg (V.int .i64) (w1 (by omega))) rfl, rfl, by rw [hg]; exact .inl ⟨by rw [hO, hfin (.inl d1)], rfl⟩⟩⟩
            · refine go 99 rfl ?_
              refine Safe.call (rx_digit c.toNat) rfl rfl rfl ?_
              refine go 99 rfl ?_
              refine Safe.br rfl (fun d2 => ?_) (fun d2 => ?_)
              · refine go 99 rfl ?_
                exact ⟨.inr rfl, rfl, rfl, .done rfl ⟨i + 1, h0, hpEq (congrArg (V.int .i64) (w1 (by omega))) rfl, rfl, by rw [hg]; exact .inl ⟨by rw [hO, hfin (.inr d2)], rfl⟩⟩⟩
              · have hk2 : escK c.toNat = true := by rw [hK]; simp [show isLt c.toNat = false from d1, show isDg c.toNat = false from d2]
                refine go 99 rfl ?_
                refine Safe.callE (rx_plainE c.toNat) rfl rfl rfl ?_
                rintro v hv rfl
                refine go 99 rfl ?_
                exact ⟨.inr rfl, rfl, rfl, .done rfl ⟨i + 1, h0, hpEq (congrArg (V.int .i64) (w1 (by omega))) rfl, rfl, by rw [hg]; exact .inr ⟨rfl, by rw [hO, hk2], true, _, _, rfl, hk2.symm, fun _ => hI.symm⟩⟩⟩
  · have e0 : i = s.length := by omega
    subst e0
    refine Safe.callL (rest := []) (sgI 1) (rx_peekN s) rfl rfl rfl rfl (.refl _) (fun v h' nx' e => ?_)
    obtain ⟨rfl, rfl, rfl⟩ := e
    refine go 99 rfl ?_
    first | refine Safe.gsK true rfl rfl ?_ | refine Safe.gsK false rfl rfl ?_ | refine Safe.brT rfl rfl ?_ | refine Safe.brF rfl rfl ?_
    refine go 99 rfl ?_
    exact ⟨.inr rfl, rfl, rfl, .done rfl ⟨s.length, Nat.le_refl _, rfl, rfl, by rw [List.getElem?_eq_none (Nat.le_refl _)]⟩⟩
end Go.Proofs.YtijfihbdcdkalaaGreatDoor
end

section
namespace Go.Proofs.YtijfihbdcdkalaaGreatDoor
open Go.Fw
variable [Gl]
set_option maxRecDepth 20000
set_option maxHeartbeats 4000000
def ItA (s : By) (i : Nat) (v : V) (h : Hp) (nx : Nat) : Prop := ∃ j, j ≤ s.length ∧ h = prs s j ∧ nx = 1 ∧ (((itR s i).2.2 = true ∧ j = (itR s i).2.1 ∧ v = .tup [.int .u8 (itR s i).1, .bool true]) ∨ ((itR s i).2.2 = false ∧ v = .tup [.int .u8 0, .bool false]))
theorem escO_no {c : Int} (h : escO c = false) : escK c = false := by
  unfold escO at h
  split at h
  · exact h
  · cases h
theorem rx_item (s : By) (i : Nat) (hs : s.length ≤ 200) (hi : i ≤ s.length) : TriL Tryz.prog 286 [.ptr 0 0] (prs s i) 1 (ItA s i) := by
  have hE := itR.eq_1 s i
  refine TriL.of_safe Tryz.func286 rfl Tryz.results286 Tryz.ntmps286 rfl ?_
  refine go 99 rfl ?_
  rcases Nat.lt_or_ge i s.length with h0 | h0
  · refine Safe.callL (rest := []) (sgI 1) (rx_peekS s i h0) rfl rfl rfl rfl (.refl _) (fun v h' nx' e => ?_)
    obtain ⟨rfl, rfl, rfl⟩ := e
    rw [List.getElem?_eq_getElem h0] at hE
    dsimp only at hE
    generalize hc : s[i] = c at *
    refine go 99 rfl ?_
    first | refine Safe.gsK true rfl rfl ?_ | refine Safe.gsK false rfl rfl ?_ | refine Safe.brT rfl rfl ?_ | refine Safe.brF rfl rfl ?_
    refine go 99 rfl ?_
    refine Safe.br rfl (fun c1 => ?_) (fun c1 => ?_)
    · have e1 : c = 93 := u8eqR (d := 93) c1
      rw [if_pos e1] at hE
      refine go 99 rfl ?_
      exact ⟨.inr rfl, rfl, rfl, .done rfl ⟨i, hi, rfl, rfl, .inr ⟨by rw [hE], rfl⟩⟩⟩
    · have e1 : ¬ c = 93 := u8neR (d := 93) c1
      rw [if_neg e1] at hE
      refine go 99 rfl ?_
      refine Safe.br rfl (fun c2 => ?_) (fun c2 => ?_)
      · have e2 : c ≠ 92 := u8neR (d := 92) (by simpa using c2)
        rw [if_pos e2] at hE
        refine go 99 rfl ?_
        exact ⟨.inr rfl, rfl, rfl, .done rfl ⟨i + 1, h0, hpEq (congrArg (V.int .i64) (w1 (by omega))) rfl, rfl, .inl ⟨by rw [hE], by rw [hE], by rw [hE]; rfl⟩⟩⟩
      · have e2 : ¬ c ≠ 92 := fun h => h (u8eqR (d := 92) (by simpa using c2))
        rw [if_neg e2] at hE
        refine go 99 rfl ?_
        refine Safe.hpO (h' := prs s (i + 1)) (hpEq (congrArg (V.int .i64) (w1 (by omega))) rfl) ?_
        refine Safe.callL (rest := []) (sgI 1) (rx_escape s (i + 1) hs h0) rfl rfl rfl rfl (.refl _) (fun v h' nx' e => ?_)
        obtain ⟨j, hj, rfl, rfl, e⟩ := e
        cases hd : s[i + 1]? with
        | none =>
          rw [hd] at e hE
          dsimp only at e hE
          subst e
          refine go 99 rfl ?_
          first | refine Safe.gsK true rfl rfl ?_ | refine Safe.gsK false rfl rfl ?_ | refine Safe.brT rfl rfl ?_ | refine Safe.brF rfl rfl ?_
          refine go 99 rfl ?_
          exact ⟨.inr rfl, rfl, rfl, .done rfl ⟨j, hj, rfl, rfl, .inr ⟨by rw [hE], rfl⟩⟩⟩
        | some d =>
          rw [hd] at e hE
          dsimp only at e hE
          rcases e with ⟨e3, rfl⟩ | ⟨rfl, e3, b, x, cs, rfl, hb, hx⟩
          · refine go 99 rfl ?_
            first | refine Safe.gsK true rfl rfl ?_ | refine Safe.gsK false rfl rfl ?_ | refine Safe.brT rfl rfl ?_ | refine Safe.brF rfl rfl ?_
            refine go 99 rfl ?_
            exact ⟨.inr rfl, rfl, rfl, .done rfl ⟨j, hj, rfl, rfl, .inr ⟨by rw [hE]; exact escO_no e3, rfl⟩⟩⟩
          · refine go 99 rfl ?_
            first | refine Safe.gsK true rfl rfl ?_ | refine Safe.gsK false rfl rfl ?_ | refine Safe.brT rfl rfl ?_ | refine Safe.brF rfl rfl ?_
            refine go 99 rfl ?_
            refine Safe.ldF (rfl) rfl rfl rfl ?_
            refine go 99 rfl ?_
            refine Safe.br rfl (fun f => ?_) (fun f => ?_)
            · have f1 : b = false := by simpa using f
              subst f1
              refine go 99 rfl ?_
              exact ⟨.inr rfl, rfl, rfl, .done rfl ⟨_, hj, rfl, rfl, .inr ⟨by rw [hE]; exact hb.symm, rfl⟩⟩⟩
            · have f1 : b = true := by simpa using f
              subst f1
              refine go 99 rfl ?_
              refine Safe.ldF (rfl) rfl rfl rfl ?_
              refine go 99 rfl ?_
              exact ⟨.inr rfl, rfl, rfl, .done rfl ⟨_, hj, rfl, rfl, .inl ⟨by rw [hE]; exact hb.symm, by rw [hE], by rw [hE, hx rfl]⟩⟩⟩
  · have e0 : i = s.length := by omega
    subst e0
    refine Safe.callL (rest := []) (sgI 1) (rx_peekN s) rfl rfl rfl rfl (.refl _) (fun v h' nx' e => ?_)
    obtain ⟨rfl, rfl, rfl⟩ := e
    rw [List.getElem?_eq_none (Nat.le_refl _)] at hE
    refine go 99 rfl ?_
    first | refine Safe.gsK true rfl rfl ?_ | refine Safe.gsK false rfl rfl ?_ | refine Safe.brT rfl rfl ?_ | refine Safe.brF rfl rfl ?_
    refine go 99 rfl ?_
    exact ⟨.inr rfl, rfl, rfl, .done rfl ⟨s.length, hi, rfl, rfl, .inr ⟨by rw [hE], rfl⟩⟩⟩
def bl0 (cs : List V) : Prop := ∀ k < 256, ∃ b, cs[0 + k * 1]? = some (.bool b)
theorem rx_inset (c : Nat) (hc : c < 256) (A : List V) (nb : Bool) (hA : bl0 A) : ∃ b, PTri Tryz.prog 288 [.int .u8 c, .fptr A 0, .fptr [.bool nb] 0] (.bool b) := by
  obtain ⟨b, hb⟩ := hA c hc
  refine ⟨b != nb, ?_⟩
  refine PTri.of_safe Tryz.func288 rfl Tryz.results288 Tryz.ntmps288 rfl ?_
  refine go 99 rfl ?_
  refine Safe.drawP mixed [0, 1, 2, 3, 4, 5] [(true, true), (true, true), (true, true), (true, true), (true, true), (true, true)] (by kernel_rfl) ?_
  refine go 99 rfl ?_
  refine Safe.idxA hc rfl rfl rfl ?_
  refine go 99 rfl ?_
  refine Safe.ldF (ld_bool hb) rfl rfl rfl ?_
  refine go 99 rfl ?_
  refine Safe.ldF (rfl) rfl rfl rfl ?_
  refine go 99 rfl ?_
  exact ⟨.inr rfl, trivial, .done (rfl) rfl⟩
end Go.Proofs.YtijfihbdcdkalaaGreatDoor
end

section
namespace Go.Proofs.YtijfihbdcdkalaaGreatDoor
open Go.Fw
variable [Gl]
set_option maxRecDepth 20000
set_option maxHeartbeats 4000000
theorem brI_no {s : By} {k : Nat} (h : (itR s k).2.2 = false) : brI s k = none := by rw [brI, h]; rfl
def brN (s : By) (st f k : Nat) : Option Nat := match brI s k with
    | none => none
    | some j => brL s st f j
theorem brS {s : By} {st f k : Nat} (h : s[k]? ≠ some 93 ∨ k = st) : brL s st (f + 1) k = brN s st f k := by
  simp only [brL, brN]
  cases hk : s[k]? with
  | none => rw [brI_no (by rw [itR, hk])]
  | some c =>
    dsimp only
    split
    · rename_i h93
      subst h93
      rcases h with h | h
      · exact absurd hk h
      · rw [if_pos h, brI_no (by rw [itR, hk]; rfl)]
    · rfl
def bl0b (cs : List V) : Bool := cs.all isBl
theorem bl0_of {cs : List V} (hl : cs.length = 256) (h : bl0b cs = true) : bl0 cs := by
  intro k hk
  have h1 : 0 + k * 1 < cs.length := by omega
  have h2 := List.all_eq_true.1 h (cs[0 + k * 1]) (List.getElem_mem h1)
  rw [List.getElem?_eq_getElem h1]
  generalize cs[0 + k * 1] = v at h2 ⊢
  match v, h2 with
  | .bool b, _ => exact ⟨b, rfl⟩
theorem bl0b_set {cs : List V} {k : Nat} {b : Bool} (h : bl0b cs = true) : bl0b (cs.set k (.bool b)) = true := by
  refine List.all_eq_true.2 fun v hv => ?_
  rcases List.mem_or_eq_of_mem_set hv with h1 | h1
  · exact List.all_eq_true.1 h v h1
  · rw [h1]; rfl
theorem tz310b : tzLp Tryz.prog 310 256 bl0b = true := by kernel_rfl
abbrev brH (s : By) (j : Nat) (X : List V) (nb : Bool) : Hp := [(0, .cells 280 [.str s, nI j] 2), (2, .cells 310 X 256), (1, .cells 4 [.bool nb] 1)]
theorem sub_br {s : By} {j : Nat} {x : Int} {X : List V} {nb : Bool} (hX : X.all dryV1 = true) (hx : x = ((j : Nat) : Int)) : (relH (sgI 3) (brH s j X nb)).Sublist [(0, .cells 280 [.str s, .int .i64 x] 2), (2, .cells 310 X 256), (1, .cells 4 [.bool nb] 1)] := by
  subst hx
  exact subK rfl rfl (subK rfl (renO_dry (dryL1_dry hX)) (subK rfl rfl subN))
theorem brHEq {s : By} {j : Nat} {x : Int} {X : List V} {nb : Bool} (hx : x = ((j : Nat) : Int)) : [(0, AObj.cells 280 [.str s, .int .i64 x] 2), (2, .cells 310 X 256), (1, .cells 4 [.bool nb] 1)] = brH s j X nb := by subst hx; rfl
theorem perm_br {a b c : Nat × AObj} : [a, b, c].Perm [b, c, a] := List.perm_append_comm (l₁ := [a]) (l₂ := [b, c])
theorem rx_bracket (s : By) (i : Nat) (hs : s.length ≤ 200) (hi : i ≤ s.length) : TriL Tryz.prog 280 [.ptr 0 0] (prs s i) 1 (TreA s (brk s (if s[i]? = some 94 then i + 1 else i))) := by
  have hN : nxt s i 94 = true ↔ s[i]? = some 94 := by simp [nxt]
  obtain ⟨st, hst, hst2, hst3⟩ : ∃ st, (if nxt s i 94 = true then i + 1 else i) = st ∧ (if s[i]? = some 94 then i + 1 else i) = st ∧ st ≤ s.length := by
    by_cases h : s[i]? = some 94
    · obtain ⟨h2, _⟩ := List.getElem?_eq_some_iff.1 h
      exact ⟨i + 1, by rw [if_pos (hN.2 h)], by rw [if_pos h], h2⟩
    · exact ⟨i, by rw [if_neg (fun e => h (hN.1 e))], by rw [if_neg h], hi⟩
  rw [hst2]
  refine TriL.of_safe Tryz.func280 rfl Tryz.results280 Tryz.ntmps280 rfl ?_
  refine go 99 rfl ?_
  refine Safe.callL (rest := []) (sgI 1) (rx_skip s i 94 hs hi) rfl rfl rfl rfl (.refl _) (fun v h' nx' e => ?_)
  obtain ⟨rfl, rfl, rfl⟩ := e
  rw [hst]
  generalize nxt s i 94 = nb
  refine go 99 rfl ?_
  refine Safe.allocBp tz310b rfl rfl (fun A hAl hAd hAb => ?_)
  refine go 99 rfl ?_
  refine Safe.loop (α := (Nat × Bool × List V)) (fun a => [(0, .ptr 0 0), (4, .ptr 1 0), (5, .ptr 2 0), (6, .bool a.2.1)]) (fun a => brH s a.1 a.2.2 nb) 3 (fun a => (s.length - a.1) + (if a.2.1 = true then 0 else 1)) (fun a => st ≤ a.1 ∧ a.1 ≤ s.length ∧ a.2.2.length = 256 ∧ a.2.2.all dryV1 = true ∧ bl0b a.2.2 = true ∧ (if a.2.1 = true then brk s st = some a.1 else ∃ f, s.length - a.1 ≤ f ∧ brk s st = brN s st f a.1)) (st, false, A) (sgI 3) ⟨⟨fit rfl, fit rfl, fit rfl, fit rfl, trivial⟩, ⟨_, perm_br, sub_br hAd rfl⟩, rfl⟩ ⟨Nat.le_refl _, hst3, hAl, hAd, hAb, by dsimp only; rw [if_neg Bool.false_ne_true]; exact ⟨s.length - st, Nat.le_refl _, by rw [brk, show s.length + 1 - st = (s.length - st) + 1 by omega, brS (.inr rfl)]⟩⟩ ?_
  rintro ⟨j, b, X⟩ ⟨hj1, hj2, hXl, hXd, hXb, hE⟩
  dsimp only at hj1 hj2 hXl hXd hXb hE
  refine go 99 rfl ?_
  refine Safe.br rfl (fun t => ?_) (fun t => ?_)
  · have hb : b = false := by simpa using t
    subst hb
    rw [if_neg Bool.false_ne_true] at hE
    obtain ⟨f, hf, hE⟩ := hE
    have hno : brI s j = none → brk s st = none := fun h => by rw [hE, brN, h]
    have hI := brI.eq_1 s j
    obtain ⟨l1, l2⟩ := itR_1 s j
    obtain ⟨p1, p2⟩ := itR_b s j hj2
    refine go 99 rfl ?_
    refine Safe.callL (rest := [(2, .cells 310 X 256), (1, .cells 4 [.bool nb] 1)]) (sgI 1) (rx_item s j hs hj2) rfl rfl rfl rfl (.refl _) (fun v h' nx' e => ?_)
    obtain ⟨j', hj', rfl, rfl, e⟩ := e
    rcases e with ⟨e1, rfl, rfl⟩ | ⟨e1, rfl⟩
    · rw [if_pos e1] at hI
      generalize hr : itR s j = r at *
      obtain ⟨lo, k1, ok⟩ := r
      dsimp only at hI l1 l2 p1 p2 hj' e1 ⊢
      refine go 99 rfl ?_
      first | refine Safe.gsK true rfl rfl ?_ | refine Safe.gsK false rfl rfl ?_ | refine Safe.brT rfl rfl ?_ | refine Safe.brF rfl rfl ?_
      refine go 99 rfl ?_
      refine Safe.callL (rest := [(2, .cells 310 X 256), (1, .cells 4 [.bool nb] 1)]) (sgI 1) (rx_range s k1 hs p2) rfl rfl rfl rfl (.refl _) (fun v h' nx' e => ?_)
      obtain ⟨rfl, rfl, rfl⟩ := e
      refine Safe.cut1 (α := (Int × Nat)) (fun b => [(0, .ptr 0 0), (4, .ptr 1 0), (5, .ptr 2 0), (6, .bool false), (7, .int .u8 lo), (9, .int .u8 b.1)]) (fun b => brH s b.2 X nb) 3 (fun b => 0 ≤ b.1 ∧ b.1 ≤ 255 ∧ brI s j = some b.2) ?_ ?_
      · refine go 99 rfl ?_
        refine Safe.br rfl (fun r1 => ?_) (fun r1 => ?_)
        · have r2 : rngB s k1 = true := r1
          rw [if_pos r2] at hI
          have hk1 : k1 < s.length := by simp only [rngB, Bool.and_eq_true] at r2; have := of_decide_eq_true r2.1.1; omega
          refine go 99 rfl ?_
          refine Safe.hpO (h' := brH s (k1 + 1) X nb) (brHEq (w1 (by omega))) ?_
          obtain ⟨q1, q2⟩ := itR_1 s (k1 + 1)
          refine Safe.callL (rest := [(2, .cells 310 X 256), (1, .cells 4 [.bool nb] 1)]) (sgI 1) (rx_item s (k1 + 1) hs hk1) rfl rfl rfl rfl (.refl _) (fun v h' nx' e => ?_)
          obtain ⟨j2, hj2', rfl, rfl, e⟩ := e
          rcases e with ⟨e3, rfl, rfl⟩ | ⟨e3, rfl⟩
          · refine go 99 rfl ?_
            first | refine Safe.gsK true rfl rfl ?_ | refine Safe.gsK false rfl rfl ?_ | refine Safe.brT rfl rfl ?_ | refine Safe.brF rfl rfl ?_
            refine go 99 rfl ?_
            refine Safe.br rfl (fun r3 => ?_) (fun r3 => ?_)
            · have r4 : (itR s (k1 + 1)).1 < lo := of_decide_eq_true r3
              rw [if_neg (fun h => h.2 r4)] at hI
              refine go 99 rfl ?_
              exact ⟨.inr rfl, rfl, rfl, .rel (m2 := [(2, .nilptr), (3, .bool false)]) (h2 := prs s (itR s (k1 + 1)).2.1) (nx2 := 1) (sgI 1) ⟨⟨fit rfl, fit rfl, trivial⟩, ⟨_, .refl _, subK rfl rfl subN⟩, rfl⟩ (.done rfl ⟨(itR s (k1 + 1)).2.1, hj2', rfl, rfl, .inr ⟨hno hI, rfl⟩⟩)⟩
            · have r4 : ¬ (itR s (k1 + 1)).1 < lo := of_decide_eq_false r3
              rw [if_pos ⟨e3, r4⟩] at hI
              refine go 99 rfl ?_
              exact ⟨sgI 3, ((itR s (k1 + 1)).1, (itR s (k1 + 1)).2.1), ⟨q1, q2, hI⟩, rfl, rfl, ⟨fit rfl, fit rfl, fit rfl, fit rfl, fit rfl, fit rfl, trivial⟩, ⟨_, .refl _, sub_br hXd rfl⟩, rfl⟩
          · rw [if_neg (fun h => by rw [e3] at h; exact Bool.false_ne_true h.1)] at hI
            refine go 99 rfl ?_
            first | refine Safe.gsK true rfl rfl ?_ | refine Safe.gsK false rfl rfl ?_ | refine Safe.brT rfl rfl ?_ | refine Safe.brF rfl rfl ?_
            refine go 99 rfl ?_
            exact ⟨.inr rfl, rfl, rfl, .rel (m2 := [(2, .nilptr), (3, .bool false)]) (h2 := prs s j2) (nx2 := 1) (sgI 1) ⟨⟨fit rfl, fit rfl, trivial⟩, ⟨_, .refl _, subK rfl rfl subN⟩, rfl⟩ (.done rfl ⟨j2, hj2', rfl, rfl, .inr ⟨hno hI, rfl⟩⟩)⟩
        · have r2 : ¬ rngB s k1 = true := by simpa using r1
          rw [if_neg r2] at hI
          refine go 99 rfl ?_
          exact ⟨sgI 3, (lo, k1), ⟨l1, l2, hI⟩, rfl, rfl, ⟨fit rfl, fit rfl, fit rfl, fit rfl, fit rfl, fit rfl, trivial⟩, ⟨_, .refl _, sub_br hXd rfl⟩, rfl⟩
      · rintro ⟨hi', k⟩ ⟨q1, q2, hB⟩
        dsimp only at q1 q2 hB
        have hjk := brI_le hB
        rw [brN, hB] at hE
        dsimp only at hE
        obtain ⟨ln, rfl⟩ := Int.eq_ofNat_of_zero_le l1
        obtain ⟨hn, rfl⟩ := Int.eq_ofNat_of_zero_le q1
        refine go 99 rfl ?_
        refine Safe.loop (α := (Nat × List V)) (fun a => [(0, .ptr 0 0), (4, .ptr 1 0), (5, .ptr 2 0), (6, .bool false), (9, .int .u8 hn), (10, nI a.1)]) (fun a => brH s k a.2 nb) 3 (fun a => 256 - a.1) (fun a => a.1 ≤ 256 ∧ a.2.length = 256 ∧ a.2.all dryV1 = true ∧ bl0b a.2 = true) (ln, X) (sgI 3) ⟨⟨fit rfl, fit rfl, fit rfl, fit rfl, fit rfl, fit (iw (by omega) (by omega)), trivial⟩, ⟨_, .refl _, sub_br hXd rfl⟩, rfl⟩ ⟨by dsimp only; omega, hXl, hXd, hXb⟩ ?_
        rintro ⟨c, Y⟩ ⟨hc, hYl, hYd, hYb⟩
        dsimp only at hc hYl hYd hYb
        refine go 99 rfl ?_
        refine Safe.br rfl (fun u => ?_) (fun u => ?_)
        · have hc2 : c < 256 := by have := of_decide_eq_true u; rw [wrap64_fit (by omega) (by omega)] at this; omega
          refine go 99 rfl ?_
          refine Safe.idxO hc2 rfl rfl rfl ?_
          refine Safe.stB2 (off := 0 + c * 1) (by rw [hYl]; omega) hYd rfl rfl rfl rfl rfl rfl rfl (fun Z hZ hZl hZd => ?_)
          have hZb : bl0b Z = true := by rw [hZ]; exact bl0b_set hYb
          replace hZl := hZl.trans hYl
          refine go 99 rfl ?_
          exact ⟨sgI 3, (c + 1, Z), ⟨hc2, hZl, hZd, hZb⟩, mlt hc2, rfl, rfl, ⟨fit rfl, fit rfl, fit rfl, fit rfl, fit rfl, fit (isucc (by first | omega | (dsimp only; omega))), trivial⟩, ⟨_, .refl _, sub_br hZd rfl⟩, rfl⟩
        · refine go 99 rfl ?_
          refine Safe.callL (rest := [(2, .cells 310 Y 256), (1, .cells 4 [.bool nb] 1)]) (sgI 1) (rx_skip s k 93 hs hjk.2) rfl rfl rfl rfl (.refl _) (fun v h' nx' e => ?_)
          obtain ⟨rfl, rfl, rfl⟩ := e
          match f, hf, hE with
          | 0, hf, _ => exact absurd hf (by omega)
          | f + 1, hf, hE =>
          cases hn2 : nxt s k 93 with
          | true =>
            have hk3 : s[k]? = some 93 := by simpa [nxt] using hn2
            obtain ⟨hk4, hk5⟩ := List.getElem?_eq_some_iff.1 hk3
            rw [brL_93 hk4 hk5 (by omega), if_neg (by omega)] at hE
            refine go 99 rfl ?_
            exact ⟨sgI 3, (k + 1, true, Y), ⟨by dsimp only; omega, hk4, hYl, hYd, hYb, by dsimp only; rw [if_pos rfl]; exact hE⟩, by dsimp only; rw [if_pos rfl, if_neg Bool.false_ne_true]; omega, rfl, rfl, ⟨fit rfl, fit rfl, fit rfl, fit rfl, trivial⟩, ⟨_, .refl _, sub_br hYd rfl⟩, rfl⟩
          | false =>
            have hk3 : s[k]? ≠ some 93 := by simpa [nxt] using hn2
            rw [brS (.inl hk3)] at hE
            refine go 99 rfl ?_
            exact ⟨sgI 3, (k, false, Y), ⟨by dsimp only; omega, hjk.2, hYl, hYd, hYb, by dsimp only; rw [if_neg Bool.false_ne_true]; exact ⟨f, by omega, hE⟩⟩, by dsimp only; rw [if_neg Bool.false_ne_true]; omega, rfl, rfl, ⟨fit rfl, fit rfl, fit rfl, fit rfl, trivial⟩, ⟨_, .refl _, sub_br hYd rfl⟩, rfl⟩
    · rw [if_neg (fun h => by rw [e1] at h; exact Bool.false_ne_true h)] at hI
      refine go 99 rfl ?_
      first | refine Safe.gsK true rfl rfl ?_ | refine Safe.gsK false rfl rfl ?_ | refine Safe.brT rfl rfl ?_ | refine Safe.brF rfl rfl ?_
      refine go 99 rfl ?_
      exact ⟨.inr rfl, rfl, rfl, .rel (m2 := [(2, .nilptr), (3, .bool false)]) (h2 := prs s j') (nx2 := 1) (sgI 1) ⟨⟨fit rfl, fit rfl, trivial⟩, ⟨_, .refl _, subK rfl rfl subN⟩, rfl⟩ (.done rfl ⟨j', hj', rfl, rfl, .inr ⟨hno hI, rfl⟩⟩)⟩
  · have hb : b = true := by simpa using t
    subst hb
    rw [if_pos rfl] at hE
    refine go 99 rfl ?_
    refine Safe.frzO 2 rfl hXd ?_
    refine Safe.frzO 1 rfl rfl ?_
    refine Safe.callE (rx_where 288 [.fptr X 0, .fptr [.bool nb] 0] rx_any_go.2.2.2 rfl (fun c hc => rx_inset c hc X nb (bl0_of hXl hXb))) rfl rfl rfl ?_
    rintro v hv ⟨cs, rfl⟩
    refine go 99 rfl ?_
    exact ⟨.inr rfl, rfl, rfl, .frz 3 rfl rfl (.rel (m2 := [(2, .fptr [nI 0, .bool false, .int .u8 0, .fptr cs 0, .nilslice] 0), (3, .bool true)]) (h2 := prs s j) (nx2 := 1) (sgI 1) ⟨⟨fit rfl, fit rfl, trivial⟩, ⟨_, .refl _, subK rfl rfl subN⟩, rfl⟩ (.done rfl ⟨j, hj2, rfl, rfl, .inl ⟨hE, _, rfl⟩⟩))⟩
end Go.Proofs.YtijfihbdcdkalaaGreatDoor
end

section
namespace Go.Proofs
open Go.Shelf
def Tryz.lays213_ren : Go.Shelf.Ren := ⟨fun | 213 => 118 | 265 => 165 | n => n, fun | 9 => 9 | 3 => 3 | n => n, fun | n => n⟩
def Tryz.lays106_ren : Go.Shelf.Ren := ⟨fun | 106 => 76 | 213 => 118 | 265 => 165 | n => n, fun | 9 => 9 | 3 => 3 | n => n, fun | n => n⟩
theorem Tryz.lays106 : Go.Proofs.Lays.n106 Tryz.prog Tryz.lays106_ren := {
  mixed := by kernel_rfl
  f106 := Tryz.func76.trans (congrArg some (by kernel_rfl))
  f213 := Tryz.func118.trans (congrArg some (by kernel_rfl))
  f265 := Tryz.func165.trans (congrArg some (by kernel_rfl))
  t3 := Tryz.underlying3
  a3 := Tryz.isAgg3
  z3 := Tryz.sizeOf3
  v3 := Tryz.zeroValue3
  t9 := Tryz.underlying9
  a9 := Tryz.isAgg9
  z9 := Tryz.sizeOf9
  v9 := Tryz.zeroValue9 }
open Go.RowKit in
theorem Tryz.strings_Compare (a b : ByteArray) (w : World) :
    Calls Tryz.prog 76 #[.string a, .string b] w fun e w' => e = .returned (.int .i64 (Lib.compareBytes a.data.toList b.data.toList)) ∧ w' = w := Any.strings_Compare Tryz.lays106 a b w
def Tryz.lays137_ren : Go.Shelf.Ren := ⟨fun | 137 => 284 | 217 => 292 | 266 => 293 | n => n, fun | 9 => 9 | 5 => 5 | 3 => 3 | n => n, fun | n => n⟩
theorem Tryz.lays137 : Go.Proofs.Lays.n137 Tryz.prog Tryz.lays137_ren := {
  mixed := by kernel_rfl
  f137 := Tryz.func284.trans (congrArg some (by kernel_rfl))
  f217 := Tryz.func292.trans (congrArg some (by kernel_rfl))
  f266 := Tryz.func293.trans (congrArg some (by kernel_rfl))
  t3 := Tryz.underlying3
  a3 := Tryz.isAgg3
  z3 := Tryz.sizeOf3
  v3 := Tryz.zeroValue3
  t5 := Tryz.underlying5
  a5 := Tryz.isAgg5
  z5 := Tryz.sizeOf5
  v5 := Tryz.zeroValue5
  t9 := Tryz.underlying9
  a9 := Tryz.isAgg9
  z9 := Tryz.sizeOf9
  v9 := Tryz.zeroValue9 }
open Go.RowKit in
theorem Tryz.strings_IndexByte (s : ByteArray) (c : Int) (w : World) :
    Calls Tryz.prog 284 #[.string s, .int .u8 c] w fun e w' => e = .returned (.int .i64 (Lib.indexByte s.data.toList c.toNat.toUInt8)) ∧ w' = w := Any.strings_IndexByte Tryz.lays137 s c w
def Tryz.lays190_ren : Go.Shelf.Ren := ⟨fun | 190 => 30 | 125 => 70 | 258 => 69 | 128 => 115 | 129 => 116 | 302 => 107 | 303 => 108 | 304 => 109 | 305 => 110 | 306 => 111 | 307 => 112 | 308 => 72 | 309 => 113 | 310 => 114 | 333 => 160 | 329 => 161 | 330 => 162 | 334 => 163 | 335 => 164 | 336 => 117 | 344 => 206 | n => n, fun | 31 => 26 | 9 => 9 | 3 => 3 | 46 => 103 | 0 => 0 | 51 => 67 | 53 => 150 | 4 => 4 | 183 => 143 | 182 => 142 | 131 => 106 | 5 => 5 | 218 => 184 | 222 => 188 | 228 => 210 | 229 => 211 | n => n, fun | n => n⟩
theorem Tryz.lays190 : Go.Proofs.Lays.n190 Tryz.prog Tryz.lays190_ren := {
  mixed := by kernel_rfl
  f125 := Tryz.func70.trans (congrArg some (by kernel_rfl))
  f128 := Tryz.func115.trans (congrArg some (by kernel_rfl))
  f129 := Tryz.func116.trans (congrArg some (by kernel_rfl))
  f190 := Tryz.func30.trans (congrArg some (by kernel_rfl))
  f258 := Tryz.func69.trans (congrArg some (by kernel_rfl))
  f302 := Tryz.func107.trans (congrArg some (by kernel_rfl))
  f303 := Tryz.func108.trans (congrArg some (by kernel_rfl))
  f304 := Tryz.func109.trans (congrArg some (by kernel_rfl))
  f305 := Tryz.func110.trans (congrArg some (by kernel_rfl))
  f306 := Tryz.func111.trans (congrArg some (by kernel_rfl))
  f307 := Tryz.func112.trans (congrArg some (by kernel_rfl))
  f308 := Tryz.func72.trans (congrArg some (by kernel_rfl))
  f309 := Tryz.func113.trans (congrArg some (by kernel_rfl))
  f310 := Tryz.func114.trans (congrArg some (by kernel_rfl))
  f329 := Tryz.func161.trans (congrArg some (by kernel_rfl))
  f330 := Tryz.func162.trans (congrArg some (by kernel_rfl))
  f333 := Tryz.func160.trans (congrArg some (by kernel_rfl))
  f334 := Tryz.func163.trans (congrArg some (by kernel_rfl))
  f335 := Tryz.func164.trans (congrArg some (by kernel_rfl))
  f336 := Tryz.func117.trans (congrArg some (by kernel_rfl))
  f344 := Tryz.func206.trans (congrArg some (by kernel_rfl))
  t0 := Tryz.underlying0
  a0 := Tryz.isAgg0
  z0 := Tryz.sizeOf0
  v0 := Tryz.zeroValue0
  t3 := Tryz.underlying3
  a3 := Tryz.isAgg3
  z3 := Tryz.sizeOf3
  v3 := Tryz.zeroValue3
  t4 := Tryz.underlying4
  a4 := Tryz.isAgg4
  z4 := Tryz.sizeOf4
  v4 := Tryz.zeroValue4
  t5 := Tryz.underlying5
  a5 := Tryz.isAgg5
  z5 := Tryz.sizeOf5
  v5 := Tryz.zeroValue5
  t9 := Tryz.underlying9
  a9 := Tryz.isAgg9
  z9 := Tryz.sizeOf9
  v9 := Tryz.zeroValue9
  t31 := Tryz.underlying26
  a31 := Tryz.isAgg26
  z31 := Tryz.sizeOf26
  v31 := Tryz.zeroValue26
  t46 := Tryz.underlying103
  a46 := Tryz.isAgg103
  z46 := Tryz.sizeOf103
  v46 := Tryz.zeroValue103
  t51 := Tryz.underlying67
  a51 := Tryz.isAgg67
  z51 := Tryz.sizeOf67
  v51 := Tryz.zeroValue67
  t53 := Tryz.underlying150
  a53 := Tryz.isAgg150
  z53 := Tryz.sizeOf150
  v53 := Tryz.zeroValue150
  t131 := Tryz.underlying106
  a131 := Tryz.isAgg106
  z131 := Tryz.sizeOf106
  v131 := Tryz.zeroValue106
  t182 := Tryz.underlying142
  a182 := Tryz.isAgg142
  z182 := Tryz.sizeOf142
  v182 := Tryz.zeroValue142
  t183 := Tryz.underlying143
  a183 := Tryz.isAgg143
  z183 := Tryz.sizeOf143
  v183 := Tryz.zeroValue143
  t218 := Tryz.underlying184
  a218 := Tryz.isAgg184
  z218 := Tryz.sizeOf184
  v218 := Tryz.zeroValue184
  t222 := Tryz.underlying188
  a222 := Tryz.isAgg188
  z222 := Tryz.sizeOf188
  v222 := Tryz.zeroValue188
  t228 := Tryz.underlying210
  a228 := Tryz.isAgg210
  z228 := Tryz.sizeOf210
  v228 := Tryz.zeroValue210
  t229 := Tryz.underlying211
  a229 := Tryz.isAgg211
  z229 := Tryz.sizeOf211
  v229 := Tryz.zeroValue211 }
open Go.Sort Go.RowKit in
theorem Tryz.slices_Sort_string (blk off cap : Nat) (ss : List (List UInt8)) (w : World) (hH : Holds encStr w blk off ss.toArray) (hblk : blk < w.heap.size) (hsz : ss.length < 4611686018427387904) :
    Calls Tryz.prog 30 #[.slice (some ⟨blk, off, none⟩) ss.length cap] w fun e w' =>
      e = .returned (.tuple #[]) ∧ ∃ n os, w' = grow (putRow encStr (Sort.ahead w n) blk off (ss.mergeSort fun x y => decide (x ≤ y)).toArray) os := Any.slices_Sort_string Tryz.lays190 blk off cap ss w hH hblk hsz
def Tryz.lays157_ren : Go.Shelf.Ren := ⟨fun | 157 => 123 | 229 => 178 | 199 => 179 | 261 => 214 | 311 => 238 | 312 => 239 | n => n, fun | 9 => 9 | 31 => 26 | 3 => 3 | 5 => 5 | 4 => 4 | 119 => 194 | 0 => 0 | 40 => 196 | 152 => 214 | 21 => 21 | 154 => 216 | 51 => 67 | 141 => 218 | 196 => 243 | 193 => 240 | 198 => 246 | 49 => 244 | 194 => 241 | 201 => 249 | 226 => 276 | 46 => 103 | 227 => 277 | n => n, fun | 0 => 1 | 6 => 2 | n => n⟩
def Tryz.laysM157_ren : Go.Shelf.Ren := ⟨fun | 157 => 123 | 229 => 178 | 199 => 179 | 261 => 214 | 311 => 238 | 312 => 239 | n => n, fun | 9 => 9 | 31 => 26 | 3 => 3 | 5 => 5 | 4 => 4 | 119 => 194 | 0 => 0 | 40 => 196 | 152 => 214 | 21 => 21 | 154 => 216 | 51 => 67 | 141 => 218 | 196 => 243 | 193 => 240 | 198 => 246 | 49 => 244 | 194 => 241 | 201 => 249 | 226 => 276 | 46 => 103 | 227 => 277 | n => n, fun | 0 => 1 | 6 => 2 | n => n⟩
theorem Tryz.laysM157 : Go.Proofs.LaysM.n157 Tryz.prog Tryz.laysM157_ren := {
  mixed := by kernel_rfl
  f157 := Tryz.func123.trans (congrArg some (by kernel_rfl))
  f199 := Tryz.func179.trans (congrArg some (by kernel_rfl))
  f229 := Tryz.func178.trans (congrArg some (by kernel_rfl))
  f261 := Tryz.func214.trans (congrArg some (by kernel_rfl))
  f311 := Tryz.func238.trans (congrArg some (by kernel_rfl))
  f312 := Tryz.func239.trans (congrArg some (by kernel_rfl))
  t0 := Tryz.underlying0
  a0 := Tryz.isAgg0
  z0 := Tryz.sizeOf0
  v0 := Tryz.zeroValue0
  t3 := Tryz.underlying3
  a3 := Tryz.isAgg3
  z3 := Tryz.sizeOf3
  v3 := Tryz.zeroValue3
  t4 := Tryz.underlying4
  a4 := Tryz.isAgg4
  z4 := Tryz.sizeOf4
  v4 := Tryz.zeroValue4
  t5 := Tryz.underlying5
  a5 := Tryz.isAgg5
  z5 := Tryz.sizeOf5
  v5 := Tryz.zeroValue5
  t9 := Tryz.underlying9
  a9 := Tryz.isAgg9
  z9 := Tryz.sizeOf9
  v9 := Tryz.zeroValue9
  t21 := Tryz.underlying21
  a21 := Tryz.isAgg21
  z21 := Tryz.sizeOf21
  v21 := Tryz.zeroValue21
  t31 := Tryz.underlying26
  a31 := Tryz.isAgg26
  z31 := Tryz.sizeOf26
  v31 := Tryz.zeroValue26
  t40 := Tryz.underlying196
  a40 := Tryz.isAgg196
  z40 := Tryz.sizeOf196
  v40 := Tryz.zeroValue196
  t46 := Tryz.underlying103
  a46 := Tryz.isAgg103
  z46 := Tryz.sizeOf103
  v46 := Tryz.zeroValue103
  t49 := Tryz.underlying244
  a49 := Tryz.isAgg244
  z49 := Tryz.sizeOf244
  v49 := Tryz.zeroValue244
  t51 := Tryz.underlying67
  a51 := Tryz.isAgg67
  z51 := Tryz.sizeOf67
  v51 := Tryz.zeroValue67
  t119 := Tryz.underlying194
  a119 := Tryz.isAgg194
  z119 := Tryz.sizeOf194
  t141 := Tryz.underlying218
  a141 := Tryz.isAgg218
  z141 := Tryz.sizeOf218
  v141 := Tryz.zeroValue218
  t152 := Tryz.underlying214
  a152 := Tryz.isAgg214
  z152 := Tryz.sizeOf214
  v152 := Tryz.zeroValue214
  t154 := Tryz.underlying216
  a154 := Tryz.isAgg216
  z154 := Tryz.sizeOf216
  v154 := Tryz.zeroValue216
  t193 := Tryz.underlying240
  a193 := Tryz.isAgg240
  z193 := Tryz.sizeOf240
  v193 := Tryz.zeroValue240
  t194 := Tryz.underlying241
  a194 := Tryz.isAgg241
  z194 := Tryz.sizeOf241
  v194 := Tryz.zeroValue241
  t196 := Tryz.underlying243
  a196 := Tryz.isAgg243
  z196 := Tryz.sizeOf243
  v196 := Tryz.zeroValue243
  t198 := Tryz.underlying246
  a198 := Tryz.isAgg246
  z198 := Tryz.sizeOf246
  v198 := Tryz.zeroValue246
  t201 := Tryz.underlying249
  a201 := Tryz.isAgg249
  z201 := Tryz.sizeOf249
  v201 := Tryz.zeroValue249
  t226 := Tryz.underlying276
  a226 := Tryz.isAgg276
  z226 := Tryz.sizeOf276
  v226 := Tryz.zeroValue276
  t227 := Tryz.underlying277
  a227 := Tryz.isAgg277
  z227 := Tryz.sizeOf277
  v227 := Tryz.zeroValue277
  g0 := by kernel_rfl
  g6 := by kernel_rfl
  i0 := by kernel_rfl
  i3 := by kernel_rfl
  i4 := by kernel_rfl
  i5 := by kernel_rfl
  i9 := by kernel_rfl
  i21 := by kernel_rfl
  i31 := by kernel_rfl
  i40 := by kernel_rfl
  i46 := by kernel_rfl
  i49 := by kernel_rfl
  i51 := by kernel_rfl
  i141 := by kernel_rfl
  i152 := by kernel_rfl
  i154 := by kernel_rfl
  i193 := by kernel_rfl
  i194 := by kernel_rfl
  i196 := by kernel_rfl
  i198 := by kernel_rfl
  i201 := by kernel_rfl
  i226 := by kernel_rfl
  i227 := by kernel_rfl
  m0 := by kernel_rfl
  m6 := by kernel_rfl }
open Go.RowKit Go.Lib in
theorem Tryz.strings_Fields_laid (s : ByteArray) (w : World) (hs : s.size < 4294967281) (hascii : ∀ (j : Nat) b, s.data.toList[j]? = some b → b.toNat < 128) (htab : Lib.TabIs Tryz.prog w "strings.asciiSpace" .u8 Lib.asciiSpaceTab) :
    Calls Tryz.prog 123 #[.string s] w fun e w' =>
      e = .returned (.slice (some ⟨w.heap.size, 0, none⟩) (Lib.fields s.data.toList).length (Lib.fields s.data.toList).length) ∧ w' = w.alloc (.cells ((Lib.fields s.data.toList).map fun l => Value.string ⟨l.toArray⟩).toArray 9) := Any.strings_Fields_laid Tryz.laysM157 s w hs hascii htab
end Go.Proofs
end

section
namespace Go.Proofs.YtijfihbdcdkalaaGreatDoor
open Go.Fw
variable [Gl]
set_option maxRecDepth 20000
set_option maxHeartbeats 4000000
def spcB : By := [46, 91, 93, 40, 41, 124, 42, 43, 63, 92]
theorem vrs_str8 {s : List UInt8} {c : Int} (F : Froz) (av : Array Value) (h : VRs F [.str s, .int .u8 c] av) : av = #[.string ⟨s.toArray⟩, .int .u8 c] := by
  have h0 := (h.2 0 _ rfl).str_inv
  have h1 := (h.2 1 _ rfl).int_inv
  have hs := h.1
  simp at hs
  obtain ⟨L⟩ := av
  match L, hs with
  | [x, y], _ => simp at h0 h1; rw [h0, h1]
theorem ix_byte (s : By) (c : UInt8) : PTri Tryz.prog 284 [.str s, .int .u8 c.toNat] (.int .i64 (Lib.indexByte s c)) := by
  refine PTri.of_same _ _ (fun F av h => vrs_str8 F av h) (fun w => Tryz.strings_IndexByte _ _ w) (fun F => ?_)
  simp only [Int.toNat_natCast, UInt8.ofNat_toNat, Nat.toUInt8_eq]
  exact .int _ _
theorem ix_spc : ∀ c : UInt8, (decide (0 ≤ Lib.indexByte spcB c)) = spcI c.toNat := by
  intro c
  have h : ∀ n : Fin 256, (decide (0 ≤ Lib.indexByte spcB (UInt8.ofFin n))) = spcI ((n : Nat) : Int) := by decide
  exact h c.toFin
def PE (s : By) (i : Nat) : Prop := ∀ f, 2 * (s.length - i) + 2 ≤ f → TriL Tryz.prog 255 [.ptr 0 0] (prs s i) 1 (TreA s (raE s f i))
def PAt (s : By) (i : Nat) : Prop := ∀ f, 2 * (s.length - i) + 1 ≤ f → TriL Tryz.prog 279 [.ptr 0 0] (prs s i) 1 (TreA s (raA s f i))
theorem rx_atom (s : By) (i : Nat) (hs : s.length ≤ 200) (hi : i ≤ s.length) (ih : i < s.length → PE s (i + 1)) : PAt s i := by
  intro f hf
  match f, hf with
  | 0, hf => exact absurd hf (by omega)
  | f + 1, hf =>
  have hE := raA.eq_2 s i f
  refine TriL.of_safe Tryz.func279 rfl Tryz.results279 Tryz.ntmps279 rfl ?_
  refine go 99 rfl ?_
  rcases Nat.lt_or_ge i s.length with h0 | h0
  · refine Safe.callL (rest := []) (sgI 1) (rx_peekS s i h0) rfl rfl rfl rfl (.refl _) (fun v h' nx' e => ?_)
    obtain ⟨rfl, rfl, rfl⟩ := e
    rw [List.getElem?_eq_getElem h0] at hE
    dsimp only at hE
    generalize hc : s[i] = c at *
    have ih := ih h0 f (by omega)
    refine go 99 rfl ?_
    first | refine Safe.gsK true rfl rfl ?_ | refine Safe.gsK false rfl rfl ?_ | refine Safe.brT rfl rfl ?_ | refine Safe.brF rfl rfl ?_
    refine go 99 rfl ?_
    refine Safe.br rfl (fun c1 => ?_) (fun c1 => ?_)
    · have e1 : c = 40 := u8eqR (d := 40) c1
      subst e1
      rw [if_neg (by decide), if_neg (by decide), if_neg (by decide), if_neg (by decide), if_pos rfl] at hE
      refine go 99 rfl ?_
      refine Safe.hpO (h' := prs s (i + 1)) (hpEq (congrArg (V.int .i64) (w1 (by omega))) rfl) ?_
      refine Safe.callL (rest := []) (sgI 1) ih rfl rfl rfl rfl (.refl _) (fun v h' nx' e => ?_)
      obtain ⟨j, hj, rfl, rfl, e⟩ := e
      rcases e with ⟨e1, cs, rfl⟩ | ⟨e1, rfl⟩
      · rw [e1] at hE
        dsimp only at hE
        refine go 99 rfl ?_
        first | refine Safe.gsK true rfl rfl ?_ | refine Safe.gsK false rfl rfl ?_ | refine Safe.brT rfl rfl ?_ | refine Safe.brF rfl rfl ?_
        refine go 99 rfl ?_
        refine Safe.callL (rest := []) (sgI 1) (rx_skip s j 41 hs hj) rfl rfl rfl rfl (.refl _) (fun v h' nx' e => ?_)
        obtain ⟨rfl, rfl, rfl⟩ := e
        cases hn : nxt s j 41 with
        | true =>
          have hk : s[j]? = some 41 := by simpa [nxt] using hn
          rw [if_pos hk] at hE
          refine go 99 rfl ?_
          first | refine Safe.gsK true rfl rfl ?_ | refine Safe.gsK false rfl rfl ?_ | refine Safe.brT rfl rfl ?_ | refine Safe.brF rfl rfl ?_
          refine go 99 rfl ?_
          obtain ⟨hk2, _⟩ := List.getElem?_eq_some_iff.1 hk
          exact ⟨.inr rfl, rfl, rfl, .done rfl ⟨j + 1, hk2, rfl, rfl, .inl ⟨hE, _, rfl⟩⟩⟩
        | false =>
          have hk : ¬ s[j]? = some 41 := by simpa [nxt] using hn
          rw [if_neg hk] at hE
          refine go 99 rfl ?_
          first | refine Safe.gsK true rfl rfl ?_ | refine Safe.gsK false rfl rfl ?_ | refine Safe.brT rfl rfl ?_ | refine Safe.brF rfl rfl ?_
          refine go 99 rfl ?_
          exact ⟨.inr rfl, rfl, rfl, .done rfl ⟨j, hj, rfl, rfl, .inr ⟨hE, rfl⟩⟩⟩
      · rw [e1] at hE
        dsimp only at hE
        refine go 99 rfl ?_
        first | refine Safe.gsK true rfl rfl ?_ | refine Safe.gsK false rfl rfl ?_ | refine Safe.brT rfl rfl ?_ | refine Safe.brF rfl rfl ?_
        refine go 99 rfl ?_
        exact ⟨.inr rfl, rfl, rfl, .done rfl ⟨j, hj, rfl, rfl, .inr ⟨hE, rfl⟩⟩⟩
    · have e1 : ¬ c = 40 := u8neR (d := 40) c1
      refine go 99 rfl ?_
      refine Safe.br rfl (fun c2 => ?_) (fun c2 => ?_)
      · have e2 : c = 91 := u8eqR (d := 91) c2
        subst e2
        rw [if_neg (by decide), if_neg (by decide), if_neg (by decide), if_pos rfl] at hE
        refine go 99 rfl ?_
        refine Safe.hpO (h' := prs s (i + 1)) (hpEq (congrArg (V.int .i64) (w1 (by omega))) rfl) ?_
        refine Safe.callL (rest := []) (sgI 1) (rx_bracket s (i + 1) hs h0) rfl rfl rfl rfl (.refl _) (fun v h' nx' e => ?_)
        obtain ⟨j, hj, rfl, rfl, e⟩ := e
        rcases e with ⟨e1, cs, rfl⟩ | ⟨e1, rfl⟩
        · refine go 99 rfl ?_
          exact ⟨.inr rfl, rfl, rfl, .done rfl ⟨j, hj, rfl, rfl, .inl ⟨hE.trans e1, _, rfl⟩⟩⟩
        · refine go 99 rfl ?_
          exact ⟨.inr rfl, rfl, rfl, .done rfl ⟨j, hj, rfl, rfl, .inr ⟨hE.trans e1, rfl⟩⟩⟩
      · have e2 : ¬ c = 91 := u8neR (d := 91) c2
        refine go 99 rfl ?_
        refine Safe.br rfl (fun c3 => ?_) (fun c3 => ?_)
        · have e3 : c = 46 := u8eqR (d := 46) c3
          subst e3
          rw [if_neg (by decide), if_pos rfl] at hE
          refine go 99 rfl ?_
          refine Safe.callE (rx_where 282 [] rx_any_go.1 rfl (fun c _ => ⟨_, rx_any c⟩)) rfl rfl rfl ?_
          rintro v hv ⟨cs, rfl⟩
          refine go 99 rfl ?_
          exact ⟨.inr rfl, rfl, rfl, .frz 1 rfl rfl (.rel (m2 := [(2, .fptr [nI 0, .bool false, .int .u8 0, .fptr cs 0, .nilslice] 0), (3, .bool true)]) (h2 := prs s (i + 1)) (nx2 := 1) (sgI 1) ⟨⟨fit rfl, fit rfl, trivial⟩, ⟨_, .refl _, subQ (w1 (by omega))⟩, rfl⟩ (.done rfl ⟨i + 1, h0, rfl, rfl, .inl ⟨hE, _, rfl⟩⟩))⟩
        · have e3 : ¬ c = 46 := u8neR (d := 46) c3
          refine go 99 rfl ?_
          refine Safe.br rfl (fun c4 => ?_) (fun c4 => ?_)
          · have e4 : c = 92 := u8eqR (d := 92) c4
            subst e4
            rw [if_neg (by decide), if_neg (by decide), if_pos rfl, escP] at hE
            refine go 99 rfl ?_
            refine Safe.hpO (h' := prs s (i + 1)) (hpEq (congrArg (V.int .i64) (w1 (by omega))) rfl) ?_
            refine Safe.callL (rest := []) (sgI 1) (rx_escape s (i + 1) hs h0) rfl rfl rfl rfl (.refl _) (fun v h' nx' e => ?_)
            obtain ⟨j, hj, rfl, rfl, e⟩ := e
            cases hd : s[i + 1]? with
            | none =>
              rw [hd] at e hE
              dsimp only at e hE
              subst e
              refine go 99 rfl ?_
              exact ⟨.inr rfl, rfl, rfl, .done rfl ⟨j, hj, rfl, rfl, .inr ⟨hE, rfl⟩⟩⟩
            | some d =>
              rw [hd] at e hE
              dsimp only at e hE
              rcases e with ⟨e3, rfl⟩ | ⟨rfl, e3, b, x, cs, rfl, hb, hx⟩
              · rw [e3, if_neg Bool.false_ne_true] at hE
                refine go 99 rfl ?_
                exact ⟨.inr rfl, rfl, rfl, .done rfl ⟨j, hj, rfl, rfl, .inr ⟨hE, rfl⟩⟩⟩
              · rw [e3, if_pos rfl] at hE
                refine go 99 rfl ?_
                exact ⟨.inr rfl, rfl, rfl, .done rfl ⟨_, hj, rfl, rfl, .inl ⟨hE, _, rfl⟩⟩⟩
          · have e4 : ¬ c = 92 := u8neR (d := 92) c4
            have hS := ix_spc c
            refine go 99 rfl ?_
            refine Safe.call (ix_byte spcB c) rfl rfl rfl ?_
            refine go 99 rfl ?_
            refine Safe.br rfl (fun c5 => ?_) (fun c5 => ?_)
            · have e5 : spcI c.toNat = true := hS.symm.trans c5
              rw [if_neg (by rw [e5]; decide), if_neg e3, if_neg e4, if_neg e2, if_neg e1] at hE
              refine go 99 rfl ?_
              exact ⟨.inr rfl, rfl, rfl, .done rfl ⟨i + 1, h0, hpEq (congrArg (V.int .i64) (w1 (by omega))) rfl, rfl, .inr ⟨hE, rfl⟩⟩⟩
            · have e5 : spcI c.toNat = false := hS.symm.trans c5
              rw [if_pos e5] at hE
              refine go 99 rfl ?_
              refine Safe.callE (rx_plainE c.toNat) rfl rfl rfl ?_
              rintro v hv rfl
              refine go 99 rfl ?_
              exact ⟨.inr rfl, rfl, rfl, .done rfl ⟨i + 1, h0, hpEq (congrArg (V.int .i64) (w1 (by omega))) rfl, rfl, .inl ⟨hE, _, rfl⟩⟩⟩
  · have e0 : i = s.length := by omega
    subst e0
    refine Safe.callL (rest := []) (sgI 1) (rx_peekN s) rfl rfl rfl rfl (.refl _) (fun v h' nx' e => ?_)
    obtain ⟨rfl, rfl, rfl⟩ := e
    rw [List.getElem?_eq_none (Nat.le_refl _)] at hE
    refine go 99 rfl ?_
    first | refine Safe.gsK true rfl rfl ?_ | refine Safe.gsK false rfl rfl ?_ | refine Safe.brT rfl rfl ?_ | refine Safe.brF rfl rfl ?_
    refine go 99 rfl ?_
    exact ⟨.inr rfl, rfl, rfl, .done rfl ⟨s.length, hi, rfl, rfl, .inr ⟨hE, rfl⟩⟩⟩
end Go.Proofs.YtijfihbdcdkalaaGreatDoor
end

section
namespace Go.Proofs.YtijfihbdcdkalaaGreatDoor
open Go.Fw
variable [Gl]
set_option maxRecDepth 20000
set_option maxHeartbeats 4000000
def facO (s : By) (f i : Nat) : Option Nat := match raA s f i with
  | none => none
  | some j => some (if posB s j = true then j + 1 else j)
theorem nxt_pos {s : By} {j : Nat} : posB s j = (nxt s j 42 || (nxt s j 43 || nxt s j 63)) := by
  simp only [posB, nxt]
  cases s[j]? with
  | none => rfl
  | some c => simp
theorem nxt_lt {s : By} {j : Nat} {c : UInt8} (h : nxt s j c = true) : j < s.length := by
  have : s[j]? = some c := by simpa [nxt] using h
  exact (List.getElem?_eq_some_iff.1 this).1
theorem rx_factor (s : By) (i : Nat) (hs : s.length ≤ 200) (hi : i ≤ s.length) (f : Nat) (hf : 2 * (s.length - i) + 1 ≤ f) (ih : PAt s i) : TriL Tryz.prog 273 [.ptr 0 0] (prs s i) 1 (TreA s (facO s f i)) := by
  have hE := facO.eq_1 s f i
  refine TriL.of_safe Tryz.func273 rfl Tryz.results273 Tryz.ntmps273 rfl ?_
  refine go 99 rfl ?_
  refine Safe.callL (rest := []) (sgI 1) (ih f hf) rfl rfl rfl rfl (.refl _) (fun v h' nx' e => ?_)
  obtain ⟨j, hj, rfl, rfl, e⟩ := e
  rcases e with ⟨e1, cs, rfl⟩ | ⟨e1, rfl⟩
  · rw [e1] at hE
    dsimp only at hE
    rw [nxt_pos] at hE
    refine go 99 rfl ?_
    first | refine Safe.gsK true rfl rfl ?_ | refine Safe.gsK false rfl rfl ?_ | refine Safe.brT rfl rfl ?_ | refine Safe.brF rfl rfl ?_
    refine go 99 rfl ?_
    refine Safe.callL (rest := []) (sgI 1) (rx_skip s j 42 hs hj) rfl rfl rfl rfl (.refl _) (fun v h' nx' e => ?_)
    obtain ⟨rfl, rfl, rfl⟩ := e
    cases hn : nxt s j 42 with
    | true =>
      have hk := nxt_lt hn
      rw [hn, Bool.true_or, if_pos rfl] at hE
      refine go 99 rfl ?_
      first | refine Safe.gsK true rfl rfl ?_ | refine Safe.gsK false rfl rfl ?_ | refine Safe.brT rfl rfl ?_ | refine Safe.brF rfl rfl ?_
      refine go 99 rfl ?_
      exact ⟨.inr rfl, rfl, rfl, .frz 1 rfl rfl (.frz 2 rfl rfl (.rel (m2 := [(2, .fptr [nI 3, .bool false, .int .u8 0, .nilptr, .fslice [.fptr cs 0] 1] 0), (3, .bool true)]) (h2 := prs s (j + 1)) (nx2 := 1) (sgI 1) ⟨⟨fit rfl, fit rfl, trivial⟩, ⟨_, .refl _, subK rfl rfl subN⟩, rfl⟩ (.done rfl ⟨j + 1, hk, rfl, rfl, .inl ⟨hE, _, rfl⟩⟩)))⟩
    | false =>
      rw [hn, Bool.false_or] at hE
      refine go 99 rfl ?_
      first | refine Safe.gsK true rfl rfl ?_ | refine Safe.gsK false rfl rfl ?_ | refine Safe.brT rfl rfl ?_ | refine Safe.brF rfl rfl ?_
      refine go 99 rfl ?_
      refine Safe.callL (rest := []) (sgI 1) (rx_skip s j 43 hs hj) rfl rfl rfl rfl (.refl _) (fun v h' nx' e => ?_)
      obtain ⟨rfl, rfl, rfl⟩ := e
      cases hn2 : nxt s j 43 with
      | true =>
        have hk := nxt_lt hn2
        rw [hn2, Bool.true_or, if_pos rfl] at hE
        refine go 99 rfl ?_
        first | refine Safe.gsK true rfl rfl ?_ | refine Safe.gsK false rfl rfl ?_ | refine Safe.brT rfl rfl ?_ | refine Safe.brF rfl rfl ?_
        refine go 99 rfl ?_
        exact ⟨.inr rfl, rfl, rfl, .frz 1 rfl rfl (.frz 2 rfl rfl (.rel (m2 := [(2, .fptr [nI 4, .bool false, .int .u8 0, .nilptr, .fslice [.fptr cs 0] 1] 0), (3, .bool true)]) (h2 := prs s (j + 1)) (nx2 := 1) (sgI 1) ⟨⟨fit rfl, fit rfl, trivial⟩, ⟨_, .refl _, subK rfl rfl subN⟩, rfl⟩ (.done rfl ⟨j + 1, hk, rfl, rfl, .inl ⟨hE, _, rfl⟩⟩)))⟩
      | false =>
        rw [hn2, Bool.false_or] at hE
        refine go 99 rfl ?_
        first | refine Safe.gsK true rfl rfl ?_ | refine Safe.gsK false rfl rfl ?_ | refine Safe.brT rfl rfl ?_ | refine Safe.brF rfl rfl ?_
        refine go 99 rfl ?_
        refine Safe.callL (rest := []) (sgI 1) (rx_skip s j 63 hs hj) rfl rfl rfl rfl (.refl _) (fun v h' nx' e => ?_)
        obtain ⟨rfl, rfl, rfl⟩ := e
        cases hn3 : nxt s j 63 with
        | true =>
          have hk := nxt_lt hn3
          rw [hn3, if_pos rfl] at hE
          refine go 99 rfl ?_
          first | refine Safe.gsK true rfl rfl ?_ | refine Safe.gsK false rfl rfl ?_ | refine Safe.brT rfl rfl ?_ | refine Safe.brF rfl rfl ?_
          refine go 99 rfl ?_
          exact ⟨.inr rfl, rfl, rfl, .frz 1 rfl rfl (.frz 2 rfl rfl (.rel (m2 := [(2, .fptr [nI 5, .bool false, .int .u8 0, .nilptr, .fslice [.fptr cs 0] 1] 0), (3, .bool true)]) (h2 := prs s (j + 1)) (nx2 := 1) (sgI 1) ⟨⟨fit rfl, fit rfl, trivial⟩, ⟨_, .refl _, subK rfl rfl subN⟩, rfl⟩ (.done rfl ⟨j + 1, hk, rfl, rfl, .inl ⟨hE, _, rfl⟩⟩)))⟩
        | false =>
          rw [hn3, if_neg Bool.false_ne_true] at hE
          refine go 99 rfl ?_
          first | refine Safe.gsK true rfl rfl ?_ | refine Safe.gsK false rfl rfl ?_ | refine Safe.brT rfl rfl ?_ | refine Safe.brF rfl rfl ?_
          refine go 99 rfl ?_
          exact ⟨.inr rfl, rfl, rfl, .done rfl ⟨j, hj, rfl, rfl, .inl ⟨hE, _, rfl⟩⟩⟩
  · rw [e1] at hE
    dsimp only at hE
    refine go 99 rfl ?_
    first | refine Safe.gsK true rfl rfl ?_ | refine Safe.gsK false rfl rfl ?_ | refine Safe.brT rfl rfl ?_ | refine Safe.brF rfl rfl ?_
    refine go 99 rfl ?_
    exact ⟨.inr rfl, rfl, rfl, .done rfl ⟨j, hj, rfl, rfl, .inr ⟨hE, rfl⟩⟩⟩
theorem facO_le {s : By} {f i j : Nat} (h : facO s f i = some j) : i < j ∧ j ≤ s.length := by
  unfold facO at h
  split at h
  · cases h
  · rename_i k hk
    have := raA_le hk
    injection h with h
    split at h
    · rename_i hp; have := posB_lt hp; omega
    · omega
def stpB (s : By) (j : Nat) : Prop := s[j]? = none ∨ s[j]? = some 124 ∨ s[j]? = some 41
theorem raE_fac {s : By} {f j : Nat} (h : ¬ stpB s j) : raE s (f + 1) j = match facO s f j with
    | none => none
    | some k => raE s f k := by
  rw [raE.eq_2]
  cases hc : s[j]? with
  | none => exact absurd (.inl hc) h
  | some c =>
    dsimp only
    rw [if_neg (fun e => h (.inr (.inr (by rw [hc, e])))), if_neg (fun e => h (.inr (.inl (by rw [hc, e]))))]
    unfold facO
    cases raA s f j <;> rfl
def SeqA (s : By) (f i : Nat) (v : V) (h : Hp) (nx : Nat) : Prop := ∃ j, j ≤ s.length ∧ h = prs s j ∧ nx = 1 ∧ ((i ≤ j ∧ (∃ f', 2 * (s.length - j) + 2 ≤ f' ∧ raE s f i = raE s f' j) ∧ stpB s j ∧ ∃ cs, v = .tup [.fptr cs 0, .bool true]) ∨ (raE s f i = none ∧ v = .tup [.nilptr, .bool false]))
abbrev sqH (s : By) (kd : Nat) (j : Nat) (cs : List V) (G : Option Nat) : Hp := [(0, .cells 280 [.str s, nI j] 2), (1, .cells 297 ([nI kd, .bool false, .int .u8 0, .nilptr] ++ [gV 2 cs.length G]) 5)] ++ gH 251 1 2 cs G
end Go.Proofs.YtijfihbdcdkalaaGreatDoor
end

section
namespace Go.Proofs.YtijfihbdcdkalaaGreatDoor
open Go.Fw
variable [Gl]
set_option maxRecDepth 20000
set_option maxHeartbeats 4000000
theorem fin_sq {rs : List ResultVar} {Φ : V → Hp → Nat → Prop} {m : Fl} {h : Hp} {nx : Nat} {s : By} {kd j : Nat} {cs : List V} {G : Option Nat} (hrs : rs = [.tmp 2, .tmp 3]) (h2 : lk m 2 = some (.ptr 1 0)) (h3 : lk m 3 = some (.bool true)) (hh : h = sqH s kd j cs G) (hd : cs.all dryV1 = true) (hq : ∀ X, Φ (.tup [.fptr X 0, .bool true]) (prs s j) 1) : FinL 1 Tryz.prog rs Φ m h nx := by
  subst hrs hh
  cases G with
  | none =>
    refine .frz 1 rfl rfl (.rel (m2 := [(2, .fptr [nI kd, .bool false, .int .u8 0, .nilptr, .nilslice] 0), (3, .bool true)]) (h2 := prs s j) (nx2 := 1) (sgI 1) ⟨⟨fit ?_, fit ?_, trivial⟩, ⟨_, .refl _, subK rfl rfl subN⟩, rfl⟩ (.done rfl (hq _)))
    · rw [lk_frzM, h2]; rfl
    · rw [lk_frzM, h3]; rfl
  | some N =>
    refine .frz 2 (cs := cs) (nn := N * 1) (T := 251) rfl hd (.frz 1 (cs := [nI kd, .bool false, .int .u8 0, .nilptr, .fslice (cs.drop 0) cs.length]) rfl rfl (.rel (m2 := [(2, .fptr [nI kd, .bool false, .int .u8 0, .nilptr, .fslice (cs.drop 0) cs.length] 0), (3, .bool true)]) (h2 := prs s j) (nx2 := 1) (sgI 1) ⟨⟨fit ?_, fit ?_, trivial⟩, ⟨_, .refl _, subK rfl rfl subN⟩, rfl⟩ (.done rfl (hq _))))
    · rw [lk_frzM, lk_frzM, h2]; rfl
    · rw [lk_frzM, lk_frzM, h3]; rfl
theorem sub_sq {s : By} {kd j k2 : Nat} {cs : List V} {G : Option Nat} (hd : cs.all dryV1 = true) {sg : Sg} (h0 : sgF sg 0 = some 0) (h1 : sgF sg 1 = some 1) (h2 : sgF sg 2 = some k2) : (relH sg (sqH s kd j cs G)).Sublist ([(0, .cells 280 [.str s, nI j] 2), (1, .cells 297 ([nI kd, .bool false, .int .u8 0, .nilptr] ++ [gV k2 cs.length G]) 5)] ++ gH 251 1 k2 cs G) := by
  refine subK h0 rfl (subK h1 ?_ ?_)
  · rw [renO, renL_append]
    simp only [renL, gV_ren h2]; rfl
  · have := subGH (G := G) (e := 251) (kk := 1) (r := []) (h3 := []) h2 hd (List.Sublist.refl _)
    simpa using this
theorem rx_sequence (s : By) (i : Nat) (hs : s.length ≤ 200) (hi : i ≤ s.length) (f0 : Nat) (hf0 : 2 * (s.length - i) + 2 ≤ f0) (ih : ∀ k, i ≤ k → k ≤ s.length → PAt s k) : TriL Tryz.prog 263 [.ptr 0 0] (prs s i) 1 (SeqA s f0 i) := by
  refine TriL.of_safe Tryz.func263 rfl Tryz.results263 Tryz.ntmps263 rfl ?_
  refine go 99 rfl ?_
  refine Safe.loop (α := (Nat × List V × Option Nat)) (fun a => [(0, .ptr 0 0), (4, .ptr 1 0)]) (fun a => sqH s 1 a.1 a.2.1 a.2.2) 3 (fun a => s.length - a.1) (fun a => i ≤ a.1 ∧ a.1 ≤ s.length ∧ (∃ f, 2 * (s.length - a.1) + 2 ≤ f ∧ raE s f0 i = raE s f a.1) ∧ a.2.1.all dryV1 = true ∧ (a.2.2 = none → a.2.1 = [] ∧ a.2.1.length = 0) ∧ a.2.1.length ≤ a.1) (i, [], none) (sgI 3) ⟨⟨fit rfl, fit rfl, trivial⟩, ⟨_, .swap _ _ _, sub_sq rfl rfl rfl rfl⟩, rfl⟩ ⟨Nat.le_refl _, hi, ⟨f0, hf0, rfl⟩, rfl, fun _ => ⟨rfl, rfl⟩, Nat.zero_le _⟩ ?_
  rintro ⟨j, cs, G⟩ ⟨hj1, hj2, ⟨f, hf, hE⟩, hcs, hG, hn⟩
  dsimp only at hj1 hj2 hf hE hcs hG hn
  have hfin : stpB s j → ∀ X, SeqA s f0 i (.tup [.fptr X 0, .bool true]) (prs s j) 1 := fun h X => ⟨j, hj2, rfl, rfl, .inl ⟨hj1, ⟨f, hf, hE⟩, h, X, rfl⟩⟩
  match f, hf, hE with
  | 0, hf, _ => exact absurd hf (by omega)
  | f + 1, hf, hE =>
  refine go 99 rfl ?_
  rcases Nat.lt_or_ge j s.length with h0 | h0
  · refine Safe.callL (rest := (1, .cells 297 ([nI 1, .bool false, .int .u8 0, .nilptr] ++ [gV 2 cs.length G]) 5) :: gH 251 1 2 cs G) (sgI 1) (rx_peekS s j h0) rfl rfl rfl rfl (.refl _) (fun v h' nx' e => ?_)
    obtain ⟨rfl, rfl, rfl⟩ := e
    have hg := List.getElem?_eq_getElem h0
    generalize hc : s[j] = c at *
    refine go 99 rfl ?_
    first | refine Safe.gsK true rfl rfl ?_ | refine Safe.gsK false rfl rfl ?_ | refine Safe.brT rfl rfl ?_ | refine Safe.brF rfl rfl ?_
    refine go 99 rfl ?_
    refine Safe.gs rfl (fun c1 => ?_) (fun c1 => ?_)
    · have e1 : c = 124 := u8eqR (d := 124) c1
      refine go 99 rfl ?_
      exact ⟨.inr rfl, rfl, rfl, fin_sq rfl rfl rfl rfl hcs (hfin (.inr (.inl (by rw [hg, e1]))))⟩
    · have e1 : c ≠ 124 := u8neR (d := 124) c1
      refine go 99 rfl ?_
      refine Safe.br rfl (fun c2 => ?_) (fun c2 => ?_)
      · have e2 : c = 41 := u8eqR (d := 41) c2
        refine go 99 rfl ?_
        exact ⟨.inr rfl, rfl, rfl, fin_sq rfl rfl rfl rfl hcs (hfin (.inr (.inr (by rw [hg, e2]))))⟩
      · have e2 : c ≠ 41 := u8neR (d := 41) c2
        have hns : ¬ stpB s j := fun h => by
          rcases h with h | h | h <;> rw [hg] at h
          · cases h
          · exact e1 (Option.some.inj h)
          · exact e2 (Option.some.inj h)
        rw [raE_fac hns] at hE
        refine go 99 rfl ?_
        refine Safe.callL (rest := (1, .cells 297 ([nI 1, .bool false, .int .u8 0, .nilptr] ++ [gV 2 cs.length G]) 5) :: gH 251 1 2 cs G) (sgI 1) (rx_factor s j hs hj2 f (by omega) (ih j hj1 hj2)) rfl rfl rfl rfl (.refl _) (fun v h' nx' e => ?_)
        obtain ⟨k, hk, rfl, rfl, e⟩ := e
        rcases e with ⟨e3, x, rfl⟩ | ⟨e3, rfl⟩
        · rw [e3] at hE
          dsimp only at hE
          have hjk := facO_le e3
          refine go 99 rfl ?_
          first | refine Safe.gsK true rfl rfl ?_ | refine Safe.gsK false rfl rfl ?_ | refine Safe.brT rfl rfl ?_ | refine Safe.brF rfl rfl ?_
          refine go 99 rfl ?_
          refine Safe.appH (k := 2) (G := G) (us := [.fptr x 0]) (mm := 1) (len := cs.length) (h1 := [(3, .cells 251 [.fptr x 0] 1), (0, .cells 280 [.str s, nI k] 2), (1, .cells 297 ([nI 1, .bool false, .int .u8 0, .nilptr] ++ [gV 2 cs.length G]) 5)]) (h2 := []) rfl (by simp [Hp.ns]) hG (by rw [List.append_nil]; rfl) rfl rfl rfl rfl rfl (by decide) rfl (Nat.mul_one _).symm rfl rfl (by omega) (fun N' hN' => ?_)
          refine Safe.one rfl rfl ?_
          refine Safe.one rfl rfl ?_
          refine Safe.stLast (cs := [nI 1, .bool false, .int .u8 0, .nilptr]) (v0 := gV 2 cs.length G) rfl rfl rfl rfl rfl rfl rfl rfl rfl ?_
          refine go 99 rfl ?_
          have hd2 : (cs ++ [V.fptr x 0]).all dryV1 = true := by rw [List.all_append, hcs]; rfl
          have hl2 : (cs ++ [V.fptr x 0]).length = cs.length + 1 := by simp
          have hsub := sub_sq (s := s) (kd := 1) (j := k) (G := some N') hd2 (sg := [(0, 0), (1, 1), (2, 4)]) (k2 := 4) rfl rfl rfl
          simp only [hl2, gV, gH] at hsub
          exact ⟨[(0, 0), (1, 1), (2, 4)], (k, cs ++ [.fptr x 0], some N'), ⟨by dsimp only; omega, hk, ⟨f, by dsimp only; omega, hE⟩, hd2, (fun h => by cases h), (by rw [hl2]; omega)⟩, (by dsimp only; omega), rfl, rfl, ⟨fit rfl, fit rfl, trivial⟩, ⟨_, List.perm_append_comm (l₁ := [(3, AObj.cells 251 [.fptr x 0] 1), (0, .cells 280 [.str s, nI k] 2), (1, .cells 297 ([nI 1, .bool false, .int .u8 0, .nilptr] ++ [.slice 4 0 (cs.length + 1) N']) 5)]) (l₂ := [(4, .cells 251 (cs ++ [.fptr x 0]) (N' * 1))]), subD hsub⟩, rfl⟩
        · rw [e3] at hE
          dsimp only at hE
          refine go 99 rfl ?_
          first | refine Safe.gsK true rfl rfl ?_ | refine Safe.gsK false rfl rfl ?_ | refine Safe.brT rfl rfl ?_ | refine Safe.brF rfl rfl ?_
          refine go 99 rfl ?_
          exact ⟨.inr rfl, rfl, rfl, .rel (m2 := [(2, .nilptr), (3, .bool false)]) (h2 := prs s k) (nx2 := 1) (sgI 1) ⟨⟨fit rfl, fit rfl, trivial⟩, ⟨_, .refl _, subK rfl rfl subN⟩, rfl⟩ (.done rfl ⟨k, hk, rfl, rfl, .inr ⟨hE, rfl⟩⟩)⟩
  · have e0 : j = s.length := by omega
    subst e0
    refine Safe.callL (rest := (1, .cells 297 ([nI 1, .bool false, .int .u8 0, .nilptr] ++ [gV 2 cs.length G]) 5) :: gH 251 1 2 cs G) (sgI 1) (rx_peekN s) rfl rfl rfl rfl (.refl _) (fun v h' nx' e => ?_)
    obtain ⟨rfl, rfl, rfl⟩ := e
    refine go 99 rfl ?_
    first | refine Safe.gsK true rfl rfl ?_ | refine Safe.gsK false rfl rfl ?_ | refine Safe.brT rfl rfl ?_ | refine Safe.brF rfl rfl ?_
    refine go 99 rfl ?_
    exact ⟨.inr rfl, rfl, rfl, fin_sq rfl rfl rfl rfl hcs (hfin (.inl (List.getElem?_eq_none (Nat.le_refl _))))⟩
end Go.Proofs.YtijfihbdcdkalaaGreatDoor
end

section
namespace Go.Proofs.YtijfihbdcdkalaaGreatDoor
open Go.Fw
variable [Gl]
set_option maxRecDepth 20000
set_option maxHeartbeats 4000000
theorem perm_43 {a b c d : Nat × AObj} : (d :: ([a, b] ++ [c])).Perm [a, b, c, d] := List.perm_append_comm (l₁ := [d]) (l₂ := [a, b, c])
theorem rx_choice (s : By) (i : Nat) (hs : s.length ≤ 200) (hi : i ≤ s.length) (ih : ∀ k, i ≤ k → k ≤ s.length → PAt s k) : PE s i := by
  intro f0 hf0
  refine TriL.of_safe Tryz.func255 rfl Tryz.results255 Tryz.ntmps255 rfl ?_
  refine go 99 rfl ?_
  refine Safe.loop (α := (Nat × List V × Option Nat)) (fun a => [(0, .ptr 0 0), (4, .ptr 1 0)]) (fun a => sqH s 2 a.1 a.2.1 a.2.2) 3 (fun a => s.length - a.1) (fun a => i ≤ a.1 ∧ a.1 ≤ s.length ∧ (∃ f, 2 * (s.length - a.1) + 2 ≤ f ∧ raE s f0 i = raE s f a.1) ∧ a.2.1.all dryV1 = true ∧ (a.2.2 = none → a.2.1 = [] ∧ a.2.1.length = 0) ∧ a.2.1.length ≤ a.1) (i, [], none) (sgI 3) ⟨⟨fit rfl, fit rfl, trivial⟩, ⟨_, .swap _ _ _, sub_sq rfl rfl rfl rfl⟩, rfl⟩ ⟨Nat.le_refl _, hi, ⟨f0, hf0, rfl⟩, rfl, fun _ => ⟨rfl, rfl⟩, Nat.zero_le _⟩ ?_
  rintro ⟨j, cs, G⟩ ⟨hj1, hj2, ⟨f, hf, hE⟩, hcs, hG, hn⟩
  dsimp only at hj1 hj2 hf hE hcs hG hn
  refine go 99 rfl ?_
  refine Safe.callL (rest := (1, .cells 297 ([nI 2, .bool false, .int .u8 0, .nilptr] ++ [gV 2 cs.length G]) 5) :: gH 251 1 2 cs G) (sgI 1) (rx_sequence s j hs hj2 f hf (fun k h1 h2 => ih k (by omega) h2)) rfl rfl rfl rfl (.refl _) (fun v h' nx' e => ?_)
  obtain ⟨k, hk, rfl, rfl, e⟩ := e
  rcases e with ⟨hjk, ⟨f', hf', hE'⟩, hst, x, rfl⟩ | ⟨e3, rfl⟩
  · rw [hE'] at hE
    refine go 99 rfl ?_
    first | refine Safe.gsK true rfl rfl ?_ | refine Safe.gsK false rfl rfl ?_ | refine Safe.brT rfl rfl ?_ | refine Safe.brF rfl rfl ?_
    refine go 99 rfl ?_
    refine Safe.appH (k := 2) (G := G) (us := [.fptr x 0]) (mm := 1) (len := cs.length) (h1 := [(3, .cells 251 [.fptr x 0] 1), (0, .cells 280 [.str s, nI k] 2), (1, .cells 297 ([nI 2, .bool false, .int .u8 0, .nilptr] ++ [gV 2 cs.length G]) 5)]) (h2 := []) rfl (by simp [Hp.ns]) hG (by rw [List.append_nil]; rfl) rfl rfl rfl rfl rfl (by decide) rfl (Nat.mul_one _).symm rfl rfl (by omega) (fun N' hN' => ?_)
    refine Safe.one rfl rfl ?_
    refine Safe.one rfl rfl ?_
    refine Safe.stLast (cs := [nI 2, .bool false, .int .u8 0, .nilptr]) (v0 := gV 2 cs.length G) rfl rfl rfl rfl rfl rfl rfl rfl rfl ?_
    refine go 99 rfl ?_
    have hd2 : (cs ++ [V.fptr x 0]).all dryV1 = true := by rw [List.all_append, hcs]; rfl
    have hl2 : (cs ++ [V.fptr x 0]).length = cs.length + 1 := by simp
    refine Safe.callL (rest := [(1, .cells 297 ([nI 2, V.bool false, V.int .u8 0, V.nilptr] ++ [V.slice 4 0 (cs.length + 1) N']) 5), (4, .cells 251 (cs ++ [V.fptr x 0]) (N' * 1)), (3, .cells 251 [V.fptr x 0] 1)]) (sgI 1) (rx_skip s k 124 hs hk) rfl rfl rfl rfl (List.perm_append_comm (l₁ := [(0, AObj.cells 280 [V.str s, nI k] 2), (1, AObj.cells 297 ([nI 2, V.bool false, V.int .u8 0, V.nilptr] ++ [V.slice 4 0 (cs.length + 1) N']) 5)]) (l₂ := [(4, AObj.cells 251 (cs ++ [V.fptr x 0]) (N' * 1)), (3, AObj.cells 251 [V.fptr x 0] 1)])) (fun v h' nx' e => ?_)
    obtain ⟨rfl, rfl, rfl⟩ := e
    have hsub : ∀ k', (relH [(0, 0), (1, 1), (2, 4)] (sqH s 2 k' (cs ++ [.fptr x 0]) (some N'))).Sublist ([(0, .cells 280 [.str s, nI k'] 2), (1, .cells 297 ([nI 2, .bool false, .int .u8 0, .nilptr] ++ [.slice 4 0 (cs.length + 1) N']) 5)] ++ [(4, .cells 251 (cs ++ [.fptr x 0]) (N' * 1))]) := fun k' => by
      have := sub_sq (s := s) (kd := 2) (j := k') (G := some N') hd2 (sg := [(0, 0), (1, 1), (2, 4)]) (k2 := 4) rfl rfl rfl
      simp only [hl2, gV, gH] at this
      exact this
    match f', hf', hE with
    | 0, hf', _ => exact absurd hf' (by omega)
    | f' + 1, hf', hE =>
    cases hn2 : nxt s k 124 with
    | true =>
      have hk3 : s[k]? = some 124 := by simpa [nxt] using hn2
      obtain ⟨hk4, hk5⟩ := List.getElem?_eq_some_iff.1 hk3
      rw [raE.eq_2, hk3] at hE
      dsimp only at hE
      rw [if_neg (by decide), if_pos rfl] at hE
      refine go 99 rfl ?_
      first | refine Safe.gsK true rfl rfl ?_ | refine Safe.gsK false rfl rfl ?_ | refine Safe.brT rfl rfl ?_ | refine Safe.brF rfl rfl ?_
      refine go 99 rfl ?_
      exact ⟨[(0, 0), (1, 1), (2, 4)], (k + 1, cs ++ [.fptr x 0], some N'), ⟨by dsimp only; omega, hk4, ⟨f', by dsimp only; omega, hE⟩, hd2, (fun h => by cases h), (by rw [hl2]; omega)⟩, (by dsimp only; omega), rfl, rfl, ⟨fit rfl, fit rfl, trivial⟩, ⟨_, perm_43, subD (hsub (k + 1))⟩, rfl⟩
    | false =>
      have hk3 : ¬ s[k]? = some 124 := by simpa [nxt] using hn2
      have hE2 : raE s (f' + 1) k = some k := by
        rw [raE.eq_2]
        rcases hst with h | h | h
        · rw [h]
        · exact absurd h hk3
        · rw [h]; rfl
      rw [hE2] at hE
      refine go 99 rfl ?_
      first | refine Safe.gsK true rfl rfl ?_ | refine Safe.gsK false rfl rfl ?_ | refine Safe.brT rfl rfl ?_ | refine Safe.brF rfl rfl ?_
      refine go 99 rfl ?_
      refine Safe.br rfl (fun b => ?_) (fun b => ?_)
      · have b1 : cs = [] := by have := of_decide_eq_true (p := ((cs.length + 1 : Nat) : Int) = 1) (by simpa using b); exact List.length_eq_zero_iff.1 (by omega)
        subst b1
        refine go 99 rfl ?_
        refine Safe.idxO (i := 0) (Nat.zero_lt_one) rfl rfl rfl ?_
        refine go 99 rfl ?_
        exact ⟨.inr rfl, rfl, rfl, .rel (m2 := [(2, .fptr x 0), (3, .bool true)]) (h2 := prs s k) (nx2 := 1) (sgI 1) ⟨⟨fit rfl, fit rfl, trivial⟩, ⟨_, .refl _, subK rfl rfl subN⟩, rfl⟩ (.done rfl ⟨k, hk, rfl, rfl, .inl ⟨hE, _, rfl⟩⟩)⟩
      · refine go 99 rfl ?_
        exact ⟨.inr rfl, rfl, rfl, .rel (m2 := [(2, .ptr 1 0), (3, .bool true)]) (h2 := sqH s 2 k (cs ++ [.fptr x 0]) (some N')) (nx2 := 3) [(0, 0), (1, 1), (2, 4)] ⟨⟨fit rfl, fit rfl, trivial⟩, ⟨_, perm_43, subD (hsub k)⟩, rfl⟩ (fin_sq rfl rfl rfl rfl hd2 (fun X => ⟨k, hk, rfl, rfl, .inl ⟨hE, X, rfl⟩⟩))⟩
  · rw [e3] at hE
    refine go 99 rfl ?_
    first | refine Safe.gsK true rfl rfl ?_ | refine Safe.gsK false rfl rfl ?_ | refine Safe.brT rfl rfl ?_ | refine Safe.brF rfl rfl ?_
    refine go 99 rfl ?_
    exact ⟨.inr rfl, rfl, rfl, .rel (m2 := [(2, .nilptr), (3, .bool false)]) (h2 := prs s k) (nx2 := 1) (sgI 1) ⟨⟨fit rfl, fit rfl, trivial⟩, ⟨_, .refl _, subK rfl rfl subN⟩, rfl⟩ (.done rfl ⟨k, hk, rfl, rfl, .inr ⟨hE, rfl⟩⟩)⟩
end Go.Proofs.YtijfihbdcdkalaaGreatDoor
end

section
namespace Go.Proofs.YtijfihbdcdkalaaGreatDoor
open Go.Fw
variable [Gl]
set_option maxRecDepth 20000
set_option maxHeartbeats 4000000
theorem rx_all (s : By) (hs : s.length ≤ 200) : ∀ (n i : Nat), s.length - i ≤ n → i ≤ s.length → PE s i := by
  intro n
  induction n with
  | zero =>
    intro i hn hi
    refine rx_choice s i hs hi fun k h1 h2 => ?_
    exact rx_atom s k hs h2 fun h => absurd h (by omega)
  | succ n ih =>
    intro i hn hi
    refine rx_choice s i hs hi fun k h1 h2 => ?_
    exact rx_atom s k hs h2 fun h => ih (k + 1) (by omega) (by omega)
def PrsA (s : By) (v : V) : Prop := (rxC s = 0 ∧ ∃ cs, v = .tup [.fptr cs 0, .bool true]) ∨ (rxC s ≠ 0 ∧ v = .tup [.nilptr, .bool false])
theorem rx_parse (s : By) (hs : s.length < 4611686018427387904) : ETri Tryz.prog 241 [.str s] (PrsA s) := by
  have hE := rxC.eq_1 s
  refine ETri.of_safe Tryz.func241 rfl Tryz.results241 Tryz.ntmps241 rfl ?_
  refine go 99 rfl ?_
  refine Safe.br rfl (fun a => ?_) (fun a => ?_)
  · have a1 : 200 < s.length := by have := of_decide_eq_true a; omega
    rw [if_pos a1] at hE
    refine go 99 rfl ?_
    exact ⟨.inr rfl, trivial, .done rfl rfl (.inr ⟨by rw [hE]; decide, rfl⟩)⟩
  · have a1 : ¬ 200 < s.length := by have := of_decide_eq_false a; omega
    rw [if_neg a1] at hE
    refine go 99 rfl ?_
    refine Safe.callL (rest := []) (sgI 1) (rx_all s (by omega) s.length 0 (by omega) (by omega) (2 * s.length + 2) (by omega)) rfl rfl rfl rfl (.refl _) (fun v h' nx' e => ?_)
    obtain ⟨j, hj, rfl, rfl, e⟩ := e
    rcases e with ⟨e1, x, rfl⟩ | ⟨e1, rfl⟩
    · rw [e1] at hE
      dsimp only at hE
      refine go 99 rfl ?_
      first | refine Safe.gsK true rfl rfl ?_ | refine Safe.gsK false rfl rfl ?_ | refine Safe.brT rfl rfl ?_ | refine Safe.brF rfl rfl ?_
      refine go 99 rfl ?_
      refine Safe.br rfl (fun c => ?_) (fun c => ?_)
      · have c1 : ¬ j = s.length := fun h => by subst h; simp at c
        rw [if_neg c1] at hE
        refine go 99 rfl ?_
        exact ⟨.inr rfl, trivial, .done rfl rfl (.inr ⟨by rw [hE]; decide, rfl⟩)⟩
      · have c1 : j = s.length := by have := of_decide_eq_true (p := (j : Int) = s.length) (by simpa using c); omega
        rw [if_pos c1] at hE
        refine go 99 rfl ?_
        exact ⟨.inr rfl, trivial, .done rfl rfl (.inl ⟨hE, x, rfl⟩)⟩
    · rw [e1] at hE
      dsimp only at hE
      refine go 99 rfl ?_
      first | refine Safe.gsK true rfl rfl ?_ | refine Safe.gsK false rfl rfl ?_ | refine Safe.brT rfl rfl ?_ | refine Safe.brF rfl rfl ?_
      refine go 99 rfl ?_
      exact ⟨.inr rfl, trivial, .done rfl rfl (.inr ⟨by rw [hE]; decide, rfl⟩)⟩
theorem rxC_3 {s : By} (h : ¬ 200 < s.length) (h0 : rxC s ≠ 0) : rxC s = 3 := by
  unfold rxC at h0 ⊢
  rw [if_neg h] at h0 ⊢
  split
  · rename_i j hj
    split
    · rename_i h1; simp [hj, h1] at h0
    · rfl
  · rfl
theorem alg_rx : AlgRx rxC := by
  intro s hs
  simp only [big] at hs
  refine ETri.p ?_
  refine ETri.of_safe Tryz.func234 rfl Tryz.results234 Tryz.ntmps234 rfl ?_
  refine go 99 rfl ?_
  refine Safe.br rfl (fun a => ?_) (fun a => ?_)
  · have a1 : 200 < s.length := by have := of_decide_eq_true a; omega
    refine go 99 rfl ?_
    exact ⟨.inr rfl, trivial, .done rfl rfl (by rw [rxC, if_pos a1])⟩
  · have a1 : ¬ 200 < s.length := by have := of_decide_eq_false a; omega
    refine go 99 rfl ?_
    refine Safe.callE (rx_parse s (by omega)) rfl rfl rfl ?_
    rintro v hv (⟨e, x, rfl⟩ | ⟨e, rfl⟩)
    · refine go 99 rfl ?_
      first | refine Safe.gsK true rfl rfl ?_ | refine Safe.gsK false rfl rfl ?_ | refine Safe.brT rfl rfl ?_ | refine Safe.brF rfl rfl ?_
      refine go 99 rfl ?_
      exact ⟨.inr rfl, trivial, .done rfl rfl (by rw [e])⟩
    · refine go 99 rfl ?_
      first | refine Safe.gsK true rfl rfl ?_ | refine Safe.gsK false rfl rfl ?_ | refine Safe.brT rfl rfl ?_ | refine Safe.brF rfl rfl ?_
      refine go 99 rfl ?_
      exact ⟨.inr rfl, trivial, .done rfl rfl (by rw [rxC_3 a1 e])⟩
end Go.Proofs.YtijfihbdcdkalaaGreatDoor
end

section
namespace Go.Proofs.YtijfihbdcdkalaaGreatDoor
open Go.Fw
variable [Gl]
set_option maxRecDepth 20000
set_option maxHeartbeats 4000000
def butF (a b : Fld) : Fld := ⟨a.fn && !b.fn, a.mt && !b.mt, a.num && !b.num, a.txt && !b.txt, a.ms && !b.ms, a.pat && !b.pat, a.st && !b.st, a.win && !b.win, a.nam && !b.nam, a.wo && !b.wo⟩
theorem alg_but (a b : Fld) : PTri Tryz.prog 171 [.agg (fldC a), .agg (fldC b)] (.agg (fldC (butF a b))) := by
  obtain ⟨a0, a1, a2, a3, a4, a5, a6, a7, a8, a9⟩ := a
  obtain ⟨b0, b1, b2, b3, b4, b5, b6, b7, b8, b9⟩ := b
  refine PTri.of_safe Tryz.func171 rfl Tryz.results171 Tryz.ntmps171 rfl ?_
  refine go 99 rfl ?_
  refine Safe.fork4 [(2, .ptr 0 0), (3, .ptr 1 0), (4, .ptr 2 0), (11, .bool (a0 && !b0))] (fun K => ?_) ?_
  · refine Safe.gs rfl (fun c => ?_) (fun c => ?_)
    · replace c : a0 = true := c
      subst c
      refine Safe.one rfl rfl ?_
      refine Safe.one rfl rfl ?_
      refine Safe.one rfl rfl ?_
      refine Safe.oneK rfl rfl ?_
      exact K _ _ ⟨rfl, rfl, rfl, rfl, trivial⟩
    · replace c : a0 = false := c
      subst c
      refine Safe.skp rfl ?_
      refine Safe.skp rfl ?_
      refine Safe.skp rfl ?_
      refine Safe.oneK rfl rfl ?_
      exact K _ _ ⟨rfl, rfl, rfl, rfl, trivial⟩
  refine go 99 rfl ?_
  refine Safe.fork4 [(2, .ptr 0 0), (3, .ptr 1 0), (4, .ptr 2 0), (11, .bool (a0 && !b0)), (18, .bool (a1 && !b1))] (fun K => ?_) ?_
  · refine Safe.gs rfl (fun c => ?_) (fun c => ?_)
    · replace c : a1 = true := c
      subst c
      refine Safe.one rfl rfl ?_
      refine Safe.one rfl rfl ?_
      refine Safe.one rfl rfl ?_
      refine Safe.oneK rfl rfl ?_
      exact K _ _ ⟨rfl, rfl, rfl, rfl, rfl, trivial⟩
    · replace c : a1 = false := c
      subst c
      refine Safe.skp rfl ?_
      refine Safe.skp rfl ?_
      refine Safe.skp rfl ?_
      refine Safe.oneK rfl rfl ?_
      exact K _ _ ⟨rfl, rfl, rfl, rfl, rfl, trivial⟩
  refine go 99 rfl ?_
  refine Safe.fork4 [(2, .ptr 0 0), (3, .ptr 1 0), (4, .ptr 2 0), (11, .bool (a0 && !b0)), (18, .bool (a1 && !b1)), (25, .bool (a2 && !b2))] (fun K => ?_) ?_
  · refine Safe.gs rfl (fun c => ?_) (fun c => ?_)
    · replace c : a2 = true := c
      subst c
      refine Safe.one rfl rfl ?_
      refine Safe.one rfl rfl ?_
      refine Safe.one rfl rfl ?_
      refine Safe.oneK rfl rfl ?_
      exact K _ _ ⟨rfl, rfl, rfl, rfl, rfl, rfl, trivial⟩
    · replace c : a2 = false := c
      subst c
      refine Safe.skp rfl ?_
      refine Safe.skp rfl ?_
      refine Safe.skp rfl ?_
      refine Safe.oneK rfl rfl ?_
      exact K _ _ ⟨rfl, rfl, rfl, rfl, rfl, rfl, trivial⟩
  refine go 99 rfl ?_
  refine Safe.fork4 [(2, .ptr 0 0), (3, .ptr 1 0), (4, .ptr 2 0), (11, .bool (a0 && !b0)), (18, .bool (a1 && !b1)), (25, .bool (a2 && !b2)), (32, .bool (a3 && !b3))] (fun K => ?_) ?_
  · refine Safe.gs rfl (fun c => ?_) (fun c => ?_)
    · replace c : a3 = true := c
      subst c
      refine Safe.one rfl rfl ?_
      refine Safe.one rfl rfl ?_
      refine Safe.one rfl rfl ?_
      refine Safe.oneK rfl rfl ?_
      exact K _ _ ⟨rfl, rfl, rfl, rfl, rfl, rfl, rfl, trivial⟩
    · replace c : a3 = false := c
      subst c
      refine Safe.skp rfl ?_
      refine Safe.skp rfl ?_
      refine Safe.skp rfl ?_
      refine Safe.oneK rfl rfl ?_
      exact K _ _ ⟨rfl, rfl, rfl, rfl, rfl, rfl, rfl, trivial⟩
  refine go 99 rfl ?_
  refine Safe.fork4 [(2, .ptr 0 0), (3, .ptr 1 0), (4, .ptr 2 0), (11, .bool (a0 && !b0)), (18, .bool (a1 && !b1)), (25, .bool (a2 && !b2)), (32, .bool (a3 && !b3)), (39, .bool (a4 && !b4))] (fun K => ?_) ?_
  · refine Safe.gs rfl (fun c => ?_) (fun c => ?_)
    · replace c : a4 = true := c
      subst c
      refine Safe.one rfl rfl ?_
      refine Safe.one rfl rfl ?_
      refine Safe.one rfl rfl ?_
      refine Safe.oneK rfl rfl ?_
      exact K _ _ ⟨rfl, rfl, rfl, rfl, rfl, rfl, rfl, rfl, trivial⟩
    · replace c : a4 = false := c
      subst c
      refine Safe.skp rfl ?_
      refine Safe.skp rfl ?_
      refine Safe.skp rfl ?_
      refine Safe.oneK rfl rfl ?_
      exact K _ _ ⟨rfl, rfl, rfl, rfl, rfl, rfl, rfl, rfl, trivial⟩
  refine go 99 rfl ?_
  refine Safe.fork4 [(2, .ptr 0 0), (3, .ptr 1 0), (4, .ptr 2 0), (11, .bool (a0 && !b0)), (18, .bool (a1 && !b1)), (25, .bool (a2 && !b2)), (32, .bool (a3 && !b3)), (39, .bool (a4 && !b4)), (46, .bool (a5 && !b5))] (fun K => ?_) ?_
  · refine Safe.gs rfl (fun c => ?_) (fun c => ?_)
    · replace c : a5 = true := c
      subst c
      refine Safe.one rfl rfl ?_
      refine Safe.one rfl rfl ?_
      refine Safe.one rfl rfl ?_
      refine Safe.oneK rfl rfl ?_
      exact K _ _ ⟨rfl, rfl, rfl, rfl, rfl, rfl, rfl, rfl, rfl, trivial⟩
    · replace c : a5 = false := c
      subst c
      refine Safe.skp rfl ?_
      refine Safe.skp rfl ?_
      refine Safe.skp rfl ?_
      refine Safe.oneK rfl rfl ?_
      exact K _ _ ⟨rfl, rfl, rfl, rfl, rfl, rfl, rfl, rfl, rfl, trivial⟩
  refine go 99 rfl ?_
  refine Safe.fork4 [(2, .ptr 0 0), (3, .ptr 1 0), (4, .ptr 2 0), (11, .bool (a0 && !b0)), (18, .bool (a1 && !b1)), (25, .bool (a2 && !b2)), (32, .bool (a3 && !b3)), (39, .bool (a4 && !b4)), (46, .bool (a5 && !b5)), (53, .bool (a6 && !b6))] (fun K => ?_) ?_
  · refine Safe.gs rfl (fun c => ?_) (fun c => ?_)
    · replace c : a6 = true := c
      subst c
      refine Safe.one rfl rfl ?_
      refine Safe.one rfl rfl ?_
      refine Safe.one rfl rfl ?_
      refine Safe.oneK rfl rfl ?_
      exact K _ _ ⟨rfl, rfl, rfl, rfl, rfl, rfl, rfl, rfl, rfl, rfl, trivial⟩
    · replace c : a6 = false := c
      subst c
      refine Safe.skp rfl ?_
      refine Safe.skp rfl ?_
      refine Safe.skp rfl ?_
      refine Safe.oneK rfl rfl ?_
      exact K _ _ ⟨rfl, rfl, rfl, rfl, rfl, rfl, rfl, rfl, rfl, rfl, trivial⟩
  refine go 99 rfl ?_
  refine Safe.fork4 [(2, .ptr 0 0), (3, .ptr 1 0), (4, .ptr 2 0), (11, .bool (a0 && !b0)), (18, .bool (a1 && !b1)), (25, .bool (a2 && !b2)), (32, .bool (a3 && !b3)), (39, .bool (a4 && !b4)), (46, .bool (a5 && !b5)), (53, .bool (a6 && !b6)), (60, .bool (a7 && !b7))] (fun K => ?_) ?_
  · refine Safe.gs rfl (fun c => ?_) (fun c => ?_)
    · replace c : a7 = true := c
      subst c
      refine Safe.one rfl rfl ?_
      refine Safe.one rfl rfl ?_
      refine Safe.one rfl rfl ?_
      refine Safe.oneK rfl rfl ?_
      exact K _ _ ⟨rfl, rfl, rfl, rfl, rfl, rfl, rfl, rfl, rfl, rfl, rfl, trivial⟩
    · replace c : a7 = false := c
      subst c
      refine Safe.skp rfl ?_
      refine Safe.skp rfl ?_
      refine Safe.skp rfl ?_
      refine Safe.oneK rfl rfl ?_
      exact K _ _ ⟨rfl, rfl, rfl, rfl, rfl, rfl, rfl, rfl, rfl, rfl, rfl, trivial⟩
  refine go 99 rfl ?_
  refine Safe.fork4 [(2, .ptr 0 0), (3, .ptr 1 0), (4, .ptr 2 0), (11, .bool (a0 && !b0)), (18, .bool (a1 && !b1)), (25, .bool (a2 && !b2)), (32, .bool (a3 && !b3)), (39, .bool (a4 && !b4)), (46, .bool (a5 && !b5)), (53, .bool (a6 && !b6)), (60, .bool (a7 && !b7)), (67, .bool (a8 && !b8))] (fun K => ?_) ?_
  · refine Safe.gs rfl (fun c => ?_) (fun c => ?_)
    · replace c : a8 = true := c
      subst c
      refine Safe.one rfl rfl ?_
      refine Safe.one rfl rfl ?_
      refine Safe.one rfl rfl ?_
      refine Safe.oneK rfl rfl ?_
      exact K _ _ ⟨rfl, rfl, rfl, rfl, rfl, rfl, rfl, rfl, rfl, rfl, rfl, rfl, trivial⟩
    · replace c : a8 = false := c
      subst c
      refine Safe.skp rfl ?_
      refine Safe.skp rfl ?_
      refine Safe.skp rfl ?_
      refine Safe.oneK rfl rfl ?_
      exact K _ _ ⟨rfl, rfl, rfl, rfl, rfl, rfl, rfl, rfl, rfl, rfl, rfl, rfl, trivial⟩
  refine go 99 rfl ?_
  refine Safe.fork4 [(2, .ptr 0 0), (3, .ptr 1 0), (4, .ptr 2 0), (11, .bool (a0 && !b0)), (18, .bool (a1 && !b1)), (25, .bool (a2 && !b2)), (32, .bool (a3 && !b3)), (39, .bool (a4 && !b4)), (46, .bool (a5 && !b5)), (53, .bool (a6 && !b6)), (60, .bool (a7 && !b7)), (67, .bool (a8 && !b8)), (74, .bool (a9 && !b9))] (fun K => ?_) ?_
  · refine Safe.gs rfl (fun c => ?_) (fun c => ?_)
    · replace c : a9 = true := c
      subst c
      refine Safe.one rfl rfl ?_
      refine Safe.one rfl rfl ?_
      refine Safe.one rfl rfl ?_
      refine Safe.oneK rfl rfl ?_
      exact K _ _ ⟨rfl, rfl, rfl, rfl, rfl, rfl, rfl, rfl, rfl, rfl, rfl, rfl, rfl, trivial⟩
    · replace c : a9 = false := c
      subst c
      refine Safe.skp rfl ?_
      refine Safe.skp rfl ?_
      refine Safe.skp rfl ?_
      refine Safe.oneK rfl rfl ?_
      exact K _ _ ⟨rfl, rfl, rfl, rfl, rfl, rfl, rfl, rfl, rfl, rfl, rfl, rfl, rfl, trivial⟩
  refine Safe.one (v := .agg [.bool (a0 && !b0), .bool (a1 && !b1), .bool (a2 && !b2), .bool (a3 && !b3), .bool (a4 && !b4), .bool (a5 && !b5), .bool (a6 && !b6), .bool (a7 && !b7), .bool (a8 && !b8), .bool (a9 && !b9)]) (by kernel_rfl) rfl ?_
  refine go 99 rfl ?_
  exact ⟨.inr rfl, trivial, .done (rfl) rfl⟩
end Go.Proofs.YtijfihbdcdkalaaGreatDoor
end

section
namespace Go.Proofs.YtijfihbdcdkalaaGreatDoor
open Go.Fw
variable [Gl]
set_option maxRecDepth 20000
set_option maxHeartbeats 4000000
def preF (e : Ex) : Fld := ⟨e.fn != 0, e.mtch != 0, !(e.num == 0 && e.den == 0), !(e.text == []), decide (0 < (e.ms.length : Int)), hasP e.pat, decide (0 < (e.stages.length : Int)), e.range != 0 || e.offset != 0, decide (0 < (e.names.length : Int)), e.without⟩
theorem numEq {a b : Bool} : V.bool ((a && (b && true)) == false) = V.bool (!(a && b)) := by cases a <;> cases b <;> rfl
theorem alg_present (e : Ex) : PTri Tryz.prog 170 [exV e] (.agg (fldC (preF e))) := by
  refine PTri.of_safe Tryz.func170 rfl Tryz.results170 Tryz.ntmps170 rfl ?_
  refine go 99 rfl ?_
  refine Safe.frzC 0 rfl rfl ?_
  refine Safe.drawP mixed [0, 1, 2, 3, 4, 5, 6, 7, 8, 9, 10, 11, 12, 13, 14, 15, 16, 17, 18, 19, 20, 21, 22, 23, 24, 25, 26, 27, 28, 29, 30, 31, 32, 33, 34, 35, 36, 37, 38] [(true, false), (true, false), (true, false), (true, false), (true, false), (true, false), (true, false), (true, false), (true, false), (true, false), (true, false), (true, false), (true, false), (true, false), (true, false), (true, false), (true, false), (true, false), (true, false), (true, false), (true, false), (true, false), (true, false), (true, true), (true, true), (true, true), (true, true), (true, true), (true, true), (true, true), (true, true), (true, true), (true, true), (true, true), (true, true), (true, true), (true, true), (true, true), (true, true)] (by kernel_rfl) ?_
  refine go 99 rfl ?_
  refine Safe.ldF (rfl) rfl rfl rfl ?_
  refine go 99 rfl ?_
  refine Safe.ldF (rfl) rfl rfl rfl ?_
  refine go 99 rfl ?_
  refine Safe.ldF (rfl) rfl rfl rfl ?_
  refine go 99 rfl ?_
  refine Safe.cmpA (eq25 e.num e.den 0 0) (fine25 _) rfl rfl rfl ?_
  refine Safe.eqv (numEq) ?_
  refine go 99 rfl ?_
  refine Safe.ldF (rfl) rfl rfl rfl ?_
  refine go 99 rfl ?_
  refine Safe.ldF (rfl) rfl rfl rfl ?_
  refine go 99 rfl ?_
  refine Safe.lenA rfl rfl ?_
  refine go 99 rfl ?_
  refine Safe.ldF (rfl) rfl rfl rfl ?_
  refine go 99 rfl ?_
  refine Safe.call (alg_hasP e) rfl rfl rfl ?_
  refine go 99 rfl ?_
  refine Safe.ldF (rfl) rfl rfl rfl ?_
  refine go 99 rfl ?_
  refine Safe.lenA rfl rfl ?_
  refine go 99 rfl ?_
  refine Safe.ldF (rfl) rfl rfl rfl ?_
  refine go 99 rfl ?_
  refine Safe.gs rfl (fun c => ?_) (fun c => ?_)
  · refine go 99 rfl ?_
    refine Safe.ldF (rfl) rfl rfl rfl ?_
    refine go 99 rfl ?_
    refine Safe.ldF (rfl) rfl rfl rfl ?_
    refine Safe.tail (by kernel_rfl) ?_
    refine Safe.one (v := .agg [.bool (e.fn != 0), .bool (e.mtch != 0), .bool (!(e.num == 0 && e.den == 0)), .bool (!(e.text == [])), .bool (decide (0 < (e.ms.length : Int))), .bool (hasP e.pat), .bool (decide (0 < (e.stages.length : Int))), .bool (true), .bool (decide (0 < (e.names.length : Int))), .bool e.without]) (by kernel_rfl) rfl ?_
    refine go 99 rfl ?_
    exact ⟨.inr rfl, trivial, .done ((by rw [preF, show (e.range != 0) = true from c]; rfl)) rfl⟩
  · refine go 99 rfl ?_
    refine Safe.ldF (rfl) rfl rfl rfl ?_
    refine go 99 rfl ?_
    refine Safe.ldF (rfl) rfl rfl rfl ?_
    refine go 99 rfl ?_
    refine Safe.ldF (rfl) rfl rfl rfl ?_
    refine Safe.tail (by kernel_rfl) ?_
    refine Safe.one (v := .agg [.bool (e.fn != 0), .bool (e.mtch != 0), .bool (!(e.num == 0 && e.den == 0)), .bool (!(e.text == [])), .bool (decide (0 < (e.ms.length : Int))), .bool (hasP e.pat), .bool (decide (0 < (e.stages.length : Int))), .bool (e.offset != 0), .bool (decide (0 < (e.names.length : Int))), .bool e.without]) (by kernel_rfl) rfl ?_
    refine go 99 rfl ?_
    exact ⟨.inr rfl, trivial, .done ((by rw [preF, show (e.range != 0) = false from c]; rfl)) rfl⟩
end Go.Proofs.YtijfihbdcdkalaaGreatDoor
end

section
namespace Go.Proofs.YtijfihbdcdkalaaGreatDoor
open Go.Fw
variable [Gl]
set_option maxRecDepth 20000
set_option maxHeartbeats 4000000
def txtA (e : Ex) : Int := if e.kind = 5 then (if 60 < e.text.length then 4 else 0) else if e.kind = 13 then (if isVw e.text = false then 5 else 0) else (if isNm e.text = false then 5 else 0)
theorem ld_byte1 {T : TypeId} {s : List UInt8} {i : Nat} (hi : i < s.length) (ht : tagg Tryz.prog T = some false) : ldAt Tryz.prog T (byteCells s) (i * 1) = some (.int .u8 s[i].toNat) := by rw [Nat.mul_one]; exact ld_byte hi ht
theorem alg_text (e : Ex) (ho : okE e) : PTri Tryz.prog 177 [exV e] (nI (txtA e)) := by
  rw [okE_eq] at ho
  have ht := ho.2.2.2.2.1
  have hl := ht
  simp only [big] at hl
  have hE := txtA.eq_1 e
  refine PTri.of_safe Tryz.func177 rfl Tryz.results177 Tryz.ntmps177 rfl ?_
  refine go 99 rfl ?_
  refine Safe.br rfl (fun a => ?_) (fun a => ?_)
  · rw [if_pos (by simpa using a)] at hE
    refine go 99 rfl ?_
    refine Safe.br rfl (fun b => ?_) (fun b => ?_)
    · rw [if_pos (by have := of_decide_eq_true b; omega)] at hE
      refine go 99 rfl ?_
      exact ⟨.inr rfl, trivial, .done (nIeq hE.symm) rfl⟩
    · rw [if_neg (by have := of_decide_eq_false b; omega)] at hE
      refine go 99 rfl ?_
      exact ⟨.inr rfl, trivial, .done (nIeq hE.symm) rfl⟩
  · rw [if_neg (by simpa using a)] at hE
    refine go 99 rfl ?_
    refine Safe.br rfl (fun b => ?_) (fun b => ?_)
    · rw [if_pos (by simpa using b)] at hE
      refine go 99 rfl ?_
      refine Safe.cut1 (α := Unit) (fun _ => [(1, .ptr 0 0), (6, nI e.kind)]) (fun _ => [(0, .cells 34 (exC e) 16)]) 1 (fun _ => 0 < e.text.length ∧ e.text.length ≤ 60) ?_ ?_
      · refine Safe.gs rfl (fun c => ?_) (fun c => ?_)
        · have c1 : e.text.length = 0 := by have := of_decide_eq_true c; omega
          rw [if_pos (by simp only [isVw, c1]; simp)] at hE
          refine go 99 rfl ?_
          exact ⟨.inr rfl, trivial, .done (nIeq hE.symm) rfl⟩
        · have c1 : 0 < e.text.length := by have := of_decide_eq_false c; omega
          refine go 99 rfl ?_
          refine Safe.br rfl (fun d => ?_) (fun d => ?_)
          · have d1 : 60 < e.text.length := by have := of_decide_eq_true d; omega
            rw [if_pos (by simp only [isVw]; rw [decide_eq_false (show ¬ (e.text.length : Int) ≤ 60 by omega)]; simp)] at hE
            refine go 99 rfl ?_
            exact ⟨.inr rfl, trivial, .done (nIeq hE.symm) rfl⟩
          · have d1 : e.text.length ≤ 60 := by have := of_decide_eq_false d; omega
            refine go 99 rfl ?_
            exact ⟨sgI 1, (), ⟨c1, d1⟩, rfl, rfl, ⟨fit rfl, fit rfl, trivial⟩, ⟨_, .refl _, .refl _⟩, rfl⟩
      · rintro - ⟨h1, h2⟩
        refine go 99 rfl ?_
        refine Safe.tob rfl rfl rfl rfl rfl rfl rfl ?_
        refine go 99 rfl ?_
        refine Safe.loop (α := Nat) (fun i => [(31, .fslice (byteCells e.text) e.text.length), (32, nI e.text.length), (33, nI i)]) (fun i => []) 0 (fun i => e.text.length - i) (fun i => i ≤ e.text.length ∧ e.text.all (fun c => isVB c.toNat) = (e.text.drop i).all (fun c => isVB c.toNat)) 0 (sgI 0) ⟨⟨fit rfl, fit rfl, fit rfl, trivial⟩, ⟨_, .refl _, List.nil_sublist _⟩, rfl⟩ ⟨Nat.zero_le _, rfl⟩ ?_
        rintro i ⟨hi, ha⟩
        refine go 99 rfl ?_
        refine Safe.br rfl (fun u => ?_) (fun u => ?_)
        · have hi : i < e.text.length := ltc u
          rw [all_drop hi] at ha
          refine go 99 rfl ?_
          refine Safe.idxF hi rfl rfl rfl ?_
          refine Safe.ldF (ld_byte1 hi (by kernel_rfl)) rfl rfl rfl ?_
          refine go 99 rfl ?_
          refine Safe.cut2 (α := Unit) (fun _ => [(31, .fslice (byteCells e.text) e.text.length), (32, nI e.text.length), (33, nI i)]) (fun _ => []) 0 (fun _ => isVB e.text[i].toNat = true) ?_ ?_
          · repeat' (first | (refine Safe.gs rfl (fun a => ?_) (fun a => ?_) <;> refine go 99 rfl ?_) | (refine Safe.br rfl (fun a => ?_) (fun a => ?_) <;> refine go 99 rfl ?_))
            all_goals first
              | (have hb : isVB e.text[i].toNat = false := by simp_all [isVB] <;> omega
                 rw [if_pos (by simp only [isVw, ha, hb]; simp)] at hE
                 exact ⟨.inr rfl, trivial, .done (nIeq hE.symm) rfl⟩)
              | exact ⟨sgI 0, (), by simp_all [isVB] <;> omega, rfl, rfl, ⟨fit rfl, fit rfl, fit rfl, trivial⟩, ⟨_, .refl _, List.nil_sublist _⟩, rfl⟩
          · rintro ⟨⟩ hv
            refine go 99 rfl ?_
            exact ⟨sgI 0, i + 1, ⟨hi, by simp_all⟩, mlt hi, rfl, rfl, ⟨fit rfl, fit rfl, fit (isucc (by omega)), trivial⟩, ⟨_, .refl _, List.nil_sublist _⟩, rfl⟩
        · have hi2 : i = e.text.length := Nat.le_antisymm hi (gec u)
          subst hi2
          rw [List.drop_length] at ha
          rw [if_neg (by simp only [isVw, ha]; simp; omega)] at hE
          refine go 99 rfl ?_
          exact ⟨.inr rfl, trivial, .done (nIeq hE.symm) rfl⟩
    · rw [if_neg (by simpa using b)] at hE
      refine go 99 rfl ?_
      refine Safe.call (alg_name e.text ht) rfl rfl rfl ?_
      refine go 99 rfl ?_
      refine Safe.br rfl (fun c => ?_) (fun c => ?_)
      · rw [if_pos (by simpa using c)] at hE
        refine go 99 rfl ?_
        exact ⟨.inr rfl, trivial, .done (nIeq hE.symm) rfl⟩
      · rw [if_neg (by simpa using c)] at hE
        refine go 99 rfl ?_
        exact ⟨.inr rfl, trivial, .done (nIeq hE.symm) rfl⟩
end Go.Proofs.YtijfihbdcdkalaaGreatDoor
end

section
namespace Go.Proofs.YtijfihbdcdkalaaGreatDoor
open Go.Fw
variable [Gl]
set_option maxRecDepth 20000
set_option maxHeartbeats 4000000
theorem cat_str : ∀ l : List By, cat strC l = l.map V.str
  | [] => rfl
  | a :: r => by rw [cat_cons, cat_str r]; rfl
theorem vrs_strs (F : Froz) (r : List By) : VRs F (cat strC r) (r.map fun l => Value.string ⟨l.toArray⟩).toArray := by
  rw [cat_str]
  refine ⟨by simp, fun i v hv => ?_⟩
  rw [List.getElem?_map] at hv
  obtain ⟨b, hb, rfl⟩ := Option.map_eq_some_iff.1 hv
  have hi := (List.getElem?_eq_some_iff.1 hb)
  obtain ⟨hlt, he⟩ := hi
  simp only [Array.getD_eq_getD_getElem?, List.getElem?_toArray, List.getElem?_map, hb, Option.map_some, Option.getD_some]
  exact .str _
theorem PTri.of_alloc {P : Program} {f : FuncId} {us : List V} {r : List By} (C : World → Prop) (A : Array Value) (hargs : ∀ F av, VRs F us av → av = A) (hC : ∀ F w, Go.Fw.Own F [] w → C w)
    (h : ∀ w, C w → Calls P f A w fun e w' => e = .returned (.slice (some ⟨w.heap.size, 0, none⟩) r.length r.length) ∧ w' = w.alloc (.cells (r.map fun l => Value.string ⟨l.toArray⟩).toArray 9)) : Go.Fw.PTri P f us (slV strC r) := by
  intro F w av ho ha
  rw [hargs F av ha]
  refine callsIn_of ((h w (hC F w ho)).mono ?_)
  rintro e w' ⟨rfl, rfl⟩
  have hor := OR.new (T := 9) (vrs_strs F r)
  have ho1 := ho.push hor
  obtain ⟨F', o', tr, hv⟩ := own_freeze ho1 (b := w.heap.size) (T := 9) (cs := cat strC r) (nn := (cat strC r).length) (by simp [hget])
  have e1 : frzH w.heap.size (cat strC r) (hdel [(w.heap.size, AObj.cells 9 (cat strC r) (cat strC r).length)] w.heap.size) = [] := by simp [hdel, frzH]
  rw [e1] at o' tr
  have hx := hv (.slice w.heap.size 0 r.length r.length) _ (.slice _ _ _ _ (Nat.le_refl _))
  simp only [frzV, if_true, List.drop_zero] at hx
  exact ⟨slV strC r, _, [], F', rfl, ⟨rfl, rfl⟩, o', hx, (Trans.push F [] w _ _).trans tr⟩
def GTab : Prop := ∀ F w, Go.Fw.Own F [] w → Lib.TabIs Tryz.prog w "strings.asciiSpace" .u8 Lib.asciiSpaceTab
theorem vrs_str1 {s : List UInt8} (F : Froz) (av : Array Value) (h : VRs F [.str s] av) : av = #[.string ⟨s.toArray⟩] := by
  have h0 := (h.2 0 _ rfl).str_inv
  have hs := h.1
  simp at hs
  obtain ⟨L⟩ := av
  match L, hs with
  | [x], _ => simp at h0; rw [h0]
theorem st_fields (hG : GTab) (s : By) (hs : s.length < 4294967281) (ha : ∀ b ∈ s, b.toNat < 128) : Go.Fw.PTri Tryz.prog 123 [.str s] (slV strC (Lib.fields s)) :=
  PTri.of_alloc (fun w => Lib.TabIs Tryz.prog w "strings.asciiSpace" .u8 Lib.asciiSpaceTab) _ (fun F av h => vrs_str1 F av h) (fun F w h => hG F w h)
    (fun w hw => Tryz.strings_Fields_laid ⟨s.toArray⟩ w (show s.toArray.size < 4294967281 by simpa using hs) (fun j b hb => ha b (List.mem_of_getElem? hb)) hw)
end Go.Proofs.YtijfihbdcdkalaaGreatDoor
end
