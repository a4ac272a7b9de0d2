/- A part of the proof: VD, V1, V2, V3, V4, V5, V6, V7, V8, V9, V10, V11, V12, V13, V14, V15, V16, V17 -/
import Derived.Test.YtijfihbdcdkalaaGreatDoorFwRow
import Derived.KernelRfl
import Derived.Test.YtijfihbdcdkalaaGreatDoorProg
import Derived.Sort.Walk0
set_option linter.all false
set_option linter.unusedSectionVars false
set_option linter.unusedVariables false
set_option linter.unusedSimpArgs false
section
namespace Go.Proofs.YtijfihbdcdkalaaGreatDoor
open Go.Fw
variable [Gl]
abbrev By := List UInt8
structure Mat where
  kind : Int
  name : By
  value : By
structure Stg where
  kind : Int
  text : By
  ms : List Mat
  names : List By
structure Cnd where
  field : By
  op : Int
  text : By
  number : Int
structure Pat where
  kind : Int
  conds : List Cnd
  args : List Pat
structure Ex where
  kind : Int
  fn : Int
  ms : List Mat
  range : Int
  offset : Int
  num : Int
  den : Int
  names : List By
  without : Bool
  mtch : Int
  stages : List Stg
  pat : Pat
  text : By
  args : List Ex
structure Vw where
  name : By
  expr : Ex
def strC (s : By) : List V := [.str s]
def matC (x : Mat) : List V := [.int .i64 x.kind, .str x.name, .str x.value]
def stgC (x : Stg) : List V := [.int .i64 x.kind, .str x.text, slV matC x.ms, slV strC x.names]
def cndC (x : Cnd) : List V := [.str x.field, .int .i64 x.op, .str x.text, .int .i64 x.number]
mutual
def patL : Pat → List V
  | ⟨k, cs, l⟩ => [.int .i64 k, slV cndC cs, .fslice (patLs l) l.length]
def patLs : List Pat → List V
  | [] => []
  | p :: r => patL p ++ patLs r
end
theorem patLs_cat : ∀ l : List Pat, patLs l = cat patL l
  | [] => by simp [patLs, cat]
  | p :: r => by rw [patLs, patLs_cat r, cat_cons]
def patC (p : Pat) : List V := [.int .i64 p.kind, slV cndC p.conds, slV patL p.args]
theorem patL_eq (p : Pat) : patL p = patC p := by
  obtain ⟨k, cs, l⟩ := p
  rw [patL, patLs_cat]; rfl
mutual
def exL : Ex → List V
  | ⟨k, fn, ms, rg, off, num, den, names, wo, mt, st, pat, tx, l⟩ => [.int .i64 k, .int .i64 fn, slV matC ms, .int .i64 rg, .int .i64 off, .int .i64 num, .int .i64 den, slV strC names, .bool wo, .int .i64 mt, slV stgC st,
      .int .i64 pat.kind, slV cndC pat.conds, slV patL pat.args, .str tx, .fslice (exLs l) l.length]
def exLs : List Ex → List V
  | [] => []
  | p :: r => exL p ++ exLs r
end
theorem exLs_cat : ∀ l : List Ex, exLs l = cat exL l
  | [] => by simp [exLs, cat]
  | p :: r => by rw [exLs, exLs_cat r, cat_cons]
def exC (e : Ex) : List V := [.int .i64 e.kind, .int .i64 e.fn, slV matC e.ms, .int .i64 e.range, .int .i64 e.offset, .int .i64 e.num, .int .i64 e.den, slV strC e.names, .bool e.without, .int .i64 e.mtch, slV stgC e.stages,
      .int .i64 e.pat.kind, slV cndC e.pat.conds, slV patL e.pat.args, .str e.text, slV exL e.args]
theorem exL_eq (e : Ex) : exL e = exC e := by
  obtain ⟨k, fn, ms, rg, off, num, den, names, wo, mt, st, pat, tx, l⟩ := e
  rw [exL, exLs_cat]; rfl
theorem exL_len (e : Ex) : (exL e).length = 16 := by rw [exL_eq]; rfl
theorem patL_len (e : Pat) : (patL e).length = 3 := by rw [patL_eq]; rfl
abbrev exV (e : Ex) : V := .agg (exC e)
abbrev patV (p : Pat) : V := .agg (patC p)
abbrev nI (n : Int) : V := .int .i64 n
theorem ldEx {l : List Ex} {i : Nat} (hi : i < l.length) : ldAt Tryz.prog 34 (cat exL l) (i * 16) = some (exV l[i]) := by
  rw [ld_cat exL_len hi (by kernel_rfl) (by kernel_rfl), exL_eq]
theorem ldPat {l : List Pat} {i : Nat} (hi : i < l.length) : ldAt Tryz.prog 31 (cat patL l) (i * 3) = some (patV l[i]) := by
  rw [ld_cat patL_len hi (by kernel_rfl) (by kernel_rfl), patL_eq]
theorem ldStr {l : List By} {i : Nat} (hi : i < l.length) : ldAt Tryz.prog 9 (cat strC l) (i * 1) = some (.str l[i]) := by
  have := ld_cat1 (P := Tryz.prog) (T := 9) (enc := strC) 0 (fun _ => rfl) hi (by decide) (by kernel_rfl) rfl
  simpa using this
end Go.Proofs.YtijfihbdcdkalaaGreatDoor
end

section
namespace Go.Proofs.YtijfihbdcdkalaaGreatDoor
open Go.Fw
variable [Gl]
theorem mlt {n i : Nat} (h : i < n) : n - (i + 1) < n - i := by omega
def big : Nat := 4194304
def okN (l : List By) : Prop := l.length ≤ big ∧ ∀ s ∈ l, s.length ≤ big
def okM (x : Mat) : Prop := x.name.length ≤ big ∧ x.value.length ≤ big
def okMs (l : List Mat) : Prop := l.length ≤ big ∧ ∀ x ∈ l, okM x
def okS (x : Stg) : Prop := x.text.length ≤ big ∧ okMs x.ms ∧ okN x.names
def okSs (l : List Stg) : Prop := l.length ≤ big ∧ ∀ x ∈ l, okS x
def okC (x : Cnd) : Prop := x.field.length ≤ big ∧ x.text.length ≤ big
mutual
def okP : Pat → Prop
  | ⟨_, cs, l⟩ => (cs.length ≤ big ∧ ∀ x ∈ cs, okC x) ∧ l.length ≤ big ∧ okPs l
def okPs : List Pat → Prop
  | [] => True
  | a :: r => okP a ∧ okPs r
end
mutual
def okE : Ex → Prop
  | ⟨_, _, ms, _, _, _, _, names, _, _, st, pat, tx, l⟩ => okMs ms ∧ okN names ∧ okSs st ∧ okP pat ∧ tx.length ≤ big ∧ l.length ≤ big ∧ okEs l
def okEs : List Ex → Prop
  | [] => True
  | a :: r => okE a ∧ okEs r
end
theorem okPs_get : ∀ {l : List Pat}, okPs l → ∀ {i : Nat} (hi : i < l.length), okP l[i]
  | a :: r, h, 0, hi => h.1
  | a :: r, h, i + 1, hi => by simpa using okPs_get h.2 (i := i) (by simpa using hi)
theorem okEs_get : ∀ {l : List Ex}, okEs l → ∀ {i : Nat} (hi : i < l.length), okE l[i]
  | a :: r, h, 0, hi => h.1
  | a :: r, h, i + 1, hi => by simpa using okEs_get h.2 (i := i) (by simpa using hi)
mutual
def depE : Ex → Nat
  | ⟨_, _, _, _, _, _, _, _, _, _, _, _, _, l⟩ => depEs l + 1
def depEs : List Ex → Nat
  | [] => 0
  | a :: r => max (depE a) (depEs r)
end
mutual
def depP : Pat → Nat
  | ⟨_, _, l⟩ => depPs l + 1
def depPs : List Pat → Nat
  | [] => 0
  | a :: r => max (depP a) (depPs r)
end
theorem depEs_take : ∀ {l : List Ex} {i : Nat} (hi : i < l.length), depEs (l.take (i + 1)) = max (depEs (l.take i)) (depE l[i])
  | a :: r, 0, hi => by simp [depEs]
  | a :: r, i + 1, hi => by simp only [List.take_succ_cons, depEs, List.getElem_cons_succ]; rw [depEs_take (i := i) (by simpa using hi)]; omega
theorem depEs_mem : ∀ {l : List Ex} {i : Nat} (hi : i < l.length), depE l[i] ≤ depEs l
  | a :: r, 0, hi => by simp only [List.getElem_cons_zero, depEs]; omega
  | a :: r, i + 1, hi => by have := depEs_mem (l := r) (i := i) (by simpa using hi); simp only [depEs, List.getElem_cons_succ]; omega
theorem depPs_take : ∀ {l : List Pat} {i : Nat} (hi : i < l.length), depPs (l.take (i + 1)) = max (depPs (l.take i)) (depP l[i])
  | a :: r, 0, hi => by simp [depPs]
  | a :: r, i + 1, hi => by simp only [List.take_succ_cons, depPs, List.getElem_cons_succ]; rw [depPs_take (i := i) (by simpa using hi)]; omega
theorem depPs_mem : ∀ {l : List Pat} {i : Nat} (hi : i < l.length), depP l[i] ≤ depPs l
  | a :: r, 0, hi => by simp only [List.getElem_cons_zero, depPs]; omega
  | a :: r, i + 1, hi => by have := depPs_mem (l := r) (i := i) (by simpa using hi); simp only [depPs, List.getElem_cons_succ]; omega
theorem nmax {a b : Nat} : (if (a : Int) < (b : Int) then (b : Int) else (a : Int)) = ((max a b : Nat) : Int) := by split <;> omega
theorem isucc {i : Nat} (h : i < 4611686018427387904) : some (V.int .i64 (IntKind.i64.wrap ((i : Int) + 1))) = some (V.int .i64 ((i + 1 : Nat) : Int)) := int_fit (by omega) (by omega) (by omega)
theorem ltc {i n : Nat} (c : decide ((i : Int) < (n : Int)) = true) : i < n := by simpa using c
theorem gec {i n : Nat} (c : decide ((i : Int) < (n : Int)) = false) : n ≤ i := by simpa using c
set_option maxRecDepth 20000
theorem nIeq {a b : Int} (h : a = b) : some (V.int .i64 a) = some (V.int .i64 b) := by rw [h]
theorem mixed : Tryz.prog.follows .mixedOrders = true := by kernel_rfl
mutual
def szP : Pat → Nat
  | ⟨_, _, l⟩ => szPs l + 1
def szPs : List Pat → Nat
  | [] => 0
  | a :: r => szP a + szPs r
end
theorem szPs_take : ∀ {l : List Pat} {i : Nat} (hi : i < l.length), szPs (l.take (i + 1)) = szPs (l.take i) + szP l[i]
  | a :: r, 0, hi => by simp [szPs]
  | a :: r, i + 1, hi => by simp only [List.take_succ_cons, szPs, List.getElem_cons_succ]; rw [szPs_take (i := i) (by simpa using hi)]; omega
theorem szPs_tk {l : List Pat} {i : Nat} : szPs (l.take i) ≤ szPs l := by
  induction l generalizing i with
  | nil => simp [szPs]
  | cons a r ih => cases i with
    | zero => simp [szPs]
    | succ i => have := ih (i := i); simp only [List.take_succ_cons, szPs]; omega
theorem lec {i n : Nat} (c : decide ((i : Int) ≤ (n : Int)) = true) : i ≤ n := by simpa using c
theorem gtc {i n : Nat} (c : decide ((i : Int) ≤ (n : Int)) = false) : n < i := by simpa using c
theorem ref_depE : ∀ (k : Nat) (e : Ex), depE e ≤ k → k ≤ 1000000000 → okE e → PTri Tryz.prog 65 [exV e] (nI (depE e))
  | 0, ⟨kd, fn, ms, rg, off, num, den, names, wo, mt, st, pat, tx, l⟩, hb, _, _ => by simp [depE] at hb
  | k + 1, ⟨kd, fn, ms, rg, off, num, den, names, wo, mt, st, pat, tx, l⟩, hb, hk, ho => by
    simp only [depE] at hb ⊢
    obtain ⟨-, -, -, -, -, hl, hos⟩ := ho
    simp only [big] at hl
    refine PTri.of_safe Tryz.func65 rfl Tryz.results65 Tryz.ntmps65 rfl ?_
    refine go 99 rfl ?_
    refine Safe.loop (α := Nat) (fun i => [(1, .ptr 0 0), (3, nI (depEs (l.take i))), (4, nI i)]) (fun i => [(0, .cells 34 (exC ⟨kd, fn, ms, rg, off, num, den, names, wo, mt, st, pat, tx, l⟩) 16)]) 1 (fun i => l.length - i) (fun i => i ≤ l.length) 0 (sgI 1) ⟨⟨fit rfl, fit rfl, fit rfl, trivial⟩, ⟨_, .refl _, .refl _⟩, rfl⟩ (Nat.zero_le _) ?_
    intro i hi
    refine go 99 rfl ?_
    refine Safe.br rfl (fun c => ?_) (fun c => ?_)
    · have hi : i < l.length := ltc c
      refine go 99 rfl ?_
      refine Safe.idxF hi rfl rfl rfl ?_
      refine Safe.ldF (ldEx hi) rfl rfl rfl ?_
      refine Safe.call (ref_depE k l[i] (by have := depEs_mem hi; omega) (by omega) (okEs_get hos hi)) rfl rfl rfl ?_
      refine go 99 rfl ?_
      exact ⟨sgI 1, i + 1, hi, mlt hi, rfl, rfl, ⟨fit rfl, fit (by rw [depEs_take hi, ← nmax]; rfl), fit (isucc (by omega)), trivial⟩, ⟨_, .refl _, .refl _⟩, rfl⟩
    · have hi2 : i = l.length := Nat.le_antisymm hi (gec c)
      subst hi2
      rw [List.take_length]
      refine go 99 rfl ?_
      exact ⟨.inr rfl, trivial, .done (int_fit (by omega) (by omega) (by omega)) rfl⟩
theorem ref_depP : ∀ (k : Nat) (e : Pat), depP e ≤ k → k ≤ 1000000000 → okP e → PTri Tryz.prog 203 [patV e] (nI (depP e))
  | 0, ⟨kd, cs, l⟩, hb, _, _ => by simp [depP] at hb
  | k + 1, ⟨kd, cs, l⟩, hb, hk, ho => by
    simp only [depP] at hb ⊢
    obtain ⟨-, hl, hos⟩ := ho
    simp only [big] at hl
    refine PTri.of_safe Tryz.func203 rfl Tryz.results203 Tryz.ntmps203 rfl ?_
    refine go 99 rfl ?_
    refine Safe.loop (α := Nat) (fun i => [(1, .ptr 0 0), (3, nI (depPs (l.take i))), (4, nI i)]) (fun i => [(0, .cells 31 (patC ⟨kd, cs, l⟩) 3)]) 1 (fun i => l.length - i) (fun i => i ≤ l.length) 0 (sgI 1) ⟨⟨fit rfl, fit rfl, fit rfl, trivial⟩, ⟨_, .refl _, .refl _⟩, rfl⟩ (Nat.zero_le _) ?_
    intro i hi
    refine go 99 rfl ?_
    refine Safe.br rfl (fun c => ?_) (fun c => ?_)
    · have hi : i < l.length := ltc c
      refine go 99 rfl ?_
      refine Safe.idxF hi rfl rfl rfl ?_
      refine Safe.ldF (ldPat hi) rfl rfl rfl ?_
      refine Safe.call (ref_depP k l[i] (by have := depPs_mem hi; omega) (by omega) (okPs_get hos hi)) rfl rfl rfl ?_
      refine go 99 rfl ?_
      exact ⟨sgI 1, i + 1, hi, mlt hi, rfl, rfl, ⟨fit rfl, fit (by rw [depPs_take hi, ← nmax]; rfl), fit (isucc (by omega)), trivial⟩, ⟨_, .refl _, .refl _⟩, rfl⟩
    · have hi2 : i = l.length := Nat.le_antisymm hi (gec c)
      subst hi2
      rw [List.take_length]
      refine go 99 rfl ?_
      exact ⟨.inr rfl, trivial, .done (int_fit (by omega) (by omega) (by omega)) rfl⟩
theorem ref_szP : ∀ (k : Nat) (e : Pat) (n : Nat), depP e ≤ k → n ≤ 100 → okP e → PTri Tryz.prog 142 [patV e, nI n] (nI (min (n + szP e) 101 : Nat))
  | 0, ⟨kd, cs, l⟩, n, hb, _, _ => by simp [depP] at hb
  | k + 1, ⟨kd, cs, l⟩, n, hb, hn, ho => by
    simp only [depP, szP] at hb ⊢
    obtain ⟨-, hl, hos⟩ := ho
    simp only [big] at hl
    refine PTri.of_safe Tryz.func142 rfl Tryz.results142 Tryz.ntmps142 rfl ?_
    refine go 99 rfl ?_
    refine Safe.loop (α := Nat) (fun i => [(2, .ptr 0 0), (1, nI (min (n + 1 + szPs (l.take i)) 101 : Nat)), (5, nI i)]) (fun i => [(0, .cells 31 (patC ⟨kd, cs, l⟩) 3)]) 1 (fun i => l.length - i) (fun i => i ≤ l.length) 0 (sgI 1) ⟨⟨fit rfl, fit (by simp only [List.take_zero, szPs]; exact int_fit (by omega) (by omega) (by omega)), fit rfl, trivial⟩, ⟨_, .refl _, .refl _⟩, rfl⟩ (Nat.zero_le _) ?_
    intro i hi
    refine go 99 rfl ?_
    refine Safe.gs rfl (fun c => ?_) (fun c => ?_)
    · have hi : i < l.length := ltc c
      refine go 99 rfl ?_
      refine Safe.br rfl (fun c => ?_) (fun c => ?_)
      · have hx : min (n + 1 + szPs (l.take i)) 101 ≤ 100 := lec c
        refine go 99 rfl ?_
        refine Safe.idxF hi rfl rfl rfl ?_
        refine Safe.ldF (ldPat hi) rfl rfl rfl ?_
        refine go 99 rfl ?_
        refine Safe.call (ref_szP k l[i] _ (by have := depPs_mem hi; omega) hx (okPs_get hos hi)) rfl rfl rfl ?_
        refine go 99 rfl ?_
        exact ⟨sgI 1, i + 1, hi, mlt hi, rfl, rfl, ⟨fit rfl, fit (congrArg (fun z : Nat => some (nI z)) (by rw [szPs_take hi]; omega)), fit (isucc (by omega)), trivial⟩, ⟨_, .refl _, .refl _⟩, rfl⟩
      · have hx : 100 < min (n + 1 + szPs (l.take i)) 101 := gtc c
        have := szPs_tk (l := l) (i := i)
        refine go 99 rfl ?_
        exact ⟨.inr rfl, trivial, .done (congrArg (fun z : Nat => some (nI z)) (by omega)) rfl⟩
    · have hi2 : i = l.length := Nat.le_antisymm hi (gec c)
      subst hi2
      rw [List.take_length]
      refine go 99 rfl ?_
      exact ⟨.inr rfl, trivial, .done (congrArg (fun z : Nat => some (nI z)) (by omega)) rfl⟩
theorem alg_depE : ∀ (k : Nat) (e : Ex), depE e ≤ k → k ≤ 1000000000 → okE e → PTri Tryz.prog 80 [exV e] (nI (depE e))
  | 0, ⟨kd, fn, ms, rg, off, num, den, names, wo, mt, st, pat, tx, l⟩, hb, _, _ => by simp [depE] at hb
  | k + 1, ⟨kd, fn, ms, rg, off, num, den, names, wo, mt, st, pat, tx, l⟩, hb, hk, ho => by
    simp only [depE] at hb ⊢
    obtain ⟨-, -, -, -, -, hl, hos⟩ := ho
    simp only [big] at hl
    refine PTri.of_safe Tryz.func80 rfl Tryz.results80 Tryz.ntmps80 rfl ?_
    refine go 99 rfl ?_
    refine Safe.loop (α := Nat) (fun i => [(3, nI (depEs (l.take i))), (7, slV exL l), (8, nI l.length), (9, nI i)]) (fun i => []) 0 (fun i => l.length - i) (fun i => i ≤ l.length) 0 (sgI 0) ⟨⟨fit rfl, fit rfl, fit rfl, fit rfl, trivial⟩, ⟨_, .refl _, List.nil_sublist _⟩, rfl⟩ (Nat.zero_le _) ?_
    intro i hi
    refine go 99 rfl ?_
    refine Safe.br rfl (fun c => ?_) (fun c => ?_)
    · have hi : i < l.length := ltc c
      refine go 99 rfl ?_
      refine Safe.idxF hi rfl rfl rfl ?_
      refine Safe.ldF (ldEx hi) rfl rfl rfl ?_
      refine go 99 rfl ?_
      refine Safe.call (alg_depE k l[i] (by have := depEs_mem hi; omega) (by omega) (okEs_get hos hi)) rfl rfl rfl ?_
      refine go 99 rfl ?_
      exact ⟨sgI 0, i + 1, hi, mlt hi, rfl, rfl, ⟨fit (by rw [depEs_take hi, ← nmax]; rfl), fit rfl, fit rfl, fit (isucc (by omega)), trivial⟩, ⟨_, .refl _, List.nil_sublist _⟩, rfl⟩
    · have hi2 : i = l.length := Nat.le_antisymm hi (gec c)
      subst hi2
      rw [List.take_length]
      refine go 99 rfl ?_
      exact ⟨.inr rfl, trivial, .done (int_fit (by omega) (by omega) (by omega)) rfl⟩
theorem alg_depP : ∀ (k : Nat) (e : Pat), depP e ≤ k → k ≤ 1000000000 → okP e → PTri Tryz.prog 212 [patV e] (nI (depP e))
  | 0, ⟨kd, cs, l⟩, hb, _, _ => by simp [depP] at hb
  | k + 1, ⟨kd, cs, l⟩, hb, hk, ho => by
    simp only [depP] at hb ⊢
    obtain ⟨-, hl, hos⟩ := ho
    simp only [big] at hl
    refine PTri.of_safe Tryz.func212 rfl Tryz.results212 Tryz.ntmps212 rfl ?_
    refine go 99 rfl ?_
    refine Safe.loop (α := Nat) (fun i => [(3, nI (depPs (l.take i))), (7, slV patL l), (8, nI l.length), (9, nI i)]) (fun i => []) 0 (fun i => l.length - i) (fun i => i ≤ l.length) 0 (sgI 0) ⟨⟨fit rfl, fit rfl, fit rfl, fit rfl, trivial⟩, ⟨_, .refl _, List.nil_sublist _⟩, rfl⟩ (Nat.zero_le _) ?_
    intro i hi
    refine go 99 rfl ?_
    refine Safe.br rfl (fun c => ?_) (fun c => ?_)
    · have hi : i < l.length := ltc c
      refine go 99 rfl ?_
      refine Safe.idxF hi rfl rfl rfl ?_
      refine Safe.ldF (ldPat hi) rfl rfl rfl ?_
      refine go 99 rfl ?_
      refine Safe.call (alg_depP k l[i] (by have := depPs_mem hi; omega) (by omega) (okPs_get hos hi)) rfl rfl rfl ?_
      refine go 99 rfl ?_
      exact ⟨sgI 0, i + 1, hi, mlt hi, rfl, rfl, ⟨fit (by rw [depPs_take hi, ← nmax]; rfl), fit rfl, fit rfl, fit (isucc (by omega)), trivial⟩, ⟨_, .refl _, List.nil_sublist _⟩, rfl⟩
    · have hi2 : i = l.length := Nat.le_antisymm hi (gec c)
      subst hi2
      rw [List.take_length]
      refine go 99 rfl ?_
      exact ⟨.inr rfl, trivial, .done (int_fit (by omega) (by omega) (by omega)) rfl⟩
theorem alg_szP : ∀ (k : Nat) (e : Pat) (n : Nat), depP e ≤ k → n ≤ 100 → okP e → PTri Tryz.prog 168 [patV e, nI n] (nI (min (n + szP e) 101 : Nat))
  | 0, ⟨kd, cs, l⟩, n, hb, _, _ => by simp [depP] at hb
  | k + 1, ⟨kd, cs, l⟩, n, hb, hn, ho => by
    simp only [depP, szP] at hb ⊢
    obtain ⟨-, hl, hos⟩ := ho
    simp only [big] at hl
    refine PTri.of_safe Tryz.func168 rfl Tryz.results168 Tryz.ntmps168 rfl ?_
    refine go 99 rfl ?_
    refine Safe.loop (α := Nat) (fun i => [(1, nI (min (n + 1 + szPs (l.take i)) 101 : Nat)), (10, slV patL l), (11, nI l.length), (12, nI i)]) (fun i => []) 0 (fun i => l.length - i) (fun i => i ≤ l.length) 0 (sgI 0) ⟨⟨fit (by simp only [List.take_zero, szPs]; exact int_fit (by omega) (by omega) (by omega)), fit rfl, fit rfl, fit rfl, trivial⟩, ⟨_, .refl _, List.nil_sublist _⟩, rfl⟩ (Nat.zero_le _) ?_
    intro i hi
    refine go 99 rfl ?_
    refine Safe.br rfl (fun c => ?_) (fun c => ?_)
    · have hi : i < l.length := ltc c
      refine go 99 rfl ?_
      refine Safe.idxF hi rfl rfl rfl ?_
      refine Safe.ldF (ldPat hi) rfl rfl rfl ?_
      refine go 99 rfl ?_
      refine Safe.br rfl (fun c => ?_) (fun c => ?_)
      · have hx : 100 < min (n + 1 + szPs (l.take i)) 101 := ltc c
        have := szPs_tk (l := l) (i := i)
        refine go 99 rfl ?_
        exact ⟨.inr rfl, trivial, .done (nIeq (by split <;> omega)) rfl⟩
      · have hx : min (n + 1 + szPs (l.take i)) 101 ≤ 100 := gec c
        refine go 99 rfl ?_
        refine Safe.call (alg_szP k l[i] _ (by have := depPs_mem hi; omega) hx (okPs_get hos hi)) rfl rfl rfl ?_
        refine go 99 rfl ?_
        exact ⟨sgI 0, i + 1, hi, mlt hi, rfl, rfl, ⟨fit (congrArg (fun z : Nat => some (nI z)) (by rw [szPs_take hi]; omega)), fit rfl, fit rfl, fit (isucc (by omega)), trivial⟩, ⟨_, .refl _, List.nil_sublist _⟩, rfl⟩
    · have hi2 : i = l.length := Nat.le_antisymm hi (gec c)
      subst hi2
      rw [List.take_length]
      refine go 99 rfl ?_
      exact ⟨.inr rfl, trivial, .done (nIeq (by split <;> omega)) rfl⟩
end Go.Proofs.YtijfihbdcdkalaaGreatDoor
end

section
namespace Go.Proofs.YtijfihbdcdkalaaGreatDoor
open Go.Fw
variable [Gl]
set_option maxRecDepth 20000
def hasP (p : Pat) : Bool := p.kind != 0 || decide (0 < p.conds.length) || decide (0 < p.args.length)
theorem bIeq {a b : Bool} (h : a = b) : some (V.bool a) = some (V.bool b) := by rw [h]
theorem alg_hasP (e : Ex) : PTri Tryz.prog 167 [exV e] (.bool (hasP e.pat)) := by
  refine PTri.of_safe Tryz.func167 rfl Tryz.results167 Tryz.ntmps167 rfl ?_
  refine go 99 rfl ?_
  refine Safe.gs rfl (fun a => ?_) (fun a => ?_)
  · refine go 99 rfl ?_
    exact ⟨.inr rfl, trivial, .done (bIeq (by simp_all [hasP])) rfl⟩
  · refine go 99 rfl ?_
    refine Safe.gs rfl (fun b => ?_) (fun b => ?_)
    · refine go 99 rfl ?_
      exact ⟨.inr rfl, trivial, .done (bIeq (by simp_all [hasP])) rfl⟩
    · refine go 99 rfl ?_
      exact ⟨.inr rfl, trivial, .done (bIeq (by simp_all [hasP])) rfl⟩
mutual
def szE : Ex → Nat
  | ⟨_, _, _, _, _, _, _, _, _, _, st, pat, _, l⟩ => szEs l + st.length + 1 + (if hasP pat = true then szP pat else 0)
def szEs : List Ex → Nat
  | [] => 0
  | a :: r => szE a + szEs r
end
theorem szE_eq (e : Ex) : szE e = szEs e.args + e.stages.length + 1 + (if hasP e.pat = true then szP e.pat else 0) := by cases e; rfl
theorem depE_eq (e : Ex) : depE e = depEs e.args + 1 := by cases e; rfl
theorem depP_eq (e : Pat) : depP e = depPs e.args + 1 := by cases e; rfl
theorem szP_eq (e : Pat) : szP e = szPs e.args + 1 := by cases e; rfl
theorem okE_eq (e : Ex) : okE e = (okMs e.ms ∧ okN e.names ∧ okSs e.stages ∧ okP e.pat ∧ e.text.length ≤ big ∧ e.args.length ≤ big ∧ okEs e.args) := by cases e; rfl
theorem szEs_take : ∀ {l : List Ex} {i : Nat} (hi : i < l.length), szEs (l.take (i + 1)) = szEs (l.take i) + szE l[i]
  | a :: r, 0, hi => by simp [szEs]
  | a :: r, i + 1, hi => by simp only [List.take_succ_cons, szEs, List.getElem_cons_succ]; rw [szEs_take (i := i) (by simpa using hi)]; omega
theorem szEs_tk {l : List Ex} {i : Nat} : szEs (l.take i) ≤ szEs l := by
  induction l generalizing i with
  | nil => simp [szEs]
  | cons a r ih => cases i with
    | zero => simp [szEs]
    | succ i => have := ih (i := i); simp only [List.take_succ_cons, szEs]; omega
mutual
theorem depP_sz : ∀ p : Pat, depP p ≤ szP p
  | ⟨_, _, l⟩ => by have := depPs_sz l; simp only [depP, szP]; omega
theorem depPs_sz : ∀ l : List Pat, depPs l ≤ szPs l
  | [] => by simp [depPs]
  | a :: r => by have := depP_sz a; have := depPs_sz r; simp only [depPs, szPs]; omega
end
mutual
theorem depE_sz : ∀ p : Ex, depE p ≤ szE p
  | ⟨_, _, _, _, _, _, _, _, _, _, st, pat, _, l⟩ => by have := depEs_sz l; simp only [depE, szE]; omega
theorem depEs_sz : ∀ l : List Ex, depEs l ≤ szEs l
  | [] => by simp [depEs]
  | a :: r => by have := depE_sz a; have := depEs_sz r; simp only [depEs, szEs]; omega
end
theorem nI.congr {a b : Int} (h : a = b) : V.int .i64 a = V.int .i64 b := by rw [h]
theorem alg_szE : ∀ (k : Nat) (e : Ex) (n : Nat), depE e ≤ k → n ≤ 100 → okE e → PTri Tryz.prog 121 [exV e, nI n] (nI (min (n + szE e) 101 : Nat))
  | 0, e, n, hb, _, _ => by rw [depE_eq] at hb; omega
  | k + 1, e, n, hb, hn, ho => by
    rw [depE_eq] at hb
    rw [okE_eq] at ho
    obtain ⟨-, -, -, hop, -, hl, hos⟩ := ho
    simp only [big] at hl
    have hW : IntKind.i64.wrap ((n : Int) + IntKind.i64.wrap (1 + if (100 : Int) < (e.stages.length : Int) then 100 else (e.stages.length : Int))) = ((n + 1 + min e.stages.length 100 : Nat) : Int) := by
      rw [wrap64_fit (i := 1 + _) (by split <;> omega) (by split <;> omega), wrap64_fit (by split <;> omega) (by split <;> omega)]; split <;> omega
    have hz := szE_eq e
    generalize hq : n + 1 + e.stages.length + (if hasP e.pat = true then szP e.pat else 0) = q at *
    refine PTri.of_safe Tryz.func121 rfl Tryz.results121 Tryz.ntmps121 rfl ?_
    refine go 99 rfl ?_
    refine Safe.call (alg_hasP e) rfl rfl rfl ?_
    refine go 99 rfl ?_
    refine Safe.cut1 (α := Nat) (fun c => [(1, nI c), (2, .ptr 0 0)]) (fun c => [(0, .cells 34 (exC e) 16)]) 1 (fun c => min c 101 = min q 101 ∧ c ≤ 201) ?_ ?_
    · refine Safe.gs rfl (fun a => ?_) (fun a => ?_)
      · refine go 99 rfl ?_
        refine Safe.br rfl (fun c => ?_) (fun c => ?_)
        · have hx : n + 1 + min e.stages.length 100 ≤ 100 := lec (by rw [← hW]; exact c)
          refine go 99 rfl ?_
          refine Safe.eqv (nI.congr hW) ?_
          refine Safe.call (alg_szP _ e.pat _ (Nat.le_refl _) hx hop) rfl rfl rfl ?_
          refine go 99 rfl ?_
          rw [if_pos a] at hq
          exact ⟨sgI 1, _, ⟨by omega, by omega⟩, rfl, rfl, ⟨fit (rfl), fit rfl, trivial⟩, ⟨_, .refl _, .refl _⟩, rfl⟩
        · have hx : 100 < n + 1 + min e.stages.length 100 := gtc (by rw [← hW]; exact c)
          refine go 99 rfl ?_
          exact ⟨sgI 1, _, ⟨by omega, by omega⟩, rfl, rfl, ⟨fit (nIeq hW), fit rfl, trivial⟩, ⟨_, .refl _, .refl _⟩, rfl⟩
      · rw [if_neg (by simp [a])] at hq
        refine go 99 rfl ?_
        exact ⟨sgI 1, _, ⟨by omega, by omega⟩, rfl, rfl, ⟨fit (nIeq hW), fit rfl, trivial⟩, ⟨_, .refl _, .refl _⟩, rfl⟩
    · rintro c0 ⟨hc1, hc2⟩
      refine go 99 rfl ?_
      refine Safe.loop (α := Nat × Nat) (fun a => [(1, nI a.2), (25, slV exL e.args), (26, nI e.args.length), (27, nI a.1)]) (fun a => []) 0 (fun a => e.args.length - a.1) (fun a => a.1 ≤ e.args.length ∧ min a.2 101 = min (q + szEs (e.args.take a.1)) 101 ∧ a.2 ≤ 201) (0, c0) (sgI 0) ⟨⟨fit rfl, fit rfl, fit rfl, fit rfl, trivial⟩, ⟨_, .refl _, List.nil_sublist _⟩, rfl⟩ ⟨Nat.zero_le _, by simp [szEs]; omega, hc2⟩ ?_
      rintro ⟨i, x⟩ ⟨hi, hx1, hx2⟩
      simp only at hi hx1 hx2
      have htk := szEs_tk (l := e.args) (i := i)
      refine go 99 rfl ?_
      refine Safe.br rfl (fun c => ?_) (fun c => ?_)
      · have hi : i < e.args.length := ltc c
        refine go 99 rfl ?_
        refine Safe.idxF hi rfl rfl rfl ?_
        refine Safe.ldF (ldEx hi) rfl rfl rfl ?_
        refine go 99 rfl ?_
        refine Safe.br rfl (fun c => ?_) (fun c => ?_)
        · have hx : 100 < x := ltc c
          refine go 99 rfl ?_
          exact ⟨.inr rfl, trivial, .done (nIeq (by split <;> omega)) rfl⟩
        · have hx : x ≤ 100 := gec c
          refine go 99 rfl ?_
          refine Safe.call (alg_szE k e.args[i] _ (by have := depEs_mem hi; omega) hx (okEs_get hos hi)) rfl rfl rfl ?_
          refine go 99 rfl ?_
          exact ⟨sgI 0, (i + 1, _), ⟨hi, by simp only [szEs_take hi]; omega, by simp only; omega⟩, mlt hi, rfl, rfl, ⟨fit rfl, fit rfl, fit rfl, fit (isucc (by omega)), trivial⟩, ⟨_, .refl _, List.nil_sublist _⟩, rfl⟩
      · have hi2 : i = e.args.length := Nat.le_antisymm hi (gec c)
        subst hi2
        rw [List.take_length] at hx1
        refine go 99 rfl ?_
        exact ⟨.inr rfl, trivial, .done (nIeq (by split <;> omega)) rfl⟩
mutual
def cntE : Ex → Nat → Nat
  | ⟨_, _, _, _, _, _, _, _, _, _, st, pat, _, l⟩, n => if 100 < st.length then 101 else cntEs l (if hasP pat = true ∧ n + 1 + st.length ≤ 100 then min (n + 1 + st.length + szP pat) 101 else n + 1 + st.length)
def cntEs : List Ex → Nat → Nat
  | [], n => n
  | a :: r, n => if n ≤ 100 then cntEs r (cntE a n) else n
end
theorem cntE_eq (e : Ex) (n : Nat) : cntE e n = if 100 < e.stages.length then 101 else cntEs e.args (if hasP e.pat = true ∧ n + 1 + e.stages.length ≤ 100 then min (n + 1 + e.stages.length + szP e.pat) 101 else n + 1 + e.stages.length) := by cases e; rfl
theorem cntEs_step {l : List Ex} {i n : Nat} (hi : i < l.length) : cntEs (l.drop i) n = if n ≤ 100 then cntEs (l.drop (i + 1)) (cntE l[i] n) else n := by
  rw [List.drop_eq_getElem_cons hi]; rfl
mutual
theorem cntE_sz : ∀ (e : Ex) (n : Nat), n ≤ 100 → min (cntE e n) 101 = min (n + szE e) 101 ∧ cntE e n ≤ 201
  | ⟨_, _, _, _, _, _, _, _, _, _, st, pat, _, l⟩, n, hn => by
    simp only [cntE, szE]
    split
    · omega
    · have h1 : (if hasP pat = true ∧ n + 1 + st.length ≤ 100 then min (n + 1 + st.length + szP pat) 101 else n + 1 + st.length) ≤ 201 := by split <;> omega
      have h2 := cntEs_sz l _ h1
      have h3 : min (if hasP pat = true ∧ n + 1 + st.length ≤ 100 then min (n + 1 + st.length + szP pat) 101 else n + 1 + st.length) 101 = min (n + 1 + st.length + (if hasP pat = true then szP pat else 0)) 101 := by
        by_cases hp : hasP pat = true
        · simp only [hp, true_and, if_true]; split <;> omega
        · simp only [hp, if_false]; simp
      omega
theorem cntEs_sz : ∀ (l : List Ex) (n : Nat), n ≤ 201 → min (cntEs l n) 101 = min (n + szEs l) 101 ∧ cntEs l n ≤ 201
  | [], n, hn => by simp only [cntEs, szEs]; omega
  | a :: r, n, hn => by
    simp only [cntEs, szEs]
    split
    · rename_i h
      have h1 := cntE_sz a n h
      have h2 := cntEs_sz r (cntE a n) h1.2
      omega
    · omega
end
theorem ref_cnt : ∀ (k : Nat) (e : Ex) (n : Nat), depE e ≤ k → n ≤ 100 → okE e → PTri Tryz.prog 93 [exV e, nI n] (nI (cntE e n : Nat))
  | 0, e, n, hb, _, _ => by rw [depE_eq] at hb; omega
  | k + 1, e, n, hb, hn, ho => by
    rw [depE_eq] at hb
    rw [okE_eq] at ho
    obtain ⟨-, -, -, hop, -, hl, hos⟩ := ho
    have hpa : e.pat.conds.length ≤ big ∧ e.pat.args.length ≤ big := by
      generalize e.pat = p at hop
      cases p
      exact ⟨hop.1.1, hop.2.1⟩
    simp only [big] at hl hpa
    have hW1 : IntKind.i64.wrap ((n : Int) + 1) = ((n + 1 : Nat) : Int) := wrap64_fit (by omega) (by omega)
    rw [cntE_eq]
    refine PTri.of_safe Tryz.func93 rfl Tryz.results93 Tryz.ntmps93 rfl ?_
    refine go 99 rfl ?_
    refine Safe.br rfl (fun c => ?_) (fun c => ?_)
    · have hs : 100 < e.stages.length := ltc c
      rw [if_pos hs]
      refine go 99 rfl ?_
      exact ⟨.inr rfl, trivial, .done (rfl) rfl⟩
    · have hs : e.stages.length ≤ 100 := gec c
      rw [if_neg (by omega)]
      have hW2 : IntKind.i64.wrap (IntKind.i64.wrap ((n : Int) + 1) + (e.stages.length : Int)) = ((n + 1 + e.stages.length : Nat) : Int) := by rw [hW1]; exact wrap64_fit (by omega) (by omega)
      have hW3 : IntKind.i64.wrap ((e.pat.conds.length : Int) + (e.pat.args.length : Int)) = ((e.pat.conds.length + e.pat.args.length : Nat) : Int) := wrap64_fit (by omega) (by omega)
      refine go 99 rfl ?_
      refine Safe.cut1 (α := Nat) (fun c => [(1, nI c), (2, .ptr 0 0)]) (fun c => [(0, .cells 34 (exC e) 16)]) 1 (fun c => c = (if hasP e.pat = true ∧ n + 1 + e.stages.length ≤ 100 then min (n + 1 + e.stages.length + szP e.pat) 101 else n + 1 + e.stages.length) ∧ c ≤ 201) ?_ ?_
      · refine Safe.gs rfl (fun a => ?_) (fun a => ?_)
        · have hp : hasP e.pat = true := by simp only [hasP, a, Bool.true_or]
          refine go 99 rfl ?_
          refine Safe.br rfl (fun c => ?_) (fun c => ?_)
          · have hx : n + 1 + e.stages.length ≤ 100 := lec (by rw [← hW2]; exact c)
            refine go 99 rfl ?_
            refine Safe.eqv (nI.congr hW2) ?_
            refine Safe.call (ref_szP _ e.pat _ (Nat.le_refl _) hx hop) rfl rfl rfl ?_
            refine go 99 rfl ?_
            exact ⟨sgI 1, _, ⟨by rw [if_pos ⟨hp, hx⟩], by omega⟩, rfl, rfl, ⟨fit (rfl), fit rfl, trivial⟩, ⟨_, .refl _, .refl _⟩, rfl⟩
          · have hx : 100 < n + 1 + e.stages.length := gtc (by rw [← hW2]; exact c)
            refine go 99 rfl ?_
            exact ⟨sgI 1, _, ⟨by rw [if_neg (fun h => by omega)], by omega⟩, rfl, rfl, ⟨fit (nIeq hW2), fit rfl, trivial⟩, ⟨_, .refl _, .refl _⟩, rfl⟩
        · refine go 99 rfl ?_
          refine Safe.gs rfl (fun b => ?_) (fun b => ?_)
          · have hp : hasP e.pat = true := by
              have : 0 < e.pat.conds.length + e.pat.args.length := ltc (by rw [← hW3]; exact b)
              have h2 : 0 < e.pat.conds.length ∨ 0 < e.pat.args.length := by omega
              simp only [hasP, Bool.or_eq_true, decide_eq_true_eq]
              rcases h2 with h | h
              · exact .inl (.inr h)
              · exact .inr h
            refine go 99 rfl ?_
            refine Safe.br rfl (fun c => ?_) (fun c => ?_)
            · have hx : n + 1 + e.stages.length ≤ 100 := lec (by rw [← hW2]; exact c)
              refine go 99 rfl ?_
              refine Safe.eqv (nI.congr hW2) ?_
              refine Safe.call (ref_szP _ e.pat _ (Nat.le_refl _) hx hop) rfl rfl rfl ?_
              refine go 99 rfl ?_
              exact ⟨sgI 1, _, ⟨by rw [if_pos ⟨hp, hx⟩], by omega⟩, rfl, rfl, ⟨fit (rfl), fit rfl, trivial⟩, ⟨_, .refl _, .refl _⟩, rfl⟩
            · have hx : 100 < n + 1 + e.stages.length := gtc (by rw [← hW2]; exact c)
              refine go 99 rfl ?_
              exact ⟨sgI 1, _, ⟨by rw [if_neg (fun h => by omega)], by omega⟩, rfl, rfl, ⟨fit (nIeq hW2), fit rfl, trivial⟩, ⟨_, .refl _, .refl _⟩, rfl⟩
          · have hp : hasP e.pat = false := by
              have h1 : e.pat.conds.length + e.pat.args.length ≤ 0 := gec (by rw [← hW3]; exact b)
              have h2 : e.pat.conds.length = 0 := by omega
              have h3 : e.pat.args.length = 0 := by omega
              simp only [hasP, h2, h3]
              simpa using a
            refine go 99 rfl ?_
            exact ⟨sgI 1, _, ⟨by rw [if_neg (fun h => by simp [hp] at h)], by omega⟩, rfl, rfl, ⟨fit (nIeq hW2), fit rfl, trivial⟩, ⟨_, .refl _, .refl _⟩, rfl⟩
      · rintro c0 ⟨hc1, hc2⟩
        rw [← hc1]
        refine go 99 rfl ?_
        refine Safe.loop (α := Nat × Nat) (fun a => [(1, nI a.2), (2, .ptr 0 0), (5, nI a.1)]) (fun a => [(0, .cells 34 (exC e) 16)]) 1 (fun a => e.args.length - a.1) (fun a => a.1 ≤ e.args.length ∧ cntEs e.args c0 = cntEs (e.args.drop a.1) a.2 ∧ a.2 ≤ 201) (0, c0) (sgI 1) ⟨⟨fit rfl, fit rfl, fit rfl, trivial⟩, ⟨_, .refl _, .refl _⟩, rfl⟩ ⟨Nat.zero_le _, rfl, hc2⟩ ?_
        rintro ⟨i, x⟩ ⟨hi, hx1, hx2⟩
        simp only at hi hx1 hx2
        refine go 99 rfl ?_
        refine Safe.gs rfl (fun a => ?_) (fun a => ?_)
        · have hi : i < e.args.length := ltc a
          rw [cntEs_step hi] at hx1
          refine go 99 rfl ?_
          refine Safe.br rfl (fun c => ?_) (fun c => ?_)
          · have hx : x ≤ 100 := lec c
            rw [if_pos hx] at hx1
            refine go 99 rfl ?_
            refine Safe.idxF hi rfl rfl rfl ?_
            refine Safe.ldF (ldEx hi) rfl rfl rfl ?_
            refine go 99 rfl ?_
            refine Safe.call (ref_cnt k e.args[i] x (by have := depEs_mem hi; omega) hx (okEs_get hos hi)) rfl rfl rfl ?_
            refine go 99 rfl ?_
            exact ⟨sgI 1, (i + 1, _), ⟨hi, hx1, (cntE_sz _ _ hx).2⟩, mlt hi, rfl, rfl, ⟨fit rfl, fit rfl, fit (isucc (by omega)), trivial⟩, ⟨_, .refl _, .refl _⟩, rfl⟩
          · have hx : 100 < x := gtc c
            rw [if_neg (by omega)] at hx1
            refine go 99 rfl ?_
            exact ⟨.inr rfl, trivial, .done (nIeq (by rw [hx1])) rfl⟩
        · have hi2 : i = e.args.length := Nat.le_antisymm hi (gec a)
          subst hi2
          rw [List.drop_length] at hx1
          refine go 99 rfl ?_
          exact ⟨.inr rfl, trivial, .done (nIeq (by rw [hx1]; rfl)) rfl⟩
theorem ref_size (e : Ex) (ho : okE e) : PTri Tryz.prog 52 [exV e] (nI (min (szE e) 101 : Nat)) := by
  have h := (cntE_sz e 0 (by omega)).1
  refine PTri.of_safe Tryz.func52 rfl Tryz.results52 Tryz.ntmps52 rfl ?_
  refine go 99 rfl ?_
  refine Safe.call (ref_cnt _ e 0 (Nat.le_refl _) (by omega) ho) rfl rfl rfl ?_
  refine go 99 rfl ?_
  exact ⟨.inr rfl, trivial, .done (nIeq (by split <;> omega)) rfl⟩
theorem alg_size (e : Ex) (ho : okE e) : PTri Tryz.prog 79 [exV e] (nI (min (szE e) 101 : Nat)) := by
  refine PTri.of_safe Tryz.func79 rfl Tryz.results79 Tryz.ntmps79 rfl ?_
  refine go 99 rfl ?_
  refine Safe.call (alg_szE _ e 0 (Nat.le_refl _) (by omega) ho) rfl rfl rfl ?_
  refine go 99 rfl ?_
  exact ⟨.inr rfl, trivial, .done (nIeq (by omega)) rfl⟩
end Go.Proofs.YtijfihbdcdkalaaGreatDoor
end

section
namespace Go.Proofs.YtijfihbdcdkalaaGreatDoor
open Go.Fw
variable [Gl]
set_option maxRecDepth 20000
def isNB (c : Int) : Bool := (decide (97 ≤ c) && decide (c ≤ 122)) || (decide (65 ≤ c) && decide (c ≤ 90)) || (decide (48 ≤ c) && decide (c ≤ 57)) || c == 95
def isVB (c : Int) : Bool := c == 95 || (decide (97 ≤ c) && decide (c ≤ 122))
theorem ref_letter (c : Int) : PTri Tryz.prog 232 [.int .u8 c] (.bool (isNB c)) := by
  refine PTri.of_safe Tryz.func232 rfl Tryz.results232 Tryz.ntmps232 rfl ?_
  refine go 99 rfl ?_
  repeat' (first | (refine Safe.gs rfl (fun a => ?_) (fun a => ?_) <;> refine go 99 rfl ?_) | (refine Safe.br rfl (fun a => ?_) (fun a => ?_) <;> refine go 99 rfl ?_))
  all_goals exact ⟨.inr rfl, trivial, .done (bIeq (by simp_all [isNB] <;> omega)) rfl⟩
theorem lab_nb (c : Int) : PTri Tryz.prog 261 [.int .u8 c] (.bool (isNB c)) := by
  refine PTri.of_safe Tryz.func261 rfl Tryz.results261 Tryz.ntmps261 rfl ?_
  refine go 99 rfl ?_
  repeat' (first | (refine Safe.gs rfl (fun a => ?_) (fun a => ?_) <;> refine go 99 rfl ?_) | (refine Safe.br rfl (fun a => ?_) (fun a => ?_) <;> refine go 99 rfl ?_))
  all_goals exact ⟨.inr rfl, trivial, .done (bIeq (by simp_all [isNB] <;> omega)) rfl⟩
def dig0 : By → Bool
  | [] => false
  | c :: _ => decide (48 ≤ (c.toNat : Int)) && decide ((c.toNat : Int) ≤ 57)
def isNm (s : By) : Bool := decide (1 ≤ s.length) && decide (s.length ≤ 60) && !dig0 s && s.all fun c => isNB c.toNat
theorem all_drop {f : UInt8 → Bool} {s : By} {i : Nat} (hi : i < s.length) : (s.drop i).all f = (f s[i] && (s.drop (i + 1)).all f) := by rw [List.drop_eq_getElem_cons hi, List.all_cons]
theorem ref_name (s : By) (hl : s.length ≤ big) : PTri Tryz.prog 205 [.str s] (.bool (isNm s)) := by
  simp only [big] at hl
  refine PTri.of_safe Tryz.func205 rfl Tryz.results205 Tryz.ntmps205 rfl ?_
  refine go 99 rfl ?_
  refine Safe.loop (α := Nat) (fun i => [(0, .str s), (3, nI i)]) (fun i => []) 0 (fun i => s.length - i) (fun i => i ≤ s.length ∧ s.all (fun c => isNB c.toNat) = (s.drop i).all (fun c => isNB c.toNat)) 0 (sgI 0) ⟨⟨fit rfl, fit rfl, trivial⟩, ⟨_, .refl _, List.nil_sublist _⟩, rfl⟩ ⟨Nat.zero_le _, rfl⟩ ?_
  rintro i ⟨hi, ha⟩
  refine go 99 rfl ?_
  refine Safe.br rfl (fun c => ?_) (fun c => ?_)
  · have hi : i < s.length := ltc c
    rw [all_drop hi] at ha
    refine go 99 rfl ?_
    refine Safe.idxS hi rfl rfl rfl ?_
    refine Safe.call (ref_letter _) rfl rfl rfl ?_
    refine go 99 rfl ?_
    refine Safe.br rfl (fun d => ?_) (fun d => ?_)
    · refine go 99 rfl ?_
      exact ⟨.inr rfl, trivial, .done (bIeq (by first | (simp_all [isNm]; done) | (simp_all [isNm]; omega) | (simp_all [isNm]; intros; omega) | (rw [Bool.eq_iff_iff]; simp_all [isNm]; omega))) rfl⟩
    · refine go 99 rfl ?_
      exact ⟨sgI 0, i + 1, ⟨hi, by simp_all⟩, mlt hi, rfl, rfl, ⟨fit rfl, fit (isucc (by omega)), trivial⟩, ⟨_, .refl _, List.nil_sublist _⟩, rfl⟩
  · have hi2 : i = s.length := Nat.le_antisymm hi (gec c)
    subst hi2
    rw [List.drop_length] at ha
    refine go 99 rfl ?_
    refine Safe.gs rfl (fun d => ?_) (fun d => ?_)
    · have h0 : 0 < s.length := ltc d
      obtain ⟨c0, r, rfl⟩ : ∃ c r, s = c :: r := by cases s with | nil => simp at h0 | cons x r' => exact ⟨x, r', rfl⟩
      refine go 99 rfl ?_
      refine Safe.gs rfl (fun e => ?_) (fun e => ?_)
      · refine go 99 rfl ?_
        refine Safe.idxS (i := 0) h0 rfl rfl rfl ?_
        refine go 99 rfl ?_
        refine Safe.gs rfl (fun f => ?_) (fun f => ?_)
        · have f' : (c0.toNat : Int) < 48 := of_decide_eq_true f
          clear f
          refine go 99 rfl ?_
          exact ⟨.inr rfl, trivial, .done (bIeq (by first | (simp_all [isNm, dig0]; done) | (simp_all [isNm, dig0]; omega) | (simp_all [isNm, dig0]; intros; omega) | (rw [Bool.eq_iff_iff]; simp_all [isNm, dig0]; omega))) rfl⟩
        · refine go 99 rfl ?_
          refine Safe.idxS (i := 0) h0 rfl rfl rfl ?_
          refine go 99 rfl ?_
          exact ⟨.inr rfl, trivial, .done (bIeq (by first | (simp_all [isNm, dig0]; done) | (simp_all [isNm, dig0]; omega) | (simp_all [isNm, dig0]; intros; omega) | (rw [Bool.eq_iff_iff]; simp_all [isNm, dig0]; omega))) rfl⟩
      · refine go 99 rfl ?_
        exact ⟨.inr rfl, trivial, .done (bIeq (by first | (simp_all [isNm]; done) | (simp_all [isNm]; omega) | (simp_all [isNm]; intros; omega) | (rw [Bool.eq_iff_iff]; simp_all [isNm]; omega))) rfl⟩
    · refine go 99 rfl ?_
      exact ⟨.inr rfl, trivial, .done (bIeq (by first | (simp_all [isNm]; done) | (simp_all [isNm]; omega) | (simp_all [isNm]; intros; omega) | (rw [Bool.eq_iff_iff]; simp_all [isNm]; omega))) rfl⟩
theorem lab_name (s : By) (hl : s.length ≤ big) : PTri Tryz.prog 252 [.str s] (.bool (isNm s)) := by
  simp only [big] at hl
  refine PTri.of_safe Tryz.func252 rfl Tryz.results252 Tryz.ntmps252 rfl ?_
  refine go 99 rfl ?_
  refine Safe.cut1 (α := Unit) (fun _ => [(0, .str s)]) (fun _ => []) 0 (fun _ => 1 ≤ s.length ∧ s.length ≤ 60 ∧ dig0 s = false) ?_ ?_
  · refine Safe.gs rfl (fun a => ?_) (fun a => ?_)
    · refine go 99 rfl ?_
      exact ⟨.inr rfl, trivial, .done (bIeq (by first | (simp_all [isNm]; done) | (simp_all [isNm]; omega) | (simp_all [isNm]; intros; omega) | (rw [Bool.eq_iff_iff]; simp_all [isNm]; omega))) rfl⟩
    · refine go 99 rfl ?_
      refine Safe.gs rfl (fun b => ?_) (fun b => ?_)
      · refine go 99 rfl ?_
        exact ⟨.inr rfl, trivial, .done (bIeq (by first | (simp_all [isNm]; done) | (simp_all [isNm]; omega) | (simp_all [isNm]; intros; omega) | (rw [Bool.eq_iff_iff]; simp_all [isNm]; omega))) rfl⟩
      · have h0 : 0 < s.length := by simp at a; omega
        obtain ⟨c0, r, rfl⟩ : ∃ c r, s = c :: r := by cases s with | nil => simp at h0 | cons x r' => exact ⟨x, r', rfl⟩
        refine go 99 rfl ?_
        refine Safe.idxS (i := 0) h0 rfl rfl rfl ?_
        refine go 99 rfl ?_
        refine Safe.gs rfl (fun e => ?_) (fun e => ?_)
        · refine go 99 rfl ?_
          refine Safe.idxS (i := 0) h0 rfl rfl rfl ?_
          refine go 99 rfl ?_
          refine Safe.br rfl (fun f => ?_) (fun f => ?_)
          · refine go 99 rfl ?_
            exact ⟨.inr rfl, trivial, .done (bIeq (by first | (simp_all [isNm, dig0]; done) | (simp_all [isNm, dig0]; omega) | (simp_all [isNm, dig0]; intros; omega) | (rw [Bool.eq_iff_iff]; simp_all [isNm, dig0]; omega))) rfl⟩
          · refine go 99 rfl ?_
            exact ⟨sgI 0, (), ⟨by simp, by simp at b; simp; omega, (by first | (simp_all [dig0]; done) | (simp_all [dig0]; omega) | (simp_all [dig0]; intros; omega) | (rw [Bool.eq_iff_iff]; simp_all [dig0]; omega))⟩, rfl, rfl, ⟨fit rfl, trivial⟩, ⟨_, .refl _, List.nil_sublist _⟩, rfl⟩
        · refine go 99 rfl ?_
          exact ⟨sgI 0, (), ⟨by simp, by simp at b; simp; omega, (by first | (simp_all [dig0]; done) | (simp_all [dig0]; omega) | (simp_all [dig0]; intros; omega) | (rw [Bool.eq_iff_iff]; simp_all [dig0]; omega))⟩, rfl, rfl, ⟨fit rfl, trivial⟩, ⟨_, .refl _, List.nil_sublist _⟩, rfl⟩
  · rintro ⟨⟩ ⟨h1, h2, h3⟩
    refine go 99 rfl ?_
    refine Safe.loop (α := Nat) (fun i => [(0, .str s), (3, nI i)]) (fun i => []) 0 (fun i => s.length - i) (fun i => i ≤ s.length ∧ s.all (fun c => isNB c.toNat) = (s.drop i).all (fun c => isNB c.toNat)) 0 (sgI 0) ⟨⟨fit rfl, fit rfl, trivial⟩, ⟨_, .refl _, List.nil_sublist _⟩, rfl⟩ ⟨Nat.zero_le _, rfl⟩ ?_
    rintro i ⟨hi, ha⟩
    refine go 99 rfl ?_
    refine Safe.br rfl (fun c => ?_) (fun c => ?_)
    · have hi : i < s.length := ltc c
      rw [all_drop hi] at ha
      refine go 99 rfl ?_
      refine Safe.idxS hi rfl rfl rfl ?_
      refine Safe.call (lab_nb _) rfl rfl rfl ?_
      refine go 99 rfl ?_
      refine Safe.br rfl (fun d => ?_) (fun d => ?_)
      · refine go 99 rfl ?_
        exact ⟨.inr rfl, trivial, .done (bIeq (by first | (simp_all [isNm]; done) | (simp_all [isNm]; omega) | (simp_all [isNm]; intros; omega) | (rw [Bool.eq_iff_iff]; simp_all [isNm]; omega))) rfl⟩
      · refine go 99 rfl ?_
        exact ⟨sgI 0, i + 1, ⟨hi, by simp_all⟩, mlt hi, rfl, rfl, ⟨fit rfl, fit (isucc (by omega)), trivial⟩, ⟨_, .refl _, List.nil_sublist _⟩, rfl⟩
    · have hi2 : i = s.length := Nat.le_antisymm hi (gec c)
      subst hi2
      rw [List.drop_length] at ha
      refine go 99 rfl ?_
      exact ⟨.inr rfl, trivial, .done (bIeq (by first | (simp_all [isNm]; done) | (simp_all [isNm]; omega) | (simp_all [isNm]; intros; omega) | (rw [Bool.eq_iff_iff]; simp_all [isNm]; omega))) rfl⟩
end Go.Proofs.YtijfihbdcdkalaaGreatDoor
end

section
namespace Go.Proofs.YtijfihbdcdkalaaGreatDoor
open Go.Fw
variable [Gl]
theorem le_anti {a b : By} (h : a ≤ b) (h' : b ≤ a) : a = b := List.le_antisymm h h'
theorem lt_le {a b : By} (h : a < b) : a ≤ b := List.le_of_lt h
theorem lt_ne {a b : By} (h : a ≤ b) (hn : a ≠ b) : a < b := Classical.byContradiction fun h1 => hn (le_anti h (by simpa using h1))
theorem bl_iff (x y : By) : Op.bytesLess x y = true ↔ x < y := by rw [Go.Proofs.bytesLess_eq]; simp
theorem bl_no (x y : By) : Op.bytesLess x y = false ↔ y ≤ x := by
  rw [← Bool.not_eq_true, bl_iff]
  exact List.not_lt
theorem le_nl (x p : By) : (Op.bytesLess x p || x == p) = !Op.bytesLess p x := by
  rw [Bool.eq_iff_iff]
  simp only [Bool.or_eq_true, bl_iff, beq_iff_eq, Bool.not_eq_true', bl_no]
  constructor
  · rintro (h | rfl)
    · exact lt_le h
    · exact List.le_refl _
  · intro h
    by_cases e : x = p
    · exact .inr e
    · exact .inl (lt_ne h e)
set_option maxRecDepth 20000
def lateN : Option By → By → Bool
  | none, _ => false
  | some p, s => !Op.bytesLess p s
def prvN (l : List By) (i : Nat) : Option By := if i = 0 then none else l[i - 1]?
def chkN (ok : By → Bool) : Option By → List By → Int
  | _, [] => 0
  | prev, s :: r => if ok s = false then 5 else if lateN prev s = true then 9 else chkN ok (some s) r
def namesE (ok : By → Bool) (l : List By) : Int := if 16 < l.length then 4 else chkN ok none l
theorem chkN_step {ok : By → Bool} {l : List By} {i : Nat} (h : i < l.length) : chkN ok (prvN l i) (l.drop i) = if ok l[i] = false then 5 else if lateN (prvN l i) l[i] = true then 9 else chkN ok (prvN l (i + 1)) (l.drop (i + 1)) := by
  have e : prvN l (i + 1) = some l[i] := by simp [prvN, h]
  rw [List.drop_eq_getElem_cons h, e]
  rfl
theorem prvN_pos {l : List By} {i : Nat} (h0 : 0 < i) (h : i < l.length) : prvN l i = some (l[i - 1]'(by omega)) := by
  simp [prvN, Nat.ne_of_gt h0, show i - 1 < l.length by omega]
theorem isub {i : Nat} (h : 0 < i) (h2 : i < 4611686018427387904) : IntKind.i64.wrap ((i : Int) - 1) = ((i - 1 : Nat) : Int) := by rw [wrap64_fit (by omega) (by omega)]; omega
theorem okN_get {l : List By} (h : okN l) {i : Nat} (hi : i < l.length) : l[i].length ≤ big := h.2 _ (List.getElem_mem hi)
theorem ref_names (l : List By) (hl : okN l) : PTri Tryz.prog 202 [slV strC l] (nI (namesE isNm l)) := by
  have hb := hl.1
  simp only [big] at hb
  refine PTri.of_safe Tryz.func202 rfl Tryz.results202 Tryz.ntmps202 rfl ?_
  refine go 99 rfl ?_
  refine Safe.br rfl (fun c => ?_) (fun c => ?_)
  · have hc := ltc c
    refine go 99 rfl ?_
    exact ⟨.inr rfl, trivial, .done (nIeq (by simp only [namesE]; rw [if_pos hc])) rfl⟩
  · have hc := gec c
    have hc : l.length ≤ 16 := hc
    have hE : namesE isNm l = chkN isNm none l := by simp only [namesE]; rw [if_neg (by omega)]
    refine go 99 rfl ?_
    refine Safe.loop (α := Nat) (fun i => [(0, slV strC l), (3, nI i)]) (fun i => []) 0 (fun i => l.length - i) (fun i => i ≤ l.length ∧ namesE isNm l = chkN isNm (prvN l i) (l.drop i)) 0 (sgI 0) ⟨⟨fit rfl, fit rfl, trivial⟩, ⟨_, .refl _, List.nil_sublist _⟩, rfl⟩ ⟨Nat.zero_le _, hE⟩ ?_
    rintro i ⟨hi, ha⟩
    refine go 99 rfl ?_
    refine Safe.br rfl (fun c1 => ?_) (fun c1 => ?_)
    · have hi : i < l.length := ltc c1
      rw [chkN_step hi] at ha
      refine go 99 rfl ?_
      refine Safe.idxF hi rfl rfl rfl ?_
      refine Safe.ldF (ldStr hi) rfl rfl rfl ?_
      refine Safe.call (ref_name l[i] (okN_get hl hi)) rfl rfl rfl ?_
      refine go 99 rfl ?_
      refine Safe.br rfl (fun d => ?_) (fun d => ?_)
      · rw [if_pos (by simpa using d)] at ha
        refine go 99 rfl ?_
        exact ⟨.inr rfl, trivial, .done (nIeq ha.symm) rfl⟩
      · rw [if_neg (by simp at d; simp [d])] at ha
        refine go 99 rfl ?_
        refine Safe.draw mixed ?_
        refine DS.go [0,1,2] rfl rfl (by kernel_rfl) ?_
        refine DS.gs 3 rfl rfl (fun c => ?_) (fun c => ?_)
        · have h0 : 0 < i := by have := of_decide_eq_true c; omega
          rw [prvN_pos h0 hi] at ha
          refine DS.go [3,4,5,8,9] rfl rfl (by kernel_rfl) ?_
          refine DS.val (i := 6) (ev_idxF (i := i - 1) (by omega) (isub h0 (by omega)) rfl).ev rfl rfl rfl rfl (by kernel_rfl) ?_
          refine DS.val (i := 7) (ev_ldF (ldStr (by omega)) rfl rfl).ev rfl rfl rfl rfl (by kernel_rfl) ?_
          refine DS.val (i := 10) (ev_idxF hi rfl rfl).ev rfl rfl rfl rfl (by kernel_rfl) ?_
          refine DS.val (i := 11) (ev_ldF (ldStr hi) rfl rfl).ev rfl rfl rfl rfl (by kernel_rfl) ?_
          refine DS.go [12,13] rfl rfl (by kernel_rfl) ?_
          refine DS.fin (by kernel_rfl) rfl ?_
          refine go 99 rfl ?_
          refine Safe.br rfl (fun e => ?_) (fun e => ?_)
          · rw [if_pos (by simpa [lateN] using e)] at ha
            refine go 99 rfl ?_
            exact ⟨.inr rfl, trivial, .done (nIeq ha.symm) rfl⟩
          · rw [if_neg (by simp at e; simp [lateN, e])] at ha
            refine go 99 rfl ?_
            exact ⟨sgI 0, i + 1, ⟨hi, ha⟩, mlt hi, rfl, rfl, ⟨fit rfl, fit (isucc (by omega)), trivial⟩, ⟨_, .refl _, List.nil_sublist _⟩, rfl⟩
        · have h0 : i = 0 := by have := of_decide_eq_false c; omega
          rw [if_neg (by simp [prvN, h0, lateN])] at ha
          refine DS.go [3,4,5,6,7,8,9,10,11,12,13] rfl rfl (by kernel_rfl) ?_
          refine DS.fin (by kernel_rfl) rfl ?_
          refine go 99 rfl ?_
          exact ⟨sgI 0, i + 1, ⟨hi, ha⟩, mlt hi, rfl, rfl, ⟨fit rfl, fit (isucc (by omega)), trivial⟩, ⟨_, .refl _, List.nil_sublist _⟩, rfl⟩
    · have hi2 : i = l.length := Nat.le_antisymm hi (gec c1)
      subst hi2
      rw [List.drop_length] at ha
      refine go 99 rfl ?_
      exact ⟨.inr rfl, trivial, .done (nIeq ha.symm) rfl⟩
end Go.Proofs.YtijfihbdcdkalaaGreatDoor
end

section
namespace Go.Proofs.YtijfihbdcdkalaaGreatDoor
open Go.Fw
variable [Gl]
set_option maxRecDepth 20000
set_option maxHeartbeats 2000000
abbrev Lb := By × By
def lbC (p : Lb) : List V := [.str p.1, .str p.2]
def lateL (prev : Option By) (x : By) : Bool := match prev with
  | some q => Op.bytesLess x q || x == q
  | none => false
def chkG : Option By → List Lb → Int
  | _, [] => 0
  | prev, p :: r => if isNm p.1 = false then 5 else if p.2 = [] then 1 else if 200 < p.2.length then 4 else if lateL prev p.1 = true then 9 else chkG (some p.1) r
def chkL (l : List Lb) : Int := if 16 < l.length then 4 else chkG none l
def prvL (l : List Lb) (i : Nat) : Option By := if i = 0 then none else (l[i - 1]?).map (·.1)
theorem chkG_step {l : List Lb} {i : Nat} (h : i < l.length) : chkG (prvL l i) (l.drop i) = if isNm l[i].1 = false then 5 else if l[i].2 = [] then 1 else if 200 < l[i].2.length then 4 else if lateL (prvL l i) l[i].1 = true then 9 else chkG (prvL l (i + 1)) (l.drop (i + 1)) := by
  have e : prvL l (i + 1) = some l[i].1 := by simp [prvL, h]
  rw [List.drop_eq_getElem_cons h, e]
  rfl
theorem prvL_pos {l : List Lb} {i : Nat} (h0 : 0 < i) (h : i < l.length) : prvL l i = some (l[i - 1]'(by omega)).1 := by
  simp [prvL, Nat.ne_of_gt h0, show i - 1 < l.length by omega]
def okL (l : List Lb) : Prop := l.length ≤ big ∧ ∀ p ∈ l, p.1.length ≤ big ∧ p.2.length ≤ big
theorem ldLb {l : List Lb} {i : Nat} (hi : i < l.length) : ldAt Tryz.prog 116 (cat lbC l) (i * 2) = some (.agg (lbC l[i])) := ld_cat (enc := lbC) (fun _ => rfl) hi (by kernel_rfl) (by kernel_rfl)
theorem ldLb0 {l : List Lb} {i : Nat} (hi : i < l.length) : ldAt Tryz.prog 9 (cat lbC l) (i * 2 + 0) = some (.str l[i].1) := ld_cat1 (enc := lbC) 0 (fun _ => rfl) hi (by decide) (by kernel_rfl) rfl
theorem lab_check (l : List Lb) (hl : okL l) : PTri Tryz.prog 233 [slV lbC l] (nI (chkL l)) := by
  have hb := hl.1
  simp only [big] at hb
  refine PTri.of_safe Tryz.func233 rfl Tryz.results233 Tryz.ntmps233 rfl ?_
  refine go 99 rfl ?_
  refine Safe.br rfl (fun c => ?_) (fun c => ?_)
  · have hc : 16 < l.length := ltc c
    refine go 99 rfl ?_
    exact ⟨.inr rfl, trivial, .done (nIeq (by simp only [chkL]; rw [if_pos hc])) rfl⟩
  · have hc : l.length ≤ 16 := gec c
    have hE : chkL l = chkG none l := by simp only [chkL]; rw [if_neg (by omega)]
    refine go 99 rfl ?_
    refine Safe.loop (α := Nat) (fun i => [(0, slV lbC l), (8, slV lbC l), (9, nI l.length), (10, nI i)]) (fun i => []) 0 (fun i => l.length - i) (fun i => i ≤ l.length ∧ chkL l = chkG (prvL l i) (l.drop i)) 0 (sgI 0) ⟨⟨fit rfl, fit rfl, fit rfl, fit rfl, trivial⟩, ⟨_, .refl _, List.nil_sublist _⟩, rfl⟩ ⟨Nat.zero_le _, hE⟩ ?_
    rintro i ⟨hi, ha⟩
    refine go 99 rfl ?_
    refine Safe.br rfl (fun c1 => ?_) (fun c1 => ?_)
    · have hi : i < l.length := ltc c1
      rw [chkG_step hi] at ha
      refine go 99 rfl ?_
      refine Safe.idxF hi rfl rfl rfl ?_
      refine Safe.ldF (ldLb hi) rfl rfl rfl ?_
      refine go 99 rfl ?_
      refine Safe.call (lab_name l[i].1 (hl.2 _ (List.getElem_mem hi)).1) rfl rfl rfl ?_
      refine go 99 rfl ?_
      refine Safe.br rfl (fun d => ?_) (fun d => ?_)
      · rw [if_pos (by simpa using d)] at ha
        refine go 99 rfl ?_
        exact ⟨.inr rfl, trivial, .done (nIeq ha.symm) rfl⟩
      · rw [if_neg (by simp at d; simp [d])] at ha
        refine go 99 rfl ?_
        refine Safe.br rfl (fun d2 => ?_) (fun d2 => ?_)
        · rw [if_pos (by simpa using d2)] at ha
          refine go 99 rfl ?_
          exact ⟨.inr rfl, trivial, .done (nIeq ha.symm) rfl⟩
        · rw [if_neg (by simpa using d2)] at ha
          refine go 99 rfl ?_
          refine Safe.br rfl (fun d3 => ?_) (fun d3 => ?_)
          · have h3 : 200 < l[i].2.length := ltc d3
            rw [if_pos h3] at ha
            refine go 99 rfl ?_
            exact ⟨.inr rfl, trivial, .done (nIeq ha.symm) rfl⟩
          · have h3 : l[i].2.length ≤ 200 := gec d3
            rw [if_neg (by omega)] at ha
            refine go 99 rfl ?_
            refine Safe.draw mixed ?_
            refine DS.go [0,1,2] rfl rfl (by kernel_rfl) ?_
            refine DS.gs 3 rfl rfl (fun c => ?_) (fun c => ?_)
            · have h0 : 0 < i := by have := of_decide_eq_true c; omega
              rw [prvL_pos h0 hi] at ha
              refine DS.go [3,4,5,6,7] rfl rfl (by kernel_rfl) ?_
              refine DS.val (i := 8) (ev_idxF (i := i - 1) (by omega) (isub h0 (by omega)) rfl).ev rfl rfl rfl rfl (by kernel_rfl) ?_
              refine DS.go [9] rfl rfl (by kernel_rfl) ?_
              refine DS.val (i := 10) (ev_ldF (ldLb0 (by omega)) rfl rfl).ev rfl rfl rfl rfl (by kernel_rfl) ?_
              refine DS.go [11,12,13] rfl rfl (by kernel_rfl) ?_
              refine DS.fin (by kernel_rfl) rfl ?_
              refine go 99 rfl ?_
              refine Safe.br rfl (fun e => ?_) (fun e => ?_)
              · rw [if_pos (show lateL (some _) _ = true from e)] at ha
                refine go 99 rfl ?_
                exact ⟨.inr rfl, trivial, .done (nIeq ha.symm) rfl⟩
              · rw [if_neg (fun h => by rw [show lateL (some _) _ = false from e] at h; cases h)] at ha
                refine go 99 rfl ?_
                exact ⟨sgI 0, i + 1, ⟨hi, ha⟩, mlt hi, rfl, rfl, ⟨fit rfl, fit rfl, fit rfl, fit (isucc (by omega)), trivial⟩, ⟨_, .refl _, List.nil_sublist _⟩, rfl⟩
            · have h0 : i = 0 := by have := of_decide_eq_false c; omega
              rw [if_neg (by simp [prvL, h0, lateL])] at ha
              refine DS.go [3,4,5,6,7,8,9,10,11,12,13] rfl rfl (by kernel_rfl) ?_
              refine DS.fin (by kernel_rfl) rfl ?_
              refine go 99 rfl ?_
              exact ⟨sgI 0, i + 1, ⟨hi, ha⟩, mlt hi, rfl, rfl, ⟨fit rfl, fit rfl, fit rfl, fit (isucc (by omega)), trivial⟩, ⟨_, .refl _, List.nil_sublist _⟩, rfl⟩
    · have hi2 : i = l.length := Nat.le_antisymm hi (gec c1)
      subst hi2
      rw [List.drop_length] at ha
      refine go 99 rfl ?_
      exact ⟨.inr rfl, trivial, .done (nIeq ha.symm) rfl⟩
theorem chkL_one (s : By) : (chkL [(s, [120])] == 0) = isNm s := by
  simp only [chkL, chkG, List.length_singleton]
  cases h : isNm s <;> simp [lateL]
theorem alg_name (s : By) (hl : s.length ≤ big) : PTri Tryz.prog 210 [.str s] (.bool (isNm s)) := by
  refine PTri.of_safe Tryz.func210 rfl Tryz.results210 Tryz.ntmps210 rfl ?_
  refine go 99 rfl ?_
  refine Safe.frzO 0 rfl rfl ?_
  refine Safe.call (lab_check [(s, [120])] ⟨by simp [big], by simp; exact ⟨hl, by simp [big]⟩⟩) rfl rfl rfl ?_
  refine go 99 rfl ?_
  exact ⟨.inr rfl, trivial, .done (bIeq (chkL_one s)) rfl⟩
def nmS (sp : Bool) (s : By) : Bool := isNm s && (!sp || s == [110, 97, 109, 101] || s == [115, 101, 114, 118, 105, 99, 101])
theorem alg_names (l : List By) (sp : Bool) (hl : okN l) : PTri Tryz.prog 174 [slV strC l, .bool sp] (nI (namesE (nmS sp) l)) := by
  have hb := hl.1
  simp only [big] at hb
  refine PTri.of_safe Tryz.func174 rfl Tryz.results174 Tryz.ntmps174 rfl ?_
  refine go 99 rfl ?_
  refine Safe.br rfl (fun c => ?_) (fun c => ?_)
  · have hc : 16 < l.length := ltc c
    refine go 99 rfl ?_
    exact ⟨.inr rfl, trivial, .done (nIeq (by simp only [namesE]; rw [if_pos hc])) rfl⟩
  · have hc : l.length ≤ 16 := gec c
    have hE : namesE (nmS sp) l = chkN (nmS sp) none l := by simp only [namesE]; rw [if_neg (by omega)]
    refine go 99 rfl ?_
    refine Safe.loop (α := Nat) (fun i => [(0, slV strC l), (1, .bool sp), (10, slV strC l), (11, nI l.length), (12, nI i)]) (fun i => []) 0 (fun i => l.length - i) (fun i => i ≤ l.length ∧ namesE (nmS sp) l = chkN (nmS sp) (prvN l i) (l.drop i)) 0 (sgI 0) ⟨⟨fit rfl, fit rfl, fit rfl, fit rfl, fit rfl, trivial⟩, ⟨_, .refl _, List.nil_sublist _⟩, rfl⟩ ⟨Nat.zero_le _, hE⟩ ?_
    rintro i ⟨hi, ha⟩
    refine go 99 rfl ?_
    refine Safe.br rfl (fun c1 => ?_) (fun c1 => ?_)
    · have hi : i < l.length := ltc c1
      rw [chkN_step hi] at ha
      refine go 99 rfl ?_
      refine Safe.idxF hi rfl rfl rfl ?_
      refine Safe.ldF (ldStr hi) rfl rfl rfl ?_
      refine go 99 rfl ?_
      refine Safe.call (alg_name l[i] (okN_get hl hi)) rfl rfl rfl ?_
      refine go 99 rfl ?_
      refine Safe.cut1 (α := Unit) (fun _ => [(0, slV strC l), (1, .bool sp), (5, nI i), (6, .str l[i]), (10, slV strC l), (11, nI l.length), (12, nI i)]) (fun _ => []) 0 (fun _ => nmS sp l[i] = true) ?_ ?_
      · repeat' (first | (refine Safe.gs rfl (fun a => ?_) (fun a => ?_) <;> refine go 99 rfl ?_) | (refine Safe.br rfl (fun a => ?_) (fun a => ?_) <;> refine go 99 rfl ?_))
        all_goals first
          | (rw [if_pos (by first | (simp_all [nmS]; done) | (simp_all [nmS]; omega) | (simp_all [nmS]; intros; omega) | (rw [Bool.eq_iff_iff]; simp_all [nmS]; omega))] at ha; exact ⟨.inr rfl, trivial, .done (nIeq ha.symm) rfl⟩)
          | exact ⟨sgI 0, (), (by first | (simp_all [nmS]; done) | (simp_all [nmS]; omega) | (simp_all [nmS]; intros; omega) | (rw [Bool.eq_iff_iff]; simp_all [nmS]; omega)), rfl, rfl, ⟨fit rfl, fit rfl, fit rfl, fit rfl, fit rfl, fit rfl, fit rfl, trivial⟩, ⟨_, .refl _, List.nil_sublist _⟩, rfl⟩
      · rintro ⟨⟩ hn
        rw [if_neg (by simp [hn])] at ha
        refine go 99 rfl ?_
        refine Safe.gs rfl (fun a => ?_) (fun a => ?_)
        · have h0 : 0 < i := by have := of_decide_eq_true a; omega
          rw [prvN_pos h0 hi] at ha
          refine go 99 rfl ?_
          refine Safe.idxF (i := i - 1) (by omega) (isub h0 (by omega)) rfl rfl ?_
          refine Safe.ldF (ldStr (by omega)) rfl rfl rfl ?_
          refine go 99 rfl ?_
          refine Safe.br rfl (fun e => ?_) (fun e => ?_)
          · rw [if_pos (by rw [lateN, ← le_nl]; exact e)] at ha
            refine go 99 rfl ?_
            exact ⟨.inr rfl, trivial, .done (nIeq ha.symm) rfl⟩
          · rw [if_neg (fun h => by rw [lateN, ← le_nl] at h; have e2 := e.symm.trans h; cases e2)] at ha
            refine go 99 rfl ?_
            exact ⟨sgI 0, i + 1, ⟨hi, ha⟩, mlt hi, rfl, rfl, ⟨fit rfl, fit rfl, fit rfl, fit rfl, fit (isucc (by omega)), trivial⟩, ⟨_, .refl _, List.nil_sublist _⟩, rfl⟩
        · have h0 : i = 0 := by have := of_decide_eq_false a; omega
          rw [if_neg (by simp [prvN, h0, lateN])] at ha
          refine go 99 rfl ?_
          exact ⟨sgI 0, i + 1, ⟨hi, ha⟩, mlt hi, rfl, rfl, ⟨fit rfl, fit rfl, fit rfl, fit rfl, fit (isucc (by omega)), trivial⟩, ⟨_, .refl _, List.nil_sublist _⟩, rfl⟩
    · have hi2 : i = l.length := Nat.le_antisymm hi (gec c1)
      subst hi2
      rw [List.drop_length] at ha
      refine go 99 rfl ?_
      exact ⟨.inr rfl, trivial, .done (nIeq ha.symm) rfl⟩
end Go.Proofs.YtijfihbdcdkalaaGreatDoor
end

section
namespace Go.Proofs.YtijfihbdcdkalaaGreatDoor
open Go.Fw
variable [Gl]
set_option maxRecDepth 20000
set_option maxHeartbeats 2000000
theorem ldM0 {l : List Mat} {i : Nat} (hi : i < l.length) : ldAt Tryz.prog 3 (cat matC l) (i * 3 + 0) = some (nI l[i].kind) := ld_cat1 (enc := matC) 0 (fun _ => rfl) hi (by decide) (by kernel_rfl) rfl
theorem ldM1 {l : List Mat} {i : Nat} (hi : i < l.length) : ldAt Tryz.prog 9 (cat matC l) (i * 3 + 1) = some (.str l[i].name) := ld_cat1 (enc := matC) 1 (fun _ => rfl) hi (by decide) (by kernel_rfl) rfl
theorem ldM2 {l : List Mat} {i : Nat} (hi : i < l.length) : ldAt Tryz.prog 9 (cat matC l) (i * 3 + 2) = some (.str l[i].value) := ld_cat1 (enc := matC) 2 (fun _ => rfl) hi (by decide) (by kernel_rfl) rfl
theorem ldM {l : List Mat} {i : Nat} (hi : i < l.length) : ldAt Tryz.prog 118 (cat matC l) (i * 3) = some (.agg (matC l[i])) := ld_cat (enc := matC) (fun _ => rfl) hi (by kernel_rfl) (by kernel_rfl)
theorem ldS1 {l : List Stg} {i : Nat} (hi : i < l.length) : ldAt Tryz.prog 9 (cat stgC l) (i * 4 + 1) = some (.str l[i].text) := ld_cat1 (enc := stgC) 1 (fun _ => rfl) hi (by decide) (by kernel_rfl) rfl
theorem ldS2 {l : List Stg} {i : Nat} (hi : i < l.length) : ldAt Tryz.prog 23 (cat stgC l) (i * 4 + 2) = some (slV matC l[i].ms) := ld_cat1 (enc := stgC) 2 (fun _ => rfl) hi (by decide) (by kernel_rfl) rfl
theorem ldS3 {l : List Stg} {i : Nat} (hi : i < l.length) : ldAt Tryz.prog 26 (cat stgC l) (i * 4 + 3) = some (slV strC l[i].names) := ld_cat1 (enc := stgC) 3 (fun _ => rfl) hi (by decide) (by kernel_rfl) rfl
theorem ldS {l : List Stg} {i : Nat} (hi : i < l.length) : ldAt Tryz.prog 162 (cat stgC l) (i * 4) = some (.agg (stgC l[i])) := ld_cat (enc := stgC) (fun _ => rfl) hi (by kernel_rfl) (by kernel_rfl)
theorem ldC0 {l : List Cnd} {i : Nat} (hi : i < l.length) : ldAt Tryz.prog 9 (cat cndC l) (i * 4 + 0) = some (.str l[i].field) := ld_cat1 (enc := cndC) 0 (fun _ => rfl) hi (by decide) (by kernel_rfl) rfl
theorem ldC2 {l : List Cnd} {i : Nat} (hi : i < l.length) : ldAt Tryz.prog 9 (cat cndC l) (i * 4 + 2) = some (.str l[i].text) := ld_cat1 (enc := cndC) 2 (fun _ => rfl) hi (by decide) (by kernel_rfl) rfl
theorem ldC {l : List Cnd} {i : Nat} (hi : i < l.length) : ldAt Tryz.prog 170 (cat cndC l) (i * 4) = some (.agg (cndC l[i])) := ld_cat (enc := cndC) (fun _ => rfl) hi (by kernel_rfl) (by kernel_rfl)
theorem any_drop {α : Type} {f : α → Bool} {l : List α} {i : Nat} (hi : i < l.length) : (l.drop i).any f = (f l[i] || (l.drop (i + 1)).any f) := by rw [List.drop_eq_getElem_cons hi, List.any_cons]
def grM (x : Mat) : Bool := decide (61 < x.name.length) || (decide (40 < x.value.length) && decide (2 < x.kind)) || decide (201 < x.value.length)
def grMs (l : List Mat) : Bool := l.any grM || decide (17 < l.length)
theorem g07_great (l : List Mat) (hl : okMs l) : PTri Tryz.prog 94 [slV matC l] (.bool (grMs l)) := by
  have hb := hl.1
  simp only [big] at hb
  refine PTri.of_safe Tryz.func94 rfl Tryz.results94 Tryz.ntmps94 rfl ?_
  refine go 99 rfl ?_
  refine Safe.loop (α := Nat) (fun i => [(0, slV matC l), (3, nI i)]) (fun i => []) 0 (fun i => l.length - i) (fun i => i ≤ l.length ∧ grMs l = ((l.drop i).any grM || decide (17 < l.length))) 0 (sgI 0) ⟨⟨fit rfl, fit rfl, trivial⟩, ⟨_, .refl _, List.nil_sublist _⟩, rfl⟩ ⟨Nat.zero_le _, rfl⟩ ?_
  rintro i ⟨hi, ha⟩
  refine go 99 rfl ?_
  refine Safe.br rfl (fun c => ?_) (fun c => ?_)
  · have hi : i < l.length := ltc c
    rw [any_drop hi] at ha
    refine go 99 rfl ?_
    refine Safe.idxF hi rfl rfl rfl ?_
    refine go 99 rfl ?_
    refine Safe.ldF (ldM1 hi) rfl rfl rfl ?_
    refine go 99 rfl ?_
    refine Safe.cut2 (α := Unit) (fun _ => [(0, slV matC l), (3, nI i)]) (fun _ => []) 0 (fun _ => grM l[i] = false) ?_ ?_
    · refine Safe.gs rfl (fun a => ?_) (fun a => ?_)
      · refine go 99 rfl ?_
        exact ⟨.inr rfl, trivial, .done (bIeq (by rw [ha]; simp [grM, ltc a])) rfl⟩
      · have a1 := gec a
        refine go 99 rfl ?_
        refine Safe.idxF hi rfl rfl rfl ?_
        refine go 99 rfl ?_
        refine Safe.ldF (ldM2 hi) rfl rfl rfl ?_
        refine go 99 rfl ?_
        refine Safe.gs rfl (fun b => ?_) (fun b => ?_)
        · have b1 := ltc b
          refine go 99 rfl ?_
          refine Safe.idxF hi rfl rfl rfl ?_
          refine go 99 rfl ?_
          refine Safe.ldF (ldM0 hi) rfl rfl rfl ?_
          refine go 99 rfl ?_
          refine Safe.gs rfl (fun d => ?_) (fun d => ?_)
          · have d1 : 2 < l[i].kind := of_decide_eq_true d
            refine go 99 rfl ?_
            exact ⟨.inr rfl, trivial, .done (bIeq (by rw [ha]; simp [grM, b1, d1])) rfl⟩
          · have d1 : ¬ 2 < l[i].kind := of_decide_eq_false d
            refine go 99 rfl ?_
            refine Safe.idxF hi rfl rfl rfl ?_
            refine go 99 rfl ?_
            refine Safe.ldF (ldM2 hi) rfl rfl rfl ?_
            refine go 99 rfl ?_
            refine Safe.br rfl (fun e => ?_) (fun e => ?_)
            · refine go 99 rfl ?_
              exact ⟨.inr rfl, trivial, .done (bIeq (by rw [ha]; simp [grM, ltc e])) rfl⟩
            · have e1 := gec e
              refine go 99 rfl ?_
              exact ⟨sgI 0, (), by simp [grM] at *; omega, rfl, rfl, ⟨fit rfl, fit rfl, trivial⟩, ⟨_, .refl _, List.nil_sublist _⟩, rfl⟩
        · have b1 := gec b
          refine go 99 rfl ?_
          refine Safe.idxF hi rfl rfl rfl ?_
          refine go 99 rfl ?_
          refine Safe.ldF (ldM2 hi) rfl rfl rfl ?_
          refine go 99 rfl ?_
          refine Safe.br rfl (fun e => ?_) (fun e => ?_)
          · refine go 99 rfl ?_
            exact ⟨.inr rfl, trivial, .done (bIeq (by rw [ha]; simp [grM, ltc e])) rfl⟩
          · have e1 := gec e
            refine go 99 rfl ?_
            exact ⟨sgI 0, (), by simp [grM] at *; omega, rfl, rfl, ⟨fit rfl, fit rfl, trivial⟩, ⟨_, .refl _, List.nil_sublist _⟩, rfl⟩
    · rintro ⟨⟩ hn
      rw [hn, Bool.false_or] at ha
      refine go 99 rfl ?_
      exact ⟨sgI 0, i + 1, ⟨hi, ha⟩, mlt hi, rfl, rfl, ⟨fit rfl, fit (isucc (by omega)), trivial⟩, ⟨_, .refl _, List.nil_sublist _⟩, rfl⟩
  · have hi2 : i = l.length := Nat.le_antisymm hi (gec c)
    subst hi2
    rw [List.drop_length] at ha
    refine go 99 rfl ?_
    exact ⟨.inr rfl, trivial, .done (bIeq (by rw [ha]; simp; omega)) rfl⟩
def grN (s : By) : Bool := decide (70 < s.length)
def grNs (l : List By) : Bool := l.any grN || decide (17 < l.length)
theorem g_names (l : List By) (hl : okN l) : PTri Tryz.prog 95 [slV strC l] (.bool (grNs l)) := by
  have hb := hl.1
  simp only [big] at hb
  refine PTri.of_safe Tryz.func95 rfl Tryz.results95 Tryz.ntmps95 rfl ?_
  refine go 99 rfl ?_
  refine Safe.loop (α := Nat) (fun i => [(0, slV strC l), (3, nI i)]) (fun i => []) 0 (fun i => l.length - i) (fun i => i ≤ l.length ∧ grNs l = ((l.drop i).any grN || decide (17 < l.length))) 0 (sgI 0) ⟨⟨fit rfl, fit rfl, trivial⟩, ⟨_, .refl _, List.nil_sublist _⟩, rfl⟩ ⟨Nat.zero_le _, rfl⟩ ?_
  rintro i ⟨hi, ha⟩
  refine go 99 rfl ?_
  refine Safe.br rfl (fun c => ?_) (fun c => ?_)
  · have hi : i < l.length := ltc c
    rw [any_drop hi] at ha
    refine go 99 rfl ?_
    refine Safe.idxF hi rfl rfl rfl ?_
    refine Safe.ldF (ldStr hi) rfl rfl rfl ?_
    refine go 99 rfl ?_
    refine Safe.br rfl (fun a => ?_) (fun a => ?_)
    · refine go 99 rfl ?_
      exact ⟨.inr rfl, trivial, .done (bIeq (by rw [ha]; simp [grN, ltc a])) rfl⟩
    · have hn : grN l[i] = false := by have := gec a; simp [grN]; omega
      rw [hn, Bool.false_or] at ha
      refine go 99 rfl ?_
      exact ⟨sgI 0, i + 1, ⟨hi, ha⟩, mlt hi, rfl, rfl, ⟨fit rfl, fit (isucc (by omega)), trivial⟩, ⟨_, .refl _, List.nil_sublist _⟩, rfl⟩
  · have hi2 : i = l.length := Nat.le_antisymm hi (gec c)
    subst hi2
    rw [List.drop_length] at ha
    refine go 99 rfl ?_
    exact ⟨.inr rfl, trivial, .done (bIeq (by rw [ha]; simp; omega)) rfl⟩
def grS (x : Stg) : Bool := decide (210 < x.text.length) || grMs x.ms || grNs x.names
def grSs (l : List Stg) : Bool := if 12 < l.length ∧ l.length ≤ 100 then true else (l.take 12).any grS
theorem okS_get {l : List Stg} (h : okSs l) {i : Nat} (hi : i < l.length) : okS l[i] := h.2 _ (List.getElem_mem hi)
theorem any_tdrop {α : Type} {f : α → Bool} {l : List α} {i k : Nat} (hi : i < l.length) (hk : i < k) : ((l.take k).drop i).any f = (f l[i] || ((l.take k).drop (i + 1)).any f) := by
  have h2 : i < (l.take k).length := by simp; omega
  rw [any_drop h2, List.getElem_take]
theorem g_stages (l : List Stg) (hl : okSs l) : PTri Tryz.prog 96 [slV stgC l] (.bool (grSs l)) := by
  have hb := hl.1
  simp only [big] at hb
  refine PTri.of_safe Tryz.func96 rfl Tryz.results96 Tryz.ntmps96 rfl ?_
  refine go 99 rfl ?_
  refine Safe.cut1 (α := Unit) (fun _ => [(0, slV stgC l)]) (fun _ => []) 0 (fun _ => grSs l = (l.take 12).any grS) ?_ ?_
  · refine Safe.gs rfl (fun a => ?_) (fun a => ?_)
    · have a1 : 12 < l.length := ltc a
      refine go 99 rfl ?_
      refine Safe.br rfl (fun b => ?_) (fun b => ?_)
      · have b1 : l.length ≤ 100 := lec b
        refine go 99 rfl ?_
        exact ⟨.inr rfl, trivial, .done (bIeq (by simp [grSs, a1, b1])) rfl⟩
      · have b1 : 100 < l.length := gtc b
        refine go 99 rfl ?_
        exact ⟨sgI 0, (), by simp only [grSs]; rw [if_neg (by omega)], rfl, rfl, ⟨fit rfl, trivial⟩, ⟨_, .refl _, List.nil_sublist _⟩, rfl⟩
    · have a1 : l.length ≤ 12 := gec a
      refine go 99 rfl ?_
      exact ⟨sgI 0, (), by simp only [grSs]; rw [if_neg (by omega)], rfl, rfl, ⟨fit rfl, trivial⟩, ⟨_, .refl _, List.nil_sublist _⟩, rfl⟩
  · rintro ⟨⟩ h0
    refine go 99 rfl ?_
    refine Safe.loop (α := Nat) (fun i => [(0, slV stgC l), (3, nI i)]) (fun i => []) 0 (fun i => l.length - i) (fun i => i ≤ l.length ∧ grSs l = ((l.take 12).drop i).any grS) 0 (sgI 0) ⟨⟨fit rfl, fit rfl, trivial⟩, ⟨_, .refl _, List.nil_sublist _⟩, rfl⟩ ⟨Nat.zero_le _, h0⟩ ?_
    rintro i ⟨hi, ha⟩
    refine go 99 rfl ?_
    refine Safe.gs rfl (fun c => ?_) (fun c => ?_)
    · have hi : i < l.length := ltc c
      refine go 99 rfl ?_
      refine Safe.br rfl (fun c2 => ?_) (fun c2 => ?_)
      · have h12 : i < 12 := ltc c2
        rw [any_tdrop hi h12] at ha
        refine go 99 rfl ?_
        refine Safe.idxF hi rfl rfl rfl ?_
        refine go 99 rfl ?_
        refine Safe.ldF (ldS1 hi) rfl rfl rfl ?_
        refine go 99 rfl ?_
        refine Safe.cut2 (α := Unit) (fun _ => [(0, slV stgC l), (3, nI i)]) (fun _ => []) 0 (fun _ => grS l[i] = false) ?_ ?_
        · refine Safe.gs rfl (fun a => ?_) (fun a => ?_)
          · refine go 99 rfl ?_
            exact ⟨.inr rfl, trivial, .done (bIeq (by rw [ha]; simp [grS, ltc a])) rfl⟩
          · have a1 := gec a
            refine go 99 rfl ?_
            refine Safe.idxF hi rfl rfl rfl ?_
            refine go 99 rfl ?_
            refine Safe.ldF (ldS2 hi) rfl rfl rfl ?_
            refine Safe.call (g07_great l[i].ms (okS_get hl hi).2.1) rfl rfl rfl ?_
            refine go 99 rfl ?_
            refine Safe.gs rfl (fun b => ?_) (fun b => ?_)
            · refine go 99 rfl ?_
              exact ⟨.inr rfl, trivial, .done (bIeq (by rw [ha]; simp [grS, b])) rfl⟩
            · refine go 99 rfl ?_
              refine Safe.idxF hi rfl rfl rfl ?_
              refine go 99 rfl ?_
              refine Safe.ldF (ldS3 hi) rfl rfl rfl ?_
              refine Safe.call (g_names l[i].names (okS_get hl hi).2.2) rfl rfl rfl ?_
              refine go 99 rfl ?_
              refine Safe.br rfl (fun d => ?_) (fun d => ?_)
              · refine go 99 rfl ?_
                exact ⟨.inr rfl, trivial, .done (bIeq (by rw [ha]; simp [grS, d])) rfl⟩
              · refine go 99 rfl ?_
                exact ⟨sgI 0, (), by simp [grS, b, d]; omega, rfl, rfl, ⟨fit rfl, fit rfl, trivial⟩, ⟨_, .refl _, List.nil_sublist _⟩, rfl⟩
        · rintro ⟨⟩ hn
          rw [hn, Bool.false_or] at ha
          refine go 99 rfl ?_
          exact ⟨sgI 0, i + 1, ⟨hi, ha⟩, mlt hi, rfl, rfl, ⟨fit rfl, fit (isucc (by omega)), trivial⟩, ⟨_, .refl _, List.nil_sublist _⟩, rfl⟩
      · have h12 : 12 ≤ i := gec c2
        rw [List.drop_of_length_le (by simp; omega)] at ha
        refine go 99 rfl ?_
        exact ⟨.inr rfl, trivial, .done (bIeq (by rw [ha]; rfl)) rfl⟩
    · have hi2 : i = l.length := Nat.le_antisymm hi (gec c)
      subst hi2
      rw [List.drop_of_length_le (by simp; omega)] at ha
      refine go 99 rfl ?_
      exact ⟨.inr rfl, trivial, .done (bIeq (by rw [ha]; rfl)) rfl⟩
def grC (x : Cnd) : Bool := decide (210 < x.text.length) || decide (100 < x.field.length)
mutual
def grP : Pat → Bool
  | ⟨_, cs, l⟩ => decide (17 < cs.length) || cs.any grC || grPs l
def grPs : List Pat → Bool
  | [] => false
  | a :: r => grP a || grPs r
end
theorem grP_eq (p : Pat) : grP p = (decide (17 < p.conds.length) || p.conds.any grC || grPs p.args) := by cases p; rfl
theorem grPs_drop {l : List Pat} {i : Nat} (hi : i < l.length) : grPs (l.drop i) = (grP l[i] || grPs (l.drop (i + 1))) := by rw [List.drop_eq_getElem_cons hi]; rfl
theorem okP_eq (p : Pat) : okP p = ((p.conds.length ≤ big ∧ ∀ x ∈ p.conds, okC x) ∧ p.args.length ≤ big ∧ okPs p.args) := by cases p; rfl
theorem g_pat : ∀ (k : Nat) (e : Pat), depP e ≤ k → okP e → PTri Tryz.prog 97 [patV e] (.bool (grP e))
  | 0, e, hb, _ => by rw [depP_eq] at hb; omega
  | k + 1, e, hb, ho => by
    rw [depP_eq] at hb
    rw [okP_eq] at ho
    obtain ⟨⟨hc, -⟩, hl, hos⟩ := ho
    simp only [big] at hc hl
    have hE := grP_eq e
    refine PTri.of_safe Tryz.func97 rfl Tryz.results97 Tryz.ntmps97 rfl ?_
    refine go 99 rfl ?_
    refine Safe.br rfl (fun c => ?_) (fun c => ?_)
    · refine go 99 rfl ?_
      exact ⟨.inr rfl, trivial, .done (bIeq (by rw [hE]; simp [ltc c])) rfl⟩
    · have hc17 : e.conds.length ≤ 17 := gec c
      have hE2 : grP e = (e.conds.any grC || grPs e.args) := by rw [hE, decide_eq_false (by omega), Bool.false_or]
      refine go 99 rfl ?_
      refine Safe.loop (α := Nat) (fun i => [(1, .ptr 0 0), (3, nI i)]) (fun i => [(0, .cells 31 (patC e) 3)]) 1 (fun i => e.conds.length - i) (fun i => i ≤ e.conds.length ∧ grP e = ((e.conds.drop i).any grC || grPs e.args)) 0 (sgI 1) ⟨⟨fit rfl, fit rfl, trivial⟩, ⟨_, .refl _, .refl _⟩, rfl⟩ ⟨Nat.zero_le _, hE2⟩ ?_
      rintro i ⟨hi, ha⟩
      refine go 99 rfl ?_
      refine Safe.br rfl (fun c1 => ?_) (fun c1 => ?_)
      · have hi : i < e.conds.length := ltc c1
        rw [any_drop hi] at ha
        refine go 99 rfl ?_
        refine Safe.idxF hi rfl rfl rfl ?_
        refine go 99 rfl ?_
        refine Safe.ldF (ldC2 hi) rfl rfl rfl ?_
        refine go 99 rfl ?_
        refine Safe.cut2 (α := Unit) (fun _ => [(1, .ptr 0 0), (3, nI i)]) (fun _ => [(0, .cells 31 (patC e) 3)]) 1 (fun _ => grC e.conds[i] = false) ?_ ?_
        · refine Safe.gs rfl (fun a => ?_) (fun a => ?_)
          · refine go 99 rfl ?_
            exact ⟨.inr rfl, trivial, .done (bIeq (by rw [ha]; simp [grC, ltc a])) rfl⟩
          · have a1 : e.conds[i].text.length ≤ 210 := gec a
            refine go 99 rfl ?_
            refine Safe.idxF hi rfl rfl rfl ?_
            refine go 99 rfl ?_
            refine Safe.ldF (ldC0 hi) rfl rfl rfl ?_
            refine go 99 rfl ?_
            refine Safe.br rfl (fun b => ?_) (fun b => ?_)
            · refine go 99 rfl ?_
              exact ⟨.inr rfl, trivial, .done (bIeq (by rw [ha]; simp [grC, ltc b])) rfl⟩
            · have b1 : e.conds[i].field.length ≤ 100 := gec b
              refine go 99 rfl ?_
              exact ⟨sgI 1, (), by simp [grC]; omega, rfl, rfl, ⟨fit rfl, fit rfl, trivial⟩, ⟨_, .refl _, .refl _⟩, rfl⟩
        · rintro ⟨⟩ hn
          rw [hn, Bool.false_or] at ha
          refine go 99 rfl ?_
          exact ⟨sgI 1, i + 1, ⟨hi, ha⟩, mlt hi, rfl, rfl, ⟨fit rfl, fit (isucc (by omega)), trivial⟩, ⟨_, .refl _, .refl _⟩, rfl⟩
      · have hi2 : i = e.conds.length := Nat.le_antisymm hi (gec c1)
        subst hi2
        rw [List.drop_length] at ha
        refine go 99 rfl ?_
        refine Safe.loop (α := Nat) (fun i => [(1, .ptr 0 0), (4, nI i)]) (fun i => [(0, .cells 31 (patC e) 3)]) 1 (fun i => e.args.length - i) (fun i => i ≤ e.args.length ∧ grP e = grPs (e.args.drop i)) 0 (sgI 1) ⟨⟨fit rfl, fit rfl, trivial⟩, ⟨_, .refl _, .refl _⟩, rfl⟩ ⟨Nat.zero_le _, ha⟩ ?_
        rintro i ⟨hi, ha⟩
        refine go 99 rfl ?_
        refine Safe.br rfl (fun c2 => ?_) (fun c2 => ?_)
        · have hi : i < e.args.length := ltc c2
          rw [grPs_drop hi] at ha
          refine go 99 rfl ?_
          refine Safe.idxF hi rfl rfl rfl ?_
          refine Safe.ldF (ldPat hi) rfl rfl rfl ?_
          refine Safe.call (g_pat k e.args[i] (by have := depPs_mem hi; omega) (okPs_get hos hi)) rfl rfl rfl ?_
          refine go 99 rfl ?_
          refine Safe.br rfl (fun a => ?_) (fun a => ?_)
          · refine go 99 rfl ?_
            exact ⟨.inr rfl, trivial, .done (bIeq (by rw [ha]; simp [a])) rfl⟩
          · rw [a, Bool.false_or] at ha
            refine go 99 rfl ?_
            exact ⟨sgI 1, i + 1, ⟨hi, ha⟩, mlt hi, rfl, rfl, ⟨fit rfl, fit (isucc (by omega)), trivial⟩, ⟨_, .refl _, .refl _⟩, rfl⟩
        · have hi2 : i = e.args.length := Nat.le_antisymm hi (gec c2)
          subst hi2
          rw [List.drop_length] at ha
          refine go 99 rfl ?_
          exact ⟨.inr rfl, trivial, .done (bIeq (by rw [ha]; rfl)) rfl⟩
mutual
def grE : Ex → Bool
  | ⟨_, _, ms, _, _, _, _, names, _, _, st, pat, tx, l⟩ => decide (210 < tx.length) || grMs ms || grNs names || grSs st || grP pat || grEs l
def grEs : List Ex → Bool
  | [] => false
  | a :: r => grE a || grEs r
end
theorem grE_eq (e : Ex) : grE e = (decide (210 < e.text.length) || grMs e.ms || grNs e.names || grSs e.stages || grP e.pat || grEs e.args) := by cases e; rfl
theorem grEs_drop {l : List Ex} {i : Nat} (hi : i < l.length) : grEs (l.drop i) = (grE l[i] || grEs (l.drop (i + 1))) := by rw [List.drop_eq_getElem_cons hi]; rfl
theorem g_one : ∀ (k : Nat) (e : Ex), depE e ≤ k → okE e → PTri Tryz.prog 53 [exV e] (.bool (grE e))
  | 0, e, hb, _ => by rw [depE_eq] at hb; omega
  | k + 1, e, hb, ho => by
    rw [depE_eq] at hb
    rw [okE_eq] at ho
    obtain ⟨hms, hns, hss, hp, -, hl, hos⟩ := ho
    simp only [big] at hl
    have hE := grE_eq e
    refine PTri.of_safe Tryz.func53 rfl Tryz.results53 Tryz.ntmps53 rfl ?_
    refine go 99 rfl ?_
    refine Safe.cut1 (α := Unit) (fun _ => [(1, .ptr 0 0)]) (fun _ => [(0, .cells 34 (exC e) 16)]) 1 (fun _ => grE e = grEs e.args) ?_ ?_
    · refine Safe.gs rfl (fun a => ?_) (fun a => ?_)
      · refine go 99 rfl ?_
        exact ⟨.inr rfl, trivial, .done (bIeq (by rw [hE]; simp [ltc a])) rfl⟩
      · have a1 : e.text.length ≤ 210 := gec a
        refine go 99 rfl ?_
        refine Safe.call (g07_great e.ms hms) rfl rfl rfl ?_
        refine go 99 rfl ?_
        refine Safe.gs rfl (fun b => ?_) (fun b => ?_)
        · refine go 99 rfl ?_
          exact ⟨.inr rfl, trivial, .done (bIeq (by rw [hE]; simp [b])) rfl⟩
        · refine go 99 rfl ?_
          refine Safe.call (g_names e.names hns) rfl rfl rfl ?_
          refine go 99 rfl ?_
          refine Safe.gs rfl (fun d => ?_) (fun d => ?_)
          · refine go 99 rfl ?_
            exact ⟨.inr rfl, trivial, .done (bIeq (by rw [hE]; simp [d])) rfl⟩
          · refine go 99 rfl ?_
            refine Safe.call (g_stages e.stages hss) rfl rfl rfl ?_
            refine go 99 rfl ?_
            refine Safe.gs rfl (fun f => ?_) (fun f => ?_)
            · refine go 99 rfl ?_
              exact ⟨.inr rfl, trivial, .done (bIeq (by rw [hE]; simp [f])) rfl⟩
            · refine go 99 rfl ?_
              refine Safe.call (g_pat _ e.pat (Nat.le_refl _) hp) rfl rfl rfl ?_
              refine go 99 rfl ?_
              refine Safe.br rfl (fun p => ?_) (fun p => ?_)
              · refine go 99 rfl ?_
                exact ⟨.inr rfl, trivial, .done (bIeq (by rw [hE]; simp [p])) rfl⟩
              · refine go 99 rfl ?_
                exact ⟨sgI 1, (), by rw [hE, b, d, f, p]; simp; omega, rfl, rfl, ⟨fit rfl, trivial⟩, ⟨_, .refl _, .refl _⟩, rfl⟩
    · rintro ⟨⟩ h0
      refine go 99 rfl ?_
      refine Safe.loop (α := Nat) (fun i => [(1, .ptr 0 0), (3, nI i)]) (fun i => [(0, .cells 34 (exC e) 16)]) 1 (fun i => e.args.length - i) (fun i => i ≤ e.args.length ∧ grE e = grEs (e.args.drop i)) 0 (sgI 1) ⟨⟨fit rfl, fit rfl, trivial⟩, ⟨_, .refl _, .refl _⟩, rfl⟩ ⟨Nat.zero_le _, h0⟩ ?_
      rintro i ⟨hi, ha⟩
      refine go 99 rfl ?_
      refine Safe.br rfl (fun c2 => ?_) (fun c2 => ?_)
      · have hi : i < e.args.length := ltc c2
        rw [grEs_drop hi] at ha
        refine go 99 rfl ?_
        refine Safe.idxF hi rfl rfl rfl ?_
        refine Safe.ldF (ldEx hi) rfl rfl rfl ?_
        refine Safe.call (g_one k e.args[i] (by have := depEs_mem hi; omega) (okEs_get hos hi)) rfl rfl rfl ?_
        refine go 99 rfl ?_
        refine Safe.br rfl (fun a => ?_) (fun a => ?_)
        · refine go 99 rfl ?_
          exact ⟨.inr rfl, trivial, .done (bIeq (by rw [ha]; simp [a])) rfl⟩
        · rw [a, Bool.false_or] at ha
          refine go 99 rfl ?_
          exact ⟨sgI 1, i + 1, ⟨hi, ha⟩, mlt hi, rfl, rfl, ⟨fit rfl, fit (isucc (by omega)), trivial⟩, ⟨_, .refl _, .refl _⟩, rfl⟩
      · have hi2 : i = e.args.length := Nat.le_antisymm hi (gec c2)
        subst hi2
        rw [List.drop_length] at ha
        refine go 99 rfl ?_
        exact ⟨.inr rfl, trivial, .done (bIeq (by rw [ha]; rfl)) rfl⟩
def great (e : Ex) : Bool := decide (szE e ≤ 100) && (decide (20 < szE e) || grE e)
theorem g_great (e : Ex) (ho : okE e) : PTri Tryz.prog 13 [exV e] (.bool (great e)) := by
  refine PTri.of_safe Tryz.func13 rfl Tryz.results13 Tryz.ntmps13 rfl ?_
  refine go 99 rfl ?_
  refine Safe.call (ref_size e ho) rfl rfl rfl ?_
  refine go 99 rfl ?_
  refine Safe.gs rfl (fun a => ?_) (fun a => ?_)
  · have a1 : min (szE e) 101 ≤ 100 := lec a
    refine go 99 rfl ?_
    refine Safe.gs rfl (fun b => ?_) (fun b => ?_)
    · have b1 : 20 < min (szE e) 101 := ltc b
      refine go 99 rfl ?_
      exact ⟨.inr rfl, trivial, .done (bIeq (by simp [great]; omega)) rfl⟩
    · have b1 : min (szE e) 101 ≤ 20 := gec b
      refine go 99 rfl ?_
      refine Safe.call (g_one _ e (Nat.le_refl _) ho) rfl rfl rfl ?_
      refine go 99 rfl ?_
      exact ⟨.inr rfl, trivial, .done (bIeq (by simp only [great]; rw [decide_eq_true (by omega), decide_eq_false (by omega)]; rfl)) rfl⟩
  · have a1 : 100 < min (szE e) 101 := gtc a
    refine go 99 rfl ?_
    exact ⟨.inr rfl, trivial, .done (bIeq (by simp [great]; omega)) rfl⟩
end Go.Proofs.YtijfihbdcdkalaaGreatDoor
end

section
namespace Go.Proofs.YtijfihbdcdkalaaGreatDoor
open Go.Fw
variable [Gl]
set_option maxRecDepth 20000
set_option maxHeartbeats 2000000
def errG {α : Type} (f : α → Int) : List α → Int
  | [] => 0
  | x :: r => if f x ≠ 0 then f x else errG f r
theorem errG_step {α : Type} {f : α → Int} {l : List α} {i : Nat} (hi : i < l.length) : errG f (l.drop i) = if f l[i] ≠ 0 then f l[i] else errG f (l.drop (i + 1)) := by rw [List.drop_eq_getElem_cons hi]; rfl
def matE (rx : By → Int) (x : Mat) : Int := if x.kind < 1 ∨ 4 < x.kind then 8 else if isNm x.name = false then 5 else if 2 < x.kind then rx x.value else if 200 < x.value.length then 4 else 0
def matsE (rx : By → Int) (l : List Mat) : Int := if 16 < l.length then 4 else errG (matE rx) l
abbrev RefRx (rx : By → Int) : Prop := ∀ s : By, s.length ≤ big → PTri Tryz.prog 226 [.str s] (nI (rx s))
abbrev AlgRx (rx : By → Int) : Prop := ∀ s : By, s.length ≤ big → PTri Tryz.prog 234 [.str s] (nI (rx s))
variable {rx : By → Int}
abbrev matV (x : Mat) : V := .agg (matC x)
theorem ref_mat (H : RefRx rx) (x : Mat) (ho : okM x) : PTri Tryz.prog 191 [matV x] (nI (matE rx x)) := by
  refine PTri.of_safe Tryz.func191 rfl Tryz.results191 Tryz.ntmps191 rfl ?_
  refine go 99 rfl ?_
  refine Safe.cut1 (α := Unit) (fun _ => [(1, .ptr 0 0)]) (fun _ => [(0, .cells 118 (matC x) 3)]) 1 (fun _ => ¬ (x.kind < 1 ∨ 4 < x.kind)) ?_ ?_
  · refine Safe.gs rfl (fun a => ?_) (fun a => ?_)
    · have a1 : x.kind < 1 := of_decide_eq_true a
      refine go 99 rfl ?_
      exact ⟨.inr rfl, trivial, .done (nIeq (by simp only [matE]; rw [if_pos (.inl a1)])) rfl⟩
    · have a1 : ¬ x.kind < 1 := of_decide_eq_false a
      refine go 99 rfl ?_
      refine Safe.br rfl (fun b => ?_) (fun b => ?_)
      · have b1 : 4 < x.kind := of_decide_eq_true b
        refine go 99 rfl ?_
        exact ⟨.inr rfl, trivial, .done (nIeq (by simp only [matE]; rw [if_pos (.inr b1)])) rfl⟩
      · have b1 : ¬ 4 < x.kind := of_decide_eq_false b
        refine go 99 rfl ?_
        exact ⟨sgI 1, (), by omega, rfl, rfl, ⟨fit rfl, trivial⟩, ⟨_, .refl _, .refl _⟩, rfl⟩
  · rintro ⟨⟩ h1
    refine go 99 rfl ?_
    refine Safe.call (ref_name x.name ho.1) rfl rfl rfl ?_
    refine go 99 rfl ?_
    refine Safe.br rfl (fun a => ?_) (fun a => ?_)
    · refine go 99 rfl ?_
      exact ⟨.inr rfl, trivial, .done (nIeq (by simp only [matE]; rw [if_neg h1, if_pos (by simpa using a)])) rfl⟩
    · have a1 : ¬ isNm x.name = false := by simp at a; simp [a]
      refine go 99 rfl ?_
      refine Safe.br rfl (fun b => ?_) (fun b => ?_)
      · have b1 : 2 < x.kind := of_decide_eq_true b
        refine go 99 rfl ?_
        refine Safe.call (H x.value ho.2) rfl rfl rfl ?_
        refine go 99 rfl ?_
        exact ⟨.inr rfl, trivial, .done (nIeq (by simp only [matE]; rw [if_neg h1, if_neg a1, if_pos b1])) rfl⟩
      · have b1 : ¬ 2 < x.kind := of_decide_eq_false b
        refine go 99 rfl ?_
        refine Safe.br rfl (fun d => ?_) (fun d => ?_)
        · have d1 : 200 < x.value.length := ltc d
          refine go 99 rfl ?_
          exact ⟨.inr rfl, trivial, .done (nIeq (by simp only [matE]; rw [if_neg h1, if_neg a1, if_neg b1, if_pos d1])) rfl⟩
        · have d1 : x.value.length ≤ 200 := gec d
          refine go 99 rfl ?_
          exact ⟨.inr rfl, trivial, .done (nIeq (by simp only [matE]; rw [if_neg h1, if_neg a1, if_neg b1, if_neg (by omega)])) rfl⟩
theorem alg_mat (H : AlgRx rx) (x : Mat) (ho : okM x) : PTri Tryz.prog 208 [matV x] (nI (matE rx x)) := by
  refine PTri.of_safe Tryz.func208 rfl Tryz.results208 Tryz.ntmps208 rfl ?_
  refine go 99 rfl ?_
  refine Safe.cut1 (α := Unit) (fun _ => [(1, .ptr 0 0)]) (fun _ => [(0, .cells 118 (matC x) 3)]) 1 (fun _ => ¬ (x.kind < 1 ∨ 4 < x.kind)) ?_ ?_
  · refine Safe.gs rfl (fun a => ?_) (fun a => ?_)
    · have a1 : x.kind < 1 := of_decide_eq_true a
      refine go 99 rfl ?_
      exact ⟨.inr rfl, trivial, .done (nIeq (by simp only [matE]; rw [if_pos (.inl a1)])) rfl⟩
    · have a1 : ¬ x.kind < 1 := of_decide_eq_false a
      refine go 99 rfl ?_
      refine Safe.br rfl (fun b => ?_) (fun b => ?_)
      · have b1 : 4 < x.kind := of_decide_eq_true b
        refine go 99 rfl ?_
        exact ⟨.inr rfl, trivial, .done (nIeq (by simp only [matE]; rw [if_pos (.inr b1)])) rfl⟩
      · have b1 : ¬ 4 < x.kind := of_decide_eq_false b
        refine go 99 rfl ?_
        exact ⟨sgI 1, (), by omega, rfl, rfl, ⟨fit rfl, trivial⟩, ⟨_, .refl _, .refl _⟩, rfl⟩
  · rintro ⟨⟩ h1
    refine go 99 rfl ?_
    refine Safe.frzO 1 rfl rfl ?_
    refine Safe.call (lab_check [(x.name, [120])] ⟨by simp [big], by simp; exact ⟨ho.1, by simp [big]⟩⟩) rfl rfl rfl ?_
    refine go 99 rfl ?_
    have hc1 := chkL_one x.name
    refine Safe.br rfl (fun a => ?_) (fun a => ?_)
    · have a0 : (chkL [(x.name, [120])] != 0) = true := a
      have a1 : isNm x.name = false := by rw [← hc1]; simpa using a0
      refine go 99 rfl ?_
      exact ⟨.inr rfl, trivial, .done (nIeq (by simp only [matE]; rw [if_neg h1, if_pos a1])) rfl⟩
    · have a0 : (chkL [(x.name, [120])] != 0) = false := a
      have a1 : ¬ isNm x.name = false := by rw [← hc1]; simpa using a0
      refine go 99 rfl ?_
      refine Safe.cut1 (α := Unit) (fun _ => [(1, .ptr 0 0)]) (fun _ => [(0, .cells 118 (matC x) 3)]) 1 (fun _ => ¬ 2 < x.kind) ?_ ?_
      · refine Safe.gs rfl (fun b => ?_) (fun b => ?_)
        · have b1 : x.kind = 3 := by simpa using b
          refine go 99 rfl ?_
          refine Safe.call (H x.value ho.2) rfl rfl rfl ?_
          refine go 99 rfl ?_
          exact ⟨.inr rfl, trivial, .done (nIeq (by simp only [matE]; rw [if_neg h1, if_neg a1, if_pos (by omega)])) rfl⟩
        · have b1 : ¬ x.kind = 3 := by simpa using b
          refine go 99 rfl ?_
          refine Safe.br rfl (fun d => ?_) (fun d => ?_)
          · have d1 : x.kind = 4 := by simpa using d
            refine go 99 rfl ?_
            refine Safe.call (H x.value ho.2) rfl rfl rfl ?_
            refine go 99 rfl ?_
            exact ⟨.inr rfl, trivial, .done (nIeq (by simp only [matE]; rw [if_neg h1, if_neg a1, if_pos (by omega)])) rfl⟩
          · have d1 : ¬ x.kind = 4 := by simpa using d
            refine go 99 rfl ?_
            exact ⟨sgI 1, (), by omega, rfl, rfl, ⟨fit rfl, trivial⟩, ⟨_, .refl _, .refl _⟩, rfl⟩
      · rintro ⟨⟩ b1
        refine go 99 rfl ?_
        refine Safe.br rfl (fun d => ?_) (fun d => ?_)
        · have d1 : 200 < x.value.length := ltc d
          refine go 99 rfl ?_
          exact ⟨.inr rfl, trivial, .done (nIeq (by simp only [matE]; rw [if_neg h1, if_neg a1, if_neg b1, if_pos d1])) rfl⟩
        · have d1 : x.value.length ≤ 200 := gec d
          refine go 99 rfl ?_
          exact ⟨.inr rfl, trivial, .done (nIeq (by simp only [matE]; rw [if_neg h1, if_neg a1, if_neg b1, if_neg (by omega)])) rfl⟩
theorem ref_mats (H : RefRx rx) (l : List Mat) (hl : okMs l) : PTri Tryz.prog 137 [slV matC l] (nI (matsE rx l)) := by
  have hb := hl.1
  simp only [big] at hb
  refine PTri.of_safe Tryz.func137 rfl Tryz.results137 Tryz.ntmps137 rfl ?_
  refine go 99 rfl ?_
  refine Safe.br rfl (fun c => ?_) (fun c => ?_)
  · have hc : 16 < l.length := ltc c
    refine go 99 rfl ?_
    exact ⟨.inr rfl, trivial, .done (nIeq (by simp only [matsE]; rw [if_pos hc])) rfl⟩
  · have hc : l.length ≤ 16 := gec c
    have hE : matsE rx l = errG (matE rx) l := by simp only [matsE]; rw [if_neg (by omega)]
    refine go 99 rfl ?_
    refine Safe.loop (α := Nat) (fun i => [(0, slV matC l), (3, nI i)]) (fun i => []) 0 (fun i => l.length - i) (fun i => i ≤ l.length ∧ matsE rx l = errG (matE rx) (l.drop i)) 0 (sgI 0) ⟨⟨fit rfl, fit rfl, trivial⟩, ⟨_, .refl _, List.nil_sublist _⟩, rfl⟩ ⟨Nat.zero_le _, hE⟩ ?_
    rintro i ⟨hi, ha⟩
    refine go 99 rfl ?_
    refine Safe.br rfl (fun c1 => ?_) (fun c1 => ?_)
    · have hi : i < l.length := ltc c1
      rw [errG_step hi] at ha
      refine go 99 rfl ?_
      refine Safe.idxF hi rfl rfl rfl ?_
      refine Safe.ldF (ldM hi) rfl rfl rfl ?_
      refine Safe.call (ref_mat H l[i] (hl.2 _ (List.getElem_mem hi))) rfl rfl rfl ?_
      refine go 99 rfl ?_
      refine Safe.br rfl (fun d => ?_) (fun d => ?_)
      · rw [if_pos (by simpa using d)] at ha
        refine go 99 rfl ?_
        exact ⟨.inr rfl, trivial, .done (nIeq ha.symm) rfl⟩
      · rw [if_neg (by simpa using d)] at ha
        refine go 99 rfl ?_
        exact ⟨sgI 0, i + 1, ⟨hi, ha⟩, mlt hi, rfl, rfl, ⟨fit rfl, fit (isucc (by omega)), trivial⟩, ⟨_, .refl _, List.nil_sublist _⟩, rfl⟩
    · have hi2 : i = l.length := Nat.le_antisymm hi (gec c1)
      subst hi2
      rw [List.drop_length] at ha
      refine go 99 rfl ?_
      exact ⟨.inr rfl, trivial, .done (nIeq ha.symm) rfl⟩
theorem alg_mats (H : AlgRx rx) (l : List Mat) (hl : okMs l) : PTri Tryz.prog 172 [slV matC l] (nI (matsE rx l)) := by
  have hb := hl.1
  simp only [big] at hb
  refine PTri.of_safe Tryz.func172 rfl Tryz.results172 Tryz.ntmps172 rfl ?_
  refine go 99 rfl ?_
  refine Safe.br rfl (fun c => ?_) (fun c => ?_)
  · have hc : 16 < l.length := ltc c
    refine go 99 rfl ?_
    exact ⟨.inr rfl, trivial, .done (nIeq (by simp only [matsE]; rw [if_pos hc])) rfl⟩
  · have hc : l.length ≤ 16 := gec c
    have hE : matsE rx l = errG (matE rx) l := by simp only [matsE]; rw [if_neg (by omega)]
    refine go 99 rfl ?_
    refine Safe.loop (α := Nat) (fun i => [(9, slV matC l), (10, nI l.length), (11, nI i)]) (fun i => []) 0 (fun i => l.length - i) (fun i => i ≤ l.length ∧ matsE rx l = errG (matE rx) (l.drop i)) 0 (sgI 0) ⟨⟨fit rfl, fit rfl, fit rfl, trivial⟩, ⟨_, .refl _, List.nil_sublist _⟩, rfl⟩ ⟨Nat.zero_le _, hE⟩ ?_
    rintro i ⟨hi, ha⟩
    refine go 99 rfl ?_
    refine Safe.br rfl (fun c1 => ?_) (fun c1 => ?_)
    · have hi : i < l.length := ltc c1
      rw [errG_step hi] at ha
      refine go 99 rfl ?_
      refine Safe.idxF hi rfl rfl rfl ?_
      refine Safe.ldF (ldM hi) rfl rfl rfl ?_
      refine go 99 rfl ?_
      refine Safe.call (alg_mat H l[i] (hl.2 _ (List.getElem_mem hi))) rfl rfl rfl ?_
      refine go 99 rfl ?_
      refine Safe.br rfl (fun d => ?_) (fun d => ?_)
      · rw [if_pos (by simpa using d)] at ha
        refine go 99 rfl ?_
        exact ⟨.inr rfl, trivial, .done (nIeq ha.symm) rfl⟩
      · rw [if_neg (by simpa using d)] at ha
        refine go 99 rfl ?_
        exact ⟨sgI 0, i + 1, ⟨hi, ha⟩, mlt hi, rfl, rfl, ⟨fit rfl, fit rfl, fit (isucc (by omega)), trivial⟩, ⟨_, .refl _, List.nil_sublist _⟩, rfl⟩
    · have hi2 : i = l.length := Nat.le_antisymm hi (gec c1)
      subst hi2
      rw [List.drop_length] at ha
      refine go 99 rfl ?_
      exact ⟨.inr rfl, trivial, .done (nIeq ha.symm) rfl⟩
end Go.Proofs.YtijfihbdcdkalaaGreatDoor
end

section
namespace Go.Proofs.YtijfihbdcdkalaaGreatDoor
open Go.Fw
variable [Gl]
set_option maxRecDepth 20000
set_option maxHeartbeats 2000000
theorem tm {a b : Nat} : V.int .i64 ((a : Int).tmod (b : Int)) = nI ((a % b : Nat) : Int) := by rw [Int.ofNat_tmod]
theorem tmu {a b : Nat} : V.int .u64 ((a : Int).tmod (b : Int)) = V.int .u64 ((a % b : Nat) : Int) := by rw [Int.ofNat_tmod]
theorem ref_gcd (a b : Nat) : PTri Tryz.prog 230 [nI a, nI b] (nI (Nat.gcd a b : Nat)) := by
  refine PTri.of_safe Tryz.func230 rfl Tryz.results230 Tryz.ntmps230 rfl ?_
  refine go 99 rfl ?_
  refine Safe.loop (α := Nat × Nat) (fun p => [(0, nI p.1), (1, nI p.2)]) (fun p => []) 0 (fun p => p.2) (fun p => Nat.gcd p.1 p.2 = Nat.gcd a b) (a, b) (sgI 0) ⟨⟨fit rfl, fit rfl, trivial⟩, ⟨_, .refl _, List.nil_sublist _⟩, rfl⟩ rfl ?_
  rintro ⟨x, y⟩ hg
  simp only at hg
  refine go 99 rfl ?_
  refine Safe.br rfl (fun c => ?_) (fun c => ?_)
  · have hy : 0 < y := by have := of_decide_eq_true c; omega
    refine go 99 rfl ?_
    refine Safe.draw mixed ?_
    refine DS.go [0,1,2] rfl rfl (by kernel_rfl) ?_
    refine DS.val (i := 3) (ev_rem (by omega) rfl) rfl rfl rfl rfl (by kernel_rfl) ?_
    refine DS.eqv tm ?_
    refine DS.go [4,5] rfl rfl (by kernel_rfl) ?_
    refine DS.fin (by kernel_rfl) rfl ?_
    refine go 99 rfl ?_
    exact ⟨sgI 0, (y, x % y), by simp only; rw [← hg, Nat.gcd_comm x y, Nat.gcd_rec y x, Nat.gcd_comm], Nat.mod_lt _ hy, rfl, rfl, ⟨fit rfl, fit rfl, trivial⟩, ⟨_, .refl _, List.nil_sublist _⟩, rfl⟩
  · have hy : y = 0 := by have := of_decide_eq_false c; omega
    subst hy
    rw [Nat.gcd_zero_right] at hg
    refine go 99 rfl ?_
    exact ⟨.inr rfl, trivial, .done (nIeq (by rw [hg])) rfl⟩
theorem ref_abs (n : Int) (h : -1152921504606846976 ≤ n ∧ n ≤ 1152921504606846976) : PTri Tryz.prog 197 [nI n] (nI (n.natAbs : Nat)) := by
  refine PTri.of_safe Tryz.func197 rfl Tryz.results197 Tryz.ntmps197 rfl ?_
  refine go 99 rfl ?_
  refine Safe.br rfl (fun c => ?_) (fun c => ?_)
  · have hy : n < 0 := of_decide_eq_true c
    refine go 99 rfl ?_
    exact ⟨.inr rfl, trivial, .done (nIeq (by rw [wrap64_fit (by omega) (by omega)]; omega)) rfl⟩
  · have hy : ¬ n < 0 := of_decide_eq_false c
    refine go 99 rfl ?_
    exact ⟨.inr rfl, trivial, .done (nIeq (by omega)) rfl⟩
def ratE (num den : Int) : Int := if den < 1 ∨ 1152921504606846976 < den ∨ num < -1152921504606846976 ∨ 1152921504606846976 < num ∨ Nat.gcd num.natAbs den.natAbs ≠ 1 then 1 else 0
abbrev ratV (num den : Int) : V := .agg [nI num, nI den]
theorem ref_rat (num den : Int) : PTri Tryz.prog 195 [ratV num den] (nI (ratE num den)) := by
  refine PTri.of_safe Tryz.func195 rfl Tryz.results195 Tryz.ntmps195 rfl ?_
  refine go 99 rfl ?_
  refine Safe.draw mixed ?_
  refine DS.go [0,1,2,3] rfl rfl (by kernel_rfl) ?_
  refine DS.gs 4 rfl rfl (fun c => ?_) (fun c => ?_)
  · have h1 : den < 1 := of_decide_eq_true c
    refine DS.go [4,5,6,7,8,9,10,11,12,13,14,15,16,17,18,19,20,21,22,23,24,25,26] rfl rfl (by kernel_rfl) ?_
    refine DS.fin (by kernel_rfl) rfl ?_
    refine go 99 rfl ?_
    exact ⟨.inr rfl, trivial, .done (nIeq (by simp only [ratE]; rw [if_pos (by omega)])) rfl⟩
  · have h1 : ¬ den < 1 := of_decide_eq_false c
    refine DS.go [4,5,6,7,8] rfl rfl (by kernel_rfl) ?_
    refine DS.gs 9 rfl rfl (fun c => ?_) (fun c => ?_)
    · have h2 : 1152921504606846976 < den := of_decide_eq_true c
      refine DS.go [9,10,11,12,13,14,15,16,17,18,19,20,21,22,23,24,25,26] rfl rfl (by kernel_rfl) ?_
      refine DS.fin (by kernel_rfl) rfl ?_
      refine go 99 rfl ?_
      exact ⟨.inr rfl, trivial, .done (nIeq (by simp only [ratE]; rw [if_pos (by omega)])) rfl⟩
    · have h2 : ¬ 1152921504606846976 < den := of_decide_eq_false c
      refine DS.go [9,10,11,12,13] rfl rfl (by kernel_rfl) ?_
      refine DS.gs 14 rfl rfl (fun c => ?_) (fun c => ?_)
      · have h3 : num < -1152921504606846976 := of_decide_eq_true c
        refine DS.go [14,15,16,17,18,19,20,21,22,23,24,25,26] rfl rfl (by kernel_rfl) ?_
        refine DS.fin (by kernel_rfl) rfl ?_
        refine go 99 rfl ?_
        exact ⟨.inr rfl, trivial, .done (nIeq (by simp only [ratE]; rw [if_pos (by omega)])) rfl⟩
      · have h3 : ¬ num < -1152921504606846976 := of_decide_eq_false c
        refine DS.go [14,15,16,17,18] rfl rfl (by kernel_rfl) ?_
        refine DS.gs 19 rfl rfl (fun c => ?_) (fun c => ?_)
        · have h4 : 1152921504606846976 < num := of_decide_eq_true c
          refine DS.go [19,20,21,22,23,24,25,26] rfl rfl (by kernel_rfl) ?_
          refine DS.fin (by kernel_rfl) rfl ?_
          refine go 99 rfl ?_
          exact ⟨.inr rfl, trivial, .done (nIeq (by simp only [ratE]; rw [if_pos (by omega)])) rfl⟩
        · have h4 : ¬ 1152921504606846976 < num := of_decide_eq_false c
          obtain ⟨d, rfl⟩ : ∃ d : Nat, den = d := ⟨den.toNat, by omega⟩
          refine DS.go [19,20,22] rfl rfl (by kernel_rfl) ?_
          refine DS.call (i := 21) (ref_abs num ⟨by omega, by omega⟩) rfl rfl rfl rfl rfl (by kernel_rfl) ?_
          refine DS.go [23] rfl rfl (by kernel_rfl) ?_
          refine DS.call (i := 24) (ref_gcd num.natAbs d) rfl rfl rfl rfl rfl (by kernel_rfl) ?_
          refine DS.go [25,26] rfl rfl (by kernel_rfl) ?_
          refine DS.fin (by kernel_rfl) rfl ?_
          refine go 99 rfl ?_
          refine Safe.br rfl (fun e => ?_) (fun e => ?_)
          · have h5 : Nat.gcd num.natAbs d ≠ 1 := by have e2 : (((Nat.gcd num.natAbs d : Nat) : Int) != 1) = true := e; simp at e2; omega
            refine go 99 rfl ?_
            exact ⟨.inr rfl, trivial, .done (nIeq (by simp only [ratE]; rw [if_pos (by right; right; right; right; simpa using h5)])) rfl⟩
          · have h5 : Nat.gcd num.natAbs d = 1 := by have e2 : (((Nat.gcd num.natAbs d : Nat) : Int) != 1) = false := e; simp at e2; omega
            refine go 99 rfl ?_
            exact ⟨.inr rfl, trivial, .done (nIeq (by simp only [ratE]; rw [if_neg (by simp only [Int.natAbs_natCast, h5]; omega)])) rfl⟩
theorem alg_gcd (a b : Nat) : PTri Tryz.prog 235 [.int .u64 a, .int .u64 b] (.int .u64 (Nat.gcd a b : Nat)) := by
  refine PTri.of_safe Tryz.func235 rfl Tryz.results235 Tryz.ntmps235 rfl ?_
  refine go 99 rfl ?_
  refine Safe.loop (α := Nat × Nat) (fun p => [(0, .int .u64 p.1), (1, .int .u64 p.2)]) (fun p => []) 0 (fun p => p.2) (fun p => Nat.gcd p.1 p.2 = Nat.gcd a b) (a, b) (sgI 0) ⟨⟨fit rfl, fit rfl, trivial⟩, ⟨_, .refl _, List.nil_sublist _⟩, rfl⟩ rfl ?_
  rintro ⟨x, y⟩ hg
  simp only at hg
  refine go 99 rfl ?_
  refine Safe.br rfl (fun c => ?_) (fun c => ?_)
  · have hy : 0 < y := by have e2 : (((y : Nat) : Int) != 0) = true := c; simp at e2; omega
    refine go 99 rfl ?_
    refine Safe.draw mixed ?_
    refine DS.go [0,1,2] rfl rfl (by kernel_rfl) ?_
    refine DS.val (i := 3) (ev_rem (by omega) rfl) rfl rfl rfl rfl (by kernel_rfl) ?_
    refine DS.eqv tmu ?_
    refine DS.go [4,5] rfl rfl (by kernel_rfl) ?_
    refine DS.fin (by kernel_rfl) rfl ?_
    refine go 99 rfl ?_
    exact ⟨sgI 0, (y, x % y), by simp only; rw [← hg, Nat.gcd_comm x y, Nat.gcd_rec y x, Nat.gcd_comm], Nat.mod_lt _ hy, rfl, rfl, ⟨fit rfl, fit rfl, trivial⟩, ⟨_, .refl _, List.nil_sublist _⟩, rfl⟩
  · have hy : y = 0 := by have e2 : (((y : Nat) : Int) != 0) = false := c; simpa using e2
    subst hy
    rw [Nat.gcd_zero_right] at hg
    refine go 99 rfl ?_
    exact ⟨.inr rfl, trivial, .done (congrArg (fun z : Nat => some (V.int .u64 (z : Int))) hg) rfl⟩
theorem uwrap {n : Int} (h0 : 0 ≤ n) (h1 : n < 18446744073709551616) : IntKind.u64.wrap n = n := by
  simp only [IntKind.wrap, IntKind.signed, IntKind.bits]
  simp
  omega
theorem uneg {n : Int} (h0 : -1152921504606846976 ≤ n) (h1 : n < 0) : IntKind.u64.wrap (0 - IntKind.u64.wrap n) = -n := by
  simp only [IntKind.wrap, IntKind.signed, IntKind.bits]
  simp
  omega
theorem alg_mag (n : Int) (h : -1152921504606846976 ≤ n ∧ n ≤ 1152921504606846976) : PTri Tryz.prog 236 [nI n] (.int .u64 (n.natAbs : Nat)) := by
  refine PTri.of_safe Tryz.func236 rfl Tryz.results236 Tryz.ntmps236 rfl ?_
  refine go 99 rfl ?_
  refine Safe.br rfl (fun c => ?_) (fun c => ?_)
  · have hy : n < 0 := of_decide_eq_true c
    refine go 99 rfl ?_
    exact ⟨.inr rfl, trivial, .done (congrArg (fun z : Int => some (V.int .u64 z)) (by rw [uneg h.1 hy]; omega)) rfl⟩
  · have hy : ¬ n < 0 := of_decide_eq_false c
    refine go 99 rfl ?_
    exact ⟨.inr rfl, trivial, .done (congrArg (fun z : Int => some (V.int .u64 z)) (by rw [uwrap (by omega) (by omega)]; omega)) rfl⟩
theorem alg_rat (num den : Int) : PTri Tryz.prog 209 [ratV num den] (nI (ratE num den)) := by
  refine PTri.of_safe Tryz.func209 rfl Tryz.results209 Tryz.ntmps209 rfl ?_
  refine go 99 rfl ?_
  refine Safe.gs rfl (fun c => ?_) (fun c => ?_)
  · have h1 : den < 1 := of_decide_eq_true c
    refine go 99 rfl ?_
    exact ⟨.inr rfl, trivial, .done (nIeq (by simp only [ratE]; rw [if_pos (by omega)])) rfl⟩
  · have h1 : ¬ den < 1 := of_decide_eq_false c
    refine go 99 rfl ?_
    refine Safe.br rfl (fun c => ?_) (fun c => ?_)
    · have h2 : 1152921504606846976 < den := of_decide_eq_true c
      refine go 99 rfl ?_
      exact ⟨.inr rfl, trivial, .done (nIeq (by simp only [ratE]; rw [if_pos (by omega)])) rfl⟩
    · have h2 : ¬ 1152921504606846976 < den := of_decide_eq_false c
      refine go 99 rfl ?_
      refine Safe.gs rfl (fun c => ?_) (fun c => ?_)
      · have h3 : num < -1152921504606846976 := of_decide_eq_true c
        refine go 99 rfl ?_
        exact ⟨.inr rfl, trivial, .done (nIeq (by simp only [ratE]; rw [if_pos (by omega)])) rfl⟩
      · have h3 : ¬ num < -1152921504606846976 := of_decide_eq_false c
        refine go 99 rfl ?_
        refine Safe.br rfl (fun c => ?_) (fun c => ?_)
        · have h4 : 1152921504606846976 < num := of_decide_eq_true c
          refine go 99 rfl ?_
          exact ⟨.inr rfl, trivial, .done (nIeq (by simp only [ratE]; rw [if_pos (by omega)])) rfl⟩
        · have h4 : ¬ 1152921504606846976 < num := of_decide_eq_false c
          obtain ⟨d, rfl⟩ : ∃ d : Nat, den = d := ⟨den.toNat, by omega⟩
          refine go 99 rfl ?_
          refine Safe.frzC 0 rfl rfl ?_
          refine Safe.draw mixed ?_
          refine DS.go [0] rfl rfl (by kernel_rfl) ?_
          refine DS.valA (i := 1) (eva_ldF (rfl) rfl rfl) rfl rfl rfl rfl (by kernel_rfl) ?_
          refine DS.call (i := 2) (alg_mag num ⟨by omega, by omega⟩) rfl rfl rfl rfl rfl (by kernel_rfl) ?_
          refine DS.go [3] rfl rfl (by kernel_rfl) ?_
          refine DS.valA (i := 4) (eva_ldF (rfl) rfl rfl) rfl rfl rfl rfl (by kernel_rfl) ?_
          refine DS.valA (i := 5) (eva_cvI rfl) rfl rfl rfl rfl (by kernel_rfl) ?_
          refine DS.eqv (v' := .int .u64 d) (congrArg (V.int .u64) (uwrap (by omega) (by omega))) ?_
          refine DS.call (i := 6) (alg_gcd num.natAbs d) rfl rfl rfl rfl rfl (by kernel_rfl) ?_
          refine DS.go [7,8] rfl rfl (by kernel_rfl) ?_
          refine DS.fin (by kernel_rfl) rfl ?_
          refine go 99 rfl ?_
          refine Safe.br rfl (fun e => ?_) (fun e => ?_)
          · have h5 : Nat.gcd num.natAbs d ≠ 1 := by have e2 : (((Nat.gcd num.natAbs d : Nat) : Int) != 1) = true := e; simp at e2; omega
            refine go 99 rfl ?_
            exact ⟨.inr rfl, trivial, .done (nIeq (by simp only [ratE]; rw [if_pos (by right; right; right; right; simpa using h5)])) rfl⟩
          · have h5 : Nat.gcd num.natAbs d = 1 := by have e2 : (((Nat.gcd num.natAbs d : Nat) : Int) != 1) = false := e; simp at e2; omega
            refine go 99 rfl ?_
            exact ⟨.inr rfl, trivial, .done (nIeq (by simp only [ratE]; rw [if_neg (by simp only [Int.natAbs_natCast, h5]; omega)])) rfl⟩
end Go.Proofs.YtijfihbdcdkalaaGreatDoor
end

section
namespace Go.Proofs.YtijfihbdcdkalaaGreatDoor
open Go.Fw
variable [Gl]
set_option maxRecDepth 20000
set_option maxHeartbeats 2000000
variable {rx : By → Int}
theorem nmS_false : nmS false = isNm := by funext s; simp [nmS]
def badS (x : Stg) : Bool := (!decide (x.kind ≤ 3) && !(x.text == [])) || (decide (6 ≤ x.kind) != decide (0 < (x.names.length : Int))) || ((x.kind == 5) != decide (0 < (x.ms.length : Int))) || (decide (x.kind ≤ 2) && x.text == [])
def stgE (rx : By → Int) (x : Stg) : Int :=
  if x.kind < 1 ∨ 8 < x.kind then 8 else if badS x = true then 1 else if x.kind ≤ 2 ∧ 200 < x.text.length then 4 else if x.kind = 3 ∧ rx x.text ≠ 0 then rx x.text else if matsE rx x.ms ≠ 0 then matsE rx x.ms else namesE isNm x.names
abbrev stgV (x : Stg) : V := .agg (stgC x)
theorem ref_stg (H : RefRx rx) (x : Stg) (ho : okS x) : PTri Tryz.prog 188 [stgV x] (nI (stgE rx x)) := by
  refine PTri.of_safe Tryz.func188 rfl Tryz.results188 Tryz.ntmps188 rfl ?_
  refine go 99 rfl ?_
  refine Safe.cut1 (α := Unit) (fun _ => [(1, .ptr 0 0)]) (fun _ => [(0, .cells 162 (stgC x) 4)]) 1 (fun _ => ¬ (x.kind < 1 ∨ 8 < x.kind)) ?_ ?_
  · repeat' (first | (refine Safe.gs rfl (fun a => ?_) (fun a => ?_) <;> refine go 99 rfl ?_) | (refine Safe.br rfl (fun a => ?_) (fun a => ?_) <;> refine go 99 rfl ?_))
    all_goals first
      | exact ⟨.inr rfl, trivial, .done (nIeq (by simp only [stgE]; rw [if_pos (by simp at *; omega)])) rfl⟩
      | exact ⟨sgI 1, (), by simp at *; omega, rfl, rfl, ⟨fit rfl, trivial⟩, ⟨_, .refl _, .refl _⟩, rfl⟩
  · rintro ⟨⟩ h1
    refine go 99 rfl ?_
    refine Safe.cut1 (α := Unit) (fun _ => [(1, .ptr 0 0)]) (fun _ => [(0, .cells 162 (stgC x) 4)]) 1 (fun _ => badS x = false) ?_ ?_
    · repeat' (first | (refine Safe.gs rfl (fun a => ?_) (fun a => ?_) <;> refine go 99 rfl ?_) | (refine Safe.br rfl (fun a => ?_) (fun a => ?_) <;> refine go 99 rfl ?_))
      all_goals first
        | (have hb : badS x = true := (by first | (simp_all [badS]; done) | (simp_all [badS]; omega) | (simp_all [badS]; intros; omega) | (rw [Bool.eq_iff_iff]; simp_all [badS]; omega))
           exact ⟨.inr rfl, trivial, .done (nIeq (by simp only [stgE]; rw [if_neg h1, if_pos hb])) rfl⟩)
        | exact ⟨sgI 1, (), (by first | (simp_all [badS]; done) | (simp_all [badS]; omega) | (simp_all [badS]; intros; omega) | (rw [Bool.eq_iff_iff]; simp_all [badS]; omega)), rfl, rfl, ⟨fit rfl, trivial⟩, ⟨_, .refl _, .refl _⟩, rfl⟩
    · rintro ⟨⟩ h2
      have hb : ¬ badS x = true := by rw [h2]; simp
      refine go 99 rfl ?_
      refine Safe.cut1 (α := Unit) (fun _ => [(1, .ptr 0 0)]) (fun _ => [(0, .cells 162 (stgC x) 4)]) 1 (fun _ => ¬ (x.kind ≤ 2 ∧ 200 < x.text.length)) ?_ ?_
      · repeat' (first | (refine Safe.gs rfl (fun a => ?_) (fun a => ?_) <;> refine go 99 rfl ?_) | (refine Safe.br rfl (fun a => ?_) (fun a => ?_) <;> refine go 99 rfl ?_))
        all_goals first
          | exact ⟨.inr rfl, trivial, .done (nIeq (by simp only [stgE]; rw [if_neg h1, if_neg hb, if_pos (by simp at *; omega)])) rfl⟩
          | exact ⟨sgI 1, (), by simp at *; omega, rfl, rfl, ⟨fit rfl, trivial⟩, ⟨_, .refl _, .refl _⟩, rfl⟩
      · rintro ⟨⟩ h3
        refine go 99 rfl ?_
        refine Safe.call (H x.text ho.1) rfl rfl rfl ?_
        refine go 99 rfl ?_
        refine Safe.cut1 (α := Unit) (fun _ => [(1, .ptr 0 0)]) (fun _ => [(0, .cells 162 (stgC x) 4)]) 1 (fun _ => ¬ (x.kind = 3 ∧ rx x.text ≠ 0)) ?_ ?_
        · repeat' (first | (refine Safe.gs rfl (fun a => ?_) (fun a => ?_) <;> refine go 99 rfl ?_) | (refine Safe.br rfl (fun a => ?_) (fun a => ?_) <;> refine go 99 rfl ?_))
          all_goals first
            | exact ⟨.inr rfl, trivial, .done (nIeq (by simp only [stgE]; rw [if_neg h1, if_neg hb, if_neg h3, if_pos (by simp_all)])) rfl⟩
            | exact ⟨sgI 1, (), by simp_all, rfl, rfl, ⟨fit rfl, trivial⟩, ⟨_, .refl _, .refl _⟩, rfl⟩
        · rintro ⟨⟩ h4
          refine go 99 rfl ?_
          refine Safe.call (ref_mats H x.ms ho.2.1) rfl rfl rfl ?_
          refine go 99 rfl ?_
          refine Safe.br rfl (fun c => ?_) (fun c => ?_)
          · refine go 99 rfl ?_
            exact ⟨.inr rfl, trivial, .done (nIeq (by simp only [stgE]; rw [if_neg h1, if_neg hb, if_neg h3, if_neg h4, if_pos (by simpa using c)])) rfl⟩
          · refine go 99 rfl ?_
            refine Safe.call (ref_names x.names ho.2.2) rfl rfl rfl ?_
            refine go 99 rfl ?_
            exact ⟨.inr rfl, trivial, .done (nIeq (by simp only [stgE]; rw [if_neg h1, if_neg hb, if_neg h3, if_neg h4, if_neg (by simpa using c)])) rfl⟩
theorem alg_stg (H : AlgRx rx) (x : Stg) (ho : okS x) : PTri Tryz.prog 211 [stgV x] (nI (stgE rx x)) := by
  refine PTri.of_safe Tryz.func211 rfl Tryz.results211 Tryz.ntmps211 rfl ?_
  refine go 99 rfl ?_
  refine Safe.cut1 (α := Unit) (fun _ => [(1, .ptr 0 0)]) (fun _ => [(0, .cells 162 (stgC x) 4)]) 1 (fun _ => ¬ (x.kind < 1 ∨ 8 < x.kind)) ?_ ?_
  · repeat' (first | (refine Safe.gs rfl (fun a => ?_) (fun a => ?_) <;> refine go 99 rfl ?_) | (refine Safe.br rfl (fun a => ?_) (fun a => ?_) <;> refine go 99 rfl ?_))
    all_goals first
      | exact ⟨.inr rfl, trivial, .done (nIeq (by simp only [stgE]; rw [if_pos (by simp at *; omega)])) rfl⟩
      | exact ⟨sgI 1, (), by simp at *; omega, rfl, rfl, ⟨fit rfl, trivial⟩, ⟨_, .refl _, .refl _⟩, rfl⟩
  · rintro ⟨⟩ h1
    refine go 99 rfl ?_
    refine Safe.cut1 (α := Unit) (fun _ => [(1, .ptr 0 0)]) (fun _ => [(0, .cells 162 (stgC x) 4)]) 1 (fun _ => (!decide (x.kind ≤ 3) && !(x.text == [])) = false ∧ (decide (6 ≤ x.kind) != decide (0 < (x.names.length : Int))) = false ∧ ((x.kind == 5) != decide (0 < (x.ms.length : Int))) = false) ?_ ?_
    · repeat' (first | (refine Safe.gs rfl (fun a => ?_) (fun a => ?_) <;> refine go 99 rfl ?_) | (refine Safe.br rfl (fun a => ?_) (fun a => ?_) <;> refine go 99 rfl ?_))
      all_goals first
        | (have hb : badS x = true := by have e0 : ({ data := #[] } : ByteArray).data.toList = [] := rfl; simp only [badS, e0] at *; generalize decide (0 < (x.ms.length : Int)) = p at *; generalize (x.kind == 5) = q at *; generalize decide (0 < (x.names.length : Int)) = r at *; generalize decide (6 ≤ x.kind) = s at *; generalize decide (x.kind ≤ 3) = u at *; generalize (x.text == []) = w at *; cases p <;> cases q <;> cases r <;> cases s <;> simp_all
           exact ⟨.inr rfl, trivial, .done (nIeq (by simp only [stgE]; rw [if_neg h1, if_pos hb])) rfl⟩)
        | exact ⟨sgI 1, (), by (have e0 : ({ data := #[] } : ByteArray).data.toList = [] := rfl; simp only [badS, e0] at *; generalize decide (0 < (x.ms.length : Int)) = p at *; generalize (x.kind == 5) = q at *; generalize decide (0 < (x.names.length : Int)) = r at *; generalize decide (6 ≤ x.kind) = s at *; generalize decide (x.kind ≤ 3) = u at *; generalize (x.text == []) = w at *; cases p <;> cases q <;> cases r <;> cases s <;> simp_all), rfl, rfl, ⟨fit rfl, trivial⟩, ⟨_, .refl _, .refl _⟩, rfl⟩
    · rintro ⟨⟩ ⟨e1, e2, e3⟩
      have f1 : 3 < x.kind → x.text = [] := fun h => by simp at e1; exact e1 h
      have f2 : 6 ≤ x.kind ↔ 0 < x.names.length := by simp at e2; omega
      have f3 : x.kind = 5 ↔ 0 < x.ms.length := by rw [bne_eq_false_iff_eq, Bool.eq_iff_iff] at e3; simpa using e3
      have n0 : ¬ 6 ≤ x.kind → x.names = [] := fun h => List.length_eq_zero_iff.1 (by omega)
      have m0 : ¬ x.kind = 5 → x.ms = [] := fun h => List.length_eq_zero_iff.1 (by omega)
      have hbad : badS x = (decide (x.kind ≤ 2) && x.text == []) := by simp only [badS, e1, e2, e3, Bool.false_or]
      have mz : matsE rx [] = 0 := rfl
      have nz : namesE isNm [] = 0 := rfl
      refine go 99 rfl ?_
      refine Safe.br rfl (fun k1 => ?_) (fun k1 => ?_)
      · have hk : x.kind = 1 := by simpa using k1
        have m1 := m0 (by omega)
        have n1 := n0 (by omega)
        refine go 99 rfl ?_
        refine Safe.br rfl (fun t => ?_) (fun t => ?_)
        · have ht : x.text = [] := by simpa using t
          have hb : badS x = true := by rw [hbad]; simp [hk, ht]
          refine go 99 rfl ?_
          exact ⟨.inr rfl, trivial, .done (nIeq (by simp only [stgE]; rw [if_neg h1, if_pos hb])) rfl⟩
        · have ht : ¬ x.text = [] := by simpa using t
          have hb : ¬ badS x = true := by rw [hbad]; simp [ht]
          refine go 99 rfl ?_
          refine Safe.br rfl (fun u => ?_) (fun u => ?_)
          · have hu : 200 < x.text.length := ltc u
            refine go 99 rfl ?_
            exact ⟨.inr rfl, trivial, .done (nIeq (by simp only [stgE]; rw [if_neg h1, if_neg hb, if_pos ⟨by omega, hu⟩])) rfl⟩
          · have hu : x.text.length ≤ 200 := gec u
            refine go 99 rfl ?_
            exact ⟨.inr rfl, trivial, .done (nIeq (by simp only [stgE]; rw [if_neg h1, if_neg hb, if_neg (by omega), if_neg (by omega), m1, n1, mz, nz]; rfl)) rfl⟩
      · have hk1 : ¬ x.kind = 1 := by simpa using k1
        refine go 99 rfl ?_
        refine Safe.br rfl (fun k2 => ?_) (fun k2 => ?_)
        · have hk : x.kind = 2 := by simpa using k2
          have m1 := m0 (by omega)
          have n1 := n0 (by omega)
          refine go 99 rfl ?_
          refine Safe.br rfl (fun t => ?_) (fun t => ?_)
          · have ht : x.text = [] := by simpa using t
            have hb : badS x = true := by rw [hbad]; simp [hk, ht]
            refine go 99 rfl ?_
            exact ⟨.inr rfl, trivial, .done (nIeq (by simp only [stgE]; rw [if_neg h1, if_pos hb])) rfl⟩
          · have ht : ¬ x.text = [] := by simpa using t
            have hb : ¬ badS x = true := by rw [hbad]; simp [ht]
            refine go 99 rfl ?_
            refine Safe.br rfl (fun u => ?_) (fun u => ?_)
            · have hu : 200 < x.text.length := ltc u
              refine go 99 rfl ?_
              exact ⟨.inr rfl, trivial, .done (nIeq (by simp only [stgE]; rw [if_neg h1, if_neg hb, if_pos ⟨by omega, hu⟩])) rfl⟩
            · have hu : x.text.length ≤ 200 := gec u
              refine go 99 rfl ?_
              exact ⟨.inr rfl, trivial, .done (nIeq (by simp only [stgE]; rw [if_neg h1, if_neg hb, if_neg (by omega), if_neg (by omega), m1, n1, mz, nz]; rfl)) rfl⟩
        · have hk2 : ¬ x.kind = 2 := by simpa using k2
          have hb : ¬ badS x = true := by rw [hbad]; simp; omega
          refine go 99 rfl ?_
          refine Safe.br rfl (fun k3 => ?_) (fun k3 => ?_)
          · have hk : x.kind = 3 := by simpa using k3
            have m1 := m0 (by omega)
            have n1 := n0 (by omega)
            refine go 99 rfl ?_
            refine Safe.call (H x.text ho.1) rfl rfl rfl ?_
            refine go 99 rfl ?_
            exact ⟨.inr rfl, trivial, .done (nIeq (by simp only [stgE]; rw [if_neg h1, if_neg hb, if_neg (by omega)]; by_cases hr : rx x.text = 0 <;> simp [hk, hr, m1, n1, mz, nz])) rfl⟩
          · have hk3 : ¬ x.kind = 3 := by simpa using k3
            refine go 99 rfl ?_
            refine Safe.br rfl (fun k5 => ?_) (fun k5 => ?_)
            · have hk : x.kind = 5 := by simpa using k5
              have n1 := n0 (by omega)
              refine go 99 rfl ?_
              refine Safe.call (alg_mats H x.ms ho.2.1) rfl rfl rfl ?_
              refine go 99 rfl ?_
              exact ⟨.inr rfl, trivial, .done (nIeq (by simp only [stgE]; rw [if_neg h1, if_neg hb, if_neg (by omega), if_neg (by omega)]; by_cases hr : matsE rx x.ms = 0 <;> simp [hr, n1, nz])) rfl⟩
            · have hk5 : ¬ x.kind = 5 := by simpa using k5
              have m1 := m0 hk5
              refine go 99 rfl ?_
              refine Safe.call (alg_names x.names false ho.2.2) rfl rfl rfl ?_
              refine go 99 rfl ?_
              exact ⟨.inr rfl, trivial, .done (nIeq (by simp only [stgE]; rw [if_neg h1, if_neg hb, if_neg (by omega), if_neg (by omega), m1, mz, nmS_false]; rfl)) rfl⟩
theorem errS {α : Type} {f : α → Int} {l : List α} {r : Int} {i : Nat} (ha : r = errG f (l.drop i)) (hi : i < l.length) : (f l[i] ≠ 0 → r = f l[i]) ∧ (f l[i] = 0 → r = errG f (l.drop (i + 1))) := by
  rw [errG_step hi] at ha
  by_cases h : f l[i] = 0
  · rw [if_neg (by simp [h])] at ha; exact ⟨fun h2 => absurd h h2, fun _ => ha⟩
  · rw [if_pos h] at ha; exact ⟨fun _ => ha, fun h2 => absurd h2 h⟩
def stgsE (rx : By → Int) (l : List Stg) : Int := if 100 < l.length then 4 else errG (stgE rx) l
theorem ref_stgs (H : RefRx rx) (l : List Stg) (hl : okSs l) : PTri Tryz.prog 135 [slV stgC l] (nI (stgsE rx l)) := by
  have hb := hl.1
  simp only [big] at hb
  refine PTri.of_safe Tryz.func135 rfl Tryz.results135 Tryz.ntmps135 rfl ?_
  refine go 99 rfl ?_
  refine Safe.br rfl (fun c => ?_) (fun c => ?_)
  · have hc : 100 < l.length := ltc c
    refine go 99 rfl ?_
    exact ⟨.inr rfl, trivial, .done (nIeq (by simp only [stgsE]; rw [if_pos hc])) rfl⟩
  · have hc : l.length ≤ 100 := gec c
    have hE : stgsE rx l = errG (stgE rx) l := by simp only [stgsE]; rw [if_neg (by omega)]
    refine go 99 rfl ?_
    refine Safe.loop (α := Nat) (fun i => [(0, slV stgC l), (3, nI i)]) (fun i => []) 0 (fun i => l.length - i) (fun i => i ≤ l.length ∧ stgsE rx l = errG (stgE rx) (l.drop i)) 0 (sgI 0) ⟨⟨fit rfl, fit rfl, trivial⟩, ⟨_, .refl _, List.nil_sublist _⟩, rfl⟩ ⟨Nat.zero_le _, hE⟩ ?_
    rintro i ⟨hi, ha⟩
    refine go 99 rfl ?_
    refine Safe.br rfl (fun c1 => ?_) (fun c1 => ?_)
    · have hi : i < l.length := ltc c1
      refine go 99 rfl ?_
      refine Safe.idxF hi rfl rfl rfl ?_
      refine Safe.ldF (ldS hi) rfl rfl rfl ?_
      refine Safe.call (ref_stg H l[i] (hl.2 _ (List.getElem_mem hi))) rfl rfl rfl ?_
      refine go 99 rfl ?_
      refine Safe.br rfl (fun d => ?_) (fun d => ?_)
      · refine go 99 rfl ?_
        exact ⟨.inr rfl, trivial, .done (nIeq ((errS ha hi).1 (by simpa using d)).symm) rfl⟩
      · refine go 99 rfl ?_
        exact ⟨sgI 0, i + 1, ⟨hi, (errS ha hi).2 (by simpa using d)⟩, mlt hi, rfl, rfl, ⟨fit rfl, fit (isucc (by omega)), trivial⟩, ⟨_, .refl _, List.nil_sublist _⟩, rfl⟩
    · have hi2 : i = l.length := Nat.le_antisymm hi (gec c1)
      subst hi2
      rw [List.drop_length] at ha
      refine go 99 rfl ?_
      exact ⟨.inr rfl, trivial, .done (nIeq ha.symm) rfl⟩
theorem alg_stgs (H : AlgRx rx) (l : List Stg) (hl : okSs l) : PTri Tryz.prog 175 [slV stgC l] (nI (stgsE rx l)) := by
  have hb := hl.1
  simp only [big] at hb
  refine PTri.of_safe Tryz.func175 rfl Tryz.results175 Tryz.ntmps175 rfl ?_
  refine go 99 rfl ?_
  refine Safe.br rfl (fun c => ?_) (fun c => ?_)
  · have hc : 100 < l.length := ltc c
    refine go 99 rfl ?_
    exact ⟨.inr rfl, trivial, .done (nIeq (by simp only [stgsE]; rw [if_pos hc])) rfl⟩
  · have hc : l.length ≤ 100 := gec c
    have hE : stgsE rx l = errG (stgE rx) l := by simp only [stgsE]; rw [if_neg (by omega)]
    refine go 99 rfl ?_
    refine Safe.loop (α := Nat) (fun i => [(9, slV stgC l), (10, nI l.length), (11, nI i)]) (fun i => []) 0 (fun i => l.length - i) (fun i => i ≤ l.length ∧ stgsE rx l = errG (stgE rx) (l.drop i)) 0 (sgI 0) ⟨⟨fit rfl, fit rfl, fit rfl, trivial⟩, ⟨_, .refl _, List.nil_sublist _⟩, rfl⟩ ⟨Nat.zero_le _, hE⟩ ?_
    rintro i ⟨hi, ha⟩
    refine go 99 rfl ?_
    refine Safe.br rfl (fun c1 => ?_) (fun c1 => ?_)
    · have hi : i < l.length := ltc c1
      refine go 99 rfl ?_
      refine Safe.idxF hi rfl rfl rfl ?_
      refine Safe.ldF (ldS hi) rfl rfl rfl ?_
      refine go 99 rfl ?_
      refine Safe.call (alg_stg H l[i] (hl.2 _ (List.getElem_mem hi))) rfl rfl rfl ?_
      refine go 99 rfl ?_
      refine Safe.br rfl (fun d => ?_) (fun d => ?_)
      · refine go 99 rfl ?_
        exact ⟨.inr rfl, trivial, .done (nIeq ((errS ha hi).1 (by simpa using d)).symm) rfl⟩
      · refine go 99 rfl ?_
        exact ⟨sgI 0, i + 1, ⟨hi, (errS ha hi).2 (by simpa using d)⟩, mlt hi, rfl, rfl, ⟨fit rfl, fit rfl, fit (isucc (by omega)), trivial⟩, ⟨_, .refl _, List.nil_sublist _⟩, rfl⟩
    · have hi2 : i = l.length := Nat.le_antisymm hi (gec c1)
      subst hi2
      rw [List.drop_length] at ha
      refine go 99 rfl ?_
      exact ⟨.inr rfl, trivial, .done (nIeq ha.symm) rfl⟩
end Go.Proofs.YtijfihbdcdkalaaGreatDoor
end

section
namespace Go.Proofs.YtijfihbdcdkalaaGreatDoor
open Go.Fw
variable [Gl]
set_option maxRecDepth 20000
set_option maxHeartbeats 2000000
variable {rx : By → Int}
abbrev sAttr : By := [97, 116, 116, 114, 46]
abbrev sStatus : By := [115, 116, 97, 116, 117, 115]
abbrev sDuration : By := [100, 117, 114, 97, 116, 105, 111, 110]
abbrev sService : By := [115, 101, 114, 118, 105, 99, 101]
abbrev sName : By := [110, 97, 109, 101]
def isNum (f : By) : Bool := f == sStatus || f == sDuration
theorem ref_num (f : By) : PTri Tryz.prog 199 [.str f] (.bool (isNum f)) := by
  refine PTri.of_safe Tryz.func199 rfl Tryz.results199 Tryz.ntmps199 rfl ?_
  refine go 99 rfl ?_
  repeat' (first | (refine Safe.gs rfl (fun a => ?_) (fun a => ?_) <;> refine go 99 rfl ?_) | (refine Safe.br rfl (fun a => ?_) (fun a => ?_) <;> refine go 99 rfl ?_))
  all_goals exact ⟨.inr rfl, trivial, .done (bIeq (by first | (simp_all [isNum]; done) | (simp_all [isNum]; omega) | (simp_all [isNum]; intros; omega) | (rw [Bool.eq_iff_iff]; simp_all [isNum]; omega))) rfl⟩
theorem alg_num (f : By) : PTri Tryz.prog 254 [.str f] (.bool (isNum f)) := by
  refine PTri.of_safe Tryz.func254 rfl Tryz.results254 Tryz.ntmps254 rfl ?_
  refine go 99 rfl ?_
  repeat' (first | (refine Safe.gs rfl (fun a => ?_) (fun a => ?_) <;> refine go 99 rfl ?_) | (refine Safe.br rfl (fun a => ?_) (fun a => ?_) <;> refine go 99 rfl ?_))
  all_goals exact ⟨.inr rfl, trivial, .done (bIeq (by first | (simp_all [isNum]; done) | (simp_all [isNum]; omega) | (simp_all [isNum]; intros; omega) | (rw [Bool.eq_iff_iff]; simp_all [isNum]; omega))) rfl⟩
def hasPre (s p : By) : Bool := decide (p.length ≤ s.length) && s.take p.length == p
theorem has_pre (s p : By) (hs : s.length ≤ big) (hp : p.length ≤ big) : PTri Tryz.prog 271 [.str s, .str p] (.bool (hasPre s p)) := by
  refine PTri.of_safe Tryz.func271 rfl Tryz.results271 Tryz.ntmps271 rfl ?_
  refine go 99 rfl ?_
  refine Safe.gs rfl (fun a => ?_) (fun a => ?_)
  · have a1 : p.length ≤ s.length := lec a
    refine go 99 rfl ?_
    refine Safe.slS 0 p.length (by omega) a1 rfl rfl rfl rfl ?_
    refine go 99 rfl ?_
    exact ⟨.inr rfl, trivial, .done (bIeq (by simp [hasPre, a1])) rfl⟩
  · have a1 : s.length < p.length := gtc a
    refine go 99 rfl ?_
    exact ⟨.inr rfl, trivial, .done (bIeq (by simp [hasPre]; omega)) rfl⟩
theorem cut_pre0 (s p : By) (hs : s.length ≤ big) (hp : p.length ≤ big) : PTri Tryz.prog 262 [.str s, .str p] (.tup [.str (if hasPre s p = true then s.drop p.length else s), .bool (hasPre s p)]) := by
  refine PTri.of_safe Tryz.func262 rfl Tryz.results262 Tryz.ntmps262 rfl ?_
  refine go 99 rfl ?_
  refine Safe.call (has_pre s p hs hp) rfl rfl rfl ?_
  refine go 99 rfl ?_
  refine Safe.br rfl (fun a => ?_) (fun a => ?_)
  · have h1 : hasPre s p = false := by simpa using a
    refine go 99 rfl ?_
    exact ⟨.inr rfl, trivial, .done ((by rw [h1]; rfl)) rfl⟩
  · have h1 : hasPre s p = true := by simpa using a
    have h2 : p.length ≤ s.length := by simp [hasPre] at h1; exact h1.1
    refine go 99 rfl ?_
    refine Safe.slS p.length s.length h2 (Nat.le_refl _) rfl rfl rfl rfl ?_
    refine go 99 rfl ?_
    exact ⟨.inr rfl, trivial, .done ((by rw [h1]; simp only [if_true]; rw [← List.length_drop, List.take_length]; rfl)) rfl⟩
theorem cut_pre (s p : By) (hs : s.length ≤ big) (hp : p.length ≤ big) : PTri Tryz.prog 253 [.str s, .str p] (.tup [.str (if hasPre s p = true then s.drop p.length else s), .bool (hasPre s p)]) := by
  refine PTri.of_safe Tryz.func253 rfl Tryz.results253 Tryz.ntmps253 rfl ?_
  refine go 99 rfl ?_
  refine Safe.call (cut_pre0 s p hs hp) rfl rfl rfl ?_
  refine go 99 rfl ?_
  exact ⟨.inr rfl, trivial, .done (rfl) rfl⟩
def atR (f : By) : By × Bool := if f.length < 6 ∨ f.take 5 ≠ sAttr then ([], false) else (f.drop 5, isNm (f.drop 5))
theorem ref_attr (f : By) (hl : f.length ≤ big) : PTri Tryz.prog 251 [.str f] (.tup [.str (atR f).1, .bool (atR f).2]) := by
  refine PTri.of_safe Tryz.func251 rfl Tryz.results251 Tryz.ntmps251 rfl ?_
  refine go 99 rfl ?_
  refine Safe.gs rfl (fun a => ?_) (fun a => ?_)
  · have a1 : f.length < 6 := ltc a
    refine go 99 rfl ?_
    exact ⟨.inr rfl, trivial, .done ((by simp only [atR]; rw [if_pos (.inl a1)]; rfl)) rfl⟩
  · have a1 : 6 ≤ f.length := gec a
    refine go 99 rfl ?_
    refine Safe.slS 0 5 (by omega) (by omega) rfl rfl rfl rfl ?_
    refine go 99 rfl ?_
    refine Safe.br rfl (fun b => ?_) (fun b => ?_)
    · have b1 : f.take 5 ≠ sAttr := by simpa using b
      refine go 99 rfl ?_
      exact ⟨.inr rfl, trivial, .done ((by simp only [atR]; rw [if_pos (.inr b1)]; rfl)) rfl⟩
    · have b1 : f.take 5 = sAttr := by simpa using b
      have e1 : (f.drop 5).take (f.length - 5) = f.drop 5 := by rw [← List.length_drop, List.take_length]
      refine go 99 rfl ?_
      refine Safe.draw mixed ?_
      refine DS.go [0] rfl rfl (by kernel_rfl) ?_
      refine DS.valA (i := 1) (eva_slS 5 f.length rfl rfl (by omega) (Nat.le_refl _) rfl) rfl rfl rfl rfl (by kernel_rfl) ?_
      refine DS.eqv (congrArg V.str e1) ?_
      refine DS.go [2] rfl rfl (by kernel_rfl) ?_
      refine DS.valA (i := 3) (eva_slS 5 f.length rfl rfl (by omega) (Nat.le_refl _) rfl) rfl rfl rfl rfl (by kernel_rfl) ?_
      refine DS.eqv (congrArg V.str e1) ?_
      refine DS.call (i := 4) (ref_name (f.drop 5) (by simp only [List.length_drop]; omega)) rfl rfl rfl rfl rfl (by kernel_rfl) ?_
      refine DS.go [5,6] rfl rfl (by kernel_rfl) ?_
      refine DS.fin (by kernel_rfl) rfl ?_
      refine go 99 rfl ?_
      exact ⟨.inr rfl, trivial, .done ((by simp only [atR]; rw [if_neg (by simp [b1]; omega)]; rfl)) rfl⟩
def cndE (rx : By → Int) (c : Cnd) : Int :=
  if isNum c.field = true then (if ¬ (c.op = 1 ∨ c.op = 2 ∨ c.op = 5 ∨ c.op = 6) then 8 else if c.text ≠ [] then 1 else if c.number < 0 ∨ 1099511627776 < c.number then 2 else 0)
  else if ¬ (c.field = sService ∨ c.field = sName ∨ (atR c.field).2 = true) then 5 else if c.op < 1 ∨ 4 < c.op then 8 else if c.number ≠ 0 then 1 else if c.op ≤ 2 then (if 200 < c.text.length then 4 else 0) else rx c.text
abbrev cndV (c : Cnd) : V := .agg (cndC c)
theorem at_alg (f : By) : (atR f).2 = (hasPre f sAttr && isNm (f.drop 5)) := by
  simp only [atR, hasPre]
  split
  · rename_i h
    rcases h with h | h
    · by_cases h5 : f.length = 5
      · have : f.drop 5 = [] := List.drop_of_length_le (by omega)
        rw [this]
        simp [isNm]
      · rw [decide_eq_false (by simp; omega)]; rfl
    · have : (f.take sAttr.length == sAttr) = false := by simpa using h
      rw [this]; simp
  · rename_i h
    have h2 : f.take 5 = sAttr := Classical.byContradiction fun h3 => h (.inr h3)
    rw [decide_eq_true (by simp; omega), show (f.take sAttr.length == sAttr) = true by simpa using h2]
    simp
theorem ref_cnd (H : RefRx rx) (c : Cnd) (ho : okC c) : PTri Tryz.prog 231 [cndV c] (nI (cndE rx c)) := by
  refine PTri.of_safe Tryz.func231 rfl Tryz.results231 Tryz.ntmps231 rfl ?_
  refine go 99 rfl ?_
  refine Safe.call (ref_attr c.field ho.1) rfl rfl rfl ?_
  refine go 99 rfl ?_
  refine Safe.call (ref_num c.field) rfl rfl rfl ?_
  refine go 99 rfl ?_
  refine Safe.cut1 (α := Unit) (fun _ => [(1, .ptr 0 0)]) (fun _ => [(0, .cells 170 (cndC c) 4)]) 1 (fun _ => isNum c.field = true ∨ (c.field = sService ∨ c.field = sName ∨ (atR c.field).2 = true)) ?_ ?_
  · repeat' (first | (refine Safe.gs rfl (fun a => ?_) (fun a => ?_) <;> refine go 99 rfl ?_) | (refine Safe.br rfl (fun a => ?_) (fun a => ?_) <;> refine go 99 rfl ?_))
    all_goals first
      | exact ⟨.inr rfl, trivial, .done (nIeq (by simp_all [cndE])) rfl⟩
      | exact ⟨sgI 1, (), by simp_all, rfl, rfl, ⟨fit rfl, trivial⟩, ⟨_, .refl _, .refl _⟩, rfl⟩
  · rintro ⟨⟩ h1
    refine go 99 rfl ?_
    refine Safe.call (ref_num c.field) rfl rfl rfl ?_
    refine go 99 rfl ?_
    refine Safe.br rfl (fun n => ?_) (fun n => ?_)
    · refine go 99 rfl ?_
      repeat' (first | (refine Safe.gs rfl (fun a => ?_) (fun a => ?_) <;> refine go 99 rfl ?_) | (refine Safe.br rfl (fun a => ?_) (fun a => ?_) <;> refine go 99 rfl ?_))
      all_goals exact ⟨.inr rfl, trivial, .done (nIeq (by first | (simp_all [cndE]; done) | (simp_all [cndE]; omega))) rfl⟩
    · have h2 : c.field = sService ∨ c.field = sName ∨ (atR c.field).2 = true := by rcases h1 with h | h; rw [h] at n; cases n; exact h
      have hE : cndE rx c = if c.op < 1 ∨ 4 < c.op then 8 else if c.number ≠ 0 then 1 else if c.op ≤ 2 then (if 200 < c.text.length then 4 else 0) else rx c.text := by
        simp only [cndE]; rw [if_neg (by simp [n]), if_neg (fun hn => hn h2)]
      refine go 99 rfl ?_
      refine Safe.cut1 (α := Unit) (fun _ => [(1, .ptr 0 0)]) (fun _ => [(0, .cells 170 (cndC c) 4)]) 1 (fun _ => ¬ (c.op < 1 ∨ 4 < c.op)) ?_ ?_
      · repeat' (first | (refine Safe.gs rfl (fun a => ?_) (fun a => ?_) <;> refine go 99 rfl ?_) | (refine Safe.br rfl (fun a => ?_) (fun a => ?_) <;> refine go 99 rfl ?_))
        all_goals first
          | exact ⟨.inr rfl, trivial, .done (nIeq (by rw [hE, if_pos (by simp at *; omega)])) rfl⟩
          | exact ⟨sgI 1, (), by simp at *; omega, rfl, rfl, ⟨fit rfl, trivial⟩, ⟨_, .refl _, .refl _⟩, rfl⟩
      · rintro ⟨⟩ h3
        rw [if_neg h3] at hE
        refine go 99 rfl ?_
        refine Safe.br rfl (fun b => ?_) (fun b => ?_)
        · refine go 99 rfl ?_
          exact ⟨.inr rfl, trivial, .done (nIeq (by rw [hE, if_pos (by simpa using b)])) rfl⟩
        · rw [if_neg (by simpa using b)] at hE
          refine go 99 rfl ?_
          refine Safe.cut1 (α := Unit) (fun _ => [(1, .ptr 0 0)]) (fun _ => [(0, .cells 170 (cndC c) 4)]) 1 (fun _ => ¬ (c.op ≤ 2 ∧ 200 < c.text.length)) ?_ ?_
          · repeat' (first | (refine Safe.gs rfl (fun a => ?_) (fun a => ?_) <;> refine go 99 rfl ?_) | (refine Safe.br rfl (fun a => ?_) (fun a => ?_) <;> refine go 99 rfl ?_))
            all_goals first
              | exact ⟨.inr rfl, trivial, .done (nIeq (by rw [hE, if_pos (by simp at *; omega), if_pos (by simp at *; omega)])) rfl⟩
              | exact ⟨sgI 1, (), by simp at *; omega, rfl, rfl, ⟨fit rfl, trivial⟩, ⟨_, .refl _, .refl _⟩, rfl⟩
          · rintro ⟨⟩ h4
            refine go 99 rfl ?_
            refine Safe.br rfl (fun d => ?_) (fun d => ?_)
            · have d1 : c.op ≤ 2 := of_decide_eq_true d
              refine go 99 rfl ?_
              exact ⟨.inr rfl, trivial, .done (nIeq (by rw [hE, if_pos d1, if_neg (by omega)])) rfl⟩
            · have d1 : ¬ c.op ≤ 2 := of_decide_eq_false d
              refine go 99 rfl ?_
              refine Safe.call (H c.text ho.2) rfl rfl rfl ?_
              refine go 99 rfl ?_
              exact ⟨.inr rfl, trivial, .done (nIeq (by rw [hE, if_neg d1])) rfl⟩
theorem alg_cnd (H : AlgRx rx) (c : Cnd) (ho : okC c) : PTri Tryz.prog 237 [cndV c] (nI (cndE rx c)) := by
  refine PTri.of_safe Tryz.func237 rfl Tryz.results237 Tryz.ntmps237 rfl ?_
  refine go 99 rfl ?_
  refine Safe.call (cut_pre c.field sAttr ho.1 (by simp [big])) rfl rfl rfl ?_
  refine go 99 rfl ?_
  refine Safe.call (alg_num c.field) rfl rfl rfl ?_
  refine go 99 rfl ?_
  refine Safe.br rfl (fun n => ?_) (fun n => ?_)
  · refine go 99 rfl ?_
    repeat' (first | (refine Safe.gs rfl (fun a => ?_) (fun a => ?_) <;> refine go 99 rfl ?_) | (refine Safe.br rfl (fun a => ?_) (fun a => ?_) <;> refine go 99 rfl ?_))
    all_goals exact ⟨.inr rfl, trivial, .done (nIeq (by first | (simp_all [cndE]; done) | (simp_all [cndE]; omega))) rfl⟩
  · refine go 99 rfl ?_
    have hat := at_alg c.field
    have h5 : ¬ (c.field = sService ∨ c.field = sName ∨ (atR c.field).2 = true) → cndE rx c = 5 := fun h => by simp only [cndE]; rw [if_neg (by simp [n]), if_pos h]
    refine Safe.cut2 (α := Unit) (fun _ => [(1, .ptr 0 0)]) (fun _ => [(0, .cells 170 (cndC c) 4)]) 1 (fun _ => c.field = sService ∨ c.field = sName ∨ (atR c.field).2 = true) ?_ ?_
    · refine Safe.gs rfl (fun a => ?_) (fun a => ?_)
      · refine go 99 rfl ?_
        exact ⟨sgI 1, (), .inl (by simpa using a), rfl, rfl, ⟨fit rfl, trivial⟩, ⟨_, .refl _, .refl _⟩, rfl⟩
      · have a1 : ¬ c.field = sService := by simpa using a
        refine go 99 rfl ?_
        refine Safe.gs rfl (fun b => ?_) (fun b => ?_)
        · refine go 99 rfl ?_
          exact ⟨sgI 1, (), .inr (.inl (by simpa using b)), rfl, rfl, ⟨fit rfl, trivial⟩, ⟨_, .refl _, .refl _⟩, rfl⟩
        · have b1 : ¬ c.field = sName := by simpa using b
          refine go 99 rfl ?_
          refine Safe.gs rfl (fun p => ?_) (fun p => ?_)
          · have e1 : (if hasPre c.field sAttr = true then c.field.drop sAttr.length else c.field) = c.field.drop 5 := by rw [if_pos p]; rfl
            refine go 99 rfl ?_
            refine Safe.call (alg_name (if hasPre c.field sAttr = true then c.field.drop sAttr.length else c.field) (by have := ho.1; rw [e1]; simp only [List.length_drop]; omega)) rfl rfl rfl ?_
            refine go 99 rfl ?_
            refine Safe.br rfl (fun q => ?_) (fun q => ?_)
            · refine go 99 rfl ?_
              exact ⟨sgI 1, (), .inr (.inr (by rw [hat, p, ← e1, q]; rfl)), rfl, rfl, ⟨fit rfl, trivial⟩, ⟨_, .refl _, .refl _⟩, rfl⟩
            · refine go 99 rfl ?_
              exact ⟨.inr rfl, trivial, .done (nIeq (h5 (by rw [hat, p, ← e1, q]; simp [a1, b1])).symm) rfl⟩
          · refine go 99 rfl ?_
            exact ⟨.inr rfl, trivial, .done (nIeq (h5 (by rw [hat, p]; simp [a1, b1])).symm) rfl⟩
    · rintro ⟨⟩ h2
      have hE : cndE rx c = if c.op < 1 ∨ 4 < c.op then 8 else if c.number ≠ 0 then 1 else if c.op ≤ 2 then (if 200 < c.text.length then 4 else 0) else rx c.text := by
        simp only [cndE]; rw [if_neg (by simp [n]), if_neg (fun hn => hn h2)]
      refine go 99 rfl ?_
      refine Safe.cut1 (α := Unit) (fun _ => [(1, .ptr 0 0)]) (fun _ => [(0, .cells 170 (cndC c) 4)]) 1 (fun _ => ¬ (c.op < 1 ∨ 4 < c.op)) ?_ ?_
      · repeat' (first | (refine Safe.gs rfl (fun a => ?_) (fun a => ?_) <;> refine go 99 rfl ?_) | (refine Safe.br rfl (fun a => ?_) (fun a => ?_) <;> refine go 99 rfl ?_))
        all_goals first
          | exact ⟨.inr rfl, trivial, .done (nIeq (by rw [hE, if_pos (by simp at *; omega)])) rfl⟩
          | exact ⟨sgI 1, (), by simp at *; omega, rfl, rfl, ⟨fit rfl, trivial⟩, ⟨_, .refl _, .refl _⟩, rfl⟩
      · rintro ⟨⟩ h3
        rw [if_neg h3] at hE
        refine go 99 rfl ?_
        refine Safe.br rfl (fun b => ?_) (fun b => ?_)
        · refine go 99 rfl ?_
          exact ⟨.inr rfl, trivial, .done (nIeq (by rw [hE, if_pos (by simpa using b)])) rfl⟩
        · rw [if_neg (by simpa using b)] at hE
          refine go 99 rfl ?_
          refine Safe.br rfl (fun d => ?_) (fun d => ?_)
          · have d1 : 3 ≤ c.op := of_decide_eq_true d
            refine go 99 rfl ?_
            refine Safe.call (H c.text ho.2) rfl rfl rfl ?_
            refine go 99 rfl ?_
            exact ⟨.inr rfl, trivial, .done (nIeq (by rw [hE, if_neg (by omega)])) rfl⟩
          · have d1 : ¬ 3 ≤ c.op := of_decide_eq_false d
            rw [if_pos (by omega)] at hE
            refine go 99 rfl ?_
            refine Safe.br rfl (fun u => ?_) (fun u => ?_)
            · have hu : 200 < c.text.length := ltc u
              refine go 99 rfl ?_
              exact ⟨.inr rfl, trivial, .done (nIeq (by rw [hE, if_pos hu])) rfl⟩
            · have hu : c.text.length ≤ 200 := gec u
              refine go 99 rfl ?_
              exact ⟨.inr rfl, trivial, .done (nIeq (by rw [hE, if_neg (by omega)])) rfl⟩
def patE1 (rx : By → Int) (k : Int) (cs : List Cnd) (na : Nat) : Int :=
  if k < 1 ∨ 9 < k then 8 else if (na : Int) ≠ (if k = 1 then 0 else if k = 9 then 1 else 2) ∨ (k ≠ 1 ∧ 0 < cs.length) then 1 else if 16 < cs.length then 4 else errG (cndE rx) cs
theorem patE1_1 {k : Int} {cs : List Cnd} {na : Nat} {q : Int} (hq : (if k = 1 then (0 : Int) else if k = 9 then 1 else 2) = q) (h1 : ¬ (k < 1 ∨ 9 < k)) (h2 : (na : Int) ≠ q ∨ (k ≠ 1 ∧ 0 < cs.length)) : patE1 rx k cs na = 1 := by
  unfold patE1
  rw [if_neg h1, hq, if_pos h2]
mutual
def patE (rx : By → Int) : Pat → Int
  | ⟨k, cs, l⟩ => if patE1 rx k cs l.length ≠ 0 then patE1 rx k cs l.length else patEs rx l
def patEs (rx : By → Int) : List Pat → Int
  | [] => 0
  | a :: r => if patE rx a ≠ 0 then patE rx a else patEs rx r
end
theorem patE_eq (rx : By → Int) (p : Pat) : patE rx p = if patE1 rx p.kind p.conds p.args.length ≠ 0 then patE1 rx p.kind p.conds p.args.length else patEs rx p.args := by cases p; rfl
theorem patEs_errG (rx : By → Int) : ∀ l : List Pat, patEs rx l = errG (patE rx) l
  | [] => rfl
  | a :: r => by simp only [patEs, errG, patEs_errG rx r]
theorem ref_patE (H : RefRx rx) : ∀ (k : Nat) (e : Pat), depP e ≤ k → okP e → PTri Tryz.prog 204 [patV e] (nI (patE rx e))
  | 0, e, hb, _ => by rw [depP_eq] at hb; omega
  | k + 1, e, hb, ho => by
    rw [depP_eq] at hb
    rw [okP_eq] at ho
    obtain ⟨⟨hc, hcs⟩, hl, hos⟩ := ho
    simp only [big] at hc hl
    have hE := patE_eq rx e
    rw [patEs_errG] at hE
    have hr : ∀ r : Int, r ≠ 0 → patE1 rx e.kind e.conds e.args.length = r → patE rx e = r := fun r h1 h2 => by rw [hE, h2, if_pos h1]
    refine PTri.of_safe Tryz.func204 rfl Tryz.results204 Tryz.ntmps204 rfl ?_
    refine go 99 rfl ?_
    refine Safe.cut1 (α := Unit) (fun _ => [(1, .ptr 0 0)]) (fun _ => [(0, .cells 31 (patC e) 3)]) 1 (fun _ => ¬ (e.kind < 1 ∨ 9 < e.kind)) ?_ ?_
    · repeat' (first | (refine Safe.gs rfl (fun a => ?_) (fun a => ?_) <;> refine go 99 rfl ?_) | (refine Safe.br rfl (fun a => ?_) (fun a => ?_) <;> refine go 99 rfl ?_))
      all_goals first
        | exact ⟨.inr rfl, trivial, .done (nIeq (hr 8 (by decide) (by simp only [patE1]; rw [if_pos (by simp at *; omega)])).symm) rfl⟩
        | exact ⟨sgI 1, (), (by first | (simp_all [ne_eq]; done) | (simp_all [ne_eq]; omega) | (simp_all [ne_eq]; intros; omega) | (rw [Bool.eq_iff_iff]; simp_all [ne_eq]; omega)), rfl, rfl, ⟨fit rfl, trivial⟩, ⟨_, .refl _, .refl _⟩, rfl⟩
    · rintro ⟨⟩ h1
      refine go 99 rfl ?_
      refine Safe.cut (α := Unit) (fun _ => [(1, .ptr 0 0), (3, nI (if e.kind = 1 then 0 else 2))]) (fun _ => [(0, .cells 31 (patC e) 3)]) 1 (fun _ => True) ?_ ?_
      · refine Safe.br rfl (fun a => ?_) (fun a => ?_)
        · refine go 99 rfl ?_
          exact ⟨sgI 1, (), trivial, rfl, rfl, ⟨fit rfl, fit (nIeq (by rw [if_pos (by simpa using a)])), trivial⟩, ⟨_, .refl _, .refl _⟩, rfl⟩
        · refine go 99 rfl ?_
          exact ⟨sgI 1, (), trivial, rfl, rfl, ⟨fit rfl, fit (nIeq (by rw [if_neg (by simpa using a)])), trivial⟩, ⟨_, .refl _, .refl _⟩, rfl⟩
      · rintro ⟨⟩ -
        refine go 99 rfl ?_
        refine Safe.cut (α := Unit) (fun _ => [(1, .ptr 0 0), (3, nI (if e.kind = 1 then 0 else if e.kind = 9 then 1 else 2))]) (fun _ => [(0, .cells 31 (patC e) 3)]) 1 (fun _ => True) ?_ ?_
        · refine Safe.br rfl (fun a => ?_) (fun a => ?_)
          · have a1 : e.kind = 9 := by simpa using a
            refine go 99 rfl ?_
            exact ⟨sgI 1, (), trivial, rfl, rfl, ⟨fit rfl, fit (nIeq (by rw [if_neg (by omega), if_pos a1])), trivial⟩, ⟨_, .refl _, .refl _⟩, rfl⟩
          · have a1 : ¬ e.kind = 9 := by simpa using a
            refine go 99 rfl ?_
            exact ⟨sgI 1, (), trivial, rfl, rfl, ⟨fit rfl, fit (nIeq (by rw [if_neg a1])), trivial⟩, ⟨_, .refl _, .refl _⟩, rfl⟩
        · rintro ⟨⟩ -
          generalize hq : (if e.kind = 1 then (0 : Int) else if e.kind = 9 then 1 else 2) = q at *
          refine go 99 rfl ?_
          refine Safe.cut1 (α := Unit) (fun _ => [(1, .ptr 0 0)]) (fun _ => [(0, .cells 31 (patC e) 3)]) 1 (fun _ => ¬ ((e.args.length : Int) ≠ q ∨ (e.kind ≠ 1 ∧ 0 < e.conds.length))) ?_ ?_
          · repeat' (first | (refine Safe.gs rfl (fun a => ?_) (fun a => ?_) <;> refine go 99 rfl ?_) | (refine Safe.br rfl (fun a => ?_) (fun a => ?_) <;> refine go 99 rfl ?_))
            all_goals first
              | exact ⟨.inr rfl, trivial, .done (nIeq (hr 1 (by decide) (patE1_1 hq h1 (by first | (simp_all [ne_eq]; done) | (simp_all [ne_eq]; omega) | (simp_all [ne_eq]; intros; omega) | (rw [Bool.eq_iff_iff]; simp_all [ne_eq]; omega)))).symm) rfl⟩
              | exact ⟨sgI 1, (), (by first | (simp_all [ne_eq]; done) | (simp_all [ne_eq]; omega) | (simp_all [ne_eq]; intros; omega) | (rw [Bool.eq_iff_iff]; simp_all [ne_eq]; omega)), rfl, rfl, ⟨fit rfl, trivial⟩, ⟨_, .refl _, .refl _⟩, rfl⟩
          · rintro ⟨⟩ h2
            refine go 99 rfl ?_
            refine Safe.br rfl (fun c => ?_) (fun c => ?_)
            · have hc1 : 16 < e.conds.length := ltc c
              refine go 99 rfl ?_
              exact ⟨.inr rfl, trivial, .done (nIeq (hr 4 (by decide) (by simp only [patE1]; rw [if_neg h1, hq, if_neg h2, if_pos hc1])).symm) rfl⟩
            · have hc1 : e.conds.length ≤ 16 := gec c
              have hE1 : patE1 rx e.kind e.conds e.args.length = errG (cndE rx) e.conds := by simp only [patE1]; rw [if_neg h1, hq, if_neg h2, if_neg (by omega)]
              rw [hE1] at hE
              refine go 99 rfl ?_
              refine Safe.loop (α := Nat) (fun i => [(1, .ptr 0 0), (4, nI i)]) (fun i => [(0, .cells 31 (patC e) 3)]) 1 (fun i => e.conds.length - i) (fun i => i ≤ e.conds.length ∧ errG (cndE rx) e.conds = errG (cndE rx) (e.conds.drop i)) 0 (sgI 1) ⟨⟨fit rfl, fit rfl, trivial⟩, ⟨_, .refl _, .refl _⟩, rfl⟩ ⟨Nat.zero_le _, rfl⟩ ?_
              rintro i ⟨hi, ha⟩
              refine go 99 rfl ?_
              refine Safe.br rfl (fun c1 => ?_) (fun c1 => ?_)
              · have hi : i < e.conds.length := ltc c1
                refine go 99 rfl ?_
                refine Safe.idxF hi rfl rfl rfl ?_
                refine Safe.ldF (ldC hi) rfl rfl rfl ?_
                refine Safe.call (ref_cnd H e.conds[i] (hcs _ (List.getElem_mem hi))) rfl rfl rfl ?_
                refine go 99 rfl ?_
                refine Safe.br rfl (fun d => ?_) (fun d => ?_)
                · have hd : cndE rx e.conds[i] ≠ 0 := by simpa using d
                  have h3 := (errS ha hi).1 hd
                  refine go 99 rfl ?_
                  exact ⟨.inr rfl, trivial, .done (nIeq (by rw [hE, h3, if_pos hd])) rfl⟩
                · refine go 99 rfl ?_
                  exact ⟨sgI 1, i + 1, ⟨hi, (errS ha hi).2 (by simpa using d)⟩, mlt hi, rfl, rfl, ⟨fit rfl, fit (isucc (by omega)), trivial⟩, ⟨_, .refl _, .refl _⟩, rfl⟩
              · have hi2 : i = e.conds.length := Nat.le_antisymm hi (gec c1)
                subst hi2
                rw [List.drop_length] at ha
                rw [ha, if_neg (by simp [errG])] at hE
                refine go 99 rfl ?_
                refine Safe.loop (α := Nat) (fun i => [(1, .ptr 0 0), (6, nI i)]) (fun i => [(0, .cells 31 (patC e) 3)]) 1 (fun i => e.args.length - i) (fun i => i ≤ e.args.length ∧ patE rx e = errG (patE rx) (e.args.drop i)) 0 (sgI 1) ⟨⟨fit rfl, fit rfl, trivial⟩, ⟨_, .refl _, .refl _⟩, rfl⟩ ⟨Nat.zero_le _, hE⟩ ?_
                rintro i ⟨hi, ha⟩
                refine go 99 rfl ?_
                refine Safe.br rfl (fun c2 => ?_) (fun c2 => ?_)
                · have hi : i < e.args.length := ltc c2
                  refine go 99 rfl ?_
                  refine Safe.idxF hi rfl rfl rfl ?_
                  refine Safe.ldF (ldPat hi) rfl rfl rfl ?_
                  refine Safe.call (ref_patE H k e.args[i] (by have := depPs_mem hi; omega) (okPs_get hos hi)) rfl rfl rfl ?_
                  refine go 99 rfl ?_
                  refine Safe.br rfl (fun d => ?_) (fun d => ?_)
                  · refine go 99 rfl ?_
                    exact ⟨.inr rfl, trivial, .done (nIeq ((errS ha hi).1 (by simpa using d)).symm) rfl⟩
                  · refine go 99 rfl ?_
                    exact ⟨sgI 1, i + 1, ⟨hi, (errS ha hi).2 (by simpa using d)⟩, mlt hi, rfl, rfl, ⟨fit rfl, fit (isucc (by omega)), trivial⟩, ⟨_, .refl _, .refl _⟩, rfl⟩
                · have hi2 : i = e.args.length := Nat.le_antisymm hi (gec c2)
                  subst hi2
                  rw [List.drop_length] at ha
                  refine go 99 rfl ?_
                  exact ⟨.inr rfl, trivial, .done (nIeq ha.symm) rfl⟩
theorem alg_patE (H : AlgRx rx) : ∀ (k : Nat) (e : Pat), depP e ≤ k → okP e → PTri Tryz.prog 213 [patV e] (nI (patE rx e))
  | 0, e, hb, _ => by rw [depP_eq] at hb; omega
  | k + 1, e, hb, ho => by
    rw [depP_eq] at hb
    rw [okP_eq] at ho
    obtain ⟨⟨hc, hcs⟩, hl, hos⟩ := ho
    simp only [big] at hc hl
    have hE := patE_eq rx e
    rw [patEs_errG] at hE
    have hr : ∀ r : Int, r ≠ 0 → patE1 rx e.kind e.conds e.args.length = r → patE rx e = r := fun r h1 h2 => by rw [hE, h2, if_pos h1]
    refine PTri.of_safe Tryz.func213 rfl Tryz.results213 Tryz.ntmps213 rfl ?_
    refine go 99 rfl ?_
    refine Safe.cut2 (α := Unit) (fun _ => [(1, .ptr 0 0), (3, nI (if e.kind = 1 then 0 else if e.kind = 9 then 1 else 2))]) (fun _ => [(0, .cells 31 (patC e) 3)]) 1 (fun _ => ¬ (e.kind < 1 ∨ 9 < e.kind)) ?_ ?_
    · repeat' (first | (refine Safe.gs rfl (fun a => ?_) (fun a => ?_) <;> refine go 99 rfl ?_) | (refine Safe.br rfl (fun a => ?_) (fun a => ?_) <;> refine go 99 rfl ?_))
      all_goals first
        | exact ⟨.inr rfl, trivial, .done (nIeq (hr 8 (by decide) (by simp only [patE1]; rw [if_pos (by simp at *; omega)])).symm) rfl⟩
        | exact ⟨sgI 1, (), (by first | (simp_all [ne_eq]; done) | (simp_all [ne_eq]; omega) | (simp_all [ne_eq]; intros; omega) | (rw [Bool.eq_iff_iff]; simp_all [ne_eq]; omega)), rfl, rfl, ⟨fit rfl, fit (nIeq (by rw [if_pos (by simp at *; omega)])), trivial⟩, ⟨_, .refl _, .refl _⟩, rfl⟩
        | exact ⟨sgI 1, (), (by first | (simp_all [ne_eq]; done) | (simp_all [ne_eq]; omega) | (simp_all [ne_eq]; intros; omega) | (rw [Bool.eq_iff_iff]; simp_all [ne_eq]; omega)), rfl, rfl, ⟨fit rfl, fit (nIeq (by rw [if_neg (by simp at *; omega), if_pos (by simp at *; omega)])), trivial⟩, ⟨_, .refl _, .refl _⟩, rfl⟩
        | exact ⟨sgI 1, (), (by first | (simp_all [ne_eq]; done) | (simp_all [ne_eq]; omega) | (simp_all [ne_eq]; intros; omega) | (rw [Bool.eq_iff_iff]; simp_all [ne_eq]; omega)), rfl, rfl, ⟨fit rfl, fit (nIeq (by rw [if_neg (by simp at *; omega), if_neg (by simp at *; omega)])), trivial⟩, ⟨_, .refl _, .refl _⟩, rfl⟩
    · rintro ⟨⟩ h1
      generalize hq : (if e.kind = 1 then (0 : Int) else if e.kind = 9 then 1 else 2) = q at *
      refine go 99 rfl ?_
      refine Safe.cut1 (α := Unit) (fun _ => [(1, .ptr 0 0)]) (fun _ => [(0, .cells 31 (patC e) 3)]) 1 (fun _ => ¬ ((e.args.length : Int) ≠ q ∨ (e.kind ≠ 1 ∧ 0 < e.conds.length))) ?_ ?_
      · repeat' (first | (refine Safe.gs rfl (fun a => ?_) (fun a => ?_) <;> refine go 99 rfl ?_) | (refine Safe.br rfl (fun a => ?_) (fun a => ?_) <;> refine go 99 rfl ?_))
        all_goals first
          | exact ⟨.inr rfl, trivial, .done (nIeq (hr 1 (by decide) (patE1_1 hq h1 (by first | (simp_all [ne_eq]; done) | (simp_all [ne_eq]; omega) | (simp_all [ne_eq]; intros; omega) | (rw [Bool.eq_iff_iff]; simp_all [ne_eq]; omega)))).symm) rfl⟩
          | exact ⟨sgI 1, (), (by first | (simp_all [ne_eq]; done) | (simp_all [ne_eq]; omega) | (simp_all [ne_eq]; intros; omega) | (rw [Bool.eq_iff_iff]; simp_all [ne_eq]; omega)), rfl, rfl, ⟨fit rfl, trivial⟩, ⟨_, .refl _, .refl _⟩, rfl⟩
      · rintro ⟨⟩ h2
        refine go 99 rfl ?_
        refine Safe.br rfl (fun c => ?_) (fun c => ?_)
        · have hc1 : 16 < e.conds.length := ltc c
          refine go 99 rfl ?_
          exact ⟨.inr rfl, trivial, .done (nIeq (hr 4 (by decide) (by simp only [patE1]; rw [if_neg h1, hq, if_neg h2, if_pos hc1])).symm) rfl⟩
        · have hc1 : e.conds.length ≤ 16 := gec c
          have hE1 : patE1 rx e.kind e.conds e.args.length = errG (cndE rx) e.conds := by simp only [patE1]; rw [if_neg h1, hq, if_neg h2, if_neg (by omega)]
          rw [hE1] at hE
          refine go 99 rfl ?_
          refine Safe.loop (α := Nat) (fun i => [(1, .ptr 0 0), (48, slV cndC e.conds), (49, nI e.conds.length), (50, nI i)]) (fun i => [(0, .cells 31 (patC e) 3)]) 1 (fun i => e.conds.length - i) (fun i => i ≤ e.conds.length ∧ errG (cndE rx) e.conds = errG (cndE rx) (e.conds.drop i)) 0 (sgI 1) ⟨⟨fit rfl, fit rfl, fit rfl, fit rfl, trivial⟩, ⟨_, .refl _, .refl _⟩, rfl⟩ ⟨Nat.zero_le _, rfl⟩ ?_
          rintro i ⟨hi, ha⟩
          refine go 99 rfl ?_
          refine Safe.br rfl (fun c1 => ?_) (fun c1 => ?_)
          · have hi : i < e.conds.length := ltc c1
            refine go 99 rfl ?_
            refine Safe.idxF hi rfl rfl rfl ?_
            refine Safe.ldF (ldC hi) rfl rfl rfl ?_
            refine go 99 rfl ?_
            refine Safe.call (alg_cnd H e.conds[i] (hcs _ (List.getElem_mem hi))) rfl rfl rfl ?_
            refine go 99 rfl ?_
            refine Safe.br rfl (fun d => ?_) (fun d => ?_)
            · have hd : cndE rx e.conds[i] ≠ 0 := by simpa using d
              have h3 := (errS ha hi).1 hd
              refine go 99 rfl ?_
              exact ⟨.inr rfl, trivial, .done (nIeq (by rw [hE, h3, if_pos hd])) rfl⟩
            · refine go 99 rfl ?_
              exact ⟨sgI 1, i + 1, ⟨hi, (errS ha hi).2 (by simpa using d)⟩, mlt hi, rfl, rfl, ⟨fit rfl, fit rfl, fit rfl, fit (isucc (by omega)), trivial⟩, ⟨_, .refl _, .cons _ (.refl _)⟩, rfl⟩
          · have hi2 : i = e.conds.length := Nat.le_antisymm hi (gec c1)
            subst hi2
            rw [List.drop_length] at ha
            rw [ha, if_neg (by simp [errG])] at hE
            refine go 99 rfl ?_
            refine Safe.loop (α := Nat) (fun i => [(1, .ptr 0 0), (61, slV patL e.args), (62, nI e.args.length), (63, nI i)]) (fun i => [(0, .cells 31 (patC e) 3)]) 1 (fun i => e.args.length - i) (fun i => i ≤ e.args.length ∧ patE rx e = errG (patE rx) (e.args.drop i)) 0 (sgI 1) ⟨⟨fit rfl, fit rfl, fit rfl, fit rfl, trivial⟩, ⟨_, .refl _, .refl _⟩, rfl⟩ ⟨Nat.zero_le _, hE⟩ ?_
            rintro i ⟨hi, ha⟩
            refine go 99 rfl ?_
            refine Safe.br rfl (fun c2 => ?_) (fun c2 => ?_)
            · have hi : i < e.args.length := ltc c2
              refine go 99 rfl ?_
              refine Safe.idxF hi rfl rfl rfl ?_
              refine Safe.ldF (ldPat hi) rfl rfl rfl ?_
              refine go 99 rfl ?_
              refine Safe.call (alg_patE H k e.args[i] (by have := depPs_mem hi; omega) (okPs_get hos hi)) rfl rfl rfl ?_
              refine go 99 rfl ?_
              refine Safe.br rfl (fun d => ?_) (fun d => ?_)
              · refine go 99 rfl ?_
                exact ⟨.inr rfl, trivial, .done (nIeq ((errS ha hi).1 (by simpa using d)).symm) rfl⟩
              · refine go 99 rfl ?_
                exact ⟨sgI 1, i + 1, ⟨hi, (errS ha hi).2 (by simpa using d)⟩, mlt hi, rfl, rfl, ⟨fit rfl, fit rfl, fit rfl, fit (isucc (by omega)), trivial⟩, ⟨_, .refl _, .cons _ (.refl _)⟩, rfl⟩
            · have hi2 : i = e.args.length := Nat.le_antisymm hi (gec c2)
              subst hi2
              rw [List.drop_length] at ha
              refine go 99 rfl ?_
              exact ⟨.inr rfl, trivial, .done (nIeq ha.symm) rfl⟩
def patK (rx : By → Int) (p : Pat) : Int := if 100 < szP p then 4 else if 12 < depP p then 30 else patE rx p
theorem ref_patK (H : RefRx rx) (p : Pat) (ho : okP p) : PTri Tryz.prog 158 [patV p] (nI (patK rx p)) := by
  refine PTri.of_safe Tryz.func158 rfl Tryz.results158 Tryz.ntmps158 rfl ?_
  refine go 99 rfl ?_
  refine Safe.call (ref_szP _ p 0 (Nat.le_refl _) (by omega) ho) rfl rfl rfl ?_
  refine go 99 rfl ?_
  refine Safe.br rfl (fun a => ?_) (fun a => ?_)
  · have a1 : 100 < min (0 + szP p) 101 := ltc a
    refine go 99 rfl ?_
    exact ⟨.inr rfl, trivial, .done (nIeq (by simp only [patK]; rw [if_pos (by omega)])) rfl⟩
  · have a1 : min (0 + szP p) 101 ≤ 100 := gec a
    have hd := depP_sz p
    refine go 99 rfl ?_
    refine Safe.call (ref_depP _ p (Nat.le_refl _) (by omega) ho) rfl rfl rfl ?_
    refine go 99 rfl ?_
    refine Safe.br rfl (fun b => ?_) (fun b => ?_)
    · have b1 : 12 < depP p := ltc b
      refine go 99 rfl ?_
      exact ⟨.inr rfl, trivial, .done (nIeq (by simp only [patK]; rw [if_neg (by omega), if_pos b1])) rfl⟩
    · have b1 : depP p ≤ 12 := gec b
      refine go 99 rfl ?_
      refine Safe.call (ref_patE H _ p (Nat.le_refl _) ho) rfl rfl rfl ?_
      refine go 99 rfl ?_
      exact ⟨.inr rfl, trivial, .done (nIeq (by simp only [patK]; rw [if_neg (by omega), if_neg (by omega)])) rfl⟩
theorem alg_patK (H : AlgRx rx) (p : Pat) (ho : okP p) : PTri Tryz.prog 176 [patV p] (nI (patK rx p)) := by
  refine PTri.of_safe Tryz.func176 rfl Tryz.results176 Tryz.ntmps176 rfl ?_
  refine go 99 rfl ?_
  refine Safe.call (alg_szP _ p 0 (Nat.le_refl _) (by omega) ho) rfl rfl rfl ?_
  refine go 99 rfl ?_
  refine Safe.br rfl (fun a => ?_) (fun a => ?_)
  · have a1 : 100 < min (0 + szP p) 101 := ltc a
    refine go 99 rfl ?_
    exact ⟨.inr rfl, trivial, .done (nIeq (by simp only [patK]; rw [if_pos (by omega)])) rfl⟩
  · have a1 : min (0 + szP p) 101 ≤ 100 := gec a
    have hd := depP_sz p
    refine go 99 rfl ?_
    refine Safe.call (alg_depP _ p (Nat.le_refl _) (by omega) ho) rfl rfl rfl ?_
    refine go 99 rfl ?_
    refine Safe.br rfl (fun b => ?_) (fun b => ?_)
    · have b1 : 12 < depP p := ltc b
      refine go 99 rfl ?_
      exact ⟨.inr rfl, trivial, .done (nIeq (by simp only [patK]; rw [if_neg (by omega), if_pos b1])) rfl⟩
    · have b1 : depP p ≤ 12 := gec b
      refine go 99 rfl ?_
      refine Safe.call (alg_patE H _ p (Nat.le_refl _) ho) rfl rfl rfl ?_
      refine go 99 rfl ?_
      exact ⟨.inr rfl, trivial, .done (nIeq (by simp only [patK]; rw [if_neg (by omega), if_neg (by omega)])) rfl⟩
end Go.Proofs.YtijfihbdcdkalaaGreatDoor
end

section
namespace Go.Proofs.YtijfihbdcdkalaaGreatDoor
open Go.Fw
variable [Gl]
set_option maxRecDepth 20000
set_option maxHeartbeats 2000000
variable {rx : By → Int}
def hM (k : Int) : Bool := k == 2 || k == 3 || k == 5 || k == 8 || k == 10 || k == 11 || k == 12
def hS (k : Int) : Bool := k == 3 || k == 8 || k == 12
def hP (k : Int) : Bool := k == 4 || k == 9
def hW (k : Int) : Bool := hM k || hP k
def hN (k f : Int) : Bool := k == 1 || (k == 2 && decide (10 ≤ f)) || (k == 6 && (f == 6 || f == 7 || f == 9))
def hO (k : Int) : Bool := k == 3 || k == 5 || k == 6 || k == 7
def hG (k : Int) : Bool := hO k || k == 4
def hB (k : Int) : Bool := k == 7
def hT (k f : Int) : Bool := (k == 3 && f == 3) || k == 5 || (k == 6 && f == 8) || k == 13
def hA (k : Int) : Int := if k == 7 then 2 else if k == 6 || k == 12 then 1 else 0
def hasC (k f : Int) : List V := [.bool (hM k), .bool (hS k), .bool (hP k), .bool (hW k), .bool (hN k f), .bool (hG k), .bool (hO k), .bool (hB k), .bool (hT k f), .int .i64 (hA k)]
abbrev okK (k : Int) : Prop := 1 ≤ k ∧ k ≤ 13
theorem kinds13 {k : Int} (h : okK k) : k = 1 ∨ k = 2 ∨ k = 3 ∨ k = 4 ∨ k = 5 ∨ k = 6 ∨ k = 7 ∨ k = 8 ∨ k = 9 ∨ k = 10 ∨ k = 11 ∨ k = 12 ∨ k = 13 := by
  obtain ⟨h1, h2⟩ := h; omega
theorem hasEq {a b c d e f g h i : Bool} {n m : Int} (hn : n = m) : some (V.agg [.bool a, .bool b, .bool c, .bool d, .bool e, .bool f, .bool g, .bool h, .bool i, .int .i64 n]) = some (V.agg [.bool a, .bool b, .bool c, .bool d, .bool e, .bool f, .bool g, .bool h, .bool i, .int .i64 m]) := by rw [hn]
theorem ref_has (e : Ex) : PTri Tryz.prog 143 [exV e] (.agg (hasC e.kind e.fn)) := by
  show PTri Tryz.prog 143 [exV e] (.agg [.bool (hM e.kind), .bool (hS e.kind), .bool (hP e.kind), .bool (hW e.kind), .bool (hN e.kind e.fn), .bool (hG e.kind), .bool (hO e.kind), .bool (hB e.kind), .bool (hT e.kind e.fn), .int .i64 (hA e.kind)])
  refine PTri.of_safe Tryz.func143 rfl Tryz.results143 Tryz.ntmps143 rfl ?_
  refine go 99 rfl ?_
  refine Safe.draw mixed ?_
  refine DS.go [0,1,2,3,4,5] rfl rfl (by kernel_rfl) ?_
  refine DS.fin (by kernel_rfl) rfl ?_
  refine go 99 rfl ?_
  refine Safe.cut0 (α := Bool) (fun b => [(2, .ptr 1 0), (3, nI e.kind), (4, nI e.fn), (5, .ptr 2 0)]) (fun b => [(2, .cells 172 [.bool b, .bool false, .bool false, .bool false, .bool false, .bool false, .bool false, .bool false, .bool false, .int .i64 0] 10), (1, .cells 172 [.bool false, .bool false, .bool false, .bool false, .bool false, .bool false, .bool false, .bool false, .bool false, .int .i64 0] 10)]) 3 (fun b => b = hM e.kind) ?_ ?_
  · repeat' (first | (refine Safe.gs rfl (fun a => ?_) (fun a => ?_) <;> refine go 99 rfl ?_) | (refine Safe.br rfl (fun a => ?_) (fun a => ?_) <;> refine go 99 rfl ?_))
    all_goals first
      | exact ⟨sgI 3, _, (by first | (simp_all [hM, hS, hP, hW, hN, hO, hG, hB, hT]; done) | (simp_all [hM, hS, hP, hW, hN, hO, hG, hB, hT]; omega) | (simp_all [hM, hS, hP, hW, hN, hO, hG, hB, hT]; intros; omega) | (rw [Bool.eq_iff_iff]; simp_all [hM, hS, hP, hW, hN, hO, hG, hB, hT]; omega)), rfl, rfl, ⟨fit rfl, fit rfl, fit rfl, fit rfl, trivial⟩, ⟨_, .refl _, .cons_cons _ (.cons_cons _ (List.nil_sublist _))⟩, rfl⟩
  · rintro _ rfl
    refine go 99 rfl ?_
    refine Safe.cut0 (α := Bool) (fun b => [(2, .ptr 1 0), (3, nI e.kind), (4, nI e.fn), (5, .ptr 2 0)]) (fun b => [(2, .cells 172 [.bool (hM e.kind), .bool b, .bool false, .bool false, .bool false, .bool false, .bool false, .bool false, .bool false, .int .i64 0] 10), (1, .cells 172 [.bool false, .bool false, .bool false, .bool false, .bool false, .bool false, .bool false, .bool false, .bool false, .int .i64 0] 10)]) 3 (fun b => b = hS e.kind) ?_ ?_
    · repeat' (first | (refine Safe.gs rfl (fun a => ?_) (fun a => ?_) <;> refine go 99 rfl ?_) | (refine Safe.br rfl (fun a => ?_) (fun a => ?_) <;> refine go 99 rfl ?_))
      all_goals first
        | exact ⟨sgI 3, _, (by first | (simp_all [hM, hS, hP, hW, hN, hO, hG, hB, hT]; done) | (simp_all [hM, hS, hP, hW, hN, hO, hG, hB, hT]; omega) | (simp_all [hM, hS, hP, hW, hN, hO, hG, hB, hT]; intros; omega) | (rw [Bool.eq_iff_iff]; simp_all [hM, hS, hP, hW, hN, hO, hG, hB, hT]; omega)), rfl, rfl, ⟨fit rfl, fit rfl, fit rfl, fit rfl, trivial⟩, ⟨_, .refl _, .cons_cons _ (.cons_cons _ (List.nil_sublist _))⟩, rfl⟩
    · rintro _ rfl
      refine go 99 rfl ?_
      refine Safe.cut0 (α := Bool) (fun b => [(2, .ptr 1 0), (3, nI e.kind), (4, nI e.fn), (5, .ptr 2 0)]) (fun b => [(2, .cells 172 [.bool (hM e.kind), .bool (hS e.kind), .bool b, .bool false, .bool false, .bool false, .bool false, .bool false, .bool false, .int .i64 0] 10), (1, .cells 172 [.bool false, .bool false, .bool false, .bool false, .bool false, .bool false, .bool false, .bool false, .bool false, .int .i64 0] 10)]) 3 (fun b => b = hP e.kind) ?_ ?_
      · repeat' (first | (refine Safe.gs rfl (fun a => ?_) (fun a => ?_) <;> refine go 99 rfl ?_) | (refine Safe.br rfl (fun a => ?_) (fun a => ?_) <;> refine go 99 rfl ?_))
        all_goals first
          | exact ⟨sgI 3, _, (by first | (simp_all [hM, hS, hP, hW, hN, hO, hG, hB, hT]; done) | (simp_all [hM, hS, hP, hW, hN, hO, hG, hB, hT]; omega) | (simp_all [hM, hS, hP, hW, hN, hO, hG, hB, hT]; intros; omega) | (rw [Bool.eq_iff_iff]; simp_all [hM, hS, hP, hW, hN, hO, hG, hB, hT]; omega)), rfl, rfl, ⟨fit rfl, fit rfl, fit rfl, fit rfl, trivial⟩, ⟨_, .refl _, .cons_cons _ (.cons_cons _ (List.nil_sublist _))⟩, rfl⟩
      · rintro _ rfl
        refine go 99 rfl ?_
        refine Safe.cut0 (α := Bool) (fun b => [(2, .ptr 1 0), (3, nI e.kind), (4, nI e.fn), (5, .ptr 2 0)]) (fun b => [(2, .cells 172 [.bool (hM e.kind), .bool (hS e.kind), .bool (hP e.kind), .bool b, .bool false, .bool false, .bool false, .bool false, .bool false, .int .i64 0] 10), (1, .cells 172 [.bool false, .bool false, .bool false, .bool false, .bool false, .bool false, .bool false, .bool false, .bool false, .int .i64 0] 10)]) 3 (fun b => b = hW e.kind) ?_ ?_
        · repeat' (first | (refine Safe.gs rfl (fun a => ?_) (fun a => ?_) <;> refine go 99 rfl ?_) | (refine Safe.br rfl (fun a => ?_) (fun a => ?_) <;> refine go 99 rfl ?_))
          all_goals first
            | exact ⟨sgI 3, _, (by first | (simp_all [hM, hS, hP, hW, hN, hO, hG, hB, hT]; done) | (simp_all [hM, hS, hP, hW, hN, hO, hG, hB, hT]; omega) | (simp_all [hM, hS, hP, hW, hN, hO, hG, hB, hT]; intros; omega) | (rw [Bool.eq_iff_iff]; simp_all [hM, hS, hP, hW, hN, hO, hG, hB, hT]; omega)), rfl, rfl, ⟨fit rfl, fit rfl, fit rfl, fit rfl, trivial⟩, ⟨_, .refl _, .cons_cons _ (.cons_cons _ (List.nil_sublist _))⟩, rfl⟩
        · rintro _ rfl
          refine go 99 rfl ?_
          refine Safe.cut0 (α := Bool) (fun b => [(2, .ptr 1 0), (3, nI e.kind), (4, nI e.fn), (5, .ptr 2 0)]) (fun b => [(2, .cells 172 [.bool (hM e.kind), .bool (hS e.kind), .bool (hP e.kind), .bool (hW e.kind), .bool b, .bool false, .bool false, .bool false, .bool false, .int .i64 0] 10), (1, .cells 172 [.bool false, .bool false, .bool false, .bool false, .bool false, .bool false, .bool false, .bool false, .bool false, .int .i64 0] 10)]) 3 (fun b => b = hN e.kind e.fn) ?_ ?_
          · repeat' (first | (refine Safe.gs rfl (fun a => ?_) (fun a => ?_) <;> refine go 99 rfl ?_) | (refine Safe.br rfl (fun a => ?_) (fun a => ?_) <;> refine go 99 rfl ?_))
            all_goals first
              | exact ⟨sgI 3, _, (by first | (simp_all [hM, hS, hP, hW, hN, hO, hG, hB, hT]; done) | (simp_all [hM, hS, hP, hW, hN, hO, hG, hB, hT]; omega) | (simp_all [hM, hS, hP, hW, hN, hO, hG, hB, hT]; intros; omega) | (rw [Bool.eq_iff_iff]; simp_all [hM, hS, hP, hW, hN, hO, hG, hB, hT]; omega)), rfl, rfl, ⟨fit rfl, fit rfl, fit rfl, fit rfl, trivial⟩, ⟨_, .refl _, .cons_cons _ (.cons_cons _ (List.nil_sublist _))⟩, rfl⟩
          · rintro _ rfl
            refine go 99 rfl ?_
            refine Safe.cut0 (α := Bool) (fun b => [(2, .ptr 1 0), (3, nI e.kind), (4, nI e.fn), (5, .ptr 2 0)]) (fun b => [(2, .cells 172 [.bool (hM e.kind), .bool (hS e.kind), .bool (hP e.kind), .bool (hW e.kind), .bool (hN e.kind e.fn), .bool false, .bool b, .bool false, .bool false, .int .i64 0] 10), (1, .cells 172 [.bool false, .bool false, .bool false, .bool false, .bool false, .bool false, .bool false, .bool false, .bool false, .int .i64 0] 10)]) 3 (fun b => b = hO e.kind) ?_ ?_
            · repeat' (first | (refine Safe.gs rfl (fun a => ?_) (fun a => ?_) <;> refine go 99 rfl ?_) | (refine Safe.br rfl (fun a => ?_) (fun a => ?_) <;> refine go 99 rfl ?_))
              all_goals first
                | exact ⟨sgI 3, _, (by first | (simp_all [hM, hS, hP, hW, hN, hO, hG, hB, hT]; done) | (simp_all [hM, hS, hP, hW, hN, hO, hG, hB, hT]; omega) | (simp_all [hM, hS, hP, hW, hN, hO, hG, hB, hT]; intros; omega) | (rw [Bool.eq_iff_iff]; simp_all [hM, hS, hP, hW, hN, hO, hG, hB, hT]; omega)), rfl, rfl, ⟨fit rfl, fit rfl, fit rfl, fit rfl, trivial⟩, ⟨_, .refl _, .cons_cons _ (.cons_cons _ (List.nil_sublist _))⟩, rfl⟩
            · rintro _ rfl
              refine go 99 rfl ?_
              refine Safe.cut0 (α := Bool) (fun b => [(2, .ptr 1 0), (3, nI e.kind), (4, nI e.fn), (5, .ptr 2 0)]) (fun b => [(2, .cells 172 [.bool (hM e.kind), .bool (hS e.kind), .bool (hP e.kind), .bool (hW e.kind), .bool (hN e.kind e.fn), .bool b, .bool (hO e.kind), .bool false, .bool false, .int .i64 0] 10), (1, .cells 172 [.bool false, .bool false, .bool false, .bool false, .bool false, .bool false, .bool false, .bool false, .bool false, .int .i64 0] 10)]) 3 (fun b => b = hG e.kind) ?_ ?_
              · repeat' (first | (refine Safe.gs rfl (fun a => ?_) (fun a => ?_) <;> refine go 99 rfl ?_) | (refine Safe.br rfl (fun a => ?_) (fun a => ?_) <;> refine go 99 rfl ?_))
                all_goals first
                  | exact ⟨sgI 3, _, (by first | (simp_all [hM, hS, hP, hW, hN, hO, hG, hB, hT]; done) | (simp_all [hM, hS, hP, hW, hN, hO, hG, hB, hT]; omega) | (simp_all [hM, hS, hP, hW, hN, hO, hG, hB, hT]; intros; omega) | (rw [Bool.eq_iff_iff]; simp_all [hM, hS, hP, hW, hN, hO, hG, hB, hT]; omega)), rfl, rfl, ⟨fit rfl, fit rfl, fit rfl, fit rfl, trivial⟩, ⟨_, .refl _, .cons_cons _ (.cons_cons _ (List.nil_sublist _))⟩, rfl⟩
              · rintro _ rfl
                refine go 99 rfl ?_
                refine Safe.cut0 (α := Bool) (fun b => [(2, .ptr 1 0), (3, nI e.kind), (4, nI e.fn), (5, .ptr 2 0)]) (fun b => [(2, .cells 172 [.bool (hM e.kind), .bool (hS e.kind), .bool (hP e.kind), .bool (hW e.kind), .bool (hN e.kind e.fn), .bool (hG e.kind), .bool (hO e.kind), .bool (hB e.kind), .bool b, .int .i64 0] 10), (1, .cells 172 [.bool false, .bool false, .bool false, .bool false, .bool false, .bool false, .bool false, .bool false, .bool false, .int .i64 0] 10)]) 3 (fun b => b = hT e.kind e.fn) ?_ ?_
                · repeat' (first | (refine Safe.gs rfl (fun a => ?_) (fun a => ?_) <;> refine go 99 rfl ?_) | (refine Safe.br rfl (fun a => ?_) (fun a => ?_) <;> refine go 99 rfl ?_))
                  all_goals first
                    | exact ⟨sgI 3, _, (by first | (simp_all [hM, hS, hP, hW, hN, hO, hG, hB, hT]; done) | (simp_all [hM, hS, hP, hW, hN, hO, hG, hB, hT]; omega) | (simp_all [hM, hS, hP, hW, hN, hO, hG, hB, hT]; intros; omega) | (rw [Bool.eq_iff_iff]; simp_all [hM, hS, hP, hW, hN, hO, hG, hB, hT]; omega)), rfl, rfl, ⟨fit rfl, fit rfl, fit rfl, fit rfl, trivial⟩, ⟨_, .refl _, .cons_cons _ (.cons_cons _ (List.nil_sublist _))⟩, rfl⟩
                · rintro _ rfl
                  refine go 99 rfl ?_
                  repeat' (first | (refine Safe.gs rfl (fun a => ?_) (fun a => ?_) <;> refine go 99 rfl ?_) | (refine Safe.br rfl (fun a => ?_) (fun a => ?_) <;> refine go 99 rfl ?_))
                  all_goals refine ⟨.inr rfl, trivial, .done (hasEq ?_) rfl⟩
                  all_goals simp_all [hA]
end Go.Proofs.YtijfihbdcdkalaaGreatDoor
end

section
namespace Go.Proofs.YtijfihbdcdkalaaGreatDoor
open Go.Fw
variable [Gl]
set_option maxRecDepth 20000
set_option maxHeartbeats 2000000
variable {rx : By → Int}
def sW : List By := [[], [108,97,115,116], [99,111,117,110,116], [115,117,109], [109,105,110], [109,97,120], [97,118,103], [100,101,108,116,97], [105,110,99,114,101,97,115,101], [114,97,116,101], [113,117,97,110,116,105,108,101], [104,105,115,116,113,117,97,110,116,105,108,101]]
def sL : List By := [[], [108,105,110,101,115], [98,121,116,101,115], [117,110,119,114,97,112]]
def sA : List By := [[], [115,117,109], [99,111,117,110,116], [109,105,110], [109,97,120], [97,118,103], [113,117,97,110,116,105,108,101], [116,111,112], [100,105,115,116,105,110,99,116], [115,107,101,116,99,104]]
def sB : List By := [[], [43], [45], [42], [47], [61,61], [33,61], [60], [60,61], [62], [62,61]]
def fns (k : Int) : List By := if k = 2 then sW else if k = 3 then sL else if k = 6 then sA else if k = 7 then sB else []
def nF (k : Int) : Nat := if k = 2 then 12 else if k = 3 then 4 else if k = 6 then 10 else if k = 7 then 11 else 0
theorem fns_len (k : Int) : (fns k).length = nF k := by
  unfold fns nF
  repeat' split
  all_goals rfl
theorem fnsV {k : Int} {l : List By} (h : fns k = l) : some (slV strC l) = some (slV strC (fns k)) := by rw [h]
theorem ref_fns (k : Int) : PTri Tryz.prog 145 [nI k] (slV strC (fns k)) := by
  refine PTri.of_safe Tryz.func145 rfl Tryz.results145 Tryz.ntmps145 rfl ?_
  refine go 99 rfl ?_
  refine Safe.br rfl (fun a => ?_) (fun a => ?_)
  · have h : fns k = sW := by unfold fns; rw [if_pos (by simpa using a)]
    refine go 99 rfl ?_
    exact ⟨.inr rfl, trivial, .frz 0 rfl rfl (.done (fnsV h) rfl)⟩
  · refine go 99 rfl ?_
    refine Safe.br rfl (fun b => ?_) (fun b => ?_)
    · have h : fns k = sL := by unfold fns; rw [if_neg (by simpa using a), if_pos (by simpa using b)]
      refine go 99 rfl ?_
      exact ⟨.inr rfl, trivial, .frz 0 rfl rfl (.done (fnsV h) rfl)⟩
    · refine go 99 rfl ?_
      refine Safe.br rfl (fun c => ?_) (fun c => ?_)
      · have h : fns k = sA := by unfold fns; rw [if_neg (by simpa using a), if_neg (by simpa using b), if_pos (by simpa using c)]
        refine go 99 rfl ?_
        exact ⟨.inr rfl, trivial, .frz 0 rfl rfl (.done (fnsV h) rfl)⟩
      · refine go 99 rfl ?_
        refine Safe.br rfl (fun d => ?_) (fun d => ?_)
        · have h : fns k = sB := by unfold fns; rw [if_neg (by simpa using a), if_neg (by simpa using b), if_neg (by simpa using c), if_pos (by simpa using d)]
          refine go 99 rfl ?_
          exact ⟨.inr rfl, trivial, .frz 0 rfl rfl (.done (fnsV h) rfl)⟩
        · have h : fns k = [] := by unfold fns; rw [if_neg (by simpa using a), if_neg (by simpa using b), if_neg (by simpa using c), if_neg (by simpa using d)]
          refine go 99 rfl ?_
          exact ⟨.inr rfl, trivial, .frz 0 rfl rfl (.done (fnsV h) rfl)⟩
end Go.Proofs.YtijfihbdcdkalaaGreatDoor
end

section
namespace Go.Proofs.YtijfihbdcdkalaaGreatDoor
open Go.Fw
variable [Gl]
set_option maxRecDepth 20000
set_option maxHeartbeats 4000000
variable {rx : By → Int}
theorem tfl25 : tflds Tryz.prog 25 = some [(0,3),(1,3)] := by kernel_rfl
theorem fine25 (a : List V) : eqFine Tryz.prog 25 (.agg a) = true := by simp only [eqFine, tfl25]; rfl
theorem eq25 (a b c d : Int) : evEq Tryz.prog 8 25 (.agg [.int .i64 a, .int .i64 b]) (.agg [.int .i64 c, .int .i64 d]) = some (a == c && (b == d && true)) := by
  rw [evEq, tfl25]
  rfl
def fr1 (e : Ex) : Bool := (((nF e.kind : Int) == 0) && e.fn != 0) || (!hM e.kind && decide (0 < (e.ms.length : Int))) || (!hS e.kind && decide (0 < (e.stages.length : Int))) || (!hW e.kind && (e.range != 0 || e.offset != 0))
def fr2 (e : Ex) : Bool := (!hP e.kind && (e.pat.kind != 0 || decide (0 < (e.pat.conds.length : Int) + e.pat.args.length))) || (!hN e.kind e.fn && !(e.num == 0 && e.den == 0)) || (!hG e.kind && decide (0 < (e.names.length : Int)))
def fr3 (e : Ex) : Bool := (!hO e.kind && e.without) || (!hB e.kind && e.mtch != 0) || (!hT e.kind e.fn && !(e.text == [])) || (e.args.length : Int) != hA e.kind
def frE (e : Ex) : Bool := fr1 e || fr2 e || fr3 e
theorem ref_foreign (e : Ex) (ho : okE e) : PTri Tryz.prog 155 [exV e] (.bool (frE e)) := by
  rw [okE_eq] at ho
  obtain ⟨_, _, _, hp, _⟩ := ho
  rw [okP_eq] at hp
  obtain ⟨⟨hp1, _⟩, hp2, _⟩ := hp
  simp only [big] at hp1 hp2
  refine PTri.of_safe Tryz.func155 rfl Tryz.results155 Tryz.ntmps155 rfl ?_
  refine go 99 rfl ?_
  refine Safe.call (ref_has e) rfl rfl rfl ?_
  refine go 99 rfl ?_
  refine Safe.call (ref_fns e.kind) rfl rfl rfl ?_
  refine Safe.cut1 (α := Unit) (fun _ => [(1, .ptr 0 0), (3, .ptr 1 0)]) (fun _ => [(1, .cells 172 (hasC e.kind e.fn) 10), (0, .cells 34 (exC e) 16)]) 2 (fun _ => fr1 e = false) ?_ ?_
  · refine go 99 rfl ?_
    repeat' (first | (refine Safe.gs rfl (fun a => ?_) (fun a => ?_) <;> refine go 99 rfl ?_) | (refine Safe.br rfl (fun a => ?_) (fun a => ?_) <;> refine go 99 rfl ?_))
    all_goals first
      | (have hb : fr1 e = true := by simp only [fns_len] at *; simp only [fr1]; simp_all
         exact ⟨.inr rfl, trivial, .done (bIeq (by simp only [frE]; rw [hb]; rfl)) rfl⟩)
      | exact ⟨sgI 2, (), by simp only [fns_len] at *; simp only [fr1]; simp_all, rfl, rfl, ⟨fit rfl, fit rfl, trivial⟩, ⟨_, .refl _, .refl _⟩, rfl⟩
  · rintro ⟨⟩ h1
    refine go 99 rfl ?_
    refine Safe.cut1 (α := Unit) (fun _ => [(1, .ptr 0 0), (3, .ptr 1 0)]) (fun _ => [(1, .cells 172 (hasC e.kind e.fn) 10), (0, .cells 34 (exC e) 16)]) 2 (fun _ => fr2 e = false) ?_ ?_
    · have hw : IntKind.i64.wrap ((e.pat.conds.length : Int) + e.pat.args.length) = (e.pat.conds.length : Int) + e.pat.args.length := wrap64_fit (by omega) (by omega)
      repeat' (first | (refine Safe.cmpA (eq25 _ _ _ _) (fine25 _) rfl rfl rfl ?_; refine go 99 rfl ?_) | (refine Safe.gs rfl (fun a => ?_) (fun a => ?_) <;> refine go 99 rfl ?_) | (refine Safe.br rfl (fun a => ?_) (fun a => ?_) <;> refine go 99 rfl ?_))
      all_goals first
        | (have hb : fr2 e = true := by simp only [hw] at *; simp only [fr2]; simp_all
           exact ⟨.inr rfl, trivial, .done (bIeq (by simp only [frE]; rw [hb]; simp)) rfl⟩)
        | exact ⟨sgI 2, (), by simp only [hw] at *; simp only [fr2]; simp_all, rfl, rfl, ⟨fit rfl, fit rfl, trivial⟩, ⟨_, .refl _, .refl _⟩, rfl⟩
    · rintro ⟨⟩ h2
      refine go 99 rfl ?_
      repeat' (first | (refine Safe.gs rfl (fun a => ?_) (fun a => ?_) <;> refine go 99 rfl ?_) | (refine Safe.br rfl (fun a => ?_) (fun a => ?_) <;> refine go 99 rfl ?_))
      all_goals refine ⟨.inr rfl, trivial, .done (bIeq ?_) rfl⟩
      all_goals (simp only [frE, h1, h2, fr3]; simp_all)
end Go.Proofs.YtijfihbdcdkalaaGreatDoor
end

section
namespace Go.Proofs.YtijfihbdcdkalaaGreatDoor
open Go.Fw
variable [Gl]
set_option maxRecDepth 20000
set_option maxHeartbeats 4000000
variable {rx : By → Int}
def topE (e : Ex) : Bool := e.kind == 6 && e.fn == 7
def numE (e : Ex) : Int :=
  if ratE e.num e.den ≠ 0 then 1 else if topE e = true ∧ (e.den ≠ 1 ∨ e.num < 1 ∨ 1000 < e.num) then 2
  else if e.kind ≠ 1 ∧ topE e = false ∧ (e.num < 0 ∨ e.den < e.num) then 2 else 0
theorem ref_number (e : Ex) : PTri Tryz.prog 156 [exV e] (nI (numE e)) := by
  refine PTri.of_safe Tryz.func156 rfl Tryz.results156 Tryz.ntmps156 rfl ?_
  refine go 99 rfl ?_
  refine Safe.call (ref_rat e.num e.den) rfl rfl rfl ?_
  refine go 99 rfl ?_
  refine Safe.br rfl (fun a => ?_) (fun a => ?_)
  · refine go 99 rfl ?_
    exact ⟨.inr rfl, trivial, .done (nIeq (by simp only [numE]; rw [if_pos (by simpa using a)])) rfl⟩
  · have a1 : ¬ ratE e.num e.den ≠ 0 := by simpa using a
    refine go 99 rfl ?_
    refine Safe.cut0 (α := Bool) (fun b => [(1, .ptr 0 0), (3, .bool b)]) (fun b => [(0, .cells 34 (exC e) 16)]) 1 (fun b => b = topE e) ?_ ?_
    · repeat' (first | (refine Safe.gs rfl (fun a => ?_) (fun a => ?_) <;> refine go 99 rfl ?_) | (refine Safe.br rfl (fun a => ?_) (fun a => ?_) <;> refine go 99 rfl ?_))
      all_goals first
        | exact ⟨sgI 1, _, (by first | (simp_all [topE]; done) | (simp_all [topE]; omega) | (simp_all [topE]; intros; omega) | (rw [Bool.eq_iff_iff]; simp_all [topE]; omega)), rfl, rfl, ⟨fit rfl, fit rfl, trivial⟩, ⟨_, .refl _, .refl _⟩, rfl⟩
    · rintro _ rfl
      refine go 99 rfl ?_
      refine Safe.cut1 (α := Unit) (fun _ => [(1, .ptr 0 0), (3, .bool (topE e))]) (fun _ => [(0, .cells 34 (exC e) 16)]) 1 (fun _ => ¬ (topE e = true ∧ (e.den ≠ 1 ∨ e.num < 1 ∨ 1000 < e.num))) ?_ ?_
      · repeat' (first | (refine Safe.gs rfl (fun a => ?_) (fun a => ?_) <;> refine go 99 rfl ?_) | (refine Safe.br rfl (fun a => ?_) (fun a => ?_) <;> refine go 99 rfl ?_))
        all_goals first
          | exact ⟨.inr rfl, trivial, .done (nIeq (by simp only [numE]; rw [if_neg a1, if_pos (by (simp at *; first | omega | (simp [*]; done) | (simp [*]; omega)))])) rfl⟩
          | exact ⟨sgI 1, (), by (simp at *; first | omega | (simp [*]; done) | (simp [*]; omega)), rfl, rfl, ⟨fit rfl, fit rfl, trivial⟩, ⟨_, .refl _, .refl _⟩, rfl⟩
      · rintro ⟨⟩ h1
        refine go 99 rfl ?_
        repeat' (first | (refine Safe.gs rfl (fun a => ?_) (fun a => ?_) <;> refine go 99 rfl ?_) | (refine Safe.br rfl (fun a => ?_) (fun a => ?_) <;> refine go 99 rfl ?_))
        all_goals first
          | exact ⟨.inr rfl, trivial, .done (nIeq (by simp only [numE]; rw [if_neg a1, if_neg h1, if_pos (by (simp at *; first | omega | (simp [*]; done) | (simp [*]; omega)))])) rfl⟩
          | exact ⟨.inr rfl, trivial, .done (nIeq (by simp only [numE]; rw [if_neg a1, if_neg h1, if_neg (by (simp at *; first | omega | (simp [*]; done) | (simp [*]; omega)))])) rfl⟩
def isVw (s : By) : Bool := (s.all fun c => isVB c.toNat) && decide (0 < (s.length : Int)) && decide ((s.length : Int) ≤ 60)
theorem ref_view (s : By) (hl : s.length ≤ big) : PTri Tryz.prog 78 [.str s] (.bool (isVw s)) := by
  simp only [big] at hl
  refine PTri.of_safe Tryz.func78 rfl Tryz.results78 Tryz.ntmps78 rfl ?_
  refine go 99 rfl ?_
  refine Safe.loop (α := Nat) (fun i => [(0, .str s), (3, nI i)]) (fun i => []) 0 (fun i => s.length - i) (fun i => i ≤ s.length ∧ s.all (fun c => isVB c.toNat) = (s.drop i).all (fun c => isVB c.toNat)) 0 (sgI 0) ⟨⟨fit rfl, fit rfl, trivial⟩, ⟨_, .refl _, List.nil_sublist _⟩, rfl⟩ ⟨Nat.zero_le _, rfl⟩ ?_
  rintro i ⟨hi, ha⟩
  refine go 99 rfl ?_
  refine Safe.br rfl (fun c => ?_) (fun c => ?_)
  · have hi : i < s.length := ltc c
    rw [all_drop hi] at ha
    refine go 99 rfl ?_
    refine Safe.idxS hi rfl rfl rfl ?_
    refine go 99 rfl ?_
    refine Safe.cut2 (α := Unit) (fun _ => [(0, .str s), (3, nI i)]) (fun _ => []) 0 (fun _ => isVB s[i].toNat = true) ?_ ?_
    · repeat' (first | (refine Safe.idxS hi rfl rfl rfl ?_; refine go 99 rfl ?_) | (refine Safe.gs rfl (fun a => ?_) (fun a => ?_) <;> refine go 99 rfl ?_) | (refine Safe.br rfl (fun a => ?_) (fun a => ?_) <;> refine go 99 rfl ?_))
      all_goals first
        | (have hb : isVB s[i].toNat = false := by simp_all [isVB] <;> omega
           exact ⟨.inr rfl, trivial, .done (bIeq (by simp only [isVw]; rw [ha, hb]; rfl)) rfl⟩)
        | exact ⟨sgI 0, (), by simp_all [isVB] <;> omega, rfl, rfl, ⟨fit rfl, fit rfl, trivial⟩, ⟨_, .refl _, List.nil_sublist _⟩, rfl⟩
    · rintro ⟨⟩ h1
      refine go 99 rfl ?_
      exact ⟨sgI 0, i + 1, ⟨hi, by simp_all⟩, mlt hi, rfl, rfl, ⟨fit rfl, fit (isucc (by omega)), trivial⟩, ⟨_, .refl _, List.nil_sublist _⟩, rfl⟩
  · have hi2 : i = s.length := Nat.le_antisymm hi (gec c)
    subst hi2
    rw [List.drop_length] at ha
    refine go 99 rfl ?_
    repeat' (first | (refine Safe.gs rfl (fun a => ?_) (fun a => ?_) <;> refine go 99 rfl ?_) | (refine Safe.br rfl (fun a => ?_) (fun a => ?_) <;> refine go 99 rfl ?_))
    all_goals exact ⟨.inr rfl, trivial, .done (bIeq (by simp only [isVw, ha]; simp_all)) rfl⟩
end Go.Proofs.YtijfihbdcdkalaaGreatDoor
end

section
namespace Go.Proofs.YtijfihbdcdkalaaGreatDoor
open Go.Fw
variable [Gl]
set_option maxRecDepth 20000
set_option maxHeartbeats 4000000
variable {rx : By → Int}
def txtE (e : Ex) : Int := if e.kind = 5 ∧ 60 < e.text.length then 4 else if e.kind = 13 ∧ isVw e.text = false then 5 else if (e.kind = 3 ∨ e.kind = 6) ∧ isNm e.text = false then 5 else 0
theorem ref_text (e : Ex) (ho : okE e) : PTri Tryz.prog 159 [exV e] (nI (txtE e)) := by
  rw [okE_eq] at ho
  have ht := ho.2.2.2.2.1
  refine PTri.of_safe Tryz.func159 rfl Tryz.results159 Tryz.ntmps159 rfl ?_
  refine go 99 rfl ?_
  refine Safe.cut1 (α := Unit) (fun _ => [(1, .ptr 0 0)]) (fun _ => [(0, .cells 34 (exC e) 16)]) 1 (fun _ => ¬ (e.kind = 5 ∧ 60 < e.text.length)) ?_ ?_
  · repeat' (first | (refine Safe.gs rfl (fun a => ?_) (fun a => ?_) <;> refine go 99 rfl ?_) | (refine Safe.br rfl (fun a => ?_) (fun a => ?_) <;> refine go 99 rfl ?_))
    all_goals first
      | exact ⟨.inr rfl, trivial, .done (nIeq (by simp only [txtE]; rw [if_pos (by (simp at *; first | omega | (simp [*]; done) | (simp [*]; omega)))])) rfl⟩
      | exact ⟨sgI 1, (), by (simp at *; first | omega | (simp [*]; done) | (simp [*]; omega)), rfl, rfl, ⟨fit rfl, trivial⟩, ⟨_, .refl _, .refl _⟩, rfl⟩
  · rintro ⟨⟩ h1
    refine go 99 rfl ?_
    repeat' (first | (first | refine Safe.call (ref_view e.text ht) rfl rfl rfl ?_ | refine Safe.call (ref_name e.text ht) rfl rfl rfl ?_; refine go 99 rfl ?_) | (refine Safe.gs rfl (fun a => ?_) (fun a => ?_) <;> refine go 99 rfl ?_) | (refine Safe.br rfl (fun a => ?_) (fun a => ?_) <;> refine go 99 rfl ?_))
    all_goals first
      | (exfalso; simp_all; done)
      | (refine ⟨.inr rfl, trivial, .done (nIeq ?_) rfl⟩
         simp only [txtE]
         rw [if_neg h1]
         simp at *
         simp [*]
         done)
      | (refine ⟨.inr rfl, trivial, .done (nIeq ?_) rfl⟩
         simp only [txtE]
         rw [if_neg h1]
         simp at *
         simp [*]
         omega)
end Go.Proofs.YtijfihbdcdkalaaGreatDoor
end

section
namespace Go.Proofs.YtijfihbdcdkalaaGreatDoor
open Go.Fw
variable [Gl]
set_option maxRecDepth 20000
set_option maxHeartbeats 4000000
variable {rx : By → Int}
theorem nmS_true (s : By) : nmS true s = (s == [110, 97, 109, 101] || s == [115, 101, 114, 118, 105, 99, 101]) := by
  simp only [nmS, Bool.not_true, Bool.false_or]
  by_cases h1 : s = [110, 97, 109, 101]
  · subst h1; decide
  · by_cases h2 : s = [115, 101, 114, 118, 105, 99, 101]
    · subst h2; decide
    · simp [h1, h2]
def grpE (e : Ex) : Int := namesE (nmS (e.kind == 4)) e.names
theorem ref_group (e : Ex) (ho : okE e) : PTri Tryz.prog 157 [exV e] (nI (grpE e)) := by
  rw [okE_eq] at ho
  have hl := ho.2.1
  have hb := hl.1
  simp only [big] at hb
  refine PTri.of_safe Tryz.func157 rfl Tryz.results157 Tryz.ntmps157 rfl ?_
  refine go 99 rfl ?_
  refine Safe.cut1 (α := Unit) (fun _ => [(1, .ptr 0 0)]) (fun _ => [(0, .cells 34 (exC e) 16)]) 1 (fun _ => e.kind = 4 ∧ e.names.length ≤ 16) ?_ ?_
  · repeat' (first | (refine Safe.call (ref_names e.names hl) rfl rfl rfl ?_; refine go 99 rfl ?_) | (refine Safe.gs rfl (fun a => ?_) (fun a => ?_) <;> refine go 99 rfl ?_) | (refine Safe.br rfl (fun a => ?_) (fun a => ?_) <;> refine go 99 rfl ?_))
    all_goals first
      | (refine ⟨.inr rfl, trivial, .done (nIeq ?_) rfl⟩
         rename_i a
         have ha : ¬ e.kind = 4 := by simpa using a
         have hk : (e.kind == 4) = false := by simp [ha]
         simp only [grpE, hk, nmS_false]
         done)
      | (refine ⟨.inr rfl, trivial, .done (nIeq ?_) rfl⟩
         rename_i a
         have ha : 16 < e.names.length := ltc a
         simp only [grpE, namesE]
         rw [if_pos ha, if_pos ha]
         done)
      | exact ⟨sgI 1, (), ⟨by simp_all, gec (by assumption)⟩, rfl, rfl, ⟨fit rfl, trivial⟩, ⟨_, .refl _, .refl _⟩, rfl⟩
  · rintro ⟨⟩ ⟨hk, h16⟩
    have hE : grpE e = chkN (nmS true) none e.names := by simp only [grpE, namesE]; rw [if_neg (by omega), hk]; rfl
    refine go 99 rfl ?_
    refine Safe.loop (α := Nat) (fun i => [(1, .ptr 0 0), (3, nI i)]) (fun i => [(0, .cells 34 (exC e) 16)]) 1 (fun i => e.names.length - i) (fun i => i ≤ e.names.length ∧ grpE e = chkN (nmS true) (prvN e.names i) (e.names.drop i)) 0 (sgI 1) ⟨⟨fit rfl, fit rfl, trivial⟩, ⟨_, .refl _, .refl _⟩, rfl⟩ ⟨Nat.zero_le _, hE⟩ ?_
    rintro i ⟨hi, ha⟩
    refine go 99 rfl ?_
    refine Safe.br rfl (fun c1 => ?_) (fun c1 => ?_)
    · have hi : i < e.names.length := ltc c1
      rw [chkN_step hi, nmS_true] at ha
      refine go 99 rfl ?_
      refine Safe.idxF hi rfl rfl rfl ?_
      refine Safe.ldF (ldStr hi) rfl rfl rfl ?_
      refine go 99 rfl ?_
      refine Safe.cut1 (α := Unit) (fun _ => [(1, .ptr 0 0), (3, nI i)]) (fun _ => [(0, .cells 34 (exC e) 16)]) 1 (fun _ => grpE e = if lateN (prvN e.names i) e.names[i] = true then 9 else chkN (nmS true) (prvN e.names (i + 1)) (e.names.drop (i + 1))) ?_ ?_
      · repeat' (first | (first | refine Safe.idxF hi rfl rfl rfl ?_ | refine Safe.ldF (ldStr hi) rfl rfl rfl ?_; refine go 99 rfl ?_) | (refine Safe.gs rfl (fun a => ?_) (fun a => ?_) <;> refine go 99 rfl ?_) | (refine Safe.br rfl (fun a => ?_) (fun a => ?_) <;> refine go 99 rfl ?_))
        all_goals first
          | (refine ⟨.inr rfl, trivial, .done (nIeq ?_) rfl⟩
             rw [ha, if_pos (by simp_all)]
             done)
          | exact ⟨sgI 1, (), by rw [ha, if_neg (by simp_all)], rfl, rfl, ⟨fit rfl, fit rfl, trivial⟩, ⟨_, .refl _, .refl _⟩, rfl⟩
      · rintro ⟨⟩ ha
        refine go 99 rfl ?_
        refine Safe.draw mixed ?_
        refine DS.go [0,1,2] rfl rfl (by kernel_rfl) ?_
        refine DS.gs 3 rfl rfl (fun c => ?_) (fun c => ?_)
        · have h0 : 0 < i := by have := of_decide_eq_true c; omega
          rw [prvN_pos h0 hi] at ha
          refine DS.go [3,4,5,6,9,10,11] rfl rfl (by kernel_rfl) ?_
          refine DS.val (i := 7) (ev_idxF (i := i - 1) (by omega) (isub h0 (by omega)) rfl).ev rfl rfl rfl rfl (by kernel_rfl) ?_
          refine DS.val (i := 8) (ev_ldF (ldStr (by omega)) rfl rfl).ev rfl rfl rfl rfl (by kernel_rfl) ?_
          refine DS.val (i := 12) (ev_idxF hi rfl rfl).ev rfl rfl rfl rfl (by kernel_rfl) ?_
          refine DS.val (i := 13) (ev_ldF (ldStr hi) rfl rfl).ev rfl rfl rfl rfl (by kernel_rfl) ?_
          refine DS.go [14,15] rfl rfl (by kernel_rfl) ?_
          refine DS.fin (by kernel_rfl) rfl ?_
          refine go 99 rfl ?_
          refine Safe.br rfl (fun e1 => ?_) (fun e1 => ?_)
          · rw [if_pos (by simpa [lateN] using e1)] at ha
            refine go 99 rfl ?_
            exact ⟨.inr rfl, trivial, .done (nIeq ha.symm) rfl⟩
          · rw [if_neg (by simp at e1; simp [lateN, e1])] at ha
            refine go 99 rfl ?_
            exact ⟨sgI 1, i + 1, ⟨hi, ha⟩, mlt hi, rfl, rfl, ⟨fit rfl, fit (isucc (by omega)), trivial⟩, ⟨_, .refl _, .refl _⟩, rfl⟩
        · have h0 : i = 0 := by have := of_decide_eq_false c; omega
          rw [if_neg (by simp [prvN, h0, lateN])] at ha
          refine DS.go [3,4,5,6,7,8,9,10,11,12,13,14,15] rfl rfl (by kernel_rfl) ?_
          refine DS.fin (by kernel_rfl) rfl ?_
          refine go 99 rfl ?_
          exact ⟨sgI 1, i + 1, ⟨hi, ha⟩, mlt hi, rfl, rfl, ⟨fit rfl, fit (isucc (by omega)), trivial⟩, ⟨_, .refl _, .refl _⟩, rfl⟩
    · have hi2 : i = e.names.length := Nat.le_antisymm hi (gec c1)
      subst hi2
      rw [List.drop_length] at ha
      refine go 99 rfl ?_
      exact ⟨.inr rfl, trivial, .done (nIeq ha.symm) rfl⟩
end Go.Proofs.YtijfihbdcdkalaaGreatDoor
end

section
namespace Go.Proofs.YtijfihbdcdkalaaGreatDoor
open Go.Fw
variable [Gl]
set_option maxRecDepth 20000
set_option maxHeartbeats 4000000
variable {rx : By → Int}
def badW (e : Ex) : Prop := hW e.kind = true ∧ (e.range < 1 ∨ 1099511627776 < e.range ∨ e.offset < 0 ∨ 1099511627776 < e.offset)
instance (e : Ex) : Decidable (badW e) := by unfold badW; infer_instance
def badF (e : Ex) : Prop := 0 < nF e.kind ∧ (e.fn < 1 ∨ (nF e.kind : Int) ≤ e.fn)
instance (e : Ex) : Decidable (badF e) := by unfold badF; infer_instance
def oneE (rx : By → Int) (e : Ex) : Int :=
  if ¬ okK e.kind then 8 else if badF e then 8 else if frE e = true then 1 else if matsE rx e.ms ≠ 0 then matsE rx e.ms
  else if badW e then 2 else if hN e.kind e.fn = true ∧ numE e ≠ 0 then numE e else if grpE e ≠ 0 then grpE e
  else if e.mtch < 0 ∨ 2 < e.mtch then 8 else if stgsE rx e.stages ≠ 0 then stgsE rx e.stages
  else if hP e.kind = true ∧ patK rx e.pat ≠ 0 then patK rx e.pat else if hT e.kind e.fn = true then txtE e else 0
theorem ref_one (H : RefRx rx) (e : Ex) (ho : okE e) : PTri Tryz.prog 102 [exV e] (nI (oneE rx e)) := by
  have ho' := ho
  rw [okE_eq] at ho'
  obtain ⟨o1, o2, o3, o4, o5, _⟩ := ho'
  have hE : oneE rx e = oneE rx e := rfl
  conv at hE => rhs; rw [oneE]
  refine PTri.of_safe Tryz.func102 rfl Tryz.results102 Tryz.ntmps102 rfl ?_
  refine go 99 rfl ?_
  refine Safe.cut1 (α := Unit) (fun _ => [(1, .ptr 0 0)]) (fun _ => [(0, .cells 34 (exC e) 16)]) 1 (fun _ => okK e.kind) ?_ ?_
  · repeat' (first | (refine Safe.gs rfl (fun a => ?_) (fun a => ?_) <;> refine go 99 rfl ?_) | (refine Safe.br rfl (fun a => ?_) (fun a => ?_) <;> refine go 99 rfl ?_))
    all_goals first
      | (have hn : ¬ okK e.kind := by (simp at *; first | omega | (simp [*]; done) | (simp [*]; omega))
         rw [if_pos hn] at hE
         exact ⟨.inr rfl, trivial, .done (nIeq hE.symm) rfl⟩)
      | exact ⟨sgI 1, (), by (simp at *; first | omega | (simp [*]; done) | (simp [*]; omega)), rfl, rfl, ⟨fit rfl, trivial⟩, ⟨_, .refl _, .refl _⟩, rfl⟩
  · rintro ⟨⟩ h1
    rw [if_neg (by simp [h1])] at hE
    refine go 99 rfl ?_
    refine Safe.call (ref_fns e.kind) rfl rfl rfl ?_
    refine go 99 rfl ?_
    refine Safe.cut1 (α := Unit) (fun _ => [(1, .ptr 0 0)]) (fun _ => [(0, .cells 34 (exC e) 16)]) 1 (fun _ => ¬ badF e) ?_ ?_
    · repeat' (first | (refine Safe.gs rfl (fun a => ?_) (fun a => ?_) <;> refine go 99 rfl ?_) | (refine Safe.br rfl (fun a => ?_) (fun a => ?_) <;> refine go 99 rfl ?_))
      all_goals first
        | (have hn : badF e := by simp only [fns_len] at *; unfold badF; (simp at *; first | omega | (simp [*]; done) | (simp [*]; omega))
           rw [if_pos hn] at hE
           exact ⟨.inr rfl, trivial, .done (nIeq hE.symm) rfl⟩)
        | exact ⟨sgI 1, (), by simp only [fns_len] at *; unfold badF; (simp at *; first | omega | (simp [*]; done) | (simp [*]; omega)), rfl, rfl, ⟨fit rfl, trivial⟩, ⟨_, .refl _, .refl _⟩, rfl⟩
    · rintro ⟨⟩ h2
      rw [if_neg h2] at hE
      refine go 99 rfl ?_
      refine Safe.call (ref_foreign e ho) rfl rfl rfl ?_
      refine go 99 rfl ?_
      refine Safe.br rfl (fun c => ?_) (fun c => ?_)
      · rw [if_pos c] at hE
        refine go 99 rfl ?_
        exact ⟨.inr rfl, trivial, .done (nIeq hE.symm) rfl⟩
      · rw [if_neg (by simp [c])] at hE
        refine go 99 rfl ?_
        refine Safe.call (ref_has e) rfl rfl rfl ?_
        refine go 99 rfl ?_
        refine Safe.call (ref_mats H e.ms o1) rfl rfl rfl ?_
        refine go 99 rfl ?_
        refine Safe.br rfl (fun d => ?_) (fun d => ?_)
        · rw [if_pos (by simpa using d)] at hE
          refine go 99 rfl ?_
          exact ⟨.inr rfl, trivial, .done (nIeq hE.symm) rfl⟩
        · rw [if_neg (by simpa using d)] at hE
          refine go 99 rfl ?_
          refine Safe.cut1 (α := Unit) (fun _ => [(1, .ptr 0 0), (4, .ptr 1 0)]) (fun _ => [(1, .cells 172 (hasC e.kind e.fn) 10), (0, .cells 34 (exC e) 16)]) 2 (fun _ => ¬ badW e) ?_ ?_
          · repeat' (first | (refine Safe.gs rfl (fun a => ?_) (fun a => ?_) <;> refine go 99 rfl ?_) | (refine Safe.br rfl (fun a => ?_) (fun a => ?_) <;> refine go 99 rfl ?_))
            all_goals first
              | (have hn : badW e := by unfold badW; (simp at *; first | omega | (simp [*]; done) | (simp [*]; omega))
                 rw [if_pos hn] at hE
                 exact ⟨.inr rfl, trivial, .done (nIeq hE.symm) rfl⟩)
              | exact ⟨sgI 2, (), by unfold badW; (simp at *; first | omega | (simp [*]; done) | (simp [*]; omega)), rfl, rfl, ⟨fit rfl, fit rfl, trivial⟩, ⟨_, .refl _, .refl _⟩, rfl⟩
          · rintro ⟨⟩ h3
            rw [if_neg h3] at hE
            refine go 99 rfl ?_
            refine Safe.call (ref_number e) rfl rfl rfl ?_
            refine go 99 rfl ?_
            refine Safe.cut1 (α := Unit) (fun _ => [(1, .ptr 0 0), (4, .ptr 1 0)]) (fun _ => [(1, .cells 172 (hasC e.kind e.fn) 10), (0, .cells 34 (exC e) 16)]) 2 (fun _ => ¬ (hN e.kind e.fn = true ∧ numE e ≠ 0)) ?_ ?_
            · repeat' (first | (refine Safe.gs rfl (fun a => ?_) (fun a => ?_) <;> refine go 99 rfl ?_) | (refine Safe.br rfl (fun a => ?_) (fun a => ?_) <;> refine go 99 rfl ?_))
              all_goals first
                | (have hn : (hN e.kind e.fn = true ∧ numE e ≠ 0) := by simp_all
                   rw [if_pos hn] at hE
                   exact ⟨.inr rfl, trivial, .done (nIeq hE.symm) rfl⟩)
                | exact ⟨sgI 2, (), by simp_all, rfl, rfl, ⟨fit rfl, fit rfl, trivial⟩, ⟨_, .refl _, .refl _⟩, rfl⟩
            · rintro ⟨⟩ h4
              rw [if_neg h4] at hE
              refine go 99 rfl ?_
              refine Safe.call (ref_group e ho) rfl rfl rfl ?_
              refine go 99 rfl ?_
              refine Safe.br rfl (fun c5 => ?_) (fun c5 => ?_)
              · rw [if_pos (by simpa using c5)] at hE
                refine go 99 rfl ?_
                exact ⟨.inr rfl, trivial, .done (nIeq hE.symm) rfl⟩
              · rw [if_neg (by simpa using c5)] at hE
                refine go 99 rfl ?_
                refine Safe.cut1 (α := Unit) (fun _ => [(1, .ptr 0 0), (4, .ptr 1 0)]) (fun _ => [(1, .cells 172 (hasC e.kind e.fn) 10), (0, .cells 34 (exC e) 16)]) 2 (fun _ => ¬ (e.mtch < 0 ∨ 2 < e.mtch)) ?_ ?_
                · repeat' (first | (refine Safe.gs rfl (fun a => ?_) (fun a => ?_) <;> refine go 99 rfl ?_) | (refine Safe.br rfl (fun a => ?_) (fun a => ?_) <;> refine go 99 rfl ?_))
                  all_goals first
                    | (have hn : (e.mtch < 0 ∨ 2 < e.mtch) := by (simp at *; first | omega | (simp [*]; done) | (simp [*]; omega))
                       rw [if_pos hn] at hE
                       exact ⟨.inr rfl, trivial, .done (nIeq hE.symm) rfl⟩)
                    | exact ⟨sgI 2, (), by (simp at *; first | omega | (simp [*]; done) | (simp [*]; omega)), rfl, rfl, ⟨fit rfl, fit rfl, trivial⟩, ⟨_, .refl _, .refl _⟩, rfl⟩
                · rintro ⟨⟩ h6
                  rw [if_neg h6] at hE
                  refine go 99 rfl ?_
                  refine Safe.call (ref_stgs H e.stages o3) rfl rfl rfl ?_
                  refine go 99 rfl ?_
                  refine Safe.br rfl (fun c7 => ?_) (fun c7 => ?_)
                  · rw [if_pos (by simpa using c7)] at hE
                    refine go 99 rfl ?_
                    exact ⟨.inr rfl, trivial, .done (nIeq hE.symm) rfl⟩
                  · rw [if_neg (by simpa using c7)] at hE
                    refine go 99 rfl ?_
                    refine Safe.call (ref_patK H e.pat o4) rfl rfl rfl ?_
                    refine go 99 rfl ?_
                    refine Safe.cut1 (α := Unit) (fun _ => [(1, .ptr 0 0), (4, .ptr 1 0)]) (fun _ => [(1, .cells 172 (hasC e.kind e.fn) 10), (0, .cells 34 (exC e) 16)]) 2 (fun _ => ¬ (hP e.kind = true ∧ patK rx e.pat ≠ 0)) ?_ ?_
                    · repeat' (first | (refine Safe.gs rfl (fun a => ?_) (fun a => ?_) <;> refine go 99 rfl ?_) | (refine Safe.br rfl (fun a => ?_) (fun a => ?_) <;> refine go 99 rfl ?_))
                      all_goals first
                        | (have hn : (hP e.kind = true ∧ patK rx e.pat ≠ 0) := by simp_all
                           rw [if_pos hn] at hE
                           exact ⟨.inr rfl, trivial, .done (nIeq hE.symm) rfl⟩)
                        | exact ⟨sgI 2, (), by simp_all, rfl, rfl, ⟨fit rfl, fit rfl, trivial⟩, ⟨_, .refl _, .refl _⟩, rfl⟩
                    · rintro ⟨⟩ h8
                      rw [if_neg h8] at hE
                      refine go 99 rfl ?_
                      refine Safe.br rfl (fun c9 => ?_) (fun c9 => ?_)
                      · rw [if_pos c9] at hE
                        refine go 99 rfl ?_
                        refine Safe.call (ref_text e ho) rfl rfl rfl ?_
                        refine go 99 rfl ?_
                        exact ⟨.inr rfl, trivial, .done (nIeq hE.symm) rfl⟩
                      · rw [if_neg (by simp [c9])] at hE
                        refine go 99 rfl ?_
                        exact ⟨.inr rfl, trivial, .done (nIeq hE.symm) rfl⟩
end Go.Proofs.YtijfihbdcdkalaaGreatDoor
end
