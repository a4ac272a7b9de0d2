/- A part of the proof: PSort, TrydSrtf, W17a, W17, W9, W9a, W10, PTerms, W18, PDec, W21, W22, PFields, PRound, W23, RBase, RBaseL -/
import Derived.Test.YtfdmdcpopmcmcaaDoorPartDB
import Derived.Shelf.SlSortCmp.WholeK
import Derived.Shelf.SlSortCmp.NoneTotal
import Derived.Test.YtfdmdcpopmcmcaaDoorProg
import Derived.Laws.RangeString
import Derived.Test.YtfdmdcpopmcmcaaDoorCards
import Derived.Test.YtfdmdcpopmcmcaaDoorTie
import Derived.WalkKit
import Derived.ProofKit
import Derived.OpenShut
import Derived.Deep.DeepHandedRow
import Derived.Lib.LaidTab
import Derived.Deep.SlicePairs
import Derived.Carry
set_option linter.all false
set_option linter.unusedSectionVars false
set_option linter.unusedVariables false
set_option linter.unusedSimpArgs false
section
namespace Go.Proofs.YtfdmdcpopmcmcaaDoor
open Go.Fw Go.Proofs
theorem bl_no (x y : By) : Op.bytesLess x y = false ↔ y ≤ x := by
  rw [← Bool.not_eq_true, bl_iff]
  exact List.not_lt
theorem cmpB_neg (a b : By) : cmpB a b < 0 ↔ a < b := by
  unfold cmpB
  by_cases h : a < b
  · simp [(bl_iff a b).2 h, h]
  · have h1 := (bl_no a b).2 (List.not_lt.1 h)
    rw [h1]
    simp only [Bool.false_eq_true, if_false, Bool.false_or]
    constructor
    · intro h2; split at h2 <;> omega
    · intro h2; exact absurd h2 h
theorem cmpB_zero (a b : By) : cmpB a b = 0 ↔ a = b := by
  unfold cmpB
  by_cases h : a < b
  · have : a ≠ b := fun e => lt_irr (e ▸ h)
    simp [(bl_iff a b).2 h, this]
  · have h1 := (bl_no a b).2 (List.not_lt.1 h)
    rw [h1]
    simp only [Bool.false_eq_true, if_false, Bool.false_or]
    by_cases e : a = b
    · simp [e]
    · simp [e]
theorem cmpB_le (a b : By) : cmpB a b ≤ 0 ↔ a ≤ b := by
  have h1 := cmpB_neg a b
  have h2 := cmpB_zero a b
  constructor
  · intro h
    by_cases e : cmpB a b = 0
    · rw [h2.1 e]; exact List.le_refl _
    · exact lt_le (h1.1 (by omega))
  · intro h
    by_cases e : a = b
    · rw [h2.2 e]; exact Int.le_refl _
    · have := h1.2 (lt_ne h e); omega
theorem srtN_perm (l : List Lb) : (srtN l).Perm l := List.mergeSort_perm l _
theorem srtN_sorted (l : List Lb) : (srtN l).Pairwise fun x y => x.1 ≤ y.1 := by
  have := List.pairwise_mergeSort (le := fun (x y : Lb) => decide (cmpB x.1 y.1 ≤ 0)) (fun a b c h1 h2 => by simp only [decide_eq_true_eq, cmpB_le] at *; exact le_tr h1 h2) (fun a b => by simp only [Bool.or_eq_true, decide_eq_true_eq, cmpB_le]; exact List.le_total a.1 b.1) l
  refine this.imp ?_
  intro a b h
  simpa [cmpB_le] using h
/-- No two of the same name. -/
def ndup (l : List Lb) : Prop := l.Pairwise fun x y => x.1 ≠ y.1
theorem ndup_perm {l l' : List Lb} (h : l'.Perm l) (hn : ndup l) : ndup l' := (h.pairwise_iff (fun h e => h e.symm)).2 hn
theorem asc_of {l : List Lb} (hs : l.Pairwise fun x y => x.1 ≤ y.1) (hn : ndup l) : l.Pairwise fun x y => x.1 < y.1 :=
  List.Pairwise.imp (fun (h : _ ∧ _) => lt_ne h.1 h.2) (hs.and hn)
theorem asc_eqL : ∀ (a b : List Lb), a.Pairwise (fun x y => x.1 < y.1) → b.Pairwise (fun x y => x.1 < y.1) → (∀ x, x ∈ a ↔ x ∈ b) → a = b
  | [], [], _, _, _ => rfl
  | [], y :: b, _, _, h => by have := (h y).2 (by simp); simp at this
  | x :: a, [], _, _, h => by have := (h x).1 (by simp); simp at this
  | x :: a, y :: b, ha, hb, h => by
    rw [List.pairwise_cons] at ha hb
    have exy : x = y := by
      rcases List.mem_cons.1 ((h x).1 (by simp)) with e | e
      · exact e
      · rcases List.mem_cons.1 ((h y).2 (by simp)) with e' | e'
        · exact e'.symm
        · exact (lt_irr (lt_tr (hb.1 x e) (ha.1 y e'))).elim
    subst exy
    rw [asc_eqL a b ha.2 hb.2 fun z => ⟨fun hz => ?_, fun hz => ?_⟩]
    · rcases List.mem_cons.1 ((h z).1 (List.mem_cons_of_mem _ hz)) with e | e
      · subst e; exact (lt_irr (ha.1 _ hz)).elim
      · exact e
    · rcases List.mem_cons.1 ((h z).2 (List.mem_cons_of_mem _ hz)) with e | e
      · subst e; exact (lt_irr (hb.1 _ hz)).elim
      · exact e
theorem srtN_asc {l : List Lb} (hn : ndup l) : (srtN l).Pairwise fun x y => x.1 < y.1 := asc_of (srtN_sorted l) (ndup_perm (srtN_perm l) hn)
/-- What a sort by name leaves is what we say. -/
theorem srtN_of {l l' : List Lb} (hn : ndup l) (hp : l'.Perm l) (hs : ∀ i j, i < j → j < l.length → ltOf (fun x y : Lb => cmpB x.1 y.1) l'[j]! l'[i]! = false) : l' = srtN l := by
  have hl := hp.length_eq
  refine asc_eqL _ _ (asc_of ?_ (ndup_perm hp hn)) (srtN_asc hn) fun x => (hp.trans (srtN_perm l).symm).mem_iff
  rw [List.pairwise_iff_getElem]
  intro i j hi hj hij
  have := hs i j hij (by omega)
  rw [getElem!_pos l' j hj, getElem!_pos l' i hi] at this
  unfold ltOf at this
  simp only [decide_eq_false_iff_not, cmpB_neg] at this
  exact List.not_lt.1 this
/-- What reading gathers: values that are not empty, no name twice. -/
def gath (l : List Lb) : Prop := (∀ x ∈ l, x.2 ≠ []) ∧ ndup l
theorem getL_none {l : List Lb} (h : ∀ x ∈ l, x.2 ≠ []) {nm : By} (hg : getL l nm = []) : ∀ x ∈ l, x.1 ≠ nm := by
  induction l with
  | nil => simp
  | cons p l ih =>
    simp only [getL] at hg
    split at hg
    · exact absurd hg (h p (by simp))
    · rename_i hne
      intro x hx
      rcases List.mem_cons.1 hx with rfl | hx
      · simpa using hne
      · exact ih (fun y hy => h y (List.mem_cons_of_mem _ hy)) hg x hx
theorem gath_add {l : List Lb} (h : gath l) {x : Lb} (hx : x.2 ≠ []) (hg : getL l x.1 = []) : gath (l ++ [x]) := by
  refine ⟨fun y hy => ?_, List.pairwise_append.2 ⟨h.2, by simp, fun a ha b hb => ?_⟩⟩
  · rcases List.mem_append.1 hy with hy | hy
    · exact h.1 y hy
    · simp only [List.mem_singleton] at hy; subst hy; exact hx
  · simp only [List.mem_singleton] at hb; subst hb
    exact getL_none h.1 hg a ha
theorem parseG_gath : ∀ (st : List (Lb × Bool)) (acc l : List Lb), gath acc → parseG acc st = some l → gath l
  | [], acc, l, h, e => by simp [parseG] at e; exact e ▸ h
  | x :: st, acc, l, h, e => by
    simp only [parseG] at e
    split at e
    · simp at e
    · split at e
      · rename_i hc; exact parseG_gath st _ l (gath_add h hc.1 hc.2) e
      · exact parseG_gath st _ l h e
theorem parseG_step {xs : List (Lb × Bool)} {k : Nat} (h : k < xs.length) (acc : List Lb) : parseG acc (xs.drop k) = if xs[k].2 = false then none else if xs[k].1.2 ≠ [] ∧ getL acc xs[k].1.1 = [] then parseG (acc ++ [xs[k].1]) (xs.drop (k + 1)) else parseG acc (xs.drop (k + 1)) := by
  rw [List.drop_eq_getElem_cons h]; rfl
end Go.Proofs.YtfdmdcpopmcmcaaDoor
end

section
namespace Go.Proofs
open Go.Shelf
def Tryd.srtf_ren : Go.Shelf.Ren := ⟨fun | 6 => 24 | 15 => 32 | 14 => 41 | 28 => 54 | 29 => 55 | 20 => 67 | 21 => 68 | 22 => 69 | 23 => 70 | 24 => 71 | 25 => 72 | 26 => 73 | 27 => 74 | 46 => 87 | 47 => 76 | 48 => 77 | 49 => 88 | 50 => 89 | 57 => 97 | n => n, fun | 22 => 22 | 24 => 41 | 25 => 52 | 3 => 3 | 39 => 60 | 0 => 0 | 53 => 77 | 55 => 79 | 4 => 4 | 46 => 70 | 45 => 69 | 50 => 74 | 5 => 5 | 9 => 9 | 66 => 97 | 70 => 101 | 76 => 111 | 77 => 112 | n => n, fun | n => n⟩
theorem Tryd.srtf : Go.Proofs.SlLaysF0.n6 Tryd.prog Tryd.srtf_ren := {
  mixed := by kernel_rfl
  f6 := ⟨Tryd.f24.name, by decide, Tryd.func24.trans (congrArg some (by kernel_rfl))⟩
  f14 := ⟨Tryd.f41.name, by decide, Tryd.func41.trans (congrArg some (by kernel_rfl))⟩
  f15 := Tryd.func32.trans (congrArg some (by kernel_rfl))
  f20 := ⟨Tryd.f67.name, by decide, Tryd.func67.trans (congrArg some (by kernel_rfl))⟩
  f21 := ⟨Tryd.f68.name, by decide, Tryd.func68.trans (congrArg some (by kernel_rfl))⟩
  f22 := ⟨Tryd.f69.name, by decide, Tryd.func69.trans (congrArg some (by kernel_rfl))⟩
  f23 := ⟨Tryd.f70.name, by decide, Tryd.func70.trans (congrArg some (by kernel_rfl))⟩
  f24 := ⟨Tryd.f71.name, by decide, Tryd.func71.trans (congrArg some (by kernel_rfl))⟩
  f25 := ⟨Tryd.f72.name, by decide, Tryd.func72.trans (congrArg some (by kernel_rfl))⟩
  f26 := ⟨Tryd.f73.name, by decide, Tryd.func73.trans (congrArg some (by kernel_rfl))⟩
  f27 := ⟨Tryd.f74.name, by decide, Tryd.func74.trans (congrArg some (by kernel_rfl))⟩
  f28 := Tryd.func54.trans (congrArg some (by kernel_rfl))
  f29 := Tryd.func55.trans (congrArg some (by kernel_rfl))
  f46 := ⟨Tryd.f87.name, by decide, Tryd.func87.trans (congrArg some (by kernel_rfl))⟩
  f47 := Tryd.func76.trans (congrArg some (by kernel_rfl))
  f48 := Tryd.func77.trans (congrArg some (by kernel_rfl))
  f49 := ⟨Tryd.f88.name, by decide, Tryd.func88.trans (congrArg some (by kernel_rfl))⟩
  f50 := ⟨Tryd.f89.name, by decide, Tryd.func89.trans (congrArg some (by kernel_rfl))⟩
  f57 := ⟨Tryd.f97.name, by decide, Tryd.func97.trans (congrArg some (by kernel_rfl))⟩
  t0 := Tryd.underlying0
  a0 := Tryd.isAgg0
  z0 := Tryd.sizeOf0
  v0 := Tryd.zeroValue0
  t3 := Tryd.underlying3
  a3 := Tryd.isAgg3
  z3 := Tryd.sizeOf3
  v3 := Tryd.zeroValue3
  t4 := Tryd.underlying4
  a4 := Tryd.isAgg4
  z4 := Tryd.sizeOf4
  v4 := Tryd.zeroValue4
  t5 := Tryd.underlying5
  a5 := Tryd.isAgg5
  z5 := Tryd.sizeOf5
  v5 := Tryd.zeroValue5
  t9 := Tryd.underlying9
  a9 := Tryd.isAgg9
  z9 := Tryd.sizeOf9
  v9 := Tryd.zeroValue9
  t22 := Tryd.underlying22
  a22 := Tryd.isAgg22
  z22 := Tryd.sizeOf22
  v22 := Tryd.zeroValue22
  t25 := Tryd.underlying52
  a25 := Tryd.isAgg52
  z25 := Tryd.sizeOf52
  v25 := Tryd.zeroValue52
  t39 := Tryd.underlying60
  a39 := Tryd.isAgg60
  z39 := Tryd.sizeOf60
  v39 := Tryd.zeroValue60
  t45 := Tryd.underlying69
  a45 := Tryd.isAgg69
  z45 := Tryd.sizeOf69
  v45 := Tryd.zeroValue69
  t46 := Tryd.underlying70
  a46 := Tryd.isAgg70
  z46 := Tryd.sizeOf70
  v46 := Tryd.zeroValue70
  t50 := Tryd.underlying74
  a50 := Tryd.isAgg74
  z50 := Tryd.sizeOf74
  v50 := Tryd.zeroValue74
  t53 := Tryd.underlying77
  a53 := Tryd.isAgg77
  z53 := Tryd.sizeOf77
  v53 := Tryd.zeroValue77
  t55 := Tryd.underlying79
  a55 := Tryd.isAgg79
  z55 := Tryd.sizeOf79
  v55 := Tryd.zeroValue79
  t66 := Tryd.underlying97
  a66 := Tryd.isAgg97
  z66 := Tryd.sizeOf97
  v66 := Tryd.zeroValue97
  t70 := Tryd.underlying101
  a70 := Tryd.isAgg101
  z70 := Tryd.sizeOf101
  v70 := Tryd.zeroValue101
  t76 := Tryd.underlying111
  a76 := Tryd.isAgg111
  z76 := Tryd.sizeOf111
  v76 := Tryd.zeroValue111
  t77 := Tryd.underlying112
  a77 := Tryd.isAgg112
  z77 := Tryd.sizeOf112
  v77 := Tryd.zeroValue112 }
end Go.Proofs
end

section
namespace Go.Proofs.YtfdmdcpopmcmcaaDoor
open Go.Fw Go.Proofs Go.Sort Go.RowKit
variable [Gl]
theorem swoN : SWO (ltOf fun x y : Lb => cmpB x.1 y.1) where
  irrefl x := by
    have := (cmpB_zero x.1 x.1).2 rfl
    simp [ltOf, this]
  trans x y z h1 h2 := by
    simp only [ltOf, decide_eq_true_eq, cmpB_neg] at *
    exact lt_tr h1 h2
  ntrans x y z h1 h2 := by
    simp only [ltOf, decide_eq_false_iff_not, cmpB_neg, List.not_lt] at *
    exact le_tr h2 h1
def encL (x : Lb) : List Value := [.string ⟨x.1.toArray⟩, .string ⟨x.2.toArray⟩]
def vsL (x : Lb) : List V := [.str x.1, .str x.2]
theorem lcs_flat : ∀ l : List Lb, l.flatMap vsL = lcs l
  | [] => rfl
  | p :: l => by simp [List.flatMap_cons, vsL, lcs, lcs_flat l]
theorem isGo25 : isGo Tryd.prog 25 = true := by kernel_rfl
theorem srtF_tri {b cap nn : Nat} {T : TypeId} {l : List Lb} (hn : ndup l) (hl : l.length < 4611686018427387904) :
    Tri Tryd.prog 24 [.slice b 0 l.length cap, .clo 25 []] [(b, .cells T (lcs l) nn)] fun v h' => v = .tup [] ∧ h' = [(b, .cells T (lcs (srtN l)) nn)] := by
  have := Tri.sortFunc (P := Tryd.prog) (f := 24) (g := 25) (T := T) (b := b) (cap := cap) (nn := nn) (k := 2) encL vsL (fun _ => rfl) (fun _ => rfl)
    (fun F x i v h => by
      match i with
      | 0 => simp [vsL] at h; subst h; exact .str _
      | 1 => simp [vsL] at h; subst h; exact .str _
      | i + 2 => simp [vsL] at h)
    (fun F x i v y h hy => by
      match i with
      | 0 => simp [vsL] at h; subst h; exact hy.str_inv
      | 1 => simp [vsL] at h; subst h; exact hy.str_inv
      | i + 2 => simp [vsL] at h)
    (fun x y => cmpB x.1 y.1) (fun x y => nameCmp_tri x y)
    (fun blk off cap d w hcmp hH hblk hsz => AnyQ.slices_SortFunc Tryd.srtf 2 Tryd.isAgg41 Tryd.sizeOf41 encL (fun _ => rfl) (fun x v hv => by simp [encL] at hv; rcases hv with rfl | rfl <;> rfl) _ swoN 25 #[] blk off cap d w (enters_of Tryd.func25 (by kernel_rfl) rfl) hcmp hH hblk hsz)
    l [] hl
  simp only [List.append_nil, lcs_flat] at this
  refine this.mono ?_
  rintro v h' ⟨rfl, l', rfl, hp, hs⟩
  rw [srtN_of hn hp hs]
  exact ⟨rfl, rfl⟩
theorem srtF_nil : PTri Tryd.prog 24 [.nilslice, .clo 25 []] (.tup []) := by
  refine PTri.of_same #[.slice none 0 0, .func (.func 25) #[] #[]] (.tuple #[]) (fun F av h => ?_) (fun w => AnyF.slices_SortFunc_none Tryd.srtf none 0 _ w) fun F => .tup [] #[] rfl fun i v h => by simp at h
  have h0 := (h.2 0 _ rfl).nilslice_inv
  obtain ⟨cv, h1, hcv⟩ := (h.2 1 _ rfl).clo_inv
  have hcv0 : cv = #[] := Array.eq_empty_of_size_eq_zero hcv.1
  subst hcv0
  have hs := h.1
  simp at hs
  obtain ⟨L⟩ := av
  match L, hs with
  | [x, y], _ => simp at h0 h1; rw [h0, h1]
end Go.Proofs.YtfdmdcpopmcmcaaDoor
end

section
namespace Go.Proofs.YtfdmdcpopmcmcaaDoor
open Go.Fw
variable [Gl]
theorem isGo20 : isGo Tryd.prog 20 = true := by kernel_rfl
theorem isGo21 : isGo Tryd.prog 21 = true := by kernel_rfl
theorem isGo22 : isGo Tryd.prog 22 = true := by kernel_rfl
theorem isGo23 : isGo Tryd.prog 23 = true := by kernel_rfl
theorem isGo24 : isGo Tryd.prog 24 = true := by kernel_rfl
theorem isGo36 : isGo Tryd.prog 36 = true := by kernel_rfl
theorem tagg25 : tagg Tryd.prog 25 = some false := by kernel_rfl
theorem tsz22 : tsz Tryd.prog 22 = some 1 := by kernel_rfl
theorem tsz25 : tsz Tryd.prog 25 = some 1 := by kernel_rfl
theorem tzero22 : tzero Tryd.prog 22 = some [.nilslice] := by kernel_rfl
theorem tzero25 : tzero Tryd.prog 25 = some [.int .i64 0] := by kernel_rfl
set_option maxRecDepth 20000
theorem el22 : ElemOk Tryd.prog 22 41 2 32 [.str [], .str []] := ⟨tslice22, tsz41, by kernel_rfl, tzero41, rfl, by decide, by decide⟩
theorem app22 : appT Tryd.prog 22 = true := by kernel_rfl
theorem lcs_append : ∀ (l m : List Lb), lcs (l ++ m) = lcs l ++ lcs m
  | [], m => rfl
  | p :: l, m => by simp [lcs, lcs_append l m]
theorem VLe.tup2 {a b a' b' : V} (h1 : VLe a a') (h2 : VLe b b') : VLe (.tup [a, b]) (.tup [a', b']) := fun F x h => by
  obtain ⟨vs, rfl, hv⟩ := h.tup_inv
  refine .tup _ _ hv.1 fun i v hi => ?_
  match i with
  | 0 => simp at hi; subst hi; exact h1 _ _ (hv.2 0 _ rfl)
  | 1 => simp at hi; subst hi; exact h2 _ _ (hv.2 1 _ rfl)
  | i + 2 => simp at hi
theorem get_nil (nm : By) : PTri Tryd.prog 21 [.nilslice, .str nm] (.str []) :=
  Tri.weak (us' := [lsl [], .str nm]) (get_tri [] nm (by simp)) rfl fun i u u' h h' => by
    match i with
    | 0 => simp at h h'; subst h; subst h'; exact VLe.nils
    | 1 => simp at h h'; subst h; subst h'; exact VLe.refl _
    | i + 2 => simp at h
theorem hasF_nil : PTri Tryd.prog 22 [.nilslice, .clo 23 []] (.bool false) :=
  Tri.weak (us' := [lsl [], .clo 23 []]) (hasF_tri 23 (fun p => decide (200 < p.2.length)) isGo23 long_tri [] (by simp)) rfl fun i u u' h h' => by
    match i with
    | 0 => simp at h h'; subst h; subst h'; exact VLe.nils
    | 1 => simp at h h'; subst h; subst h'; exact VLe.refl _
    | i + 2 => simp at h
theorem fieldsF_len : ∀ (f : Nat) (rest : By), (fieldsF f rest).length ≤ f
  | 0, rest => by simp [fieldsF]
  | f + 1, rest => by
    simp only [fieldsF]
    split
    · simp
    · split
      · simp
      · have := fieldsF_len f (trimL (rest.drop (fieldL rest).2.1))
        rw [List.length_append]
        split <;> simp <;> omega
/-- Reading, ahead of the sort: the box holds what has been gathered. -/
def PI (ys : List (Lb × Bool)) (b4 : Nat) (hf : Hp) (k : Nat) (h : Hp) : Prop := ∃ acc : List Lb, gath acc ∧ acc.length ≤ k ∧ parseG acc (ys.drop k) = parseG [] ys ∧
  ((acc = [] ∧ h = (b4, .cells 22 [.nilslice] 1) :: hf) ∨ ∃ q N, ¬ q = b4 ∧ q ∉ hf.ns ∧ acc.length ≤ N ∧ h = (q, .cells 41 (lcs acc) (N * 2)) :: (b4, .cells 22 [.slice q 0 acc.length N] 1) :: hf)
set_option maxHeartbeats 1000000 in
theorem parse_tri0 (hG : GInt) (s : By) (hs : s.length ≤ 4294967280) : Tri Tryd.prog 10 [.str s] [] fun v h' => (∃ e, v = .tup [.nilslice, .int .i64 e] ∧ parseL s = ([], e)) ∨ ∃ q N l, v = .tup [.slice q 0 l.length N, .int .i64 0] ∧ hget h' q = some (.cells 41 (lcs l) (N * 2)) ∧ parseL s = (l, 0) := by
  have hpl : parseL s = parseL s := rfl
  conv at hpl => rhs; unfold parseL
  have hyl : (fieldsL s).length ≤ s.length := Nat.le_trans (fieldsF_len _ _) (trimL_le s)
  have hit := fields1_iter hG s hs
  generalize fieldsL s = ys at hpl hyl hit
  refine Tri.of_wc Tryd.func10 rfl Tryd.results10 Tryd.ntmps10 (by simp) ?_
  refine WC.seq_k fun K1 hK2 => ?_
  refine WC.region ?_
  refine wU (gAlloc tzero22 fun b3 hb3 => ?_)
  refine wU (gAlloc tzero25 fun b4 hb4 => ?_)
  simp only [Hp.ns_cons, Hp.ns_nil, List.mem_cons, List.not_mem_nil, or_false, not_or] at hb4
  refine wOps.done ?_
  refine hK2 _ _ _ ?_
  clear hK2 K1
  refine WC.seq_k fun K5 hK6 => ?_
  refine WC.seq_k fun K7 hK8 => ?_
  refine WC.region ?_
  refine wU (gE rfl ?_)
  refine wU (gLen rfl rfl tisstr9 ?_)
  refine wU (gE rfl ?_)
  refine wOps.done ?_
  refine hK8 _ _ _ ?_
  clear hK8 K7
  refine WC.cond rfl (fun c9 => ?_) (fun c9 => ?_)
  · skip
    refine WC.seq_k fun K10 hK11 => ?_
    refine WC.region ?_
    refine wU (gStore rfl rfl (by simp only [hget, hb4, ↓reduceIte] <;> rfl) tsz22 (by simp [vcells]) (by simp [vcells, leafV]) ?_)
    simp only [hset, stL, vcells, List.set_cons_zero, List.set_cons_succ, hb4, ↓reduceIte]
    refine wU (gStore rfl rfl (by simp only [hget, hb4, ↓reduceIte] <;> rfl) tsz25 (by simp [vcells]) (by simp [vcells, leafV]) ?_)
    simp only [hset, stL, vcells, List.set_cons_zero, List.set_cons_succ, hb4, ↓reduceIte]
    refine wOps.done ?_
    refine hK11 _ _ _ ?_
    clear hK11 K10
    refine WC.ret ?_
    rw [if_pos (by have := of_decide_eq_true c9; omega)] at hpl
    refine ⟨.tup [.nilslice, .int .i64 4], ?_, .inl ⟨4, rfl, hpl⟩⟩
    simp [resAll, resVs, resV, hdel, evLoad, hget, ldAt, tagg22, tagg25, tsz22, tsz25, frA, upd, hset, stL, putL, hb4]
  · skip
    refine WC.skip ?_
    refine hK6 _ _ _ ?_
    clear hK6 K5
    refine WC.seq_k fun K12 hK13 => ?_
    refine WC.region ?_
    refine wU (gAlloc tzero22 fun b14 hb14 => ?_)
    simp only [Hp.ns_cons, Hp.ns_nil, List.mem_cons, List.not_mem_nil, or_false, not_or] at hb14
    refine wOps.done ?_
    refine hK13 _ _ _ ?_
    clear hK13 K12
    refine WC.seq_k fun K15 hK16 => ?_
    refine WC.seq_k fun K17 hK18 => ?_
    refine WC.region ?_
    refine wU (gE rfl ?_)
    refine wU (gPure rfl isGo20 (fields_tri s) ?_)
    refine wOps.done ?_
    refine hK18 _ _ _ ?_
    clear hK18 K17
    refine WC.block ?_
    refine WC.range (f := 36) (caps := [.fptr [.str s] 0]) (xs := ys.map fyV) (PI ys b14 [(b4, .cells 25 [.int .i64 0] 1), (b3, .cells 22 [.nilslice] 1)]) (fun c h => c = .ret ∧ parseG [] ys = none ∧ h = [(b4, .cells 25 [.int .i64 3] 1), (b3, .cells 22 [.nilslice] 1)]) rfl isGo36 hit (by decide) (by intro a ha; obtain ⟨p, -, rfl⟩ := List.mem_map.1 ha; rfl) ?_ ?_ ?_ ?_
    · exact ⟨[], ⟨by simp, List.Pairwise.nil⟩, by simp, rfl, .inl ⟨rfl, rfl⟩⟩
    · intro y k hk h hI
      rw [List.length_map] at hk
      simp only [List.getElem_map]
      obtain ⟨acc, hga, hal, hpg, hI⟩ := hI
      rw [parseG_step hk] at hpg
      generalize ys[k] = x at hpg ⊢
      obtain ⟨⟨nm, v⟩, ok⟩ := x
      simp only at hpg
      show WC _ _ _ _ (upd (upd _ 12 (.agg [.str nm, .str v])) 13 (.bool ok)) _ _ _
      rcases hI with ⟨rfl, rfl⟩ | ⟨q, N, hqb, hqf, hkN, rfl⟩
      · skip
        refine WC.seq_k fun K19 hK20 => ?_
        refine WC.region ?_
        refine wU (gAlloc tzero41 fun b21 hb21 => ?_)
        simp only [Hp.ns_cons, Hp.ns_nil, List.mem_cons, List.not_mem_nil, or_false, not_or] at hb21
        refine wU (gStore rfl rfl (by simp only [hget, hb4, hb14, hb21, ↓reduceIte] <;> rfl) tsz41 (by simp [vcells]) (by simp [vcells, leafV]) ?_)
        simp only [hset, stL, vcells, List.set_cons_zero, List.set_cons_succ, hb4, hb14, hb21, ↓reduceIte]
        refine wOps.done ?_
        refine hK20 _ _ _ ?_
        clear hK20 K19
        refine WC.region ?_
        refine wU (gE rfl ?_)
        refine wOps.done ?_
        simp only [thn]
        refine WC.post ?_
        refine WC.block ?_
        refine WC.seq_k fun K22 hK23 => ?_
        refine WC.seq_k fun K24 hK25 => ?_
        refine WC.region ?_
        refine wU (gE rfl ?_)
        refine wU (gE rfl ?_)
        refine wOps.done ?_
        refine hK25 _ _ _ ?_
        clear hK25 K24
        refine WC.cond rfl (fun c26 => ?_) (fun c26 => ?_)
        · skip
          refine WC.seq_k fun K27 hK28 => ?_
          refine WC.region ?_
          refine wU (gStore rfl rfl (by simp only [hget, hb4, hb14, hb21, ↓reduceIte] <;> rfl) tsz22 (by simp [vcells]) (by simp [vcells, leafV]) ?_)
          simp only [hset, stL, vcells, List.set_cons_zero, List.set_cons_succ, hb4, hb14, hb21, ↓reduceIte]
          refine wU (gStore rfl rfl (by simp only [hget, hb4, hb14, hb21, ↓reduceIte] <;> rfl) tsz25 (by simp [vcells]) (by simp [vcells, leafV]) ?_)
          simp only [hset, stL, vcells, List.set_cons_zero, List.set_cons_succ, hb4, hb14, hb21, ↓reduceIte]
          refine wOps.done ?_
          refine hK28 _ _ _ ?_
          clear hK28 K27
          refine WC.ret ?_
          have hok : ok = false := by simpa using c26
          subst hok
          refine ⟨frL [], _, (Ent.sub (sub_nil _)).trans (Ent.drop ?_), rfl, by rw [← hpg]; simp, rfl⟩
          exact .cons _ (.cons _ (.refl _))
        · skip
          refine WC.skip ?_
          refine hK23 _ _ _ ?_
          clear hK23 K22
          refine WC.seq_k fun K29 hK30 => ?_
          refine WC.region ?_
          refine wU (gField tfld41_1 tsz9 rfl ?_)
          refine wU (gLoad tagg9 rfl (by simp only [hget, hb4, hb14, hb21, ↓reduceIte] <;> rfl) rfl ?_)
          refine wU (gE rfl ?_)
          refine wU (gE rfl ?_)
          refine wG rfl rfl rfl rfl (by decide) (fun c31 => ?_) (fun c31 => ?_)
          · skip
            refine gLoad tagg22 rfl (by simp only [hget, hb4, hb14, hb21, ↓reduceIte] <;> rfl) rfl ?_
            refine wY rfl (gField tfld41_0 tsz9 rfl ?_)
            refine wY rfl (gLoad tagg9 rfl (by simp only [hget, hb4, hb14, hb21, ↓reduceIte] <;> rfl) rfl ?_)
            refine wY rfl (gPure (by rfl) isGo21 (get_nil nm) ?_)
            refine wY rfl (gE rfl ?_)
            refine wU (gE rfl ?_)
            refine wOps.done ?_
            refine hK30 _ _ _ ?_
            clear hK30 K29
            refine WC.cond rfl (fun c32 => ?_) (fun c32 => ?_)
            · skip
              refine WC.region ?_
              refine wU (gLoad tagg22 rfl (by simp only [hget, hb4, hb14, hb21, ↓reduceIte] <;> rfl) rfl ?_)
              refine wU (gLoadA tagg41 tsz41 rfl (by simp only [hget, hb4, hb14, hb21, ↓reduceIte] <;> rfl) (by simp [putL]) rfl ?_)
              refine wU (gBuildSlice (cs := [.str nm, .str v]) tslice22 tsz41 tzero41 rfl (by simp [evFill, putL, zcells, vcells]) (by decide) (by decide) fun b33 hb33 => ?_)
              simp only [Hp.ns_cons, Hp.ns_nil, List.mem_cons, List.not_mem_nil, or_false, not_or] at hb33
              simp only [List.length_cons, List.length_nil]
              refine wU (gOp (OpS.append_nil (m := 1) (us := [.str nm, .str v]) ⟨rfl⟩ el22 app22 rfl rfl (by simp [evSrc, hget]) (by omega) (fun h => by simp at h) fun _ q N hq hN => ?_) rfl)
              simp [hdel, hb4, hb14, hb21, hb33] at hq
              refine wU (gStore rfl rfl (by simp only [hget, hb4, hb14, hb21, hb33, hq, ↓reduceIte] <;> rfl) tsz22 (by simp [vcells]) (by simp [vcells, leafV]) ?_)
              simp only [hset, stL, vcells, List.set_cons_zero, List.set_cons_succ, hb4, hb14, hb21, hb33, hq, ↓reduceIte]
              refine wOps.done ?_
              have hok : ok = true := by simpa using c26
              subst hok
              rw [if_neg (by simp)] at hpg
              have hc : v ≠ [] ∧ getL [] nm = [] := ⟨by intro e; simp [e] at c31, rfl⟩
              rw [if_pos hc] at hpg
              refine ⟨frL [], _, (Ent.sub (sub_nil _)).trans (Ent.drop (h' := (q, .cells 41 [.str nm, .str v] (N * 2)) :: (b14, .cells 22 [.slice q 0 1 N] 1) :: [(b4, .cells 25 [.int .i64 0] 1), (b3, .cells 22 [.nilslice] 1)]) ?_), [(nm, v)], gath_add hga hc.1 hc.2, by simp, hpg, .inr ⟨q, N, ?_, ?_, ?_, ?_⟩⟩
              · exact .cons_cons _ (.cons _ (.cons _ (.refl _)))
              · simp [hq]
              · simp [hq]
              · simp; omega
              · simp [lcs]
            · skip
              refine WC.skip ?_
              have hok : ok = true := by simpa using c26
              subst hok
              rw [if_neg (by simp)] at hpg
              rw [if_neg (fun hc => by simp [hc.1, hc.2] at c32)] at hpg
              exact ⟨frL [], _, (Ent.sub (sub_nil _)).trans (Ent.drop (.cons _ (.refl _))), [], hga, by simp, hpg, .inl ⟨rfl, rfl⟩⟩
          · skip
            refine wN rfl ?_
            refine wN rfl ?_
            refine wN rfl ?_
            refine wN rfl ?_
            refine wU (gE rfl ?_)
            refine wOps.done ?_
            refine hK30 _ _ _ ?_
            clear hK30 K29
            first | refine WC.cond (b := false) rfl (fun hh => by simp at hh) (fun _ => ?_) | refine WC.cond rfl (fun hh => by simp_all) (fun _ => ?_)
            refine WC.skip ?_
            have hok : ok = true := by simpa using c26
            subst hok
            rw [if_neg (by simp)] at hpg
            rw [if_neg (fun hc => by simp [hc.1, hc.2] at c31)] at hpg
            exact ⟨frL [], _, (Ent.sub (sub_nil _)).trans (Ent.drop (.cons _ (.refl _))), [], hga, by simp, hpg, .inl ⟨rfl, rfl⟩⟩
      · skip
        simp only [Hp.ns_cons, Hp.ns_nil, List.mem_cons, List.not_mem_nil, or_false, not_or] at hqf
        refine WC.seq_k fun K34 hK35 => ?_
        refine WC.region ?_
        refine wU (gAlloc tzero41 fun b36 hb36 => ?_)
        simp only [Hp.ns_cons, Hp.ns_nil, List.mem_cons, List.not_mem_nil, or_false, not_or] at hb36
        refine wU (gStore rfl rfl (by simp only [hget, hb4, hb14, hqb, hqf, hb36, ↓reduceIte] <;> rfl) tsz41 (by simp [vcells]) (by simp [vcells, leafV]) ?_)
        simp only [hset, stL, vcells, List.set_cons_zero, List.set_cons_succ, hb4, hb14, hqb, hqf, hb36, ↓reduceIte]
        refine wOps.done ?_
        refine hK35 _ _ _ ?_
        clear hK35 K34
        refine WC.region ?_
        refine wU (gE rfl ?_)
        refine wOps.done ?_
        simp only [thn]
        refine WC.post ?_
        refine WC.block ?_
        refine WC.seq_k fun K37 hK38 => ?_
        refine WC.seq_k fun K39 hK40 => ?_
        refine WC.region ?_
        refine wU (gE rfl ?_)
        refine wU (gE rfl ?_)
        refine wOps.done ?_
        refine hK40 _ _ _ ?_
        clear hK40 K39
        refine WC.cond rfl (fun c41 => ?_) (fun c41 => ?_)
        · skip
          refine WC.seq_k fun K42 hK43 => ?_
          refine WC.region ?_
          refine wU (gStore rfl rfl (by simp only [hget, hb4, hb14, hqb, hqf, hb36, ↓reduceIte] <;> rfl) tsz22 (by simp [vcells]) (by simp [vcells, leafV]) ?_)
          simp only [hset, stL, vcells, List.set_cons_zero, List.set_cons_succ, hb4, hb14, hqb, hqf, hb36, ↓reduceIte]
          refine wU (gStore rfl rfl (by simp only [hget, hb4, hb14, hqb, hqf, hb36, ↓reduceIte] <;> rfl) tsz25 (by simp [vcells]) (by simp [vcells, leafV]) ?_)
          simp only [hset, stL, vcells, List.set_cons_zero, List.set_cons_succ, hb4, hb14, hqb, hqf, hb36, ↓reduceIte]
          refine wOps.done ?_
          refine hK43 _ _ _ ?_
          clear hK43 K42
          refine WC.ret ?_
          have hok : ok = false := by simpa using c41
          subst hok
          refine ⟨frL [], _, (Ent.sub (sub_nil _)).trans (Ent.drop ?_), rfl, by rw [← hpg]; simp, rfl⟩
          exact .cons _ (.cons _ (.cons _ (.refl _)))
        · skip
          refine WC.skip ?_
          refine hK38 _ _ _ ?_
          clear hK38 K37
          refine WC.seq_k fun K44 hK45 => ?_
          refine WC.region ?_
          refine wU (gField tfld41_1 tsz9 rfl ?_)
          refine wU (gLoad tagg9 rfl (by simp only [hget, hb4, hb14, hqb, hqf, hb36, ↓reduceIte] <;> rfl) rfl ?_)
          refine wU (gE rfl ?_)
          refine wU (gE rfl ?_)
          refine wG rfl rfl rfl rfl (by decide) (fun c46 => ?_) (fun c46 => ?_)
          · skip
            refine gLoad tagg22 rfl (by simp only [hget, hb4, hb14, hqb, hqf, hb36, ↓reduceIte] <;> rfl) rfl ?_
            refine wY rfl (gField tfld41_0 tsz9 rfl ?_)
            refine wY rfl (gLoad tagg9 rfl (by simp only [hget, hb4, hb14, hqb, hqf, hb36, ↓reduceIte] <;> rfl) rfl ?_)
            have hm := (Tri.lend (b := q) (us := [.slice q 0 acc.length N, .str nm]) (T := 41) (cs := lcs acc) (nn := N * 2) (get_tri acc nm (by omega)) (by simp [lsl, frzV]) rfl).frame [(b36, .cells 41 [.str nm, .str v] 2), (b14, .cells 22 [.slice q 0 acc.length N] 1), (b4, .cells 25 [.int .i64 0] 1), (b3, .cells 22 [.nilslice] 1)]
            have hm1 := hm.perm (List.Perm.swap _ _ _)
            refine wY rfl (gCall (by rfl) (@CallS.mono _ Tryd.prog 21 _ _ _ _ (@CallS.of_tri _ Tryd.prog 21 _ _ _ isGo21 hm1) ?_))
            have hqn : ¬ q = b36 := fun e => hb36.1 e.symm
            rintro v1 h1 ⟨h2, rfl, ⟨rfl, rfl⟩, -⟩
            simp only [List.nil_append, List.cons_append]
            refine wY rfl (gE rfl ?_)
            refine wU (gE rfl ?_)
            refine wOps.done ?_
            refine hK45 _ _ _ ?_
            clear hK45 K44
            refine WC.cond rfl (fun c47 => ?_) (fun c47 => ?_)
            · skip
              refine WC.region ?_
              refine wU (gLoad tagg22 rfl (by simp only [hget, hb4, hb14, hqb, hqf, hb36, hqn, ↓reduceIte] <;> rfl) rfl ?_)
              refine wU (gLoadA tagg41 tsz41 rfl (by simp only [hget, hb4, hb14, hqb, hqf, hb36, hqn, ↓reduceIte] <;> rfl) (by simp [putL]) rfl ?_)
              refine wU (gBuildSlice (cs := [.str nm, .str v]) tslice22 tsz41 tzero41 rfl (by simp [evFill, putL, zcells, vcells]) (by decide) (by decide) fun b48 hb48 => ?_)
              simp only [Hp.ns_cons, Hp.ns_nil, List.mem_cons, List.not_mem_nil, or_false, not_or] at hb48
              simp only [List.length_cons, List.length_nil]
              refine wU (gOp (OpS.append_lin (m := 1) (us := [.str nm, .str v]) ⟨rfl⟩ el22 app22 rfl rfl (by simp [hget, hb4, hb14, hqb, hqf, hb36, hqn, hb48] <;> rfl) (by rw [lcs_length]; omega) (by simp [evSrc, hget]) rfl (by omega) fun q2 N2 hq2 hN2 => ?_) rfl)
              simp [hdel, hb4, hb14, hqb, hqf, hb36, hqn, hb48] at hq2
              simp only [hdel, ↓reduceIte, hb4, hb14, hqb, hqf, hb36, hqn, hb48, hq2]
              have et : (lcs acc).take (acc.length * 2) = lcs acc := List.take_of_length_le (by rw [lcs_length]; omega)
              rw [et]
              refine wU (gStore rfl rfl (by simp only [hget, hb4, hb14, hqb, hqf, hb36, hqn, hb48, hq2, ↓reduceIte] <;> rfl) tsz22 (by simp [vcells]) (by simp [vcells, leafV]) ?_)
              simp only [hset, stL, vcells, List.set_cons_zero, List.set_cons_succ, hb4, hb14, hqb, hqf, hb36, hqn, hb48, hq2, ↓reduceIte]
              refine wOps.done ?_
              have hok : ok = true := by simpa using c41
              subst hok
              rw [if_neg (by simp)] at hpg
              have hc : v ≠ [] ∧ getL acc nm = [] := ⟨by intro e; simp [e] at c46, by simpa using c47⟩
              rw [if_pos hc] at hpg
              refine ⟨frL [], _, (Ent.sub (sub_nil _)).trans (Ent.drop (h' := (q2, .cells 41 (lcs acc ++ [.str nm, .str v]) (N2 * 2)) :: (b14, .cells 22 [.slice q2 0 (acc.length + 1) N2] 1) :: [(b4, .cells 25 [.int .i64 0] 1), (b3, .cells 22 [.nilslice] 1)]) ?_), acc ++ [(nm, v)], gath_add hga hc.1 hc.2, by simp; omega, hpg, .inr ⟨q2, N2, ?_, ?_, ?_, ?_⟩⟩
              · exact .cons_cons _ (.cons _ (.cons _ (.refl _)))
              · simp [hq2]
              · simp [hq2]
              · simp; omega
              · simp [lcs_append, lcs]
            · skip
              refine WC.skip ?_
              have hok : ok = true := by simpa using c41
              subst hok
              rw [if_neg (by simp)] at hpg
              rw [if_neg (fun hc => by simp [hc.1, hc.2] at c47)] at hpg
              exact ⟨frL [], _, (Ent.sub (sub_nil _)).trans (Ent.drop (.cons_cons _ (.cons _ (.refl _)))), acc, hga, by omega, hpg, .inr ⟨q, N, hqb, by simp [hqf], hkN, rfl⟩⟩
          · skip
            refine wN rfl ?_
            refine wN rfl ?_
            refine wN rfl ?_
            refine wN rfl ?_
            refine wU (gE rfl ?_)
            refine wOps.done ?_
            refine hK45 _ _ _ ?_
            clear hK45 K44
            first | refine WC.cond (b := false) rfl (fun hh => by simp at hh) (fun _ => ?_) | refine WC.cond rfl (fun hh => by simp_all) (fun _ => ?_)
            refine WC.skip ?_
            have hok : ok = true := by simpa using c41
            subst hok
            rw [if_neg (by simp)] at hpg
            rw [if_neg (fun hc => by simp [hc.1, hc.2] at c46)] at hpg
            exact ⟨frL [], _, (Ent.sub (sub_nil _)).trans (Ent.drop (.cons _ (.refl _))), acc, hga, by omega, hpg, .inr ⟨q, N, hqb, by simp [hqf], hkN, rfl⟩⟩
    · rintro r h hr ⟨acc, hga, hal, hpg, hI⟩
      rw [List.length_map] at hal hpg
      rw [List.drop_length] at hpg
      rw [← hpg] at hpl
      simp only [parseG] at hpl
      clear hpg
      rcases hI with ⟨rfl, rfl⟩ | ⟨q, N, hqb, hqf, hkN, rfl⟩
      · simp only [Hp.ns_cons, Hp.ns_nil, List.mem_cons, List.not_mem_nil, or_false, not_or] at hr
        refine hK16 _ _ _ ?_
        clear hK16 K15
        refine WC.seq_k fun K49 hK50 => ?_
        refine WC.seq_k fun K51 hK52 => ?_
        refine WC.region ?_
        refine wU (gLoad tagg22 rfl (by simp only [hget, hb4, hb14, hr, ↓reduceIte] <;> rfl) rfl ?_)
        refine wU (gLen rfl rfl (by rw [lenFits, tslice22]; rfl) ?_)
        refine wU (gE rfl ?_)
        refine wU (gE rfl ?_)
        refine wG rfl rfl rfl rfl (by decide) (fun c53 => ?_) (fun c53 => ?_)
        · skip
          refine gLoad tagg22 rfl (by simp only [hget, hb4, hb14, hr, ↓reduceIte] <;> rfl) rfl ?_
          refine wY rfl (gPure (by rfl) isGo22 hasF_nil ?_)
          refine wU (gE rfl ?_)
          refine wOps.done ?_
          refine hK52 _ _ _ ?_
          clear hK52 K51
          refine WC.cond rfl (fun c54 => ?_) (fun c54 => ?_)
          · skip
            refine WC.seq_k fun K55 hK56 => ?_
            refine WC.region ?_
            refine wU (gStore rfl rfl (by simp only [hget, hb4, hb14, hr, ↓reduceIte] <;> rfl) tsz22 (by simp [vcells]) (by simp [vcells, leafV]) ?_)
            simp only [hset, stL, vcells, List.set_cons_zero, List.set_cons_succ, hb4, hb14, hr, ↓reduceIte]
            refine wU (gStore rfl rfl (by simp only [hget, hb4, hb14, hr, ↓reduceIte] <;> rfl) tsz25 (by simp [vcells]) (by simp [vcells, leafV]) ?_)
            simp only [hset, stL, vcells, List.set_cons_zero, List.set_cons_succ, hb4, hb14, hr, ↓reduceIte]
            refine wOps.done ?_
            refine hK56 _ _ _ ?_
            clear hK56 K55
            refine WC.ret ?_
            simp at c54
          · skip
            refine WC.skip ?_
            refine hK50 _ _ _ ?_
            clear hK50 K49
            refine WC.seq_k fun K57 hK58 => ?_
            refine WC.region ?_
            refine wU (gLoad tagg22 rfl (by simp only [hget, hb4, hb14, hr, ↓reduceIte] <;> rfl) rfl ?_)
            refine wU (gPure (by rfl) isGo24 srtF_nil ?_)
            refine wOps.done ?_
            refine hK58 _ _ _ ?_
            clear hK58 K57
            refine WC.seq_k fun K59 hK60 => ?_
            refine WC.region ?_
            refine wU (gLoad tagg22 rfl (by simp only [hget, hb4, hb14, hr, ↓reduceIte] <;> rfl) rfl ?_)
            refine wU (gStore rfl rfl (by simp only [hget, hb4, hb14, hr, ↓reduceIte] <;> rfl) tsz22 (by simp [vcells]) (by simp [vcells, leafV]) ?_)
            simp only [hset, stL, vcells, List.set_cons_zero, List.set_cons_succ, hb4, hb14, hr, ↓reduceIte]
            refine wU (gStore rfl rfl (by simp only [hget, hb4, hb14, hr, ↓reduceIte] <;> rfl) tsz25 (by simp [vcells]) (by simp [vcells, leafV]) ?_)
            simp only [hset, stL, vcells, List.set_cons_zero, List.set_cons_succ, hb4, hb14, hr, ↓reduceIte]
            refine wOps.done ?_
            refine hK60 _ _ _ ?_
            clear hK60 K59
            refine WC.ret ?_
            rw [if_neg (by have := of_decide_eq_false c9; omega)] at hpl
            rw [if_neg (by simp)] at hpl
            have e0 : srtN [] = [] := by unfold srtN; rw [List.mergeSort_nil]
            rw [e0] at hpl
            refine ⟨by simp [hget, hb4, hb14, hr], .tup [.nilslice, .int .i64 0], ?_, .inl ⟨0, rfl, hpl⟩⟩
            simp [resAll, resVs, resV, hdel, evLoad, hget, ldAt, tagg22, tagg25, tsz22, tsz25, frA, upd, hset, stL, putL, hb4, hb14, hr]
        · skip
          refine wN rfl ?_
          refine wU (gE rfl ?_)
          refine wOps.done ?_
          refine hK52 _ _ _ ?_
          clear hK52 K51
          first | refine WC.cond (b := true) rfl (fun _ => ?_) (fun hh => by simp at hh) | refine WC.cond rfl (fun _ => ?_) (fun hh => by simp_all)
          refine WC.seq_k fun K61 hK62 => ?_
          refine WC.region ?_
          refine wU (gStore rfl rfl (by simp only [hget, hb4, hb14, hr, ↓reduceIte] <;> rfl) tsz22 (by simp [vcells]) (by simp [vcells, leafV]) ?_)
          simp only [hset, stL, vcells, List.set_cons_zero, List.set_cons_succ, hb4, hb14, hr, ↓reduceIte]
          refine wU (gStore rfl rfl (by simp only [hget, hb4, hb14, hr, ↓reduceIte] <;> rfl) tsz25 (by simp [vcells]) (by simp [vcells, leafV]) ?_)
          simp only [hset, stL, vcells, List.set_cons_zero, List.set_cons_succ, hb4, hb14, hr, ↓reduceIte]
          refine wOps.done ?_
          refine hK62 _ _ _ ?_
          clear hK62 K61
          refine WC.ret ?_
          simp at c53
      · simp only [Hp.ns_cons, Hp.ns_nil, List.mem_cons, List.not_mem_nil, or_false, not_or] at hr hqf
        refine hK16 _ _ _ ?_
        clear hK16 K15
        refine WC.seq_k fun K63 hK64 => ?_
        refine WC.seq_k fun K65 hK66 => ?_
        refine WC.region ?_
        refine wU (gLoad tagg22 rfl (by simp only [hget, hb4, hb14, hr, hqb, hqf, ↓reduceIte] <;> rfl) rfl ?_)
        refine wU (gLen rfl rfl (by rw [lenFits, tslice22]; rfl) ?_)
        refine wU (gE rfl ?_)
        refine wU (gE rfl ?_)
        refine wG rfl rfl rfl rfl (by decide) (fun c67 => ?_) (fun c67 => ?_)
        · skip
          refine gLoad tagg22 rfl (by simp only [hget, hb4, hb14, hr, hqb, hqf, ↓reduceIte] <;> rfl) rfl ?_
          have hm := (Tri.lend (b := q) (us := [.slice q 0 acc.length N, .clo 23 []]) (T := 41) (cs := lcs acc) (nn := N * 2) (hasF_tri 23 (fun p => decide (200 < p.2.length)) isGo23 long_tri acc (by omega)) (by simp [lsl, frzV, frzL]) rfl).frame [(r, .deferred), (b14, .cells 22 [.slice q 0 acc.length N] 1), (b4, .cells 25 [.int .i64 0] 1), (b3, .cells 22 [.nilslice] 1)]
          have hm1 := hm.perm (List.Perm.swap _ _ _)
          refine wY rfl (gCall (by rfl) (@CallS.mono _ Tryd.prog 22 _ _ _ _ (@CallS.of_tri _ Tryd.prog 22 _ _ _ isGo22 hm1) ?_))
          have hqr : ¬ q = r := fun e => hr.1 e.symm
          rintro v1 h1 ⟨h2, rfl, ⟨rfl, rfl⟩, -⟩
          simp only [List.nil_append, List.cons_append]
          refine wU (gE rfl ?_)
          refine wOps.done ?_
          refine hK66 _ _ _ ?_
          clear hK66 K65
          refine WC.cond rfl (fun c68 => ?_) (fun c68 => ?_)
          · skip
            refine WC.seq_k fun K69 hK70 => ?_
            refine WC.region ?_
            refine wU (gStore rfl rfl (by simp only [hget, hb4, hb14, hr, hqb, hqf, hqr, ↓reduceIte] <;> rfl) tsz22 (by simp [vcells]) (by simp [vcells, leafV]) ?_)
            simp only [hset, stL, vcells, List.set_cons_zero, List.set_cons_succ, hb4, hb14, hr, hqb, hqf, hqr, ↓reduceIte]
            refine wU (gStore rfl rfl (by simp only [hget, hb4, hb14, hr, hqb, hqf, hqr, ↓reduceIte] <;> rfl) tsz25 (by simp [vcells]) (by simp [vcells, leafV]) ?_)
            simp only [hset, stL, vcells, List.set_cons_zero, List.set_cons_succ, hb4, hb14, hr, hqb, hqf, hqr, ↓reduceIte]
            refine wOps.done ?_
            refine hK70 _ _ _ ?_
            clear hK70 K69
            refine WC.ret ?_
            rw [if_neg (by have := of_decide_eq_false c9; omega)] at hpl
            have hc : 16 < acc.length ∨ acc.any (fun x => decide (200 < x.2.length)) = true := .inr (by simpa using c68)
            rw [if_pos hc] at hpl
            refine ⟨by simp [hget, hb4, hb14, hr, hqb, hqf, hqr], .tup [.nilslice, .int .i64 4], ?_, .inl ⟨4, rfl, hpl⟩⟩
            simp [resAll, resVs, resV, hdel, evLoad, hget, ldAt, tagg22, tagg25, tsz22, tsz25, frA, upd, hset, stL, putL, hb4, hb14, hr, hqb, hqf, hqr]
          · skip
            refine WC.skip ?_
            refine hK64 _ _ _ ?_
            clear hK64 K63
            refine WC.seq_k fun K71 hK72 => ?_
            refine WC.region ?_
            refine wU (gLoad tagg22 rfl (by simp only [hget, hb4, hb14, hr, hqb, hqf, hqr, ↓reduceIte] <;> rfl) rfl ?_)
            have hm := (srtF_tri (b := q) (cap := N) (T := 41) (nn := N * 2) hga.2 (by omega)).frame [(r, .deferred), (b14, .cells 22 [.slice q 0 acc.length N] 1), (b4, .cells 25 [.int .i64 0] 1), (b3, .cells 22 [.nilslice] 1)]
            refine wU (gCall (by rfl) (@CallS.mono _ Tryd.prog 24 _ _ _ _ (@CallS.of_tri _ Tryd.prog 24 _ _ _ isGo24 hm) ?_))
            rintro v1 h1 ⟨h2, rfl, ⟨rfl, rfl⟩, -⟩
            simp only [List.nil_append, List.cons_append]
            refine wOps.done ?_
            refine hK72 _ _ _ ?_
            clear hK72 K71
            refine WC.seq_k fun K73 hK74 => ?_
            refine WC.region ?_
            refine wU (gLoad tagg22 rfl (by simp only [hget, hb4, hb14, hr, hqb, hqf, hqr, ↓reduceIte] <;> rfl) rfl ?_)
            refine wU (gStore rfl rfl (by simp only [hget, hb4, hb14, hr, hqb, hqf, hqr, ↓reduceIte] <;> rfl) tsz22 (by simp [vcells]) (by simp [vcells, leafV]) ?_)
            simp only [hset, stL, vcells, List.set_cons_zero, List.set_cons_succ, hb4, hb14, hr, hqb, hqf, hqr, ↓reduceIte]
            refine wU (gStore rfl rfl (by simp only [hget, hb4, hb14, hr, hqb, hqf, hqr, ↓reduceIte] <;> rfl) tsz25 (by simp [vcells]) (by simp [vcells, leafV]) ?_)
            simp only [hset, stL, vcells, List.set_cons_zero, List.set_cons_succ, hb4, hb14, hr, hqb, hqf, hqr, ↓reduceIte]
            refine wOps.done ?_
            refine hK74 _ _ _ ?_
            clear hK74 K73
            refine WC.ret ?_
            rw [if_neg (by have := of_decide_eq_false c9; omega)] at hpl
            have hc : ¬ (16 < acc.length ∨ acc.any (fun x => decide (200 < x.2.length)) = true) := by rintro (hc | hc); have := of_decide_eq_false c67; omega; rw [hc] at c68; simp at c68
            rw [if_neg hc] at hpl
            have el := (srtN_perm acc).length_eq
            refine ⟨by simp [hget, hb4, hb14, hr, hqb, hqf, hqr], .tup [.slice q 0 acc.length N, .int .i64 0], ?_, .inr ⟨q, N, srtN acc, by rw [el], ?_, hpl⟩⟩
            · simp [resAll, resVs, resV, hdel, evLoad, hget, ldAt, tagg22, tagg25, tsz22, tsz25, frA, upd, hset, stL, putL, hb4, hb14, hr, hqb, hqf, hqr]
            · simp [resAll, resVs, resV, hdel, evLoad, hget, ldAt, tagg22, tagg25, tsz22, tsz25, frA, upd, hset, stL, putL, hb4, hb14, hr, hqb, hqf, hqr]
        · skip
          refine wN rfl ?_
          refine wU (gE rfl ?_)
          refine wOps.done ?_
          refine hK66 _ _ _ ?_
          clear hK66 K65
          first | refine WC.cond (b := true) rfl (fun _ => ?_) (fun hh => by simp at hh) | refine WC.cond rfl (fun _ => ?_) (fun hh => by simp_all)
          refine WC.seq_k fun K75 hK76 => ?_
          refine WC.region ?_
          refine wU (gStore rfl rfl (by simp only [hget, hb4, hb14, hr, hqb, hqf, ↓reduceIte] <;> rfl) tsz22 (by simp [vcells]) (by simp [vcells, leafV]) ?_)
          simp only [hset, stL, vcells, List.set_cons_zero, List.set_cons_succ, hb4, hb14, hr, hqb, hqf, ↓reduceIte]
          refine wU (gStore rfl rfl (by simp only [hget, hb4, hb14, hr, hqb, hqf, ↓reduceIte] <;> rfl) tsz25 (by simp [vcells]) (by simp [vcells, leafV]) ?_)
          simp only [hset, stL, vcells, List.set_cons_zero, List.set_cons_succ, hb4, hb14, hr, hqb, hqf, ↓reduceIte]
          refine wOps.done ?_
          refine hK76 _ _ _ ?_
          clear hK76 K75
          refine WC.ret ?_
          rw [if_neg (by have := of_decide_eq_false c9; omega)] at hpl
          have hc : 16 < acc.length ∨ acc.any (fun x => decide (200 < x.2.length)) = true := .inl (by have := of_decide_eq_true c67; omega)
          rw [if_pos hc] at hpl
          refine ⟨by simp [hget, hb4, hb14, hr, hqb, hqf], .tup [.nilslice, .int .i64 4], ?_, .inl ⟨4, rfl, hpl⟩⟩
          simp [resAll, resVs, resV, hdel, evLoad, hget, ldAt, tagg22, tagg25, tsz22, tsz25, frA, upd, hset, stL, putL, hb4, hb14, hr, hqb, hqf]
    · rintro r h c hr ⟨rfl, hpg, rfl⟩
      simp only [Hp.ns_cons, Hp.ns_nil, List.mem_cons, List.not_mem_nil, or_false, not_or] at hr
      refine WC.ret ?_
      rw [if_neg (by have := of_decide_eq_false c9; omega), hpg] at hpl
      refine ⟨by simp [hget, hr], .tup [.nilslice, .int .i64 3], ?_, .inl ⟨3, rfl, hpl⟩⟩
      simp [resAll, resVs, resV, hdel, evLoad, hget, ldAt, tagg22, tagg25, tsz22, tsz25, frA, upd, hset, stL, putL, hb4, hr]
theorem parse_tri (hG : GInt) (s : By) (hs : s.length ≤ 4294967280) : PTri Tryd.prog 10 [.str s] (.tup [lsl (parseL s).1, .int .i64 (parseL s).2]) := by
  refine Tri.vent (parse_tri0 hG s hs) ?_
  rintro v h' (⟨e, rfl, he⟩ | ⟨q, N, l, rfl, hg, he⟩)
  · rw [he]
    refine ⟨_, _, .drop (List.nil_sublist _) (.weak ?_ (.refl _ _)), rfl, rfl⟩
    exact VLe.tup2 VLe.nils (VLe.refl _)
  · rw [he]
    refine ⟨_, _, .freeze q hg (.drop (List.nil_sublist _) (.refl _ _)), ?_, rfl⟩
    simp [frzV, frzL, lsl]
end Go.Proofs.YtfdmdcpopmcmcaaDoor
end

section
namespace Go.Proofs.YtfdmdcpopmcmcaaDoor
open Go.Fw
variable [Gl]
set_option maxRecDepth 20000
theorem tkd33 : tkd Tryd.prog 33 = some 2 := by kernel_rfl
theorem el33 : ElemOk Tryd.prog 33 9 1 16 [.str []] := ⟨tslice33, tsz9, by kernel_rfl, tzero9, rfl, by decide, by decide⟩
theorem app33 : appT Tryd.prog 33 = true := by kernel_rfl
theorem scs_length (l : List By) : (scs l).length = l.length := by simp [scs]
theorem scs_leaf (l : List By) : (scs l).all leafV = true := by
  simp only [scs, List.all_map, List.all_eq_true]
  intro x _; rfl
theorem clone_tri (l : List By) (hl : l.length ≤ 4294967295) : Tri Tryd.prog 13 [ssl l] [] fun v h' => (v = .nilslice ∧ h' = [] ∧ l = []) ∨ ∃ q N, v = .slice q 0 l.length N ∧ l.length ≤ N ∧ h' = [(q, .cells 9 (scs l) N)] := by
  unfold ssl
  refine Tri.of_wc Tryd.func13 rfl Tryd.results13 Tryd.ntmps13 (by simp) ?_
  refine WC.seq_k fun K1 hK2 => ?_
  refine WC.region ?_
  refine wU (gE rfl ?_)
  refine wOps.done ?_
  refine hK2 _ _ _ ?_
  clear hK2 K1
  refine WC.seq_k fun K3 hK4 => ?_
  refine WC.seq_k fun K5 hK6 => ?_
  refine WC.region ?_
  refine wU (gE rfl ?_)
  refine wU (gOp (OpS.eqnil rfl tkd33 rfl rfl fun bb hbb => ?_) rfl)
  refine wOps.done ?_
  refine hK6 _ _ _ ?_
  clear hK6 K5
  refine WC.cond rfl (fun c7 => ?_) (fun c7 => ?_)
  · skip
    refine WC.seq_k fun K8 hK9 => ?_
    refine WC.region ?_
    refine wU (gE rfl ?_)
    refine wOps.done ?_
    refine hK9 _ _ _ ?_
    clear hK9 K8
    refine WC.ret ?_
    exact ⟨_, rfl, .inl ⟨rfl, rfl, by have := (hbb (by simpa using c7)).2; exact List.length_eq_zero_iff.1 this⟩⟩
  · skip
    refine WC.skip ?_
    refine hK4 _ _ _ ?_
    clear hK4 K3
    refine WC.seq_k fun K10 hK11 => ?_
    refine WC.region ?_
    refine wU (gBuildSlice tslice33 tsz9 tzero9 rfl rfl (by decide) (by decide) fun b12 hb12 => ?_)
    refine wU (gE rfl ?_)
    refine wU (gOp (OpS.append_lin (m := l.length) (us := scs l) ⟨rfl⟩ el33 app33 rfl rfl (by simp only [hget, ↓reduceIte] <;> rfl) (by simp) (by simp only [evSrc, scs_length, Nat.mul_one, Nat.le_refl, if_true]; rw [List.take_of_length_le (by rw [scs_length]; omega)]) (scs_leaf l) (by omega) fun q N hq hN => ?_) rfl)
    refine wU (gE rfl ?_)
    refine wOps.done ?_
    refine hK11 _ _ _ ?_
    clear hK11 K10
    refine WC.ret ?_
    exact ⟨_, rfl, .inr ⟨q, N, by simp, by omega, by simp [hdel]⟩⟩
end Go.Proofs.YtfdmdcpopmcmcaaDoor
end

section
namespace Go.Proofs.YtfdmdcpopmcmcaaDoor
open Go.Fw Go.Sort Go.RowKit
variable [Gl]
/-- The strings in their order. -/
def srt (l : List By) : List By := l.mergeSort fun x y => decide (x ≤ y)
theorem srt_length (l : List By) : (srt l).length = l.length := by simp [srt]
theorem sort_tri {b cap nn : Nat} {T : TypeId} {ss : List By} {rest : List V} (hl : ss.length < 4611686018427387904) (hc : ss.length ≤ cap) :
    Tri Tryd.prog 14 [.slice b 0 ss.length cap] [(b, .cells T (scs ss ++ rest) nn)] fun v h' => v = .tup [] ∧ h' = [(b, .cells T (scs (srt ss) ++ rest) nn)] :=
  Tri.rowStr (fun _ _ _ => .tuple #[]) (srt_length ss) (fun F => .tup [] #[] rfl fun i v h => by simp at h) hc (fun blk off cap w h1 h2 h3 _ => Tryd.slices_Sort_string blk off cap ss w h1 h2 h3) hl
theorem sort_nil (v : V) (hv : v = .nilslice) : PTri Tryd.prog 14 [v] (.tup []) := by
  subst hv
  refine PTri.of_same #[.slice none 0 0] (.tuple #[]) (fun F av h => ?_) (fun w => Tryd.slices_Sort_string_none none 0 w) fun F => .tup [] #[] rfl fun i v h => by simp at h
  have h0 := (h.2 0 _ rfl).nilslice_inv
  have hs := h.1
  simp at hs
  obtain ⟨L⟩ := av
  match L, hs with
  | [x], _ => simp at h0; rw [h0]
/-- Equal neighbours are one. -/
def cpt (l : List By) : List By := Lib.compact l
theorem compact_tri {b cap nn : Nat} {T : TypeId} {ss : List By} {rest : List V} (hl : ss.length < 4611686018427387904) (hc : ss.length ≤ cap) (hle : (cpt ss).length ≤ ss.length) :
    Tri Tryd.prog 15 [.slice b 0 ss.length cap] [(b, .cells T (scs ss ++ rest) nn)] fun v h' => v = .slice b 0 (cpt ss).length cap ∧ h' = [(b, .cells T (scs (cpt ss ++ List.replicate (ss.length - (cpt ss).length) []) ++ rest) nn)] :=
  Tri.rowStr (fun blk off cap => .slice (some ⟨blk, off, none⟩) (cpt ss).length cap) (by simp; omega) (fun F => .slice b 0 _ _ (by omega)) hc
    (fun blk off cap w h1 h2 h3 h4 => (Tryd.slices_Compact_string blk off cap ss w h1 (by omega) h4).mono fun e w' ⟨a, q, c⟩ => ⟨a, q, #[], by rw [c, grow_empty]; rfl⟩) hl
end Go.Proofs.YtfdmdcpopmcmcaaDoor
end

section
namespace Go.Proofs.YtfdmdcpopmcmcaaDoor
open Go.Fw
variable [Gl]
theorem isGo14 : isGo Tryd.prog 14 = true := by kernel_rfl
theorem isGo15 : isGo Tryd.prog 15 = true := by kernel_rfl
theorem isGo28 : isGo Tryd.prog 28 = true := by kernel_rfl
theorem isGo29 : isGo Tryd.prog 29 = true := by kernel_rfl
theorem isGo30 : isGo Tryd.prog 30 = true := by kernel_rfl
theorem isGo44 : isGo Tryd.prog 44 = true := by kernel_rfl
theorem tsz33 : tsz Tryd.prog 33 = some 1 := by kernel_rfl
theorem tzero33 : tzero Tryd.prog 33 = some [.nilslice] := by kernel_rfl
set_option maxRecDepth 20000
abbrev tbB (c : UInt8) : Bool := isTB c.toNat
def tf (w : By) : By := (w.take 40).map lowB
def rawTerms (s : By) : List By := (wordsG tbB [] s).map tf
theorem minI (n : Nat) : evMin (.int .i64 (n : Nat)) [.int .i64 40] = some (.int .i64 ((min n 40 : Nat) : Int)) := by
  simp only [evMin, if_true]
  congr 2
  split <;> omega
theorem compact_nil : PTri Tryd.prog 15 [.nilslice] .nilslice := by
  refine PTri.of_same #[.slice none 0 0] (.slice none 0 0) (fun F av h => ?_) (fun w => Tryd.slices_Compact_string_empty none 0 w) fun F => .nilslice
  have h0 := (h.2 0 _ rfl).nilslice_inv
  have hs := h.1
  simp at hs
  obtain ⟨L⟩ := av
  match L, hs with
  | [x], _ => simp at h0; rw [h0]
/-- Terms, ahead of the sort: the box holds the first k terms. -/
def TI (ws : List By) (b : Nat) (k : Nat) (h : Hp) : Prop := (k = 0 ∧ h = [(b, .cells 33 [.nilslice] 1)]) ∨ (0 < k ∧ ∃ q N, ¬ q = b ∧ k ≤ N ∧ h = [(q, .cells 9 (scs ((ws.take k).map tf)) (N * 1)), (b, .cells 33 [.slice q 0 k N] 1)])
theorem wordsG_len (p : UInt8 → Bool) : ∀ (s acc : By), (wordsG p acc s).length ≤ s.length + 1
  | [], acc => by simp only [wordsG]; split <;> simp
  | c :: s, acc => by
    simp only [wordsG]
    split
    · have := wordsG_len p s (acc ++ [c]); simp; omega
    · have := wordsG_len p s []; rw [List.length_append]; split <;> simp <;> omega
theorem terms_tri0 (s : By) (hs : s.length ≤ 4294967294) : Tri Tryd.prog 12 [.str s] [] fun v h' => (rawTerms s = [] ∧ v = .nilslice) ∨ ∃ q N rest, v = .slice q 0 (cpt (srt (rawTerms s))).length N ∧ hget h' q = some (.cells 9 (scs (cpt (srt (rawTerms s))) ++ rest) (N * 1)) := by
  have hw := wordsG_len tbB s []
  unfold rawTerms
  generalize hws : wordsG tbB [] s = ws at hw
  have hss : ws.map tf = ws.map tf := rfl
  generalize hsd : ws.map tf = ss at hss
  have hsl : ws.length = ss.length := by rw [← hsd]; simp
  refine Tri.of_wc Tryd.func12 rfl Tryd.results12 Tryd.ntmps12 (by simp) ?_
  refine WC.seq_k fun K1 hK2 => ?_
  refine WC.region ?_
  refine wU (gE rfl ?_)
  refine wOps.done ?_
  refine hK2 _ _ _ ?_
  clear hK2 K1
  refine WC.seq_k fun K3 hK4 => ?_
  refine WC.region ?_
  refine wU (gAlloc tzero33 fun b5 hb5 => ?_)
  refine wOps.done ?_
  refine hK4 _ _ _ ?_
  clear hK4 K3
  refine WC.seq_k fun K6 hK7 => ?_
  refine WC.seq_k fun K8 hK9 => ?_
  refine WC.region ?_
  refine wU (gE rfl ?_)
  refine wU (gPure rfl isGo28 (words_tri s 29) ?_)
  refine wOps.done ?_
  refine hK9 _ _ _ ?_
  clear hK9 K8
  refine WC.block ?_
  refine WC.range (f := 44) (caps := [.fptr [.str s] 0, .fptr [.clo 29 []] 0]) (xs := ws.map fun w => [.str w]) (TI ws b5) (fun c h => False) rfl isGo44 (hws ▸ words1_iter 29 tbB isGo29 (fun c => isTB_tri c.toNat) s (by omega)) (by decide) (by intro a ha; obtain ⟨p, -, rfl⟩ := List.mem_map.1 ha; rfl) ?_ ?_ ?_ ?_
  · exact .inl ⟨rfl, rfl⟩
  · intro y k hk h hI
    rw [List.length_map] at hk
    simp only [List.getElem_map]
    show WC _ _ _ _ (upd _ 7 (.str ws[k])) _ _ _
    refine WC.region ?_
    refine wU (gE rfl ?_)
    refine wOps.done ?_
    simp only [thn]
    refine WC.post ?_
    rcases hI with ⟨hk0, rfl⟩ | ⟨hk0, q, N, hqb, hkN, rfl⟩
    · skip
      refine WC.block ?_
      refine WC.region_draw mixed ?_
      refine wA.val 1 rfl rfl rfl (fun _ _ hK => gE rfl hK) (by kernel_rfl) ?_
      refine wA.val 2 rfl rfl rfl (fun _ _ hK => gE rfl hK) (by kernel_rfl) ?_
      refine wA.val 3 rfl rfl rfl (fun _ _ hK => gLen rfl rfl tisstr9 hK) (by kernel_rfl) ?_
      refine wA.val 4 rfl rfl rfl (fun _ _ hK => by refine gMin (v := .int .i64 ((min ws[k].length 40 : Nat) : Int)) rfl (minI _) ?_; exact hK) (by kernel_rfl) ?_
      refine wA.val 5 rfl rfl rfl (fun _ _ hK => by refine gSliceStr (r := some (min ws[k].length 40)) tisstr9 rfl rfl rfl (by simp) (by simp; omega) ?_; exact hK) (by kernel_rfl) ?_
      refine wA.val 6 rfl rfl rfl (fun _ _ hK => by refine gPure rfl isGo30 (low_tri _ (by simp; omega)) ?_; exact hK) (by kernel_rfl) ?_
      refine wA.ld 0 rfl rfl rfl (fun _ hle _ hK => gLoad tagg33 rfl (hle _ _ (by simp only [hget, ↓reduceIte] <;> rfl)) rfl hK) (by kernel_rfl) ?_
      refine wA.eff 7 rfl (by kernel_rfl) rfl ?_
      refine gBuildSlice (cs := [.str (tf ws[k])]) tslice33 tsz9 tzero9 rfl (by simp [evFill, putL, zcells, vcells, tf, Nat.min_comm]) (by decide) (by decide) fun b10 hb10 => ?_
      simp only [Hp.ns_cons, Hp.ns_nil, List.mem_cons, List.not_mem_nil, or_false, not_or] at hb10
      simp only [List.length_singleton]
      refine wA.back ?_
      refine wA.eff 8 rfl (by kernel_rfl) rfl ?_
      refine gOp (OpS.append_nil (m := 1) (us := [.str (tf ws[k])]) ⟨rfl⟩ el33 app33 rfl rfl (by simp [evSrc, hget]) (by omega) (fun h => by simp at h) fun _ q N hq hN => ?_) rfl
      simp [hdel, hb10] at hq
      refine wA.back ?_
      refine wA.eff 9 rfl (by kernel_rfl) rfl ?_
      refine gStore rfl rfl (by simp only [hget, hb10, hq, ↓reduceIte] <;> rfl) tsz33 (by simp [vcells]) (by simp [vcells, leafV]) ?_
      simp only [hset, stL, vcells, List.set_cons_zero, List.set_cons_succ, hb10, hq, ↓reduceIte]
      refine wA.back0 ?_
      refine wA.done (by kernel_rfl) ?_
      have e : (ws.take (k + 1)).map tf = [tf ws[k]] := by rw [List.take_succ_eq_append_getElem hk]; simp [hk0]
      refine ⟨frL [], [(q, .cells 9 [.str (tf ws[k])] (N * 1)), (b5, .cells 33 [.slice q 0 1 N] 1)], (Ent.sub (sub_nil _)).trans (Ent.drop ?_), .inr ⟨by omega, q, N, hq.2, by omega, ?_⟩⟩
      · exact List.Sublist.cons_cons _ (List.sublist_cons_self _ _)
      · rw [e]; simp [scs, hk0]
    · skip
      refine WC.block ?_
      refine WC.region_draw mixed ?_
      refine wA.val 1 rfl rfl rfl (fun _ _ hK => gE rfl hK) (by kernel_rfl) ?_
      refine wA.val 2 rfl rfl rfl (fun _ _ hK => gE rfl hK) (by kernel_rfl) ?_
      refine wA.val 3 rfl rfl rfl (fun _ _ hK => gLen rfl rfl tisstr9 hK) (by kernel_rfl) ?_
      refine wA.val 4 rfl rfl rfl (fun _ _ hK => by refine gMin (v := .int .i64 ((min ws[k].length 40 : Nat) : Int)) rfl (minI _) ?_; exact hK) (by kernel_rfl) ?_
      refine wA.val 5 rfl rfl rfl (fun _ _ hK => by refine gSliceStr (r := some (min ws[k].length 40)) tisstr9 rfl rfl rfl (by simp) (by simp; omega) ?_; exact hK) (by kernel_rfl) ?_
      refine wA.val 6 rfl rfl rfl (fun _ _ hK => by refine gPure rfl isGo30 (low_tri _ (by simp; omega)) ?_; exact hK) (by kernel_rfl) ?_
      refine wA.ld 0 rfl rfl rfl (fun _ hle _ hK => gLoad tagg33 rfl (hle _ _ (by simp only [hget, hqb, ↓reduceIte] <;> rfl)) rfl hK) (by kernel_rfl) ?_
      refine wA.eff 7 rfl (by kernel_rfl) rfl ?_
      refine gBuildSlice (cs := [.str (tf ws[k])]) tslice33 tsz9 tzero9 rfl (by simp [evFill, putL, zcells, vcells, tf, Nat.min_comm]) (by decide) (by decide) fun b11 hb11 => ?_
      simp only [Hp.ns_cons, Hp.ns_nil, List.mem_cons, List.not_mem_nil, or_false, not_or] at hb11
      simp only [List.length_singleton]
      refine wA.back ?_
      refine wA.eff 8 rfl (by kernel_rfl) rfl ?_
      refine gOp (OpS.append_lin (m := 1) (us := [.str (tf ws[k])]) ⟨rfl⟩ el33 app33 rfl rfl (by simp [hget, hqb, hb11] <;> rfl) (by simp [scs]; omega) (by simp [evSrc, hget]) rfl (by omega) fun q2 N2 hq2 hN2 => ?_) rfl
      simp [hdel, hqb, hb11] at hq2
      simp only [hdel, ↓reduceIte, hqb, hb11, hq2]
      refine wA.back ?_
      refine wA.eff 9 rfl (by kernel_rfl) rfl ?_
      refine gStore rfl rfl (by simp only [hget, hqb, hb11, hq2, ↓reduceIte] <;> rfl) tsz33 (by simp [vcells]) (by simp [vcells, leafV]) ?_
      simp only [hset, stL, vcells, List.set_cons_zero, List.set_cons_succ, hqb, hb11, hq2, ↓reduceIte]
      refine wA.back0 ?_
      refine wA.done (by kernel_rfl) ?_
      have e : (ws.take (k + 1)).map tf = (ws.take k).map tf ++ [tf ws[k]] := by rw [List.take_succ_eq_append_getElem hk, List.map_append]; rfl
      have e3 : List.take k (List.map tf ws) = (ws.take k).map tf := by simp
      try rw [e3]
      have e2 : (scs ((ws.take k).map tf)).take (k * 1) = scs ((ws.take k).map tf) := List.take_of_length_le (by simp [scs]; omega)
      rw [e2]
      refine ⟨frL [], [(q2, .cells 9 (scs ((ws.take k).map tf) ++ [.str (tf ws[k])]) (N2 * 1)), (b5, .cells 33 [.slice q2 0 (k + 1) N2] 1)], (Ent.sub (sub_nil _)).trans (Ent.drop ?_), .inr ⟨by omega, q2, N2, hq2.2, by omega, ?_⟩⟩
      · exact List.Sublist.cons_cons _ (List.sublist_cons_self _ _)
      · rw [e]; simp [scs]
  · rintro r h hr hI
    rw [List.length_map] at hI
    rcases hI with ⟨hk0, rfl⟩ | ⟨hk0, q, N, hqb, hkN, rfl⟩
    · simp only [Hp.ns_cons, Hp.ns_nil, List.mem_cons, List.not_mem_nil, or_false, not_or] at hr
      refine hK7 _ _ _ ?_
      clear hK7 K6
      refine WC.seq_k fun K12 hK13 => ?_
      refine WC.region ?_
      refine wU (gLoad tagg33 rfl (by simp only [hget, hr, ↓reduceIte] <;> rfl) rfl ?_)
      refine wU (gPure (by rfl) isGo14 (sort_nil _ rfl) ?_)
      refine wOps.done ?_
      refine hK13 _ _ _ ?_
      clear hK13 K12
      refine WC.seq_k fun K14 hK15 => ?_
      refine WC.region ?_
      refine wU (gLoad tagg33 rfl (by simp only [hget, hr, ↓reduceIte] <;> rfl) rfl ?_)
      refine wU (gPure (by rfl) isGo15 compact_nil ?_)
      refine wU (gE rfl ?_)
      refine wOps.done ?_
      refine hK15 _ _ _ ?_
      clear hK15 K14
      refine WC.ret ?_
      refine ⟨by simp [hget], .nilslice, rfl, .inl ⟨?_, rfl⟩⟩
      exact List.length_eq_zero_iff.1 (by omega)
    · simp only [Hp.ns_cons, Hp.ns_nil, List.mem_cons, List.not_mem_nil, or_false, not_or] at hr
      rw [List.take_length, hsd, hsl]
      refine hK7 _ _ _ ?_
      clear hK7 K6
      refine WC.seq_k fun K16 hK17 => ?_
      refine WC.region ?_
      refine wU (gLoad tagg33 rfl (by simp only [hget, hqb, hr.1, hr.2, Ne.symm hqb, Ne.symm hr.1, ↓reduceIte] <;> rfl) rfl ?_)
      have hm := (sort_tri (b := q) (cap := N) (nn := N * 1) (T := 9) (ss := ss) (rest := []) (by omega) (by omega)).frame [(r, .deferred), (b5, .cells 33 [.slice q 0 ss.length N] 1)]
      simp only [List.append_nil, List.singleton_append] at hm
      have hm1 := hm.perm (h := [(r, .deferred), (q, .cells 9 (scs ss) (N * 1)), (b5, .cells 33 [.slice q 0 ss.length N] 1)]) (List.Perm.swap _ _ _)
      refine wU (gCall (by rfl) (@CallS.mono _ Tryd.prog 14 _ _ _ _ (@CallS.of_tri _ Tryd.prog 14 _ _ _ isGo14 hm1) ?_))
      rintro v h1 ⟨h2, rfl, ⟨rfl, rfl⟩, -⟩
      simp only [List.nil_append, List.cons_append]
      refine wOps.done ?_
      refine hK17 _ _ _ ?_
      clear hK17 K16
      refine WC.seq_k fun K18 hK19 => ?_
      refine WC.region ?_
      refine wU (gLoad tagg33 rfl (by simp only [hget, hqb, hr.1, hr.2, Ne.symm hqb, Ne.symm hr.1, ↓reduceIte] <;> rfl) rfl ?_)
      have hm := (compact_tri (b := q) (cap := N) (nn := N * 1) (T := 9) (ss := srt ss) (rest := []) (by rw [srt_length]; omega) (by rw [srt_length]; omega) (Lib.compact_length_le _)).frame [(r, .deferred), (b5, .cells 33 [.slice q 0 ss.length N] 1)]
      rw [srt_length] at hm
      simp only [List.append_nil, List.singleton_append] at hm
      refine wU (gCall (by rfl) (@CallS.mono _ Tryd.prog 15 _ _ _ _ (@CallS.of_tri _ Tryd.prog 15 _ _ _ isGo15 hm) ?_))
      rintro v h1 ⟨h2, rfl, ⟨rfl, rfl⟩, -⟩
      simp only [List.nil_append, List.cons_append]
      refine wU (gE rfl ?_)
      refine wOps.done ?_
      refine hK19 _ _ _ ?_
      clear hK19 K18
      refine WC.ret ?_
      refine ⟨by simp [hget, hr, Ne.symm hr.1], .slice q 0 (cpt (srt ss)).length N, rfl, .inr ⟨q, N, List.replicate (ss.length - (cpt (srt ss)).length) [] |>.map .str, rfl, ?_⟩⟩
      simp [hdel, hget, hr, hqb, Ne.symm hqb, Ne.symm hr.1, scs]
  · exact fun r h c hr hf => hf.elim
theorem terms_tri (s : By) (hs : s.length ≤ 4294967294) : PTri Tryd.prog 12 [.str s] (ssl (cpt (srt (rawTerms s)))) := by
  refine Tri.vent (terms_tri0 s hs) ?_
  rintro v h' (⟨h0, rfl⟩ | ⟨q, N, rest, rfl, hg⟩)
  · rw [h0]
    have e : cpt (srt []) = [] := by unfold srt; rw [List.mergeSort_nil]; rfl
    rw [e]
    exact ⟨_, _, .drop (List.nil_sublist _) (.weak VLe.nils (.refl _ _)), rfl, rfl⟩
  · refine ⟨_, _, .freeze q hg (.drop (List.nil_sublist _) (.weak ?_ (.refl _ _))), rfl, rfl⟩
    have := VLe.cut (cs := scs (cpt (srt (rawTerms s))) ++ rest) (len := (cpt (srt (rawTerms s))).length) (cpt (srt (rawTerms s))).length (fun h => h)
    rw [List.take_append_of_le_length (by rw [scs_length]; omega), List.take_of_length_le (by rw [scs_length]; omega)] at this
    simpa [frzV, ssl] using this
end Go.Proofs.YtfdmdcpopmcmcaaDoor
end

section
namespace Go.Proofs.YtfdmdcpopmcmcaaDoor
open Go.Fw
/-! ### Plain facts of terms -/
theorem srt_sorted (l : List By) : (srt l).Pairwise (· ≤ ·) := by
  have := List.pairwise_mergeSort (le := fun (x y : By) => decide (x ≤ y)) (fun a b c h1 h2 => by simp at *; exact le_tr h1 h2) (fun a b => by simp; exact List.le_total a b) l
  refine this.imp ?_
  intro a b h
  simpa using h
theorem srt_mem (l : List By) (x : By) : x ∈ srt l ↔ x ∈ l := (List.mergeSort_perm l _).mem_iff
theorem cpt_inv (zs : List By) (hs : zs.Pairwise (· ≤ ·)) : ∀ m, m ≤ zs.length → (Lib.compactUpTo zs.toArray m).Pairwise (· < ·) ∧ (∀ x, x ∈ Lib.compactUpTo zs.toArray m ↔ x ∈ zs.take m) ∧ ∀ x, x ∈ Lib.compactUpTo zs.toArray m → ∀ y, zs[m - 1]? = some y → x ≤ y
  | 0, _ => by simp [Lib.compactUpTo]
  | m + 1, hm => by
    obtain ⟨h1, h2, h3⟩ := cpt_inv zs hs m (by omega)
    have hmm : m < zs.length := by omega
    have e : zs.toArray[m]! = zs[m] := by rw [getElem!_pos _ m (by simpa using hmm)]; simp
    rw [Lib.compactUpTo_succ, e]
    have et : zs.take (m + 1) = zs.take m ++ [zs[m]] := List.take_succ_eq_append_getElem hmm
    by_cases hk : Lib.keeps zs.toArray m = true
    · rw [if_pos hk]
      have hlt : ∀ x, x ∈ Lib.compactUpTo zs.toArray m → x < zs[m] := by
        intro x hx
        simp only [Lib.keeps, decide_eq_true_eq] at hk
        rcases hk with rfl | hk
        · simp [Lib.compactUpTo] at hx
        · have hm0 : m ≠ 0 := by rintro rfl; simp [Lib.compactUpTo] at hx
          have e' : zs.toArray[m - 1]! = zs[m - 1] := by rw [getElem!_pos _ (m - 1) (by simp; omega)]; simp
          rw [e, e'] at hk
          have hle : x ≤ zs[m - 1] := h3 x hx _ (by simp)
          have hle2 : zs[m - 1] ≤ zs[m] := List.pairwise_iff_getElem.1 hs (m - 1) m (by omega) hmm (by omega)
          refine lt_ne (le_tr hle hle2) fun hxe => ?_
          subst hxe
          exact hk (le_anti hle hle2)
      refine ⟨List.pairwise_append.2 ⟨h1, by simp, fun a ha b hb => ?_⟩, fun x => ?_, fun x hx y hy => ?_⟩
      · simp only [List.mem_singleton] at hb; subst hb; exact hlt a ha
      · rw [et, List.mem_append, List.mem_append, h2]
      · have hy' : y = zs[m] := by simp [hmm] at hy; exact hy.symm
        subst hy'
        rcases List.mem_append.1 hx with h | h
        · exact lt_le (hlt x h)
        · simp only [List.mem_singleton] at h; subst h; exact List.le_refl _
    · rw [if_neg hk, List.append_nil]
      have hk' : m ≠ 0 ∧ zs.toArray[m]! = zs.toArray[m - 1]! := by
        simp only [Lib.keeps, decide_eq_true_eq, not_or] at hk
        exact ⟨hk.1, Classical.byContradiction hk.2⟩
      have e' : zs.toArray[m - 1]! = zs[m - 1] := by rw [getElem!_pos _ (m - 1) (by simp; omega)]; simp
      rw [e, e'] at hk'
      have hmem : zs[m] ∈ zs.take m := by
        rw [hk'.2]
        exact List.mem_take_iff_getElem.2 ⟨m - 1, by omega, rfl⟩
      refine ⟨h1, fun x => ?_, fun x hx y hy => ?_⟩
      · rw [et, List.mem_append, h2]
        simp only [List.mem_singleton]
        exact ⟨.inl, fun h => h.elim id fun h => h ▸ hmem⟩
      · have hy' : y = zs[m] := by simp [hmm] at hy; exact hy.symm
        subst hy'
        rw [hk'.2]
        exact h3 x hx _ (by simp)
theorem cs_sorted (l : List By) : (cpt (srt l)).Pairwise (· < ·) := (cpt_inv _ (srt_sorted l) _ (Nat.le_refl _)).1
theorem cs_mem (l : List By) (x : By) : x ∈ cpt (srt l) ↔ x ∈ l := by
  have := (cpt_inv _ (srt_sorted l) _ (Nat.le_refl _)).2.1 x
  rw [List.take_length] at this
  exact this.trans (srt_mem l x)
/-- Two strictly ascending lists with the same members are one. -/
theorem asc_eq : ∀ (a b : List By), a.Pairwise (· < ·) → b.Pairwise (· < ·) → (∀ x, x ∈ a ↔ x ∈ b) → a = b
  | [], [], _, _, _ => rfl
  | [], y :: b, _, _, h => by have := (h y).2 (by simp); simp at this
  | x :: a, [], _, _, h => by have := (h x).1 (by simp); simp at this
  | x :: a, y :: b, ha, hb, h => by
    rw [List.pairwise_cons] at ha hb
    have exy : x = y := by
      rcases List.mem_cons.1 ((h x).1 (by simp)) with e | e
      · exact e
      · rcases List.mem_cons.1 ((h y).2 (by simp)) with e' | e'
        · exact e'.symm
        · exact (lt_irr (lt_tr (hb.1 x e) (ha.1 y e'))).elim
    subst exy
    rw [asc_eq a b ha.2 hb.2 fun z => ⟨fun hz => ?_, fun hz => ?_⟩]
    · rcases List.mem_cons.1 ((h z).1 (List.mem_cons_of_mem _ hz)) with e | e
      · subst e; exact (lt_irr (ha.1 _ hz)).elim
      · exact e
    · rcases List.mem_cons.1 ((h z).2 (List.mem_cons_of_mem _ hz)) with e | e
      · subst e; exact (lt_irr (hb.1 _ hz)).elim
      · exact e
theorem wordsG_append (p : UInt8 → Bool) (c : UInt8) (hc : p c = false) (t : By) : ∀ (s acc : By), wordsG p acc (s ++ c :: t) = wordsG p acc s ++ wordsG p [] t
  | [], acc => by simp [wordsG, hc]
  | d :: s, acc => by
    simp only [List.cons_append, wordsG]
    split
    · exact wordsG_append p c hc t s _
    · rw [wordsG_append p c hc t s [], List.append_assoc]
theorem wordsG_map (p : UInt8 → Bool) (g : UInt8 → UInt8) (hg : ∀ c, p (g c) = p c) : ∀ (s acc : By), wordsG p (acc.map g) (s.map g) = (wordsG p acc s).map (List.map g)
  | [], acc => by
    simp only [List.map_nil, wordsG]
    by_cases h : acc = []
    · simp [h]
    · simp [h]
  | d :: s, acc => by
    simp only [List.map_cons, wordsG, hg]
    split
    · rw [← wordsG_map p g hg s (acc ++ [d])]; simp
    · have := wordsG_map p g hg s []
      simp only [List.map_nil] at this
      rw [this]
      by_cases h : acc = []
      · simp [h]
      · simp [h]
theorem wordsG_all (p : UInt8 → Bool) : ∀ (x acc : By), x.all p = true → wordsG p acc x = if acc ++ x = [] then [] else [acc ++ x]
  | [], acc, _ => by simp [wordsG]
  | c :: x, acc, h => by
    simp only [List.all_cons, Bool.and_eq_true] at h
    simp only [wordsG, h.1, if_true]
    rw [wordsG_all p x _ h.2]
    simp
theorem wordsG_mem (p : UInt8 → Bool) (w : By) : ∀ (s acc : By), acc.all p = true → w ∈ wordsG p acc s → w ≠ [] ∧ w.all p = true
  | [], acc, ha, h => by
    simp only [wordsG] at h
    split at h
    · simp at h
    · rename_i hn
      simp only [List.mem_singleton] at h
      subst h
      exact ⟨hn, ha⟩
  | c :: s, acc, ha, h => by
    simp only [wordsG] at h
    split at h
    · rename_i hp
      exact wordsG_mem p w s _ (by simp [ha, hp]) h
    · rcases List.mem_append.1 h with h | h
      · split at h
        · simp at h
        · rename_i hn
          simp only [List.mem_singleton] at h
          subst h
          exact ⟨hn, ha⟩
      · exact wordsG_mem p w s [] (by simp) h
theorem lowB_toNat (c : UInt8) : (lowB c).toNat = if 65 ≤ c.toNat ∧ c.toNat ≤ 90 then c.toNat + 32 else c.toNat := by
  unfold lowB
  split
  · rw [UInt8.toNat_add]
    have : (32 : UInt8).toNat = 32 := rfl
    omega
  · rfl
theorem tbB_low (c : UInt8) : tbB (lowB c) = tbB c := by
  unfold tbB isTB
  rw [lowB_toNat]
  rw [Bool.eq_iff_iff]
  simp only [Bool.or_eq_true, Bool.and_eq_true, decide_eq_true_eq, beq_iff_eq]
  split <;> omega
theorem low_low (c : UInt8) : lowB (lowB c) = lowB c := by
  apply UInt8.toNat_inj.1
  rw [lowB_toNat, lowB_toNat]
  split <;> (try split) <;> omega
theorem tf_low (w : By) : tf (w.map lowB) = tf w := by
  unfold tf
  rw [← List.map_take, List.map_map]
  congr 1
  funext c
  exact low_low c
theorem tf_tf (w : By) : tf (tf w) = tf w := by
  show tf ((w.take 40).map lowB) = _
  rw [tf_low]
  unfold tf
  rw [List.take_take]
  simp
theorem tf_len (w : By) : (tf w).length ≤ 40 := by simp [tf]; omega
theorem tf_ne {w : By} (h : w ≠ []) : tf w ≠ [] := by
  cases w with
  | nil => exact absurd rfl h
  | cons c w => simp [tf]
theorem tf_all {w : By} (h : w.all tbB = true) : (tf w).all tbB = true := by
  unfold tf
  rw [List.all_map, List.all_eq_true]
  intro c hc
  rw [Function.comp_apply, tbB_low]
  exact List.all_eq_true.1 h c (List.mem_of_mem_take hc)
/-- What Terms answers. -/
def termsL (s : By) : List By := cpt (srt (rawTerms s))
theorem terms_mem (s x : By) : x ∈ termsL s ↔ x ∈ rawTerms s := cs_mem _ _
theorem terms_sorted (s : By) : (termsL s).Pairwise (· < ·) := cs_sorted _
theorem raw_mem {s x : By} (h : x ∈ rawTerms s) : x ≠ [] ∧ x.all tbB = true ∧ x.length ≤ 40 ∧ tf x = x := by
  obtain ⟨w, hw, rfl⟩ := List.mem_map.1 h
  obtain ⟨h1, h2⟩ := wordsG_mem tbB w s [] (by simp) hw
  exact ⟨tf_ne h1, tf_all h2, tf_len w, tf_tf w⟩
theorem terms_self {s x : By} (h : x ∈ termsL s) : termsL x = [x] := by
  obtain ⟨h1, h2, h3, h4⟩ := raw_mem ((terms_mem s x).1 h)
  have e : rawTerms x = [x] := by
    unfold rawTerms
    rw [wordsG_all tbB x [] h2]
    simp [h1, h4]
  refine asc_eq _ _ (terms_sorted x) (by simp) fun z => ?_
  rw [terms_mem, e]
theorem terms_both (s t : By) : termsL (s ++ 32 :: t) = cpt (srt (termsL s ++ termsL t)) := by
  refine asc_eq _ _ (terms_sorted _) (cs_sorted _) fun z => ?_
  rw [terms_mem, cs_mem, List.mem_append, terms_mem, terms_mem]
  unfold rawTerms
  rw [wordsG_append tbB 32 (by decide) t s [], List.map_append, List.mem_append]
theorem terms_small (s : By) : termsL (s.map lowB) = termsL s := by
  have e : rawTerms (s.map lowB) = rawTerms s := by
    unfold rawTerms
    have := wordsG_map tbB lowB tbB_low s []
    simp only [List.map_nil] at this
    rw [this, List.map_map]
    congr 1
    funext w
    exact tf_low w
  unfold termsL
  rw [e]
end Go.Proofs.YtfdmdcpopmcmcaaDoor
end

section
namespace Go.Proofs.YtfdmdcpopmcmcaaDoor
open Go.Fw
variable [Gl]
theorem isGo10 : isGo Tryd.prog 10 = true := by kernel_rfl
theorem isGo11 : isGo Tryd.prog 11 = true := by kernel_rfl
theorem isGo12 : isGo Tryd.prog 12 = true := by kernel_rfl
theorem isGo16 : isGo Tryd.prog 16 = true := by kernel_rfl
theorem isGo56 : isGo Tryd.prog 56 = true := by kernel_rfl
theorem isGo7 : isGo Tryd.prog 7 = true := by kernel_rfl
theorem isGo8 : isGo Tryd.prog 8 = true := by kernel_rfl
set_option maxRecDepth 20000
theorem idxAny_short (s : By) (h8 : s.length ≤ 8) (ha : ∀ c ∈ s, c.toNat < 128) : PTri Tryd.prog 56 [.str s, .str [32, 10]] (.int .i64 (Lib.indexAny s [32, 10])) := by
  intro F w av ho hav
  rw [vrs_str2 F av hav]
  refine callsIn_of ((Tryd.strings_IndexAny_short ⟨s.toArray⟩ ⟨#[32, 10]⟩ w (by decide) (by simpa [ByteArray.size] using h8) (fun j b hb => ha b (List.mem_of_getElem? hb))).mono ?_)
  rintro e w' ⟨rfl, pos, rfl⟩
  exact ⟨_, _, [], F, rfl, ⟨rfl, rfl⟩, (ho.push (.striter s pos)).sub (List.nil_sublist _), .int _ _, (Trans.push F [] w (.striter s pos) _).trans (Trans.sub (List.nil_sublist _))⟩
theorem idxAny_any (l : By) : ∀ s : By, decide (0 ≤ Lib.indexAny s l) = s.any fun c => l.contains c
  | [] => by simp [Lib.indexAny]
  | b :: s => by
    have ih := idxAny_any l s
    have hge := Lib.indexAny_ge l s
    simp only [Lib.indexAny, List.any_cons]
    rw [← ih]
    split
    · rename_i h; rw [h]; simp
    · rename_i h
      have h : l.contains b = false := by simpa using h
      rw [h, Bool.false_or]
      split
      · rename_i h2
        have h2 : Lib.indexAny s l = -1 := by simpa using h2
        rw [h2]
      · rename_i h2
        have h2 : ¬ Lib.indexAny s l = -1 := by simpa using h2
        congr 1
        rw [eq_iff_iff]
        omega
theorem spB_eq (c : UInt8) : ([32, 10] : By).contains c = spB c := by
  simp only [List.contains_cons, List.contains_nil, Bool.or_false]
theorem ca_of (s : By) (h : PTri Tryd.prog 56 [.str s, .str [32, 10]] (.int .i64 (Lib.indexAny s [32, 10]))) : CA s := by
  unfold CA
  have e : s.any spB = decide (0 ≤ Lib.indexAny s [32, 10]) := by
    rw [idxAny_any]
    congr 1
    funext c
    exact (spB_eq c).symm
  rw [e]
  refine PTri.any (Tri.of_wc Tryd.func33 rfl Tryd.results33 Tryd.ntmps33 (by simp) ?_)
  refine WC.seq_k fun K1 hK2 => ?_
  refine WC.region ?_
  refine wU (gE rfl ?_)
  refine wOps.done ?_
  refine hK2 _ _ _ ?_
  clear hK2 K1
  refine WC.seq_k fun K3 hK4 => ?_
  refine WC.region ?_
  refine wU (gE rfl ?_)
  refine wU (gE rfl ?_)
  refine wU (gPure rfl isGo56 h ?_)
  refine wU (gE rfl ?_)
  refine wU (gE rfl ?_)
  refine wOps.done ?_
  refine hK4 _ _ _ ?_
  clear hK4 K3
  refine WC.ret ?_
  exact ⟨_, rfl, rfl⟩
theorem ca_short (s : By) (h8 : s.length ≤ 8) (ha : ∀ c ∈ s, c.toNat < 128) : CA s := ca_of s (idxAny_short s h8 ha)
abbrev exF : By := [108, 101, 118, 101, 108, 61, 105, 110, 102, 111, 32, 109, 115, 103, 61, 34, 97, 32, 98, 34, 32, 61, 120, 32, 111, 107]
abbrev exL : List Lb := [([108, 101, 118, 101, 108], [105, 110, 102, 111]), ([109, 115, 103], [97, 32, 98])]
theorem srtN_self {l : List Lb} (h : l.Pairwise fun x y => x.1 < y.1) : srtN l = l :=
  asc_eqL _ _ (srtN_asc (List.Pairwise.imp (fun hab e => by rw [e] at hab; exact lt_irr hab) h)) h fun x => (srtN_perm l).mem_iff
theorem ex1 : parseL exF = (exL, 0) := by
  have e : parseG [] (fieldsL exF) = some exL := by decide
  unfold parseL
  rw [if_neg (by decide), e]
  simp only
  rw [if_neg (by decide), srtN_self (by decide)]
theorem ex2 : fmtL [([97], [120, 32, 121]), ([98], [122])] = ([97, 61, 34, 120, 32, 121, 34, 32, 98, 61, 122], 0) := by decide
abbrev exT : By := [71, 69, 84, 32, 47, 85, 115, 101, 114, 115, 47, 52, 50, 32, 116, 111, 111, 107, 32, 51, 109, 115]
abbrev exW : List By := [[51, 109, 115], [52, 50], [103, 101, 116], [116, 111, 111, 107], [117, 115, 101, 114, 115]]
theorem ex3 : cpt (srt (rawTerms exT)) = exW := by
  refine asc_eq _ _ (cs_sorted _) (by decide) fun x => ?_
  rw [cs_mem]
  exact List.Perm.mem_iff (by decide)
theorem awake_tri (hG : GInt) : PTri Tryd.prog 7 [] (.bool true) := by
  have h1 := parse_tri hG exF (by decide)
  rw [ex1] at h1
  have h2 := fmt_tri [([97], [120, 32, 121]), ([98], [122])] (fun _ p hp => by
    simp only [List.mem_cons, List.not_mem_nil, or_false] at hp
    rcases hp with rfl | rfl <;> exact ca_short _ (by decide) (by decide)) (by decide)
  rw [ex2] at h2
  have h3 := terms_tri exT (by decide)
  rw [ex3] at h3
  have h4 := sameS_tri exW exW (by decide)
  have h5 := same_tri exL exL (by decide)
  refine PTri.any (Tri.of_wc Tryd.func7 rfl Tryd.results7 Tryd.ntmps7 (by simp) ?_)
  refine WC.seq_k fun K1 hK2 => ?_
  refine WC.region ?_
  refine wU (gE rfl ?_)
  refine wOps.done ?_
  refine hK2 _ _ _ ?_
  clear hK2 K1
  refine WC.seq_k fun K3 hK4 => ?_
  refine WC.region ?_
  refine wU (gPure rfl isGo10 h1 ?_)
  refine wU (gE rfl ?_)
  refine wU (gE rfl ?_)
  refine wU (gE rfl ?_)
  refine wU (gE rfl ?_)
  refine wU (gE rfl ?_)
  refine wOps.done ?_
  refine hK4 _ _ _ ?_
  clear hK4 K3
  refine WC.seq_k fun K5 hK6 => ?_
  refine WC.region ?_
  refine wU (gBuild (v := .agg [.str [97], .str [120, 32, 121]]) rfl rfl ?_)
  refine wU (gBuild (v := .agg [.str [98], .str [122]]) rfl rfl ?_)
  refine wU (gBuildSlice (cs := [.str [97], .str [120, 32, 121], .str [98], .str [122]]) tslice22 tsz41 tzero41 rfl (by simp [evFill, putL, zcells, vcells]) (by decide) (by decide) fun p hp => ?_)
  have hm := (Tri.lend (b := p) (us := [.slice p 0 2 2]) (T := 41) (cs := [.str [97], .str [120, 32, 121], .str [98], .str [122]]) (nn := 4) h2 (by simp [frzV, frzL, lsl, lcs, ssl, scs]) rfl).frame []
  refine wU (gCall (by rfl) (@CallS.mono _ Tryd.prog 8 _ _ _ _ (@CallS.of_tri _ Tryd.prog 8 _ _ _ isGo8 hm) ?_))
  rintro v h1 ⟨h2, rfl, ⟨rfl, rfl⟩, -⟩
  simp only [List.nil_append, List.cons_append]
  refine wU (gE rfl ?_)
  refine wU (gE rfl ?_)
  refine wU (gE rfl ?_)
  refine wU (gE rfl ?_)
  refine wU (gE rfl ?_)
  refine wOps.done ?_
  refine hK6 _ _ _ ?_
  clear hK6 K5
  refine WC.seq_k fun K7 hK8 => ?_
  refine WC.region ?_
  refine wU (gPure rfl isGo12 h3 ?_)
  refine wU (gBuildSlice (cs := [.str [51, 109, 115], .str [52, 50], .str [103, 101, 116], .str [116, 111, 111, 107], .str [117, 115, 101, 114, 115]]) tslice33 tsz9 tzero9 rfl (by simp [evFill, putL, zcells, vcells]) (by decide) (by decide) fun q hq => ?_)
  have hm := (Tri.lend (b := q) (us := [ssl exW, .slice q 0 5 5]) (T := 9) (cs := [.str [51, 109, 115], .str [52, 50], .str [103, 101, 116], .str [116, 111, 111, 107], .str [117, 115, 101, 114, 115]]) (nn := 5) h4 (by simp [frzV, frzL, lsl, lcs, ssl, scs]) rfl).frame [(p, .cells 41 [.str [97], .str [120, 32, 121], .str [98], .str [122]] 4)]
  refine wU (gCall (by rfl) (@CallS.mono _ Tryd.prog 16 _ _ _ _ (@CallS.of_tri _ Tryd.prog 16 _ _ _ isGo16 hm) ?_))
  rintro v h1 ⟨h2, rfl, ⟨rfl, rfl⟩, -⟩
  simp only [List.nil_append, List.cons_append]
  refine wU (gE rfl ?_)
  refine wY rfl (gE rfl ?_)
  refine wY rfl (gE (v := .bool true) rfl ?_)
  refine wU (gE rfl ?_)
  refine wU (gE rfl ?_)
  refine wY rfl (gE rfl ?_)
  refine wY rfl (gBuild (v := .agg [.str [108, 101, 118, 101, 108], .str [105, 110, 102, 111]]) rfl rfl ?_)
  refine wY rfl (gBuild (v := .agg [.str [109, 115, 103], .str [97, 32, 98]]) rfl rfl ?_)
  refine wY rfl (gBuildSlice (cs := [.str [108, 101, 118, 101, 108], .str [105, 110, 102, 111], .str [109, 115, 103], .str [97, 32, 98]]) tslice22 tsz41 tzero41 rfl (by simp [evFill, putL, zcells, vcells]) (by decide) (by decide) fun u hu => ?_)
  have hm := (Tri.lend (b := u) (us := [lsl exL, .slice u 0 2 2]) (T := 41) (cs := [.str [108, 101, 118, 101, 108], .str [105, 110, 102, 111], .str [109, 115, 103], .str [97, 32, 98]]) (nn := 4) h5 (by simp [frzV, frzL, lsl, lcs, ssl, scs]) rfl).frame [(q, .cells 9 [.str [51, 109, 115], .str [52, 50], .str [103, 101, 116], .str [116, 111, 111, 107], .str [117, 115, 101, 114, 115]] 5), (p, .cells 41 [.str [97], .str [120, 32, 121], .str [98], .str [122]] 4)]
  refine wY rfl (gCall (by rfl) (@CallS.mono _ Tryd.prog 11 _ _ _ _ (@CallS.of_tri _ Tryd.prog 11 _ _ _ isGo11 hm) ?_))
  rintro v h1 ⟨h2, rfl, ⟨rfl, rfl⟩, -⟩
  simp only [List.nil_append, List.cons_append]
  refine wU (gE rfl ?_)
  refine wU (gE rfl ?_)
  refine wY rfl (gE rfl ?_)
  refine wY rfl (gE (v := .bool true) rfl ?_)
  refine wU (gE rfl ?_)
  refine wU (gE rfl ?_)
  refine wY rfl (gE rfl ?_)
  refine wY rfl (gE (v := .bool true) rfl ?_)
  refine wU (gE rfl ?_)
  refine wU (gE rfl ?_)
  refine wOps.done ?_
  refine hK8 _ _ _ ?_
  clear hK8 K7
  refine WC.ret ?_
  exact ⟨_, rfl, rfl⟩
end Go.Proofs.YtfdmdcpopmcmcaaDoor
end

section
namespace Go.Proofs.YtfdmdcpopmcmcaaDoor
open Go.Fw
theorem get_at (s : By) (k : Nat) (h : k < s.length) : ((⟨s.toArray⟩ : ByteArray).get! k) = s[k] := by
  show (s.toArray)[k]! = s[k]
  rw [getElem!_pos _ k (by simpa using h)]
  simp
/-- What decoding at a place gives: an ASCII byte itself, or a rune beyond, out of bytes that are all beyond. -/
theorem dec_facts (s : By) (pos : Nat) (h : pos < s.length) : (s[pos].toNat < 128 ∧ Utf8.decode ⟨s.toArray⟩ pos = (s[pos].toNat, 1)) ∨
    (128 ≤ (Utf8.decode ⟨s.toArray⟩ pos).1 ∧ 1 ≤ (Utf8.decode ⟨s.toArray⟩ pos).2 ∧ pos + (Utf8.decode ⟨s.toArray⟩ pos).2 ≤ s.length ∧ ∀ k (hk : k < s.length), pos ≤ k → k < pos + (Utf8.decode ⟨s.toArray⟩ pos).2 → 128 ≤ s[k].toNat) := by
  have hsz : (⟨s.toArray⟩ : ByteArray).size = s.length := by simp [ByteArray.size]
  have g0 : ((⟨s.toArray⟩ : ByteArray).get! (pos + 0)) = s[pos] := get_at s pos h
  have gk : ∀ k (hk : pos + k < s.length), ((⟨s.toArray⟩ : ByteArray).get! (pos + k)) = s[pos + k] := fun k hk => get_at s (pos + k) hk
  by_cases h0 : s[pos].toNat < 128
  · exact .inl ⟨h0, by unfold Utf8.decode; simp only [g0, h0, if_true]⟩
  · right
    have one : ∀ k (hk : k < s.length), pos ≤ k → k < pos + 1 → 128 ≤ s[k].toNat := fun k hk h1 h2 => by
      have : k = pos := by omega
      subst this; omega
    have c2 : ∀ k, (decide (pos + k < s.length) && ((⟨s.toArray⟩ : ByteArray).get! (pos + k)).toNat / 64 == 2) = true → ∃ hk : pos + k < s.length, 128 ≤ s[pos + k].toNat := fun k hc => by
      simp only [Bool.and_eq_true, decide_eq_true_eq, beq_iff_eq] at hc
      refine ⟨hc.1, ?_⟩
      have := hc.2
      rw [gk k hc.1] at this
      omega
    unfold Utf8.decode
    simp only [g0, h0, if_false, hsz]
    split
    · rename_i hc
      simp only [Bool.and_eq_true] at hc
      obtain ⟨k1, e1⟩ := c2 1 (by simpa using hc.2)
      split
      · refine ⟨by simp only; omega, by simp, by simp only; omega, fun k hk h1 h2 => ?_⟩
        simp only at h2
        rcases (show k = pos ∨ k = pos + 1 by omega) with rfl | rfl
        · omega
        · exact e1
      · exact ⟨by decide, by decide, by simp only; omega, one⟩
    · split
      · rename_i hc
        simp only [Bool.and_eq_true] at hc
        obtain ⟨k1, e1⟩ := c2 1 (by simpa using hc.1.2)
        obtain ⟨k2, e2⟩ := c2 2 (by simpa using hc.2)
        split
        · rename_i hv
          simp only [Bool.and_eq_true, decide_eq_true_eq] at hv
          refine ⟨by simp only; omega, by simp, by simp only; omega, fun k hk h1 h2 => ?_⟩
          simp only at h2
          rcases (show k = pos ∨ k = pos + 1 ∨ k = pos + 2 by omega) with rfl | rfl | rfl
          · omega
          · exact e1
          · exact e2
        · exact ⟨by decide, by decide, by simp only; omega, one⟩
      · split
        · rename_i hc
          simp only [Bool.and_eq_true] at hc
          obtain ⟨k1, e1⟩ := c2 1 (by simpa using hc.1.1.2)
          obtain ⟨k2, e2⟩ := c2 2 (by simpa using hc.1.2)
          obtain ⟨k3, e3⟩ := c2 3 (by simpa using hc.2)
          split
          · rename_i hv
            simp only [Bool.and_eq_true, decide_eq_true_eq] at hv
            refine ⟨by simp only; omega, by simp, by simp only; omega, fun k hk h1 h2 => ?_⟩
            simp only at h2
            rcases (show k = pos ∨ k = pos + 1 ∨ k = pos + 2 ∨ k = pos + 3 by omega) with rfl | rfl | rfl | rfl
            · omega
            · exact e1
            · exact e2
            · exact e3
          · exact ⟨by decide, by decide, by simp only; omega, one⟩
        · exact ⟨by decide, by decide, by simp only; omega, one⟩
end Go.Proofs.YtfdmdcpopmcmcaaDoor
end

section
namespace Go.Proofs.YtfdmdcpopmcmcaaDoor
open Go.Fw
variable [Gl]
theorem isGo80 : isGo Tryd.prog 80 = true := by kernel_rfl
theorem isGo81 : isGo Tryd.prog 81 = true := by kernel_rfl
theorem isGo91 : isGo Tryd.prog 91 = true := by kernel_rfl
theorem isGo92 : isGo Tryd.prog 92 = true := by kernel_rfl
theorem tint21 : tint Tryd.prog 21 = some .i32 := by kernel_rfl
set_option maxRecDepth 20000
theorem tint9n : tint Tryd.prog 9 = none := by kernel_rfl
theorem vrs_int1 {k : IntKind} {n : Int} (F : Froz) (av : Array Value) (h : VRs F [.int k n] av) : av = #[.int k n] := by
  have h0 := (h.2 0 _ rfl).int_inv
  have hs := h.1
  simp at hs
  obtain ⟨L⟩ := av
  match L, hs with
  | [x], _ => simp at h0; rw [h0]
theorem vrs_strint {s : By} {k : IntKind} {n : Int} (F : Froz) (av : Array Value) (h : VRs F [.str s, .int k n] av) : av = #[.string ⟨s.toArray⟩, .int k n] := by
  have h0 := (h.2 0 _ rfl).str_inv
  have h1 := (h.2 1 _ rfl).int_inv
  have hs := h.1
  simp at hs
  obtain ⟨L⟩ := av
  match L, hs with
  | [x, y], _ => simp at h0 h1; rw [h0, h1]
theorem validR_tri (r : Int) : PTri Tryd.prog 92 [.int .i32 r] (.bool (Lib.validRune r)) :=
  PTri.of_same _ _ vrs_int1 (fun w => Tryd.utf8_ValidRune r w) fun F => .bool _
theorem idxByte_tri (s : By) (c : Int) : PTri Tryd.prog 91 [.str s, .int .u8 c] (.int .i64 (Lib.indexByte s c.toNat.toUInt8)) :=
  PTri.of_same _ _ vrs_strint (fun w => Tryd.strings_IndexByte ⟨s.toArray⟩ c w) fun F => by simpa using VR.int _ _
theorem idxRune_asc (s : By) (r : Int) (h0 : 0 ≤ r) (h1 : r < 128) : PTri Tryd.prog 80 [.str s, .int .i32 r] (.int .i64 (Lib.indexByte s r.toNat.toUInt8)) :=
  PTri.of_same _ _ vrs_strint (fun w => Tryd.strings_IndexRune_ascii ⟨s.toArray⟩ r w h0 h1) fun F => by simpa using VR.int _ _
theorem ascii_tri (n : Nat) (h : n ≤ 8) : PTri Tryd.prog 81 [.int .i64 n] (.bool false) := by
  have : PTri Tryd.prog 81 [.int .i64 n] (.bool (decide ((8 : Int) < n))) := PTri.of_same _ _ vrs_int1 (fun w => Tryd.strings_shouldUseASCIISet n w) fun F => .bool _
  rwa [show decide ((8 : Int) < n) = false by simp; omega] at this
theorem dec0 : Utf8.decode ⟨([32, 10] : By).toArray⟩ 0 = (32, 1) := by decide
theorem dec1 : Utf8.decode ⟨([32, 10] : By).toArray⟩ 1 = (10, 1) := by decide
theorem valid_eq (r : Int) (h : Lib.validRune r = true) : Utf8.valid r = true := by
  unfold Lib.validRune at h
  unfold Utf8.valid
  simp only [decide_eq_true_eq, Bool.or_eq_true, Bool.and_eq_true] at *
  omega
theorem idxRune_err : PTri Tryd.prog 80 [.str [32, 10], .int .i32 65533] (.int .i64 (-1)) := by
  refine PTri.any (Tri.of_wc Tryd.func80 rfl Tryd.results80 Tryd.ntmps80 (by simp) ?_)
  refine WC.seq_k fun K1 hK2 => ?_
  refine WC.region ?_
  refine wU (gE rfl ?_)
  refine wOps.done ?_
  refine hK2 _ _ _ ?_
  clear hK2 K1
  refine WC.block ?_
  refine WC.seq_k fun K3 hK4 => ?_
  refine WC.region ?_
  refine wU (gE rfl ?_)
  refine wU (gE (v := .bool true) rfl ?_)
  refine wU (gE rfl ?_)
  refine wY rfl (gE rfl ?_)
  refine wY rfl (gE (v := .bool false) rfl ?_)
  refine wU (gE rfl ?_)
  refine wU (gE rfl ?_)
  refine wOps.done ?_
  refine hK4 _ _ _ ?_
  clear hK4 K3
  first | refine WC.cond (b := false) rfl (fun hh => by simp at hh) (fun _ => ?_) | refine WC.cond rfl (fun hh => by simp_all) (fun _ => ?_)
  refine WC.seq_k fun K5 hK6 => ?_
  refine WC.region ?_
  refine wU (gE rfl ?_)
  refine wU (gE (v := .bool true) rfl ?_)
  refine wU (gE rfl ?_)
  refine wOps.done ?_
  refine hK6 _ _ _ ?_
  clear hK6 K5
  first | refine WC.cond (b := true) rfl (fun _ => ?_) (fun hh => by simp at hh) | refine WC.cond rfl (fun _ => ?_) (fun hh => by simp_all)
  refine WC.seq_k fun K7 hK8 => ?_
  refine WC.seq_k fun K9 hK10 => ?_
  refine WC.region ?_
  refine wU (gE rfl ?_)
  refine wU (gOp (OpS.rangeStr rfl tisstr9 rfl fun b0 hb0 => ?_) rfl)
  refine wOps.done ?_
  refine hK10 _ _ _ ?_
  clear hK10 K9
  refine WC.block ?_
  refine WC.loopI (α := Nat) (fun _ => [(175, .ptr b0 0)]) (fun pos => [(b0, .striter [32, 10] pos)]) (fun pos => 2 - pos) (fun pos => pos ≤ 2) 0 ?_ ?_ ?_ ?_
  · exact sub_cons rfl (sub_nil _)
  · exact Ent.refl _ _
  · exact Nat.zero_le _
  intro pos hp
  refine WC.seq_k fun K11 hK12 => ?_
  obtain rfl | rfl | rfl : pos = 0 ∨ pos = 1 ∨ pos = 2 := by omega
  · skip
    refine WC.region ?_
    refine wU (gOp (OpS.nextStr (s := [32, 10]) (pos := 0) rfl rfl (by simp only [hget, ↓reduceIte]) (fun _ => ?_) (fun h => absurd (by decide) h)) rfl)
    simp only [dec0, hset, ↓reduceIte]
    refine wU (gE rfl ?_)
    refine wOps.done ?_
    refine hK12 _ _ _ ?_
    clear hK12 K11
    refine WC.seq_k fun K13 hK14 => ?_
    first | refine WC.cond (b := true) rfl (fun _ => ?_) (fun hh => by simp at hh) | refine WC.cond rfl (fun _ => ?_) (fun hh => by simp_all)
    refine WC.skip ?_
    refine hK14 _ _ _ ?_
    clear hK14 K13
    refine WC.block ?_
    refine WC.seq_k fun K15 hK16 => ?_
    refine WC.region ?_
    refine wU (gE rfl ?_)
    refine wU (gE rfl ?_)
    refine wU (gE rfl ?_)
    refine wU (gE rfl ?_)
    refine wOps.done ?_
    refine hK16 _ _ _ ?_
    clear hK16 K15
    refine WC.seq_k fun K17 hK18 => ?_
    refine WC.region ?_
    refine wU (gE rfl ?_)
    refine wU (gE (v := .bool false) rfl ?_)
    refine wOps.done ?_
    refine hK18 _ _ _ ?_
    clear hK18 K17
    first | refine WC.cond (b := false) rfl (fun hh => by simp at hh) (fun _ => ?_) | refine WC.cond rfl (fun hh => by simp_all) (fun _ => ?_)
    refine WC.skip ?_
    exact ⟨1, rfl, by decide, by decide, Ent.sub (sub_cons rfl (sub_nil _))⟩
  · skip
    refine WC.region ?_
    refine wU (gOp (OpS.nextStr (s := [32, 10]) (pos := 1) rfl rfl (by simp only [hget, ↓reduceIte]) (fun _ => ?_) (fun h => absurd (by decide) h)) rfl)
    simp only [dec1, hset, ↓reduceIte]
    refine wU (gE rfl ?_)
    refine wOps.done ?_
    refine hK12 _ _ _ ?_
    clear hK12 K11
    refine WC.seq_k fun K19 hK20 => ?_
    first | refine WC.cond (b := true) rfl (fun _ => ?_) (fun hh => by simp at hh) | refine WC.cond rfl (fun _ => ?_) (fun hh => by simp_all)
    refine WC.skip ?_
    refine hK20 _ _ _ ?_
    clear hK20 K19
    refine WC.block ?_
    refine WC.seq_k fun K21 hK22 => ?_
    refine WC.region ?_
    refine wU (gE rfl ?_)
    refine wU (gE rfl ?_)
    refine wU (gE rfl ?_)
    refine wU (gE rfl ?_)
    refine wOps.done ?_
    refine hK22 _ _ _ ?_
    clear hK22 K21
    refine WC.seq_k fun K23 hK24 => ?_
    refine WC.region ?_
    refine wU (gE rfl ?_)
    refine wU (gE (v := .bool false) rfl ?_)
    refine wOps.done ?_
    refine hK24 _ _ _ ?_
    clear hK24 K23
    first | refine WC.cond (b := false) rfl (fun hh => by simp at hh) (fun _ => ?_) | refine WC.cond rfl (fun hh => by simp_all) (fun _ => ?_)
    refine WC.skip ?_
    exact ⟨2, rfl, by decide, by decide, Ent.sub (sub_cons rfl (sub_nil _))⟩
  · skip
    refine WC.region ?_
    refine wU (gOp (OpS.nextStr (s := [32, 10]) (pos := 2) rfl rfl (by simp only [hget, ↓reduceIte]) (fun h => absurd h (by decide)) (fun _ => ?_)) rfl)
    refine wU (gE rfl ?_)
    refine wOps.done ?_
    refine hK12 _ _ _ ?_
    clear hK12 K11
    refine WC.seq_k fun K25 hK26 => ?_
    first | refine WC.cond (b := false) rfl (fun hh => by simp at hh) (fun _ => ?_) | refine WC.cond rfl (fun hh => by simp_all) (fun _ => ?_)
    refine WC.exit ?_
    refine hK8 _ _ _ ?_
    clear hK26 K25 hK8 K7
    refine WC.seq_k fun K27 hK28 => ?_
    refine WC.region ?_
    refine wU (gE rfl ?_)
    refine wOps.done ?_
    refine hK28 _ _ _ ?_
    clear hK28 K27
    refine WC.ret ?_
    exact ⟨_, rfl, rfl⟩
theorem idxRune_bad (r : Int) (h : 128 ≤ r) (h2 : r ≠ 65533) (hv : Lib.validRune r = false) : PTri Tryd.prog 80 [.str [32, 10], .int .i32 r] (.int .i64 (-1)) := by
  have hvr := validR_tri r
  rw [hv] at hvr
  refine PTri.any (Tri.of_wc Tryd.func80 rfl Tryd.results80 Tryd.ntmps80 (by simp) ?_)
  refine WC.seq_k fun K1 hK2 => ?_
  refine WC.region ?_
  refine wU (gE rfl ?_)
  refine wOps.done ?_
  refine hK2 _ _ _ ?_
  clear hK2 K1
  refine WC.block ?_
  refine WC.seq_k fun K3 hK4 => ?_
  refine WC.region ?_
  refine wU (gE rfl ?_)
  refine wU (gE (v := .bool true) (show some (V.bool (decide ((0 : Int) ≤ r))) = some (V.bool true) by simp; omega) ?_)
  refine wU (gE rfl ?_)
  refine wY rfl (gE rfl ?_)
  refine wY rfl (gE (v := .bool false) (show some (V.bool (decide (r < 128))) = some (V.bool false) by simp; omega) ?_)
  refine wU (gE rfl ?_)
  refine wU (gE rfl ?_)
  refine wOps.done ?_
  refine hK4 _ _ _ ?_
  clear hK4 K3
  first | refine WC.cond (b := false) rfl (fun hh => by simp at hh) (fun _ => ?_) | refine WC.cond rfl (fun hh => by simp_all) (fun _ => ?_)
  refine WC.seq_k fun K5 hK6 => ?_
  refine WC.region ?_
  refine wU (gE rfl ?_)
  refine wU (gE (v := .bool false) (show some (V.bool (decide (r = 65533))) = some (V.bool false) by simp [h2]) ?_)
  refine wU (gE rfl ?_)
  refine wOps.done ?_
  refine hK6 _ _ _ ?_
  clear hK6 K5
  first | refine WC.cond (b := false) rfl (fun hh => by simp at hh) (fun _ => ?_) | refine WC.cond rfl (fun hh => by simp_all) (fun _ => ?_)
  refine WC.seq_k fun K7 hK8 => ?_
  refine WC.region ?_
  refine wU (gE rfl ?_)
  refine wU (gPure rfl isGo92 hvr ?_)
  refine wU (gE rfl ?_)
  refine wU (gE rfl ?_)
  refine wOps.done ?_
  refine hK8 _ _ _ ?_
  clear hK8 K7
  first | refine WC.cond (b := true) rfl (fun _ => ?_) (fun hh => by simp at hh) | refine WC.cond rfl (fun _ => ?_) (fun hh => by simp_all)
  refine WC.seq_k fun K9 hK10 => ?_
  refine WC.region ?_
  refine wU (gE rfl ?_)
  refine wOps.done ?_
  refine hK10 _ _ _ ?_
  clear hK10 K9
  refine WC.ret ?_
  exact ⟨_, rfl, rfl⟩
theorem idxRune_long (r : Int) (h : 128 ≤ r) (h2 : r ≠ 65533) (hv : Lib.validRune r = true) (hl : (Utf8.encode r).data.toList.length ≥ 3) : PTri Tryd.prog 80 [.str [32, 10], .int .i32 r] (.int .i64 (-1)) := by
  have hvr := validR_tri r
  rw [hv] at hvr
  have hf := encode_facts r (valid_eq r hv) h
  have hcv : evConv Tryd.prog [] 21 9 (.int .i32 r) = some (.str (Utf8.encode r).data.toList) := by unfold evConv; simp only [tint21, tint9n, tisstr9, if_true]
  have hsz : (Utf8.encode r).size = (Utf8.encode r).data.toList.length := by rw [Array.length_toList]; rfl
  have h4 : (Utf8.encode r).data.toList.length ≤ 4 := by rw [← hsz]; exact hf.2.1
  have hlast : ∀ hk : (Utf8.encode r).data.toList.length - 1 < (Utf8.encode r).data.toList.length, 128 ≤ (Utf8.encode r).data.toList[(Utf8.encode r).data.toList.length - 1].toNat := fun hk => by
    have h5 := hf.2.2 (by rw [hsz]; exact hk)
    have h6 : (Utf8.encode r).data.toList[(Utf8.encode r).data.toList.length - 1] = (Utf8.encode r)[(Utf8.encode r).size - 1]'(by rw [hsz]; exact hk) := by simp only [Array.getElem_toList]; rfl
    rw [h6]; exact h5
  generalize (Utf8.encode r).data.toList = rs at *
  refine PTri.any (Tri.of_wc Tryd.func80 rfl Tryd.results80 Tryd.ntmps80 (by simp) ?_)
  refine WC.seq_k fun K1 hK2 => ?_
  refine WC.region ?_
  refine wU (gE rfl ?_)
  refine wOps.done ?_
  refine hK2 _ _ _ ?_
  clear hK2 K1
  refine WC.block ?_
  refine WC.seq_k fun K3 hK4 => ?_
  refine WC.region ?_
  refine wU (gE rfl ?_)
  refine wU (gE (v := .bool true) (show some (V.bool (decide ((0 : Int) ≤ r))) = some (V.bool true) by simp; omega) ?_)
  refine wU (gE rfl ?_)
  refine wY rfl (gE rfl ?_)
  refine wY rfl (gE (v := .bool false) (show some (V.bool (decide (r < 128))) = some (V.bool false) by simp; omega) ?_)
  refine wU (gE rfl ?_)
  refine wU (gE rfl ?_)
  refine wOps.done ?_
  refine hK4 _ _ _ ?_
  clear hK4 K3
  first | refine WC.cond (b := false) rfl (fun hh => by simp at hh) (fun _ => ?_) | refine WC.cond rfl (fun hh => by simp_all) (fun _ => ?_)
  refine WC.seq_k fun K5 hK6 => ?_
  refine WC.region ?_
  refine wU (gE rfl ?_)
  refine wU (gE (v := .bool false) (show some (V.bool (decide (r = 65533))) = some (V.bool false) by simp [h2]) ?_)
  refine wU (gE rfl ?_)
  refine wOps.done ?_
  refine hK6 _ _ _ ?_
  clear hK6 K5
  first | refine WC.cond (b := false) rfl (fun hh => by simp at hh) (fun _ => ?_) | refine WC.cond rfl (fun hh => by simp_all) (fun _ => ?_)
  refine WC.seq_k fun K7 hK8 => ?_
  refine WC.region ?_
  refine wU (gE rfl ?_)
  refine wU (gPure rfl isGo92 hvr ?_)
  refine wU (gE rfl ?_)
  refine wU (gE rfl ?_)
  refine wOps.done ?_
  refine hK8 _ _ _ ?_
  clear hK8 K7
  first | refine WC.cond (b := false) rfl (fun hh => by simp at hh) (fun _ => ?_) | refine WC.cond rfl (fun hh => by simp_all) (fun _ => ?_)
  refine WC.scope ?_
  refine WC.seq_k fun K9 hK10 => ?_
  refine WC.region ?_
  refine wU (gE rfl ?_)
  refine wU (gConv rfl (fun l => by simp) hcv ?_)
  refine wU (gE rfl ?_)
  refine wOps.done ?_
  refine hK10 _ _ _ ?_
  clear hK10 K9
  refine WC.seq_k fun K11 hK12 => ?_
  refine WC.region ?_
  refine wU (gE rfl ?_)
  refine wU (gLen rfl rfl tisstr9 ?_)
  refine wU (gE (v := .int .i64 ((rs.length - 1 : Nat) : Int)) (int_fit (by omega) (by omega) (by omega)) ?_)
  refine wU (gE rfl ?_)
  refine wOps.done ?_
  refine hK12 _ _ _ ?_
  clear hK12 K11
  refine WC.seq_k fun K13 hK14 => ?_
  refine WC.region ?_
  refine wU (gE rfl ?_)
  refine wU (gE rfl ?_)
  refine wOps.done ?_
  refine hK14 _ _ _ ?_
  clear hK14 K13
  refine WC.seq_k fun K15 hK16 => ?_
  refine WC.region ?_
  refine wU (gE rfl ?_)
  refine wOps.done ?_
  refine hK16 _ _ _ ?_
  clear hK16 K15
  refine WC.seq_k fun K17 hK18 => ?_
  refine WC.block ?_
  refine WC.loopI (α := Unit) (fun _ => [(0, .str [32, 10]), (7, .str rs), (8, .int .i64 ((rs.length - 1 : Nat) : Int)), (9, .int .i64 ((rs.length - 1 : Nat) : Int))]) (fun _ => []) (fun _ => 0) (fun _ => True) () ?_ ?_ ?_ ?_
  · exact sub_cons rfl (sub_cons rfl (sub_cons rfl (sub_cons rfl (sub_nil _))))
  · exact Ent.refl _ _
  · trivial
  rintro ⟨⟩ -
  refine WC.seq_k fun K19 hK20 => ?_
  refine WC.seq_k fun K21 hK22 => ?_
  refine WC.region ?_
  refine wU (gE rfl ?_)
  refine wU (gE rfl ?_)
  refine wU (gLen rfl rfl tisstr9 ?_)
  refine wU (gE (v := .bool false) (show some (V.bool (decide (((rs.length - 1 : Nat) : Int) < 2))) = some (V.bool false) by simp; omega) ?_)
  refine wOps.done ?_
  refine hK22 _ _ _ ?_
  clear hK22 K21
  first | refine WC.cond (b := false) rfl (fun hh => by simp at hh) (fun _ => ?_) | refine WC.cond rfl (fun hh => by simp_all) (fun _ => ?_)
  refine WC.exit ?_
  refine hK18 _ _ _ ?_
  clear hK20 K19 hK18 K17
  refine WC.seq_k fun K23 hK24 => ?_
  refine WC.seq_k fun K25 hK26 => ?_
  refine WC.region ?_
  refine wU (gE rfl ?_)
  refine wOps.done ?_
  refine hK26 _ _ _ ?_
  clear hK26 K25
  refine WC.ret ?_
  exact ⟨_, rfl, rfl⟩
theorem idxRune_two (r : Int) (h : 128 ≤ r) (h2 : r ≠ 65533) (hv : Lib.validRune r = true) (hl : (Utf8.encode r).data.toList.length = 2) : PTri Tryd.prog 80 [.str [32, 10], .int .i32 r] (.int .i64 (-1)) := by
  have hvr := validR_tri r
  rw [hv] at hvr
  have hf := encode_facts r (valid_eq r hv) h
  have hcv : evConv Tryd.prog [] 21 9 (.int .i32 r) = some (.str (Utf8.encode r).data.toList) := by unfold evConv; simp only [tint21, tint9n, tisstr9, if_true]
  have hsz : (Utf8.encode r).size = (Utf8.encode r).data.toList.length := by rw [Array.length_toList]; rfl
  have h4 : (Utf8.encode r).data.toList.length ≤ 4 := by rw [← hsz]; exact hf.2.1
  have hlast : ∀ hk : (Utf8.encode r).data.toList.length - 1 < (Utf8.encode r).data.toList.length, 128 ≤ (Utf8.encode r).data.toList[(Utf8.encode r).data.toList.length - 1].toNat := fun hk => by
    have h5 := hf.2.2 (by rw [hsz]; exact hk)
    have h6 : (Utf8.encode r).data.toList[(Utf8.encode r).data.toList.length - 1] = (Utf8.encode r)[(Utf8.encode r).size - 1]'(by rw [hsz]; exact hk) := by simp only [Array.getElem_toList]; rfl
    rw [h6]; exact h5
  generalize (Utf8.encode r).data.toList = rs at *
  refine PTri.any (Tri.of_wc Tryd.func80 rfl Tryd.results80 Tryd.ntmps80 (by simp) ?_)
  refine WC.seq_k fun K1 hK2 => ?_
  refine WC.region ?_
  refine wU (gE rfl ?_)
  refine wOps.done ?_
  refine hK2 _ _ _ ?_
  clear hK2 K1
  refine WC.block ?_
  refine WC.seq_k fun K3 hK4 => ?_
  refine WC.region ?_
  refine wU (gE rfl ?_)
  refine wU (gE (v := .bool true) (show some (V.bool (decide ((0 : Int) ≤ r))) = some (V.bool true) by simp; omega) ?_)
  refine wU (gE rfl ?_)
  refine wY rfl (gE rfl ?_)
  refine wY rfl (gE (v := .bool false) (show some (V.bool (decide (r < 128))) = some (V.bool false) by simp; omega) ?_)
  refine wU (gE rfl ?_)
  refine wU (gE rfl ?_)
  refine wOps.done ?_
  refine hK4 _ _ _ ?_
  clear hK4 K3
  first | refine WC.cond (b := false) rfl (fun hh => by simp at hh) (fun _ => ?_) | refine WC.cond rfl (fun hh => by simp_all) (fun _ => ?_)
  refine WC.seq_k fun K5 hK6 => ?_
  refine WC.region ?_
  refine wU (gE rfl ?_)
  refine wU (gE (v := .bool false) (show some (V.bool (decide (r = 65533))) = some (V.bool false) by simp [h2]) ?_)
  refine wU (gE rfl ?_)
  refine wOps.done ?_
  refine hK6 _ _ _ ?_
  clear hK6 K5
  first | refine WC.cond (b := false) rfl (fun hh => by simp at hh) (fun _ => ?_) | refine WC.cond rfl (fun hh => by simp_all) (fun _ => ?_)
  refine WC.seq_k fun K7 hK8 => ?_
  refine WC.region ?_
  refine wU (gE rfl ?_)
  refine wU (gPure rfl isGo92 hvr ?_)
  refine wU (gE rfl ?_)
  refine wU (gE rfl ?_)
  refine wOps.done ?_
  refine hK8 _ _ _ ?_
  clear hK8 K7
  first | refine WC.cond (b := false) rfl (fun hh => by simp at hh) (fun _ => ?_) | refine WC.cond rfl (fun hh => by simp_all) (fun _ => ?_)
  refine WC.scope ?_
  refine WC.seq_k fun K9 hK10 => ?_
  refine WC.region ?_
  refine wU (gE rfl ?_)
  refine wU (gConv rfl (fun l => by simp) hcv ?_)
  refine wU (gE rfl ?_)
  refine wOps.done ?_
  refine hK10 _ _ _ ?_
  clear hK10 K9
  refine WC.seq_k fun K11 hK12 => ?_
  refine WC.region ?_
  refine wU (gE rfl ?_)
  refine wU (gLen rfl rfl tisstr9 ?_)
  refine wU (gE (v := .int .i64 ((rs.length - 1 : Nat) : Int)) (int_fit (by omega) (by omega) (by omega)) ?_)
  refine wU (gE rfl ?_)
  refine wOps.done ?_
  refine hK12 _ _ _ ?_
  clear hK12 K11
  refine WC.seq_k fun K13 hK14 => ?_
  refine WC.region ?_
  refine wU (gE rfl ?_)
  refine wU (gE rfl ?_)
  refine wOps.done ?_
  refine hK14 _ _ _ ?_
  clear hK14 K13
  refine WC.seq_k fun K15 hK16 => ?_
  refine WC.region ?_
  refine wU (gE rfl ?_)
  refine wOps.done ?_
  refine hK16 _ _ _ ?_
  clear hK16 K15
  refine WC.seq_k fun K17 hK18 => ?_
  refine WC.block ?_
  refine WC.loopI (α := Unit) (fun _ => [(0, .str [32, 10]), (7, .str rs), (8, .int .i64 ((rs.length - 1 : Nat) : Int)), (9, .int .i64 ((rs.length - 1 : Nat) : Int))]) (fun _ => []) (fun _ => 0) (fun _ => True) () ?_ ?_ ?_ ?_
  · exact sub_cons rfl (sub_cons rfl (sub_cons rfl (sub_cons rfl (sub_nil _))))
  · exact Ent.refl _ _
  · trivial
  rintro ⟨⟩ -
  refine WC.seq_k fun K19 hK20 => ?_
  refine WC.seq_k fun K21 hK22 => ?_
  refine WC.region ?_
  refine wU (gE rfl ?_)
  refine wU (gE rfl ?_)
  refine wU (gLen rfl rfl tisstr9 ?_)
  refine wU (gE (v := .bool true) (show some (V.bool (decide (((rs.length - 1 : Nat) : Int) < 2))) = some (V.bool true) by simp; omega) ?_)
  refine wOps.done ?_
  refine hK22 _ _ _ ?_
  clear hK22 K21
  first | refine WC.cond (b := true) rfl (fun _ => ?_) (fun hh => by simp at hh) | refine WC.cond rfl (fun _ => ?_) (fun hh => by simp_all)
  refine WC.skip ?_
  refine hK20 _ _ _ ?_
  clear hK20 K19
  refine WC.block ?_
  refine WC.scope ?_
  refine WC.seq_k fun K23 hK24 => ?_
  refine WC.seq_k fun K25 hK26 => ?_
  refine WC.region_draw mixed ?_
  refine wA.val 0 rfl rfl rfl (fun _ _ hK => gE rfl hK) (by kernel_rfl) ?_
  refine wA.val 1 rfl rfl rfl (fun _ _ hK => gE rfl hK) (by kernel_rfl) ?_
  refine wA.val 2 rfl rfl rfl (fun _ _ hK => gIdxStr (c := 10) tisstr9 rfl rfl (by omega) (by rw [hl]; rfl) hK) (by kernel_rfl) ?_
  refine wA.val 3 rfl rfl rfl (fun _ _ hK => gE rfl hK) (by kernel_rfl) ?_
  refine wA.val 4 rfl rfl rfl (fun _ _ hK => gE rfl hK) (by kernel_rfl) ?_
  have hk : rs.length - 1 < rs.length := by omega
  have hlb := hlast hk
  refine wA.val 5 rfl rfl rfl (fun _ _ hK => gIdxStr tisstr9 rfl rfl (by omega) (str_at hk) hK) (by kernel_rfl) ?_
  refine wA.val 6 rfl rfl rfl (fun _ _ hK => gE (v := .bool true) (show some (V.bool (!decide (((10 : UInt8).toNat : Int) = (rs[rs.length - 1].toNat : Int)))) = some (V.bool true) by simp; omega) hK) (by kernel_rfl) ?_
  refine wA.done (by kernel_rfl) ?_
  refine hK26 _ _ _ ?_
  clear hK26 K25
  first | refine WC.cond (b := true) rfl (fun _ => ?_) (fun hh => by simp at hh) | refine WC.cond rfl (fun _ => ?_) (fun hh => by simp_all)
  refine WC.seq_k fun K27 hK28 => ?_
  refine WC.region_draw mixed ?_
  refine wA.val 0 rfl rfl rfl (fun _ _ hK => gE rfl hK) (by kernel_rfl) ?_
  refine wA.val 1 rfl rfl rfl (fun _ _ hK => gE rfl hK) (by kernel_rfl) ?_
  refine wA.val 2 rfl rfl rfl (fun _ _ hK => gE (v := .int .i64 ((2 : Nat) : Int)) (int_fit (by omega) (by omega) (by omega)) hK) (by kernel_rfl) ?_
  refine wA.val 3 rfl rfl rfl (fun _ _ hK => by refine gSliceStr (l := some 2) (r := none) tisstr9 rfl rfl rfl (by simp) (by simp) ?_; exact hK) (by kernel_rfl) ?_
  refine wA.val 4 rfl rfl rfl (fun _ _ hK => gE rfl hK) (by kernel_rfl) ?_
  refine wA.val 5 rfl rfl rfl (fun _ _ hK => gE rfl hK) (by kernel_rfl) ?_
  refine wA.val 6 rfl rfl rfl (fun _ _ hK => gIdxStr tisstr9 rfl rfl (by omega) (str_at hk) hK) (by kernel_rfl) ?_
  refine wA.val 7 rfl rfl rfl (fun _ _ hK => by refine gPure rfl isGo91 (idxByte_tri [] _) ?_; exact hK) (by kernel_rfl) ?_
  refine wA.val 8 rfl rfl rfl (fun _ _ hK => gE rfl hK) (by kernel_rfl) ?_
  refine wA.done (by kernel_rfl) ?_
  refine hK28 _ _ _ ?_
  clear hK28 K27
  refine WC.seq_k fun K29 hK30 => ?_
  refine WC.seq_k fun K31 hK32 => ?_
  refine WC.region ?_
  refine wU (gE rfl ?_)
  refine wU (gE (v := .bool true) rfl ?_)
  refine wOps.done ?_
  refine hK32 _ _ _ ?_
  clear hK32 K31
  first | refine WC.cond (b := true) rfl (fun _ => ?_) (fun hh => by simp at hh) | refine WC.cond rfl (fun _ => ?_) (fun hh => by simp_all)
  refine WC.seq_k fun K33 hK34 => ?_
  refine WC.region ?_
  refine wU (gE rfl ?_)
  refine wOps.done ?_
  refine hK34 _ _ _ ?_
  clear hK34 K33
  refine WC.ret ?_
  exact ⟨_, rfl, rfl⟩
end Go.Proofs.YtfdmdcpopmcmcaaDoor
end

section
namespace Go.Proofs.YtfdmdcpopmcmcaaDoor
open Go.Fw
variable [Gl]
set_option maxRecDepth 20000
def idxR (c : Int) : Int := if c < 128 then Lib.indexByte [32, 10] c.toNat.toUInt8 else -1
theorem idxRune_all (c : Int) (h : 0 ≤ c) : PTri Tryd.prog 80 [.str [32, 10], .int .i32 c] (.int .i64 (idxR c)) := by
  unfold idxR
  by_cases h1 : c < 128
  · rw [if_pos h1]; exact idxRune_asc _ c h h1
  · rw [if_neg h1]
    by_cases h2 : c = 65533
    · subst h2; exact idxRune_err
    · by_cases h3 : Lib.validRune c = true
      · have hf := (encode_facts c (valid_eq c h3) (by omega)).1
        have hsz : (Utf8.encode c).size = (Utf8.encode c).data.toList.length := by rw [Array.length_toList]; rfl
        by_cases h4 : (Utf8.encode c).data.toList.length = 2
        · exact idxRune_two c (by omega) h2 h3 h4
        · exact idxRune_long c (by omega) h2 h3 (by omega)
      · exact idxRune_bad c (by omega) h2 (by simpa using h3)
theorem idxR_byte (b : UInt8) (h : b.toNat < 128) : decide (0 ≤ idxR (b.toNat : Int)) = spB b := by
  unfold idxR
  rw [if_pos (by omega)]
  have e : (b.toNat : Int).toNat.toUInt8 = b := by simp
  rw [e]
  by_cases h1 : b = 32
  · subst h1; decide
  · by_cases h2 : b = 10
    · subst h2; decide
    · have e1 : ((32 : UInt8) == b) = false := by simpa using Ne.symm h1
      have e2 : ((10 : UInt8) == b) = false := by simpa using Ne.symm h2
      have e0 : Lib.indexByte [32, 10] b = -1 := by
        unfold Lib.indexByte; rw [e1]; unfold Lib.indexByte; rw [e2]; rfl
      rw [e0]
      simp [spB, h1, h2]
theorem spB_hi {b : UInt8} (h : 128 ≤ b.toNat) : spB b = false := by
  simp only [spB, Bool.or_eq_false_iff, beq_eq_false_iff_ne]
  constructor <;> (intro e; subst e; revert h; decide)
theorem any_take {s : By} {pos w : Nat} (h : (s.take pos).any spB = false) (hb : ∀ k (hk : k < s.length), pos ≤ k → k < pos + w → spB s[k] = false) : (s.take (pos + w)).any spB = false := by
  rw [List.any_eq_false] at *
  intro x hx
  obtain ⟨k, hk, rfl⟩ := List.mem_take_iff_getElem.1 hx
  by_cases h1 : k < pos
  · exact h _ (List.mem_take_iff_getElem.2 ⟨k, by omega, rfl⟩)
  · rw [hb k (by omega) (by omega) (by omega)]; simp
theorem idxAny_sh (s : By) (h8 : s.length ≤ 8) : Tri Tryd.prog 56 [.str s, .str [32, 10]] [] fun v h' => ∃ r : Int, v = .int .i64 r ∧ decide (0 ≤ r) = s.any spB := by
  have hsa := ascii_tri s.length h8
  refine Tri.of_wc Tryd.func56 rfl Tryd.results56 Tryd.ntmps56 (by simp) ?_
  refine WC.seq_k fun K1 hK2 => ?_
  refine WC.region ?_
  refine wU (gE rfl ?_)
  refine wOps.done ?_
  refine hK2 _ _ _ ?_
  clear hK2 K1
  refine WC.seq_k fun K3 hK4 => ?_
  refine WC.seq_k fun K5 hK6 => ?_
  refine WC.region ?_
  refine wU (gE rfl ?_)
  refine wU (gE (v := .bool false) rfl ?_)
  refine wOps.done ?_
  refine hK6 _ _ _ ?_
  clear hK6 K5
  first | refine WC.cond (b := false) rfl (fun hh => by simp at hh) (fun _ => ?_) | refine WC.cond rfl (fun hh => by simp_all) (fun _ => ?_)
  refine WC.skip ?_
  refine hK4 _ _ _ ?_
  clear hK4 K3
  refine WC.seq_k fun K7 hK8 => ?_
  refine WC.seq_k fun K9 hK10 => ?_
  refine WC.region ?_
  refine wU (gE rfl ?_)
  refine wU (gLen rfl rfl tisstr9 ?_)
  refine wU (gE (v := .bool false) rfl ?_)
  refine wOps.done ?_
  refine hK10 _ _ _ ?_
  clear hK10 K9
  first | refine WC.cond (b := false) rfl (fun hh => by simp at hh) (fun _ => ?_) | refine WC.cond rfl (fun hh => by simp_all) (fun _ => ?_)
  refine WC.skip ?_
  refine hK8 _ _ _ ?_
  clear hK8 K7
  refine WC.seq_k fun K11 hK12 => ?_
  refine WC.seq_k fun K13 hK14 => ?_
  refine WC.region ?_
  refine wU (gE rfl ?_)
  refine wU (gLen rfl rfl tisstr9 ?_)
  refine wU (gPure rfl isGo81 hsa ?_)
  refine wOps.done ?_
  refine hK14 _ _ _ ?_
  clear hK14 K13
  first | refine WC.cond (b := false) rfl (fun hh => by simp at hh) (fun _ => ?_) | refine WC.cond rfl (fun hh => by simp_all) (fun _ => ?_)
  refine WC.skip ?_
  refine hK12 _ _ _ ?_
  clear hK12 K11
  refine WC.seq_k fun K15 hK16 => ?_
  refine WC.seq_k fun K17 hK18 => ?_
  refine WC.region ?_
  refine wU (gE rfl ?_)
  refine wU (gOp (OpS.rangeStr rfl tisstr9 rfl fun b0 hb0 => ?_) rfl)
  refine wOps.done ?_
  refine hK18 _ _ _ ?_
  clear hK18 K17
  refine WC.block ?_
  refine WC.loopI (α := Nat) (fun _ => [(1, .str [32, 10]), (45, .ptr b0 0)]) (fun pos => [(b0, .striter s pos)]) (fun pos => s.length - pos) (fun pos => pos ≤ s.length ∧ (s.take pos).any spB = false) 0 ?_ ?_ ?_ ?_
  · exact sub_cons rfl (sub_cons rfl (sub_nil _))
  · exact Ent.refl _ _
  · exact ⟨Nat.zero_le _, by simp⟩
  rintro pos ⟨hp, hany⟩
  refine WC.seq_k fun K19 hK20 => ?_
  by_cases hlt : pos < s.length
  · skip
    refine WC.region ?_
    refine wU (gOp (OpS.nextStr (s := s) (pos := pos) rfl rfl (by simp only [hget, ↓reduceIte]) (fun _ => ?_) (fun h => absurd hlt h)) rfl)
    have hd := dec_facts s pos hlt
    generalize Utf8.decode ⟨s.toArray⟩ pos = d at hd ⊢
    obtain ⟨c, w⟩ := d
    simp only [hset, ↓reduceIte] at hd ⊢
    refine wU (gE rfl ?_)
    refine wOps.done ?_
    refine hK20 _ _ _ ?_
    clear hK20 K19
    refine WC.seq_k fun K21 hK22 => ?_
    first | refine WC.cond (b := true) rfl (fun _ => ?_) (fun hh => by simp at hh) | refine WC.cond rfl (fun _ => ?_) (fun hh => by simp_all)
    refine WC.skip ?_
    refine hK22 _ _ _ ?_
    clear hK22 K21
    refine WC.block ?_
    refine WC.seq_k fun K23 hK24 => ?_
    refine WC.region ?_
    refine wU (gE rfl ?_)
    refine wU (gE rfl ?_)
    refine wU (gE rfl ?_)
    refine wU (gE rfl ?_)
    refine wOps.done ?_
    refine hK24 _ _ _ ?_
    clear hK24 K23
    refine WC.seq_k fun K25 hK26 => ?_
    refine WC.region ?_
    refine wU (gE rfl ?_)
    refine wU (gE rfl ?_)
    refine wU (gPure rfl isGo80 (idxRune_all c (by omega)) ?_)
    refine wU (gE rfl ?_)
    refine wOps.done ?_
    refine hK26 _ _ _ ?_
    clear hK26 K25
    refine WC.cond rfl (fun c27 => ?_) (fun c27 => ?_)
    · skip
      refine WC.seq_k fun K28 hK29 => ?_
      refine WC.region ?_
      refine wU (gE rfl ?_)
      refine wU (gE rfl ?_)
      refine wOps.done ?_
      refine hK29 _ _ _ ?_
      clear hK29 K28
      refine WC.ret ?_
      refine ⟨_, rfl, _, rfl, ?_⟩
      have hc0 : 0 ≤ idxR c := by simpa using c27
      rcases hd with ⟨h1, h2⟩ | ⟨h1, -⟩
      · simp only [Prod.mk.injEq] at h2
        have hb := idxR_byte s[pos] h1
        rw [← h2.1] at hb
        have hs : spB s[pos] = true := by rw [← hb]; simpa using hc0
        have ha : s.any spB = true := List.any_eq_true.2 ⟨s[pos], List.getElem_mem _, hs⟩
        rw [ha]; simp
      · exfalso; unfold idxR at hc0; rw [if_neg (by omega)] at hc0; omega
    · skip
      refine WC.skip ?_
      have hc0 : ¬ 0 ≤ idxR c := by simpa using c27
      rcases hd with ⟨h1, h2⟩ | ⟨h1, h2, h3, h4⟩
      · simp only [Prod.mk.injEq] at h2
        obtain ⟨rfl, rfl⟩ := h2
        have hb := idxR_byte s[pos] h1
        have hs : spB s[pos] = false := by rw [← hb]; simpa using hc0
        exact ⟨pos + 1, rfl, by omega, ⟨by omega, any_take hany fun k hk h5 h6 => by have e : k = pos := (by omega); subst e; exact hs⟩, Ent.sub (sub_cons rfl (sub_cons rfl (sub_nil _)))⟩
      · exact ⟨pos + w, rfl, by omega, ⟨h3, any_take hany fun k hk h5 h6 => spB_hi (h4 k hk h5 h6)⟩, Ent.sub (sub_cons rfl (sub_cons rfl (sub_nil _)))⟩
  · skip
    refine WC.region ?_
    refine wU (gOp (OpS.nextStr (s := s) (pos := pos) rfl rfl (by simp only [hget, ↓reduceIte]) (fun h => absurd h hlt) (fun _ => ?_)) rfl)
    refine wU (gE rfl ?_)
    refine wOps.done ?_
    refine hK20 _ _ _ ?_
    clear hK20 K19
    refine WC.seq_k fun K30 hK31 => ?_
    first | refine WC.cond (b := false) rfl (fun hh => by simp at hh) (fun _ => ?_) | refine WC.cond rfl (fun hh => by simp_all) (fun _ => ?_)
    refine WC.exit ?_
    refine hK16 _ _ _ ?_
    clear hK31 K30 hK16 K15
    refine WC.seq_k fun K32 hK33 => ?_
    refine WC.region ?_
    refine wU (gE rfl ?_)
    refine wOps.done ?_
    refine hK33 _ _ _ ?_
    clear hK33 K32
    refine WC.ret ?_
    exact ⟨_, rfl, -1, rfl, by rw [List.take_of_length_le (by omega)] at hany; rw [hany]; decide⟩
theorem idxAny_lg (s : By) (h8 : 8 < s.length) (hs : s.length < 4294967281) : PTri Tryd.prog 56 [.str s, .str [32, 10]] (.int .i64 (Lib.indexAny s [32, 10])) := by
  intro F w av ho hav
  rw [vrs_str2 F av hav]
  refine callsIn_of ((Tryd.strings_IndexAny_long (fun w => by rw [Tryd.zeroValue82]; rfl) ⟨s.toArray⟩ ⟨#[32, 10]⟩ w (by decide) (by simpa [ByteArray.size] using h8) (by simpa [ByteArray.size] using hs) (by decide) (fun j b hb => ?_)).mono ?_)
  · have := List.mem_of_getElem? hb
    simp at this
    rcases this with rfl | rfl <;> decide
  · rintro e w' ⟨rfl, rfl⟩
    have hor : ∀ (c : Array Value), OR F (.cells 82 [] c.size) (.cells c 82) := fun c => .cells 82 [] c (0, 0) (by simp) (fun i hi h => by simp at h) (fun i v h => by simp at h)
    have o1 := ho.push (hor (Lib.setCells [32, 10]))
    have o2 := o1.push (hor (Lib.setCells [32, 10]))
    exact ⟨_, _, [], F, rfl, ⟨rfl, rfl⟩, o2.sub (List.nil_sublist _), .int _ _, ((Trans.push F [] w (.cells 82 [] (Lib.setCells [32, 10]).size) _).trans (Trans.push F _ _ (.cells 82 [] (Lib.setCells [32, 10]).size) _)).trans (Trans.sub (List.nil_sublist _))⟩
theorem ca_short2 (s : By) (h8 : s.length ≤ 8) : CA s := by
  unfold CA
  refine PTri.any (Tri.of_wc Tryd.func33 rfl Tryd.results33 Tryd.ntmps33 (by simp) ?_)
  refine WC.seq_k fun K1 hK2 => ?_
  refine WC.region ?_
  refine wU (gE rfl ?_)
  refine wOps.done ?_
  refine hK2 _ _ _ ?_
  clear hK2 K1
  refine WC.seq_k fun K3 hK4 => ?_
  refine WC.region ?_
  refine wU (gE rfl ?_)
  refine wU (gE rfl ?_)
  refine wU (gCall (by rfl) (@CallS.mono _ Tryd.prog 56 _ _ _ _ (@CallS.of_tri _ Tryd.prog 56 _ _ _ isGo56 (idxAny_sh s h8)) ?_))
  rintro v h1 ⟨r, rfl, hr⟩
  refine wU (gE rfl ?_)
  refine wU (gE rfl ?_)
  refine wOps.done ?_
  refine hK4 _ _ _ ?_
  clear hK4 K3
  refine WC.ret ?_
  exact ⟨_, rfl, congrArg V.bool hr⟩
theorem ca_all (s : By) (hs : s.length < 4294967281) : CA s := by
  by_cases h : s.length ≤ 8
  · exact ca_short2 s h
  · exact ca_of s (idxAny_lg s (by omega) hs)
end Go.Proofs.YtfdmdcpopmcmcaaDoor
end

section
namespace Go.Proofs.YtfdmdcpopmcmcaaDoor
open Go.Fw
/-! ### Plain facts of fields: more blanks change nothing; what is read is valid -/
theorem tw_app (c : UInt8) (t : By) : ∀ s : By, (s ++ c :: t).takeWhile (· != c) = s.takeWhile (· != c)
  | [] => by simp
  | d :: s => by
    simp only [List.cons_append, List.takeWhile_cons]
    split
    · rw [tw_app c t s]
    · rfl
theorem unq_sp : ∀ (t acc : By) (i : Nat), unq (t ++ [32]) acc i = unq t acc i
  | [], acc, i => by simp [unq]
  | [c], acc, i => by
    simp only [List.cons_append, List.nil_append, unq]
    split
    · rfl
    · split
      · simp
      · simp
  | c :: d :: r, acc, i => by
    have h1 := unq_sp r (acc ++ [10]) (i + 2)
    have h2 := unq_sp r (acc ++ [d]) (i + 2)
    have h3 := unq_sp (d :: r) (acc ++ [c]) (i + 1)
    simp only [List.cons_append] at h3 ⊢
    simp only [unq]
    rw [h1, h2, h3]
theorem fieldL_sp (s : By) : fieldL (s ++ [32]) = fieldL s := by
  unfold fieldL
  rw [tw_app 32 [] s]
  have hw := tw_le (· != 32) s
  generalize s.takeWhile (· != 32) = w at hw
  simp only
  generalize w.takeWhile (· != 61) = nm
  by_cases h1 : ¬ (61 ∈ w ∧ isNm nm = true)
  · rw [if_pos h1, if_pos h1]
  rw [if_neg h1, if_neg h1]
  by_cases h2 : (w.drop (nm.length + 1)).head? = some 34
  · rw [if_pos h2, if_pos h2]
    have hk := head_len h2
    rw [List.drop_append_of_le_length (by omega), unq_sp]
    have hs := unq_size (s.drop (nm.length + 2)) [] 0
    rw [List.length_drop] at hs
    generalize unq (s.drop (nm.length + 2)) [] 0 = u at hs
    have e : (u.2.2 = false ∨ u.2.1 + (nm.length + 2) < (s ++ [32]).length ∧ (s ++ [32])[u.2.1 + (nm.length + 2)]? ≠ some 32) ↔ (u.2.2 = false ∨ u.2.1 + (nm.length + 2) < s.length ∧ s[u.2.1 + (nm.length + 2)]? ≠ some 32) := by
      have hk0 : u.2.1 + (nm.length + 2) ≤ s.length := by omega
      generalize u.2.1 + (nm.length + 2) = k at hk0 ⊢
      by_cases hk : k < s.length
      · rw [List.getElem?_append_left hk]
        have h5 : k < (s ++ [32]).length := by simp; omega
        simp only [hk, h5, true_and]
      · by_cases hk2 : k = s.length
        · subst hk2; simp
        · constructor
          · rintro (h | ⟨h, -⟩)
            · exact .inl h
            · simp at h; omega
          · rintro (h | ⟨h, -⟩)
            · exact .inl h
            · omega
    by_cases h3 : (u.2.2 = false ∨ u.2.1 + (nm.length + 2) < s.length ∧ s[u.2.1 + (nm.length + 2)]? ≠ some 32)
    · rw [if_pos h3, if_pos (e.2 h3)]
    · rw [if_neg h3, if_neg (fun h => h3 (e.1 h))]
  · rw [if_neg h2, if_neg h2]
theorem trimL_cons (s : By) : trimL (32 :: s) = trimL s := by simp [trimL]
theorem trimL_app : ∀ s : By, trimL (s ++ [32]) = trimL (trimL s ++ [32])
  | [] => rfl
  | c :: s => by
    by_cases h : c = 32
    · subst h
      rw [List.cons_append, trimL_cons, trimL_cons, trimL_app s]
    · have e : trimL (c :: s) = c :: s := by simp [trimL, List.dropWhile_cons, h]
      rw [e]
theorem trimL_id {s : By} (h : s.head? ≠ some 32) : trimL s = s := by
  cases s with
  | nil => rfl
  | cons c s =>
    have h : c ≠ 32 := by simpa using h
    simp [trimL, List.dropWhile_cons, h]
theorem flds_sp : ∀ (n : Nat) (rest : By) (f f' : Nat), rest.length ≤ n → rest.head? ≠ some 32 → rest.length ≤ f → (trimL (rest ++ [32])).length ≤ f' → fieldsF f' (trimL (rest ++ [32])) = fieldsF f rest
  | n, [], f, f', _, _, _, _ => by
    rw [fieldsF_nil]
    show fieldsF f' (trimL [32]) = []
    exact fieldsF_nil f'
  | 0, c :: r, f, f', hn, _, _, _ => by simp at hn
  | n + 1, c :: r, f, f', hn, hh, hf, hf' => by
    have et : trimL (c :: r ++ [32]) = c :: r ++ [32] := trimL_id (by simpa using hh)
    rw [et] at hf' ⊢
    obtain ⟨g, rfl⟩ : ∃ g, f = g + 1 := ⟨f - 1, by simp at hf; omega⟩
    obtain ⟨g', rfl⟩ : ∃ g', f' = g' + 1 := ⟨f' - 1, by simp at hf'; omega⟩
    rw [fieldsF, fieldsF, fieldL_sp]
    have hs := fieldL_size (c :: r)
    generalize fieldL (c :: r) = x at hs
    rw [if_neg (show ¬ (c :: r ++ [32] = []) by simp), if_neg (show ¬ (c :: r = []) by simp)]
    by_cases hok : x.2.2 = false
    · rw [if_pos hok, if_pos hok]
    · rw [if_neg hok, if_neg hok]
      have hpos := hs.2 (by simpa using hok) (by simp) hh
      congr 1
      rw [List.drop_append_of_le_length hs.1, trimL_app]
      have hl := trimL_le ((c :: r).drop x.2.1)
      rw [List.length_drop] at hl
      refine flds_sp n _ g g' (by simp at hn hl ⊢; omega) (trimL_head _) (by simp at hf hl ⊢; omega) ?_
      have := trimL_le (trimL ((c :: r).drop x.2.1) ++ [32])
      simp at this hf' hl
      omega
theorem fieldsL_sp (s : By) : fieldsL (s ++ [32]) = fieldsL s := by
  unfold fieldsL
  have := flds_sp (trimL s).length (trimL s) (trimL s).length (trimL (trimL s ++ [32])).length (Nat.le_refl _) (trimL_head s) (Nat.le_refl _) (Nat.le_refl _)
  rw [trimL_app, this]
theorem fieldsL_cons (s : By) : fieldsL (32 :: s) = fieldsL s := by unfold fieldsL; rw [trimL_cons]
theorem parseL_sp {s : By} (h : s.length ≤ 900) : parseL ([32, 32] ++ s ++ [32, 32]) = parseL s := by
  have e : [32, 32] ++ s ++ [32, 32] = 32 :: 32 :: (s ++ [32] ++ [32]) := by simp
  unfold parseL
  rw [if_neg (by simp; omega), if_neg (by omega), e, fieldsL_cons, fieldsL_cons, fieldsL_sp, fieldsL_sp]
/-- The names that are read are names. -/
theorem fieldL_nm (s : By) : (fieldL s).1.1 ≠ [] → isNm (fieldL s).1.1 = true := by
  unfold fieldL
  simp only
  split
  · simp
  · rename_i h
    have h : isNm ((s.takeWhile (· != 32)).takeWhile (· != 61)) = true := by
      have := Classical.not_not.1 h; exact this.2
    split
    · split
      · simp
      · exact fun _ => h
    · exact fun _ => h
theorem fieldsF_nm : ∀ (f : Nat) (rest : By) (x : Lb × Bool), x ∈ fieldsF f rest → x.2 = true → isNm x.1.1 = true
  | 0, rest, x, h, _ => by simp [fieldsF] at h
  | f + 1, rest, x, h, hx => by
    simp only [fieldsF] at h
    split at h
    · simp at h
    · split at h
      · simp only [List.mem_singleton] at h; subst h; simp at hx
      · rcases List.mem_append.1 h with h | h
        · split at h
          · rename_i hn
            simp only [List.mem_singleton] at h
            subst h
            exact fieldL_nm rest hn
          · simp at h
        · exact fieldsF_nm f _ x h hx
theorem parseG_nm : ∀ (st : List (Lb × Bool)) (acc l : List Lb), (∀ x ∈ st, x.2 = true → isNm x.1.1 = true) → (∀ x ∈ acc, isNm x.1 = true) → parseG acc st = some l → ∀ x ∈ l, isNm x.1 = true
  | [], acc, l, _, ha, e => by simp [parseG] at e; exact e ▸ ha
  | x :: st, acc, l, hs, ha, e => by
    simp only [parseG] at e
    split at e
    · simp at e
    · rename_i hok
      have hx : isNm x.1.1 = true := hs x (by simp) (by simpa using hok)
      split at e
      · refine parseG_nm st _ l (fun y hy => hs y (List.mem_cons_of_mem _ hy)) (fun y hy => ?_) e
        rcases List.mem_append.1 hy with hy | hy
        · exact ha y hy
        · simp only [List.mem_singleton] at hy; subst hy; exact hx
      · exact parseG_nm st acc l (fun y hy => hs y (List.mem_cons_of_mem _ hy)) ha e
/-- What is read is a valid label set. -/
theorem parseL_ok (s : By) : ((parseL s).2 = 0 ∨ (parseL s).1 = []) ∧ chkL (parseL s).1 = 0 := by
  have h0 : chkL [] = 0 := rfl
  unfold parseL
  split
  · exact ⟨.inr rfl, h0⟩
  · split
    · exact ⟨.inr rfl, h0⟩
    · rename_i l e
      split
      · exact ⟨.inr rfl, h0⟩
      · rename_i hn
        refine ⟨.inl rfl, (chkL_iff _).2 ?_⟩
        have hg := parseG_gath _ _ _ ⟨by simp, List.Pairwise.nil⟩ e
        have hm := parseG_nm _ _ _ (fun x hx => fieldsF_nm _ _ x hx) (by simp) e
        have hp := srtN_perm l
        have hn1 : ¬ 16 < l.length := fun h => hn (.inl h)
        have hn2 : ∀ x ∈ l, x.2.length ≤ 200 := fun x hx => Classical.byContradiction fun h => hn (.inr (by rw [List.any_eq_true]; exact ⟨x, hx, by simpa using h⟩))
        refine ⟨by rw [hp.length_eq]; omega, fun x hx => ?_, srtN_asc hg.2⟩
        have hx := hp.mem_iff.1 hx
        exact ⟨hm x hx, hg.1 x hx, hn2 x hx⟩
end Go.Proofs.YtfdmdcpopmcmcaaDoor
end

section
namespace Go.Proofs.YtfdmdcpopmcmcaaDoor
open Go.Fw
variable [Gl]
/-! ### Plain facts: what is written is read back -/
theorem nb_ne {c : UInt8} (h : isNB c.toNat = true) : c ≠ 32 ∧ c ≠ 61 := by
  constructor <;> (rintro rfl; revert h; decide)
theorem tw_all {p : UInt8 → Bool} {s r : By} (h : ∀ c ∈ s, p c = true) (hr : r = [] ∨ ∃ c r', r = c :: r' ∧ p c = false) : (s ++ r).takeWhile p = s := by
  induction s with
  | nil =>
    rcases hr with rfl | ⟨c, r', rfl, hc⟩
    · rfl
    · simp [List.takeWhile_cons, hc]
  | cons c s ih =>
    simp only [List.cons_append, List.takeWhile_cons, h c (by simp), if_true]
    rw [ih fun d hd => h d (List.mem_cons_of_mem _ hd)]
theorem unq_plain {c : UInt8} {x : By} (acc : By) (i : Nat) (h1 : c ≠ 34) (h2 : c ≠ 92) (hx : x ≠ []) : unq (c :: x) acc i = unq x (acc ++ [c]) (i + 1) := by
  cases x with
  | nil => exact absurd rfl hx
  | cons d r => simp [unq, h1, h2]
theorem unq_quote (x acc : By) (i : Nat) : unq (34 :: x) acc i = (acc, i + 1, true) := by cases x <;> simp [unq]
theorem unq_back {d : UInt8} (x acc : By) (i : Nat) : unq (92 :: d :: x) acc i = if d = 110 then unq x (acc ++ [10]) (i + 2) else if d = 92 ∨ d = 34 then unq x (acc ++ [d]) (i + 2) else ([], 0, false) := by simp [unq]
theorem unq_escs : ∀ (v acc : By) (i : Nat) (rest : By), unq (v.flatMap escB ++ 34 :: rest) acc i = (acc ++ v, i + (v.flatMap escB).length + 1, true)
  | [], acc, i, rest => by simp [unq_quote]
  | c :: v, acc, i, rest => by
    rw [List.flatMap_cons, List.append_assoc]
    by_cases h1 : c = 92 ∨ c = 34
    · have e : escB c = [92, c] := by unfold escB; rw [if_pos h1]
      have h3 : c ≠ 110 := by rcases h1 with rfl | rfl <;> decide
      rw [e]
      show unq (92 :: c :: (v.flatMap escB ++ 34 :: rest)) acc i = _
      rw [unq_back, if_neg h3, if_pos h1, unq_escs v]
      simp; omega
    · by_cases h2 : c = 10
      · subst h2
        have e : escB 10 = [92, 110] := rfl
        rw [e]
        show unq (92 :: 110 :: (v.flatMap escB ++ 34 :: rest)) acc i = _
        rw [unq_back, if_pos rfl, unq_escs v]
        simp; omega
      · have e : escB c = [c] := by unfold escB; rw [if_neg h1, if_neg h2]
        rw [e]
        show unq (c :: (v.flatMap escB ++ 34 :: rest)) acc i = _
        rw [unq_plain acc i (fun h => h1 (.inr h)) (fun h => h1 (.inl h)) (by simp), unq_escs v]
        simp; omega
def bodyL (x : Lb) : By := x.1 ++ 61 :: quoteV x.2
theorem field_body (x : Lb) (rest : By) (hn : isNm x.1 = true) (hr : rest = [] ∨ ∃ r, rest = 32 :: r) : fieldL (bodyL x ++ rest) = (x, (bodyL x).length, true) := by
  obtain ⟨nm, v⟩ := x
  simp only at hn
  have hall := isNm_all hn
  rw [List.all_eq_true] at hall
  have h61 : ∀ c ∈ nm, (c != 61) = true := fun c hc => by simpa using (nb_ne (hall c hc)).2
  have h32 : ∀ c ∈ nm, (c != 32) = true := fun c hc => by simpa using (nb_ne (hall c hc)).1
  have hr' : rest = [] ∨ ∃ c r', rest = c :: r' ∧ (c != 32) = false := by
    rcases hr with h | ⟨r, h⟩
    · exact .inl h
    · exact .inr ⟨32, r, h, by decide⟩
  by_cases hp : plainV v = true
  · have hq : quoteV v = v := by unfold quoteV; rw [if_pos hp]
    have hb : bodyL (nm, v) = nm ++ 61 :: v := by unfold bodyL; rw [hq]
    rw [hb]
    unfold plainV at hp
    simp only [Bool.and_eq_true, Bool.not_eq_true'] at hp
    have hv : ∀ c ∈ v, (c != 32) = true := fun c hc => by
      have := List.any_eq_false.1 hp.1 c hc
      simp only [Bool.or_eq_true, beq_iff_eq, not_or] at this
      simpa using this.1
    have hw : (nm ++ 61 :: v ++ rest).takeWhile (· != 32) = nm ++ 61 :: v := tw_all (fun c hc => by
      rcases List.mem_append.1 hc with h | h
      · exact h32 c h
      · rcases List.mem_cons.1 h with rfl | h
        · decide
        · exact hv c h) hr'
    have hnm : (nm ++ 61 :: v).takeWhile (· != 61) = nm := tw_all h61 (.inr ⟨61, v, rfl, by decide⟩)
    unfold fieldL
    rw [hw]
    simp only [hnm]
    rw [if_neg (by simp [hn])]
    have hd : (nm ++ 61 :: v).drop (nm.length + 1) = v := by rw [List.drop_append]; simp
    rw [hd, if_neg (fun h => by rw [h] at hp; simp at hp)]
  · have hq : quoteV v = 34 :: (v.flatMap escB ++ [34]) := by unfold quoteV; rw [if_neg hp]
    have hb : bodyL (nm, v) ++ rest = nm ++ 61 :: 34 :: (v.flatMap escB ++ 34 :: rest) := by unfold bodyL; rw [hq]; simp
    have hbl : (bodyL (nm, v)).length = nm.length + (v.flatMap escB).length + 3 := by unfold bodyL; rw [hq]; simp; omega
    rw [hbl, hb]
    have hw : ∃ z, (nm ++ 61 :: 34 :: (v.flatMap escB ++ 34 :: rest)).takeWhile (· != 32) = nm ++ 61 :: 34 :: z := by
      refine ⟨(v.flatMap escB ++ 34 :: rest).takeWhile (· != 32), ?_⟩
      rw [List.takeWhile_append_of_pos h32]
      rfl
    obtain ⟨z, hz⟩ := hw
    have hnm : (nm ++ 61 :: 34 :: z).takeWhile (· != 61) = nm := tw_all h61 (.inr ⟨61, 34 :: z, rfl, by decide⟩)
    unfold fieldL
    rw [hz]
    simp only [hnm]
    rw [if_neg (by simp [hn])]
    have hd : (nm ++ 61 :: 34 :: z).drop (nm.length + 1) = 34 :: z := by rw [List.drop_append]; simp
    have hd2 : (nm ++ 61 :: 34 :: (v.flatMap escB ++ 34 :: rest)).drop (nm.length + 2) = v.flatMap escB ++ 34 :: rest := by rw [List.drop_append]; simp
    rw [hd, if_pos (by rfl), hd2, unq_escs]
    simp only [List.nil_append]
    have hsz : 0 + (v.flatMap escB).length + 1 + (nm.length + 2) = nm.length + (v.flatMap escB).length + 3 := by omega
    rw [hsz, if_neg]
    rintro (h | ⟨h1, h2⟩)
    · simp at h
    · apply h2
      have e : nm ++ 61 :: 34 :: (v.flatMap escB ++ 34 :: rest) = (nm ++ 61 :: 34 :: (v.flatMap escB ++ [34])) ++ rest := by simp
      have hlen : (nm ++ 61 :: 34 :: (v.flatMap escB ++ [34])).length = nm.length + (v.flatMap escB).length + 3 := by simp only [List.length_append, List.length_cons, List.length_nil]; omega
      rw [e, List.getElem?_append_right (by omega), hlen, Nat.sub_self]
      rcases hr with rfl | ⟨r, rfl⟩
      · simp at h1; omega
      · rfl
theorem fmt_cons (x : Lb) (r : List Lb) : fmtG true (x :: r) = bodyL x ++ fmtG false r := by simp [fmtG, bodyL]
theorem fmt_false (r : List Lb) : fmtG false r = [] ∨ fmtG false r = 32 :: fmtG true r := by
  cases r with
  | nil => exact .inl rfl
  | cons y r => exact .inr (by simp [fmtG])
theorem fmt_head {l : List Lb} (h : ∀ x ∈ l, isNm x.1 = true) : (fmtG true l).head? ≠ some 32 := by
  cases l with
  | nil => simp [fmtG]
  | cons x r =>
    have hn := h x (by simp)
    have hl := isNm_len hn
    have hall := isNm_all hn
    cases hx : x.1 with
    | nil => rw [hx] at hl; simp at hl
    | cons c t =>
      rw [hx] at hall
      have := (nb_ne (List.all_eq_true.1 hall c (by simp))).1
      rw [fmt_cons]
      simp [bodyL, hx, this]
theorem trim_fmt {l : List Lb} (h : ∀ x ∈ l, isNm x.1 = true) : trimL (fmtG false l) = fmtG true l := by
  cases l with
  | nil => rfl
  | cons y r =>
    have e : fmtG false (y :: r) = 32 :: fmtG true (y :: r) := by simp [fmtG]
    rw [e, trimL_cons, trimL_id (fmt_head h)]
theorem fields_fmt : ∀ (l : List Lb) (f : Nat), (∀ x ∈ l, isNm x.1 = true) → (fmtG true l).length ≤ f → fieldsF f (fmtG true l) = l.map fun x => (x, true)
  | [], f, _, _ => by show fieldsF f [] = []; exact fieldsF_nil f
  | x :: r, f, h, hf => by
    have hn := h x (by simp)
    have hl := isNm_len hn
    have hbl : 1 ≤ (bodyL x).length := by unfold bodyL; simp; omega
    rw [fmt_cons] at hf ⊢
    rw [List.length_append] at hf
    obtain ⟨g, rfl⟩ : ∃ g, f = g + 1 := ⟨f - 1, by omega⟩
    have hfb := field_body x (fmtG false r) hn (by rcases fmt_false r with h | h; exact .inl h; exact .inr ⟨_, h⟩)
    have hne : ¬ (bodyL x ++ fmtG false r = []) := fun e => by have := congrArg List.length e; simp at this; have := this.1; rw [this] at hbl; simp at hbl
    rw [fieldsF, if_neg hne, hfb]
    simp only
    rw [if_neg (by simp), if_pos (fun e => by rw [e] at hl; simp at hl), List.drop_append_of_le_length (Nat.le_refl _), List.drop_length, List.nil_append, trim_fmt fun y hy => h y (List.mem_cons_of_mem _ hy)]
    have hlen : (fmtG true r).length ≤ g := by rcases fmt_false r with e | e <;> rw [e] at hf
                                               · cases r with
                                                 | nil => simp [fmtG]
                                                 | cons y r => simp [fmtG] at e
                                               · simp at hf; omega
    rw [fields_fmt r g (fun y hy => h y (List.mem_cons_of_mem _ hy)) hlen]
    rfl
theorem getL_new : ∀ (l : List Lb) (nm : By), (∀ x ∈ l, x.1 ≠ nm) → getL l nm = []
  | [], nm, _ => rfl
  | p :: l, nm, h => by
    have h1 : (p.1 == nm) = false := by simpa using h p (by simp)
    simp only [getL, h1]
    exact getL_new l nm fun x hx => h x (List.mem_cons_of_mem _ hx)
theorem parse_all : ∀ (l acc : List Lb), (∀ x ∈ l, x.2 ≠ []) → ndup (acc ++ l) → parseG acc (l.map fun x => (x, true)) = some (acc ++ l)
  | [], acc, _, _ => by simp [parseG]
  | x :: l, acc, h, hn => by
    have hnew : getL acc x.1 = [] := getL_new acc x.1 fun y hy => by
      have := (List.pairwise_append.1 hn).2.2 y hy x (by simp)
      exact this
    simp only [List.map_cons, parseG]
    rw [if_neg (by simp), if_pos ⟨h x (by simp), hnew⟩, parse_all l (acc ++ [x]) (fun y hy => h y (List.mem_cons_of_mem _ hy)) (by simpa using hn)]
    simp
/-- The line of a valid label set is read back. -/
theorem parse_fmt (l : List Lb) (h : chkL l = 0) (hs : (fmtG true l).length ≤ 1000) : parseL (fmtG true l) = (l, 0) := by
  obtain ⟨h1, h2, h3⟩ := (chkL_iff l).1 h
  have hnd : ndup l := List.Pairwise.imp (fun hab e => by rw [e] at hab; exact lt_irr hab) h3
  have hf : fieldsL (fmtG true l) = l.map fun x => (x, true) := by
    unfold fieldsL
    rw [trimL_id (fmt_head fun x hx => (h2 x hx).1)]
    exact fields_fmt l _ (fun x hx => (h2 x hx).1) (Nat.le_refl _)
  unfold parseL
  rw [if_neg (by omega), hf, parse_all l [] (fun x hx => (h2 x hx).2.1) (by simpa using hnd)]
  simp only [List.nil_append]
  rw [if_neg, srtN_self h3]
  rintro (h | h)
  · omega
  · obtain ⟨x, hx, h⟩ := List.any_eq_true.1 h
    have := (h2 x hx).2.2
    simp at h; omega
end Go.Proofs.YtfdmdcpopmcmcaaDoor
end

section
namespace Go.Proofs.YtfdmdcpopmcmcaaDoor
open Go.Fw
variable [Gl]
theorem isGo6 : isGo Tryd.prog 6 = true := by kernel_rfl
set_option maxRecDepth 20000
theorem cmpL_self : ∀ l : List Lb, cmpL l l = 0
  | [] => rfl
  | p :: l => by simp [cmpL, (cmpB_zero p.1 p.1).2 rfl, (cmpB_zero p.2 p.2).2 rfl, cmpL_self l]
theorem fmtL_cases (l : List Lb) : (fmtL l).2 = 0 ∧ chkL l = 0 ∧ parseL (fmtL l).1 = (l, 0) ∧ (fmtL l).1.length ≤ 1000 ∨ (fmtL l).2 ≠ 0 ∧ (fmtL l).1 = [] ∧ ((fmtL l).2 = chkL l ∨ (fmtL l).2 = 4) := by
  unfold fmtL
  by_cases h : chkL l ≠ 0
  · rw [if_pos h]; exact .inr ⟨h, rfl, .inl rfl⟩
  · rw [if_neg h]
    have h0 : chkL l = 0 := by omega
    by_cases h1 : 1000 < (fmtG true l).length
    · rw [if_pos h1]; exact .inr ⟨by decide, rfl, .inr rfl⟩
    · rw [if_neg h1]; exact .inl ⟨rfl, h0, parse_fmt l h0 (by omega), by simp only; omega⟩
theorem law3_tri (hG : GInt) (l : List Lb) (hl : l.length ≤ 4294967295) : PTri Tryd.prog 3 [lsl l] (.bool true) := by
  have hgr := great_tri l hl
  have hck := chk_tri l hl
  have hfm := fmt_tri l (fun h0 p hp => ca_all p.2 (by have := ((chkL_iff l).1 h0).2.1 p hp; omega)) hl
  have hcs := fmtL_cases l
  have hsm := same_tri l l hl
  rw [cmpL_self] at hsm
  have hpr : (fmtL l).2 = 0 → PTri Tryd.prog 10 [.str (fmtL l).1] (.tup [lsl l, .int .i64 0]) := fun h => by
    rcases hcs with ⟨-, -, h3, h4⟩ | ⟨h1, -⟩
    · have := parse_tri hG (fmtL l).1 (by omega)
      rwa [h3] at this
    · exact absurd h h1
  generalize fmtL l = f at *
  obtain ⟨s, e⟩ := f
  simp only at hfm hcs hpr
  generalize chkL l = k at *
  refine PTri.any (Tri.of_wc Tryd.func3 rfl Tryd.results3 Tryd.ntmps3 (by simp) ?_)
  refine WC.seq_k fun K1 hK2 => ?_
  refine WC.region ?_
  refine wU (gE rfl ?_)
  refine wOps.done ?_
  refine hK2 _ _ _ ?_
  clear hK2 K1
  refine WC.seq_k fun K3 hK4 => ?_
  refine WC.seq_k fun K5 hK6 => ?_
  refine WC.region ?_
  refine wU (gE rfl ?_)
  refine wU (gPure rfl isGo6 hgr ?_)
  refine wOps.done ?_
  refine hK6 _ _ _ ?_
  clear hK6 K5
  refine WC.cond rfl (fun c7 => ?_) (fun c7 => ?_)
  · skip
    refine WC.seq_k fun K8 hK9 => ?_
    refine WC.region ?_
    refine wU (gPure rfl isGo7 (awake_tri hG) ?_)
    refine wU (gE rfl ?_)
    refine wOps.done ?_
    refine hK9 _ _ _ ?_
    clear hK9 K8
    refine WC.ret ?_
    exact ⟨_, rfl, rfl⟩
  · skip
    refine WC.skip ?_
    refine hK4 _ _ _ ?_
    clear hK4 K3
    refine WC.seq_k fun K10 hK11 => ?_
    refine WC.region ?_
    refine wU (gE rfl ?_)
    refine wU (gPure rfl isGo8 hfm ?_)
    refine wU (gE rfl ?_)
    refine wU (gE rfl ?_)
    refine wU (gE rfl ?_)
    refine wU (gE rfl ?_)
    refine wU (gE rfl ?_)
    refine wOps.done ?_
    refine hK11 _ _ _ ?_
    clear hK11 K10
    refine WC.seq_k fun K12 hK13 => ?_
    refine WC.seq_k fun K14 hK15 => ?_
    refine WC.region ?_
    refine wU (gE rfl ?_)
    refine wU (gE rfl ?_)
    refine wOps.done ?_
    refine hK15 _ _ _ ?_
    clear hK15 K14
    refine WC.cond rfl (fun c16 => ?_) (fun c16 => ?_)
    · skip
      refine WC.seq_k fun K17 hK18 => ?_
      have he : e ≠ 0 := by simpa using c16
      have hcs2 : s = [] ∧ (e = k ∨ e = 4) := by rcases hcs with ⟨h, -⟩ | ⟨-, h2, h3⟩; exact absurd h he; exact ⟨h2, h3⟩
      obtain ⟨rfl, hcs3⟩ := hcs2
      refine WC.region ?_
      refine wU (gE rfl ?_)
      refine wU (gE (v := .bool true) rfl ?_)
      refine wU (gE rfl ?_)
      refine wY rfl (gE rfl ?_)
      refine wY rfl (gE rfl ?_)
      refine wY rfl (gPure rfl isGo9 hck ?_)
      refine wY rfl (gE rfl ?_)
      refine wY rfl (gE rfl ?_)
      refine wG rfl rfl rfl rfl (by decide) (fun c19 => ?_) (fun c19 => ?_)
      · skip
        refine gE rfl ?_
        refine wY rfl (gE (v := .bool true) (show some (V.bool (decide (e = 4))) = some (V.bool true) by simp; exact hcs3.resolve_left (by simpa using c19)) ?_)
        refine wY rfl (gE rfl ?_)
        refine wU (gE rfl ?_)
        refine wU (gE rfl ?_)
        refine wY rfl (gPure rfl isGo7 (awake_tri hG) ?_)
        refine wU (gE rfl ?_)
        refine wU (gE rfl ?_)
        refine wOps.done ?_
        refine hK18 _ _ _ ?_
        clear hK18 K17
        refine WC.ret ?_
        exact ⟨_, rfl, rfl⟩
      · skip
        refine wN rfl ?_
        refine wY rfl (gE rfl ?_)
        refine wU (gE rfl ?_)
        refine wU (gE rfl ?_)
        refine wY rfl (gPure rfl isGo7 (awake_tri hG) ?_)
        refine wU (gE rfl ?_)
        refine wU (gE rfl ?_)
        refine wOps.done ?_
        refine hK18 _ _ _ ?_
        clear hK18 K17
        refine WC.ret ?_
        exact ⟨_, rfl, rfl⟩
    · skip
      refine WC.skip ?_
      refine hK13 _ _ _ ?_
      clear hK13 K12
      refine WC.seq_k fun K20 hK21 => ?_
      have he : e = 0 := by simpa using c16
      subst he
      have hcs2 : k = 0 := by rcases hcs with ⟨-, h, -⟩ | ⟨h, -⟩; exact h; exact absurd rfl h
      subst hcs2
      have hp := hpr rfl
      refine WC.region ?_
      refine wU (gE rfl ?_)
      refine wU (gPure rfl isGo10 hp ?_)
      refine wU (gE rfl ?_)
      refine wU (gE rfl ?_)
      refine wU (gE rfl ?_)
      refine wU (gE rfl ?_)
      refine wU (gE rfl ?_)
      refine wOps.done ?_
      refine hK21 _ _ _ ?_
      clear hK21 K20
      refine WC.seq_k fun K22 hK23 => ?_
      refine WC.region ?_
      refine wU (gE rfl ?_)
      refine wU (gPure rfl isGo9 hck ?_)
      refine wU (gE (v := .bool true) rfl ?_)
      refine wU (gE rfl ?_)
      refine wY rfl (gE rfl ?_)
      refine wY rfl (gE (v := .bool true) rfl ?_)
      refine wU (gE rfl ?_)
      refine wU (gE rfl ?_)
      refine wY rfl (gE rfl ?_)
      refine wY rfl (gE rfl ?_)
      refine wY rfl (gPure rfl isGo11 hsm ?_)
      refine wU (gE rfl ?_)
      refine wU (gE rfl ?_)
      refine wY rfl (gPure rfl isGo7 (awake_tri hG) ?_)
      refine wU (gE rfl ?_)
      refine wU (gE rfl ?_)
      refine wOps.done ?_
      refine hK23 _ _ _ ?_
      clear hK23 K22
      refine WC.ret ?_
      exact ⟨_, rfl, rfl⟩
end Go.Proofs.YtfdmdcpopmcmcaaDoor
end

section
namespace Go.Proofs.YtfdmdcpopmcmcaaDoor
open Go.ChangeShapes Go.WideShapes Go.ChangeAt Go.RowKit Go.Fw Go.ChangeMaps
theorem own : ownKnob Tryd.prog.godebug = none := by kernel_rfl
theorem gint_start {W : World} (h : W.ShapedOpen Tryd.prog) : @GInt (glOf W) := by
  obtain ⟨m, hm⟩ := Tryd.laysM219.s1_3 W h
  exact ⟨m, fcell_start hm rfl⟩
/-- A world for the witness: the settled one, the two tables holding what their initialisers lay. -/
noncomputable def laidWorld (os : Os) : World :=
  let w0 := World.holding Tryd.prog os ⟨#[], #[], []⟩
  let put (h : Array Obj) (g : Nat) (cs : Array Value) : Array Obj := h.modify g fun
    | .cells _ t frozen => .cells cs t frozen
    | o => o
  let h1 := put w0.heap 1 (Go.Pinned.utf8FirstZ.map fun (z : Nat) => Value.int .u8 (z : Int)).toArray
  let h2 := put h1 2 #[.int .u8 128, .int .u8 191, .int .u8 160, .int .u8 191, .int .u8 128, .int .u8 159, .int .u8 144, .int .u8 191, .int .u8 128, .int .u8 143, .int .u8 0, .int .u8 0, .int .u8 0, .int .u8 0, .int .u8 0, .int .u8 0, .int .u8 0, .int .u8 0, .int .u8 0, .int .u8 0, .int .u8 0, .int .u8 0, .int .u8 0, .int .u8 0, .int .u8 0, .int .u8 0, .int .u8 0, .int .u8 0, .int .u8 0, .int .u8 0, .int .u8 0, .int .u8 0]
  { w0 with heap := h2 }
theorem laid_met (os : Os) (args : Array Value) : laidMet Tryd.prog [("unicode/utf8.acceptRanges", Rows.laid_unicode_utf8_acceptRanges), ("unicode/utf8.first", Rows.laid_unicode_utf8_first)] ((laidWorld os).forCall (fun _ _ => 0) ⟨#[], args, []⟩).memory :=
  laidMet_of_run' 8 (by kernel_rfl) (by kernel_rfl)
end Go.Proofs.YtfdmdcpopmcmcaaDoor
end

section
namespace Go.Proofs.YtfdmdcpopmcmcaaDoor
open Go.Deep Go.ChangeShapes Go.WideShapes Go.ChangeAt Go.RowKit Go.Fw Go.ChangeMaps
theorem laidOut : laidOutB Tryd.prog = true := by kernel_rfl
def strB : Value → By
  | .string s => s.data.toList
  | _ => []
theorem bulk_part {H : Type} {d : DataW H} : ∀ {l : List (DataW H)}, d ∈ l → Rows.uptoBulk d ≤ Rows.uptoBulkAll l
  | x :: r, h => by
    simp only [Rows.uptoBulkAll]
    rcases List.mem_cons.1 h with rfl | h
    · omega
    · have := bulk_part h; omega
theorem open_lbs2 {H : Type} {enc : TypeId × Value → H} {W : World} {base fuel : Nat} {sp : Nat → Bool} {held : Bool} {v : Value} {x : DataW H × List MemPlace} (h : DataW.trod enc Tryd.prog W base sp held fuel 22 [v] = some x) :
    ∃ l : List Lb, VR (fun b => W.heap[b]?) (lsl l) v ∧ l.length ≤ Rows.uptoBulk x.1 ∧ ∀ p ∈ l, p.1.length ≤ Rows.uptoBulk x.1 ∧ p.2.length ≤ Rows.uptoBulk x.1 := by
  letI := glOf W
  rcases open_slice_pairs Tryd.underlying22 Tryd.underlying41 (by kernel_rfl) rfl rfl (by kernel_rfl) (by kernel_rfl) h with ⟨hcs, rfl⟩ | ⟨a, len, cap, m, n, V0, V1, D0, D1, P0, P1, hcs, hb, hl, hm, hmm, rfl, hx⟩
  · simp only [List.cons.injEq, and_true] at hcs
    subst hcs
    exact ⟨[], .fnil, by simp, by simp⟩
  · simp only [List.cons.injEq, and_true] at hcs
    subst hcs
    have hlm : len ≤ m := by rw [hmm]; split <;> omega
    have d0 : ∀ i, i < m → Rows.uptoBulk (D0 i) = (strB (V0 i)).length + 1 ∧ Rows.uptoBulk (D1 i) = (strB (V1 i)).length + 1 := fun i hi => by
      obtain ⟨s, hs, e, -⟩ := DataW.trod_string Tryd.underlying9 (hx i hi).2.2.1
      obtain ⟨s', hs', e', -⟩ := DataW.trod_string Tryd.underlying9 (hx i hi).2.2.2
      have q := (List.cons.inj hs).1
      have q' := (List.cons.inj hs').1
      have r := congrArg Prod.fst e
      have r' := congrArg Prod.fst e'
      simp only at r r'
      rw [q, q', r, r']
      simp [strB, Rows.uptoBulk]
    have e0 : ∀ i, i < m → V0 i = .string ⟨(strB (V0 i)).toArray⟩ := fun i hi => by
      obtain ⟨s, hs, -⟩ := DataW.trod_string Tryd.underlying9 (hx i hi).2.2.1
      simp only [List.cons.injEq, and_true] at hs
      rw [hs]; simp [strB]
    have e1 : ∀ i, i < m → V1 i = .string ⟨(strB (V1 i)).toArray⟩ := fun i hi => by
      obtain ⟨s, hs, -⟩ := DataW.trod_string Tryd.underlying9 (hx i hi).2.2.2
      simp only [List.cons.injEq, and_true] at hs
      rw [hs]; simp [strB]
    let l : List Lb := (List.range len).map fun i => (strB (V0 i), strB (V1 i))
    have hll : l.length = len := by simp [l]
    have hli : ∀ k (hk : k < l.length), l[k] = (strB (V0 k), strB (V1 k)) := fun k hk => by simp [l]
    refine ⟨l, ?_, ?_, ?_⟩
    · have := VR.fslice (F := fun b => W.heap[b]?) (lcs l) len a cap (fun j => if j % 2 = 0 then V0 (j / 2) else V1 (j / 2)) hl (fun i hi => ?_) (fun i v hv => ?_)
      · unfold lsl; rw [hll]; exact this
      · rw [lcs_length, hll] at hi
        have hk : i / 2 < m := by omega
        show W.cell? (a.add i) = _
        by_cases hp : i % 2 = 0
        · rw [if_pos hp]
          have := (hx (i / 2) hk).1
          rwa [show i / 2 * 2 = i by omega] at this
        · rw [if_neg hp]
          have := (hx (i / 2) hk).2.1
          rwa [show i / 2 * 2 + 1 = i by omega] at this
      · have hi := (List.getElem?_eq_some_iff.1 hv).1
        rw [lcs_length, hll] at hi
        have hk : i / 2 < l.length := by omega
        have hkm : i / 2 < m := by omega
        have ha := lcs_at l (i / 2) hk
        rw [hli] at ha
        by_cases hp : i % 2 = 0
        · rw [if_pos hp]
          have h1 := ha.1
          rw [show i / 2 * 2 = i by omega, hv] at h1
          simp only [Option.some.injEq] at h1
          rw [h1, e0 _ hkm]
          exact .str _
        · rw [if_neg hp]
          have h1 := ha.2
          rw [show i / 2 * 2 + 1 = i by omega, hv] at h1
          simp only [Option.some.injEq] at h1
          rw [h1, e1 _ hkm]
          exact .str _
    · have h1 : ∀ ls : List (DataW H), ls.length ≤ Rows.uptoBulkAll ls := by
        intro ls
        induction ls with
        | nil => simp [Rows.uptoBulkAll]
        | cons d r ih =>
          have : 1 ≤ Rows.uptoBulk d := by cases d with
            | lit y => cases y <;> simp [Rows.uptoBulk]
            | _ => simp [Rows.uptoBulk]
          simp only [Rows.uptoBulkAll, List.length_cons]; omega
      have h2 := h1 ((List.range len).map fun i => DataW.agg [D0 i, D1 i])
      simp only [List.length_map, List.length_range] at h2
      simp only [Rows.uptoBulk, hll]
      omega
    · intro p hp
      obtain ⟨i, hi, rfl⟩ := List.mem_map.1 hp
      have hi := List.mem_range.1 hi
      have hd := d0 i (by omega)
      have hm : DataW.agg [D0 i, D1 i] ∈ (List.range len).map fun i => DataW.agg [D0 i, D1 i] := List.mem_map.2 ⟨i, List.mem_range.2 hi, rfl⟩
      have hb1 := bulk_part hm
      have hb2 : Rows.uptoBulk (DataW.agg [D0 i, D1 i]) = Rows.uptoBulk (D0 i) + (Rows.uptoBulk (D1 i) + 0) + 1 := by simp only [Rows.uptoBulk, Rows.uptoBulkAll]
      have hb3 : ∀ (u : List (DataW H)) w, Rows.uptoBulk (DataW.slice u w) = Rows.uptoBulkAll u + Rows.uptoBulkAll w + 1 := fun u w => by simp only [Rows.uptoBulk]
      simp only [hb3]
      omega

set_option maxRecDepth 100000 in
theorem open_labels {H : Type} {enc : TypeId × Value → H} {W : World} {base b0 : Nat} {r : Reach} {sp : Nat → Bool} {held : Bool} {v : Value} {d : DataW H} {p : List MemPlace}
    (hval : Value.okWide Tryd.prog W r b0 22 v) (hd : DataW.Trod enc Tryd.prog W base sp held 22 v d p) (hb : Rows.uptoBulk d ≤ 1048576) :
    ∃ l : List Lb, VR (fun b => W.heap[b]?) (lsl l) v ∧ l.length ≤ 4294967295 := by
  obtain ⟨a, len, cap, rfl⟩ := okWide_slice Tryd.underlying22 hval
  obtain ⟨fuel, hf⟩ := hd
  obtain ⟨l, h1, h2, -⟩ := open_lbs2 (x := (d, p)) hf
  simp only at h2
  exact ⟨l, h1, by omega⟩
end Go.Proofs.YtfdmdcpopmcmcaaDoor
end
