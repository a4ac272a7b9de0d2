/- A part of the proof: W1, W2, W3, W4, PDefs, PCut, W12 -/
import Derived.Test.YtfdmdcpopmcmcaaGreatDoorFwRow
import Derived.Test.YtfdmdcpopmcmcaaGreatDoorProg
import Derived.KernelRfl
import Derived.Lib.IndexMore
import Derived.Lib.TrimByte
import Derived.Lib.Strings
set_option linter.all false
set_option linter.unusedSectionVars false
set_option linter.unusedVariables false
set_option linter.unusedSimpArgs false
section
namespace Go.Proofs.YtfdmdcpopmcmcaaGreatDoor
open Go.Fw
variable [Gl]
theorem isGo72 : isGo Tryz.prog 72 = true := by kernel_rfl
theorem isGo60 : isGo Tryz.prog 60 = true := by kernel_rfl
theorem mixed : Tryz.prog.follows .mixedOrders = true := by kernel_rfl
theorem tagg9 : tagg Tryz.prog 9 = some false := by kernel_rfl
theorem tfld51_0 : tfld Tryz.prog 51 0 = some (0, 9) := by kernel_rfl
theorem tfld51_1 : tfld Tryz.prog 51 1 = some (1, 9) := by kernel_rfl
theorem tslice22 : tslice Tryz.prog 22 = some 51 := by kernel_rfl
theorem tsz51 : tsz Tryz.prog 51 = some 2 := by kernel_rfl
theorem tsz9 : tsz Tryz.prog 9 = some 1 := by kernel_rfl
abbrev By := List UInt8
abbrev Lb := By × By
def lcs : List Lb → List V
  | [] => []
  | p :: l => .str p.1 :: .str p.2 :: lcs l
def lsl (l : List Lb) : V := .fslice (lcs l) l.length
def scs (l : List By) : List V := l.map .str
def ssl (l : List By) : V := .fslice (scs l) l.length
theorem lcs_at : ∀ (l : List Lb) (i : Nat) (h : i < l.length), (lcs l)[i * 2]? = some (.str l[i].1) ∧ (lcs l)[i * 2 + 1]? = some (.str l[i].2)
  | p :: l, 0, _ => by simp [lcs]
  | p :: l, i + 1, h => by
    have := lcs_at l i (by simpa using h)
    have e : (i + 1) * 2 = i * 2 + 2 := by omega
    simpa [lcs, e] using this
theorem lcs_fst {l : List Lb} {i : Nat} (h : i < l.length) : (lcs l)[((i : Nat) : Int).toNat * 2 + 0]? = some (.str l[i].1) := (lcs_at l i h).1
theorem lcs_snd {l : List Lb} {i : Nat} (h : i < l.length) : (lcs l)[((i : Nat) : Int).toNat * 2 + 1]? = some (.str l[i].2) := (lcs_at l i h).2
theorem scs_get {l : List By} {i : Nat} (h : i < l.length) : (scs l)[((i : Nat) : Int).toNat * 1]? = some (.str l[i]) := by simp [scs, h]
def isTB (c : Int) : Bool := (decide (97 ≤ c) && decide (c ≤ 122)) || (decide (65 ≤ c) && decide (c ≤ 90)) || (decide (48 ≤ c) && decide (c ≤ 57)) || c == 95
theorem isTB_tri (c : Int) : PTri Tryz.prog 48 [.int .u8 c] (.bool (isTB c)) := by
  refine Tri.of_wc Tryz.func48 rfl Tryz.results48 Tryz.ntmps48 (by simp) ?_
  refine WC.seq_k fun K1 hK2 => ?_
  refine WC.region ?_
  refine wU (gE rfl ?_)
  refine wOps.done ?_
  refine hK2 _ _ _ ?_
  clear hK2 K1
  refine WC.seq_k fun K3 hK4 => ?_
  refine WC.region ?_
  refine wU (gE rfl ?_)
  refine wU (gE rfl ?_)
  refine wU (gE rfl ?_)
  refine wG rfl rfl rfl rfl (by decide) (fun c5 => ?_) (fun c5 => ?_)
  · skip
    refine gE rfl ?_
    refine wY rfl (gE rfl ?_)
    refine wU (gE rfl ?_)
    refine wU (gE rfl ?_)
    refine wG rfl rfl rfl rfl (by decide) (fun c6 => ?_) (fun c6 => ?_)
    · skip
      refine gE rfl ?_
      refine wY rfl (gE rfl ?_)
      refine wY rfl (gE rfl ?_)
      refine wG rfl rfl rfl rfl (by decide) (fun c7 => ?_) (fun c7 => ?_)
      · skip
        refine gE rfl ?_
        refine wY rfl (gE rfl ?_)
        refine wY rfl (gE rfl ?_)
        refine wU (gE rfl ?_)
        refine wU (gE rfl ?_)
        refine wG rfl rfl rfl rfl (by decide) (fun c8 => ?_) (fun c8 => ?_)
        · skip
          refine gE rfl ?_
          refine wY rfl (gE rfl ?_)
          refine wY rfl (gE rfl ?_)
          refine wG rfl rfl rfl rfl (by decide) (fun c9 => ?_) (fun c9 => ?_)
          · skip
            refine gE rfl ?_
            refine wY rfl (gE rfl ?_)
            refine wY rfl (gE rfl ?_)
            refine wU (gE rfl ?_)
            refine wU (gE rfl ?_)
            refine wG rfl rfl rfl rfl (by decide) (fun c10 => ?_) (fun c10 => ?_)
            · skip
              refine gE rfl ?_
              refine wY rfl (gE rfl ?_)
              refine wU (gE rfl ?_)
              refine wU (gE rfl ?_)
              refine wOps.done ?_
              refine hK4 _ _ _ ?_
              clear hK4 K3
              refine WC.ret ?_
              exact ⟨_, rfl, by simp_all [isTB] <;> omega, rfl⟩
            · skip
              refine wN rfl ?_
              refine wU (gE rfl ?_)
              refine wU (gE rfl ?_)
              refine wOps.done ?_
              refine hK4 _ _ _ ?_
              clear hK4 K3
              refine WC.ret ?_
              exact ⟨_, rfl, by simp_all [isTB] <;> omega, rfl⟩
          · skip
            refine wN rfl ?_
            refine wY rfl (gE rfl ?_)
            refine wU (gE rfl ?_)
            refine wU (gE rfl ?_)
            refine wY rfl (gE rfl ?_)
            refine wY rfl (gE rfl ?_)
            refine wU (gE rfl ?_)
            refine wU (gE rfl ?_)
            refine wOps.done ?_
            refine hK4 _ _ _ ?_
            clear hK4 K3
            refine WC.ret ?_
            exact ⟨_, rfl, by simp_all [isTB] <;> omega, rfl⟩
        · skip
          refine wN rfl ?_
          refine wN rfl ?_
          refine wZ rfl ?_
          refine wZ rfl ?_
          refine wN rfl ?_
          refine wU (gE rfl ?_)
          refine wU (gE rfl ?_)
          refine wN rfl ?_
          refine wN rfl ?_
          refine wU (gE rfl ?_)
          refine wU (gE rfl ?_)
          refine wOps.done ?_
          refine hK4 _ _ _ ?_
          clear hK4 K3
          refine WC.ret ?_
          exact ⟨_, rfl, by simp_all [isTB] <;> omega, rfl⟩
      · skip
        refine wN rfl ?_
        refine wY rfl (gE rfl ?_)
        refine wU (gE rfl ?_)
        refine wU (gE rfl ?_)
        refine wY rfl (gE rfl ?_)
        refine wY rfl (gE rfl ?_)
        refine wY rfl (gE rfl ?_)
        refine wG rfl rfl rfl rfl (by decide) (fun c11 => ?_) (fun c11 => ?_)
        · skip
          refine gE rfl ?_
          refine wY rfl (gE rfl ?_)
          refine wY rfl (gE rfl ?_)
          refine wU (gE rfl ?_)
          refine wU (gE rfl ?_)
          refine wG rfl rfl rfl rfl (by decide) (fun c12 => ?_) (fun c12 => ?_)
          · skip
            refine gE rfl ?_
            refine wY rfl (gE rfl ?_)
            refine wU (gE rfl ?_)
            refine wU (gE rfl ?_)
            refine wOps.done ?_
            refine hK4 _ _ _ ?_
            clear hK4 K3
            refine WC.ret ?_
            exact ⟨_, rfl, by simp_all [isTB] <;> omega, rfl⟩
          · skip
            refine wN rfl ?_
            refine wU (gE rfl ?_)
            refine wU (gE rfl ?_)
            refine wOps.done ?_
            refine hK4 _ _ _ ?_
            clear hK4 K3
            refine WC.ret ?_
            exact ⟨_, rfl, by simp_all [isTB] <;> omega, rfl⟩
        · skip
          refine wN rfl ?_
          refine wY rfl (gE rfl ?_)
          refine wU (gE rfl ?_)
          refine wU (gE rfl ?_)
          refine wY rfl (gE rfl ?_)
          refine wY rfl (gE rfl ?_)
          refine wU (gE rfl ?_)
          refine wU (gE rfl ?_)
          refine wOps.done ?_
          refine hK4 _ _ _ ?_
          clear hK4 K3
          refine WC.ret ?_
          exact ⟨_, rfl, by simp_all [isTB] <;> omega, rfl⟩
    · skip
      refine wN rfl ?_
      refine wN rfl ?_
      refine wZ rfl ?_
      refine wZ rfl ?_
      refine wN rfl ?_
      refine wU (gE rfl ?_)
      refine wU (gE rfl ?_)
      refine wN rfl ?_
      refine wN rfl ?_
      refine wN rfl ?_
      refine wZ rfl ?_
      refine wZ rfl ?_
      refine wN rfl ?_
      refine wU (gE rfl ?_)
      refine wU (gE rfl ?_)
      refine wN rfl ?_
      refine wN rfl ?_
      refine wU (gE rfl ?_)
      refine wU (gE rfl ?_)
      refine wOps.done ?_
      refine hK4 _ _ _ ?_
      clear hK4 K3
      refine WC.ret ?_
      exact ⟨_, rfl, by simp_all [isTB] <;> omega, rfl⟩
  · skip
    refine wN rfl ?_
    refine wU (gE rfl ?_)
    refine wU (gE rfl ?_)
    refine wY rfl (gE rfl ?_)
    refine wY rfl (gE rfl ?_)
    refine wY rfl (gE rfl ?_)
    refine wG rfl rfl rfl rfl (by decide) (fun c13 => ?_) (fun c13 => ?_)
    · skip
      refine gE rfl ?_
      refine wY rfl (gE rfl ?_)
      refine wY rfl (gE rfl ?_)
      refine wU (gE rfl ?_)
      refine wU (gE rfl ?_)
      refine wG rfl rfl rfl rfl (by decide) (fun c14 => ?_) (fun c14 => ?_)
      · skip
        refine gE rfl ?_
        refine wY rfl (gE rfl ?_)
        refine wY rfl (gE rfl ?_)
        refine wG rfl rfl rfl rfl (by decide) (fun c15 => ?_) (fun c15 => ?_)
        · skip
          refine gE rfl ?_
          refine wY rfl (gE rfl ?_)
          refine wY rfl (gE rfl ?_)
          refine wU (gE rfl ?_)
          refine wU (gE rfl ?_)
          refine wG rfl rfl rfl rfl (by decide) (fun c16 => ?_) (fun c16 => ?_)
          · skip
            refine gE rfl ?_
            refine wY rfl (gE rfl ?_)
            refine wU (gE rfl ?_)
            refine wU (gE rfl ?_)
            refine wOps.done ?_
            refine hK4 _ _ _ ?_
            clear hK4 K3
            refine WC.ret ?_
            exact ⟨_, rfl, by simp_all [isTB] <;> omega, rfl⟩
          · skip
            refine wN rfl ?_
            refine wU (gE rfl ?_)
            refine wU (gE rfl ?_)
            refine wOps.done ?_
            refine hK4 _ _ _ ?_
            clear hK4 K3
            refine WC.ret ?_
            exact ⟨_, rfl, by simp_all [isTB] <;> omega, rfl⟩
        · skip
          refine wN rfl ?_
          refine wY rfl (gE rfl ?_)
          refine wU (gE rfl ?_)
          refine wU (gE rfl ?_)
          refine wY rfl (gE rfl ?_)
          refine wY rfl (gE rfl ?_)
          refine wU (gE rfl ?_)
          refine wU (gE rfl ?_)
          refine wOps.done ?_
          refine hK4 _ _ _ ?_
          clear hK4 K3
          refine WC.ret ?_
          exact ⟨_, rfl, by simp_all [isTB] <;> omega, rfl⟩
      · skip
        refine wN rfl ?_
        refine wN rfl ?_
        refine wZ rfl ?_
        refine wZ rfl ?_
        refine wN rfl ?_
        refine wU (gE rfl ?_)
        refine wU (gE rfl ?_)
        refine wN rfl ?_
        refine wN rfl ?_
        refine wU (gE rfl ?_)
        refine wU (gE rfl ?_)
        refine wOps.done ?_
        refine hK4 _ _ _ ?_
        clear hK4 K3
        refine WC.ret ?_
        exact ⟨_, rfl, by simp_all [isTB] <;> omega, rfl⟩
    · skip
      refine wN rfl ?_
      refine wY rfl (gE rfl ?_)
      refine wU (gE rfl ?_)
      refine wU (gE rfl ?_)
      refine wY rfl (gE rfl ?_)
      refine wY rfl (gE rfl ?_)
      refine wY rfl (gE rfl ?_)
      refine wG rfl rfl rfl rfl (by decide) (fun c17 => ?_) (fun c17 => ?_)
      · skip
        refine gE rfl ?_
        refine wY rfl (gE rfl ?_)
        refine wY rfl (gE rfl ?_)
        refine wU (gE rfl ?_)
        refine wU (gE rfl ?_)
        refine wG rfl rfl rfl rfl (by decide) (fun c18 => ?_) (fun c18 => ?_)
        · skip
          refine gE rfl ?_
          refine wY rfl (gE rfl ?_)
          refine wU (gE rfl ?_)
          refine wU (gE rfl ?_)
          refine wOps.done ?_
          refine hK4 _ _ _ ?_
          clear hK4 K3
          refine WC.ret ?_
          exact ⟨_, rfl, by simp_all [isTB] <;> omega, rfl⟩
        · skip
          refine wN rfl ?_
          refine wU (gE rfl ?_)
          refine wU (gE rfl ?_)
          refine wOps.done ?_
          refine hK4 _ _ _ ?_
          clear hK4 K3
          refine WC.ret ?_
          exact ⟨_, rfl, by simp_all [isTB] <;> omega, rfl⟩
      · skip
        refine wN rfl ?_
        refine wY rfl (gE rfl ?_)
        refine wU (gE rfl ?_)
        refine wU (gE rfl ?_)
        refine wY rfl (gE rfl ?_)
        refine wY rfl (gE rfl ?_)
        refine wU (gE rfl ?_)
        refine wU (gE rfl ?_)
        refine wOps.done ?_
        refine hK4 _ _ _ ?_
        clear hK4 K3
        refine WC.ret ?_
        exact ⟨_, rfl, by simp_all [isTB] <;> omega, rfl⟩
theorem isNaN_tri (a : By) : PTri Tryz.prog 72 [.str a] (.bool false) := by
  refine Tri.of_wc Tryz.func72 rfl Tryz.results72 Tryz.ntmps72 (by simp) ?_
  refine WC.seq_k fun K1 hK2 => ?_
  refine WC.region ?_
  refine wU (gE rfl ?_)
  refine wOps.done ?_
  refine hK2 _ _ _ ?_
  clear hK2 K1
  refine WC.seq_k fun K3 hK4 => ?_
  refine WC.region ?_
  refine wU (gE rfl ?_)
  refine wU (gE rfl ?_)
  refine wU (gE rfl ?_)
  refine wU (gE rfl ?_)
  refine wOps.done ?_
  refine hK4 _ _ _ ?_
  clear hK4 K3
  refine WC.ret ?_
  exact ⟨_, rfl, by simp, rfl⟩
def cmpB (a b : By) : Int := if Op.bytesLess a b then -1 else if !(Op.bytesLess a b || a == b) then 1 else 0
theorem cmpB_tri (a b : By) : PTri Tryz.prog 36 [.str a, .str b] (.int .i64 (cmpB a b)) := by
  refine Tri.of_wc Tryz.func36 rfl Tryz.results36 Tryz.ntmps36 (by simp) ?_
  refine WC.seq_k fun K1 hK2 => ?_
  refine WC.region ?_
  refine wU (gE rfl ?_)
  refine wOps.done ?_
  refine hK2 _ _ _ ?_
  clear hK2 K1
  refine WC.seq_k fun K3 hK4 => ?_
  refine WC.region ?_
  refine wU (gE rfl ?_)
  refine wU (gPure rfl isGo72 (isNaN_tri _) ?_)
  refine wU (gE rfl ?_)
  refine wOps.done ?_
  refine hK4 _ _ _ ?_
  clear hK4 K3
  refine WC.seq_k fun K5 hK6 => ?_
  refine WC.region ?_
  refine wU (gE rfl ?_)
  refine wU (gPure rfl isGo72 (isNaN_tri _) ?_)
  refine wU (gE rfl ?_)
  refine wOps.done ?_
  refine hK6 _ _ _ ?_
  clear hK6 K5
  refine WC.seq_k fun K7 hK8 => ?_
  refine WC.seq_k fun K9 hK10 => ?_
  refine WC.region ?_
  refine wU (gE rfl ?_)
  refine wOps.done ?_
  refine hK10 _ _ _ ?_
  clear hK10 K9
  refine WC.cond rfl (fun c11 => ?_) (fun c11 => ?_)
  · skip
    refine WC.seq_k fun K12 hK13 => ?_
    refine WC.seq_k fun K14 hK15 => ?_
    refine WC.region ?_
    refine wU (gE rfl ?_)
    refine wOps.done ?_
    refine hK15 _ _ _ ?_
    clear hK15 K14
    refine WC.cond rfl (fun c16 => ?_) (fun c16 => ?_)
    · skip
      refine WC.seq_k fun K17 hK18 => ?_
      refine WC.region ?_
      refine wU (gE rfl ?_)
      refine wOps.done ?_
      refine hK18 _ _ _ ?_
      clear hK18 K17
      refine WC.ret ?_
      exact ⟨_, rfl, by simp_all [cmpB], rfl⟩
    · skip
      refine WC.skip ?_
      refine hK13 _ _ _ ?_
      clear hK13 K12
      refine WC.seq_k fun K19 hK20 => ?_
      refine WC.region ?_
      refine wU (gE rfl ?_)
      refine wOps.done ?_
      refine hK20 _ _ _ ?_
      clear hK20 K19
      refine WC.ret ?_
      exact ⟨_, rfl, by simp_all [cmpB], rfl⟩
  · skip
    refine WC.skip ?_
    refine hK8 _ _ _ ?_
    clear hK8 K7
    refine WC.seq_k fun K21 hK22 => ?_
    refine WC.seq_k fun K23 hK24 => ?_
    refine WC.region ?_
    refine wU (gE rfl ?_)
    refine wOps.done ?_
    refine hK24 _ _ _ ?_
    clear hK24 K23
    refine WC.cond rfl (fun c25 => ?_) (fun c25 => ?_)
    · skip
      refine WC.seq_k fun K26 hK27 => ?_
      refine WC.region ?_
      refine wU (gE rfl ?_)
      refine wOps.done ?_
      refine hK27 _ _ _ ?_
      clear hK27 K26
      refine WC.ret ?_
      exact ⟨_, rfl, by simp_all [cmpB], rfl⟩
    · skip
      refine WC.skip ?_
      refine hK22 _ _ _ ?_
      clear hK22 K21
      refine WC.seq_k fun K28 hK29 => ?_
      refine WC.seq_k fun K30 hK31 => ?_
      refine WC.region ?_
      refine wU (gE rfl ?_)
      refine wU (gE rfl ?_)
      refine wU (gE rfl ?_)
      refine wOps.done ?_
      refine hK31 _ _ _ ?_
      clear hK31 K30
      refine WC.cond rfl (fun c32 => ?_) (fun c32 => ?_)
      · skip
        refine WC.seq_k fun K33 hK34 => ?_
        refine WC.region ?_
        refine wU (gE rfl ?_)
        refine wOps.done ?_
        refine hK34 _ _ _ ?_
        clear hK34 K33
        refine WC.ret ?_
        exact ⟨_, rfl, by simp_all [cmpB], rfl⟩
      · skip
        refine WC.skip ?_
        refine hK29 _ _ _ ?_
        clear hK29 K28
        refine WC.seq_k fun K35 hK36 => ?_
        refine WC.seq_k fun K37 hK38 => ?_
        refine WC.region ?_
        refine wU (gE rfl ?_)
        refine wU (gE rfl ?_)
        refine wU (gE rfl ?_)
        refine wOps.done ?_
        refine hK38 _ _ _ ?_
        clear hK38 K37
        refine WC.cond rfl (fun c39 => ?_) (fun c39 => ?_)
        · skip
          refine WC.seq_k fun K40 hK41 => ?_
          refine WC.region ?_
          refine wU (gE rfl ?_)
          refine wOps.done ?_
          refine hK41 _ _ _ ?_
          clear hK41 K40
          refine WC.ret ?_
          exact ⟨_, rfl, by simp_all [cmpB], rfl⟩
        · skip
          refine WC.skip ?_
          refine hK36 _ _ _ ?_
          clear hK36 K35
          refine WC.seq_k fun K42 hK43 => ?_
          refine WC.region ?_
          refine wU (gE rfl ?_)
          refine wOps.done ?_
          refine hK43 _ _ _ ?_
          clear hK43 K42
          refine WC.ret ?_
          exact ⟨_, rfl, by simp_all [cmpB], rfl⟩
theorem less_tri (a b : By) : PTri Tryz.prog 117 [.str a, .str b] (.bool (Op.bytesLess a b)) := by
  refine Tri.of_wc Tryz.func117 rfl Tryz.results117 Tryz.ntmps117 (by simp) ?_
  refine WC.seq_k fun K1 hK2 => ?_
  refine WC.region ?_
  refine wU (gE rfl ?_)
  refine wOps.done ?_
  refine hK2 _ _ _ ?_
  clear hK2 K1
  refine WC.seq_k fun K3 hK4 => ?_
  refine WC.region ?_
  refine wU (gE rfl ?_)
  refine wU (gPure rfl isGo72 (isNaN_tri _) ?_)
  refine wU (gE rfl ?_)
  refine wG rfl rfl rfl rfl (by decide) (fun c5 => ?_) (fun c5 => ?_)
  · skip
    refine gE rfl ?_
    refine wY rfl (gPure rfl isGo72 (isNaN_tri _) ?_)
    refine wY rfl (gE rfl ?_)
    refine wU (gE rfl ?_)
    refine wU (gE rfl ?_)
    refine wG rfl rfl rfl rfl (by decide) (fun c6 => ?_) (fun c6 => ?_)
    · skip
      refine gE rfl ?_
      refine wY rfl (gE rfl ?_)
      refine wY rfl (gE rfl ?_)
      refine wU (gE rfl ?_)
      refine wU (gE rfl ?_)
      refine wOps.done ?_
      refine hK4 _ _ _ ?_
      clear hK4 K3
      refine WC.ret ?_
      exact ⟨_, rfl, by simp_all, rfl⟩
    · skip
      refine wN rfl ?_
      refine wN rfl ?_
      refine wU (gE rfl ?_)
      refine wU (gE rfl ?_)
      refine wOps.done ?_
      refine hK4 _ _ _ ?_
      clear hK4 K3
      refine WC.ret ?_
      exact ⟨_, rfl, by simp_all, rfl⟩
  · skip
    refine wN rfl ?_
    refine wN rfl ?_
    refine wU (gE rfl ?_)
    refine wU (gE rfl ?_)
    refine wY rfl (gE rfl ?_)
    refine wY rfl (gE rfl ?_)
    refine wY rfl (gE rfl ?_)
    refine wU (gE rfl ?_)
    refine wU (gE rfl ?_)
    refine wOps.done ?_
    refine hK4 _ _ _ ?_
    clear hK4 K3
    refine WC.ret ?_
    exact ⟨_, rfl, by simp_all, rfl⟩
theorem text_tri (a b : By) : PTri Tryz.prog 60 [.str a, .str b] (.int .i64 (cmpB a b)) := by
  refine Tri.of_wc Tryz.func60 rfl Tryz.results60 Tryz.ntmps60 (by simp) ?_
  refine WC.seq_k fun K1 hK2 => ?_
  refine WC.region ?_
  refine wU (gE rfl ?_)
  refine wOps.done ?_
  refine hK2 _ _ _ ?_
  clear hK2 K1
  refine WC.seq_k fun K3 hK4 => ?_
  refine WC.seq_k fun K5 hK6 => ?_
  refine WC.region ?_
  refine wU (gE rfl ?_)
  refine wU (gE rfl ?_)
  refine wU (gE rfl ?_)
  refine wOps.done ?_
  refine hK6 _ _ _ ?_
  clear hK6 K5
  refine WC.cond rfl (fun c7 => ?_) (fun c7 => ?_)
  · skip
    refine WC.seq_k fun K8 hK9 => ?_
    refine WC.region ?_
    refine wU (gE rfl ?_)
    refine wOps.done ?_
    refine hK9 _ _ _ ?_
    clear hK9 K8
    refine WC.ret ?_
    exact ⟨_, rfl, by simp_all [cmpB], rfl⟩
  · skip
    refine WC.skip ?_
    refine hK4 _ _ _ ?_
    clear hK4 K3
    refine WC.seq_k fun K10 hK11 => ?_
    refine WC.seq_k fun K12 hK13 => ?_
    refine WC.region ?_
    refine wU (gE rfl ?_)
    refine wU (gE rfl ?_)
    refine wU (gE rfl ?_)
    refine wOps.done ?_
    refine hK13 _ _ _ ?_
    clear hK13 K12
    refine WC.cond rfl (fun c14 => ?_) (fun c14 => ?_)
    · skip
      refine WC.seq_k fun K15 hK16 => ?_
      refine WC.region ?_
      refine wU (gE rfl ?_)
      refine wOps.done ?_
      refine hK16 _ _ _ ?_
      clear hK16 K15
      refine WC.ret ?_
      exact ⟨_, rfl, by simp_all [cmpB], rfl⟩
    · skip
      refine WC.skip ?_
      refine hK11 _ _ _ ?_
      clear hK11 K10
      refine WC.seq_k fun K17 hK18 => ?_
      refine WC.region ?_
      refine wU (gE rfl ?_)
      refine wOps.done ?_
      refine hK18 _ _ _ ?_
      clear hK18 K17
      refine WC.ret ?_
      exact ⟨_, rfl, by simp_all [cmpB], rfl⟩
def cmpL : List Lb → List Lb → Int
  | [], [] => 0
  | [], _ :: _ => -1
  | _ :: _, [] => 1
  | x :: xs, y :: ys => if cmpB x.1 y.1 ≠ 0 then cmpB x.1 y.1 else if cmpB x.2 y.2 ≠ 0 then cmpB x.2 y.2 else cmpL xs ys
theorem cmpL_step {a b : List Lb} {i : Nat} (h1 : i < a.length) (h2 : i < b.length) : cmpL (a.drop i) (b.drop i) = if cmpB a[i].1 b[i].1 ≠ 0 then cmpB a[i].1 b[i].1 else if cmpB a[i].2 b[i].2 ≠ 0 then cmpB a[i].2 b[i].2 else cmpL (a.drop (i + 1)) (b.drop (i + 1)) := by
  rw [List.drop_eq_getElem_cons h1, List.drop_eq_getElem_cons h2]
  rfl
theorem cmpL_end {a b : List Lb} {i : Nat} (h1 : i ≤ a.length) (h2 : i ≤ b.length) (h : ¬ (i < a.length ∧ i < b.length)) : cmpL (a.drop i) (b.drop i) = if a.length < b.length then -1 else if b.length < a.length then 1 else 0 := by
  by_cases ha : i < a.length
  · have hb : b.drop i = [] := List.drop_of_length_le (by omega)
    rw [List.drop_eq_getElem_cons ha, hb]
    simp only [cmpL]
    rw [if_neg (by omega), if_pos (by omega)]
  · have ha' : a.drop i = [] := List.drop_of_length_le (by omega)
    rw [ha']
    by_cases hb : i < b.length
    · rw [List.drop_eq_getElem_cons hb, if_pos (by omega)]; rfl
    · have hb' : b.drop i = [] := List.drop_of_length_le (by omega)
      rw [hb', if_neg (by omega), if_neg (by omega)]; rfl
theorem cmpL_tri (a b : List Lb) (ha : a.length ≤ 4294967295) : PTri Tryz.prog 54 [lsl a, lsl b] (.int .i64 (cmpL a b)) := by
  unfold lsl
  refine Tri.of_wc Tryz.func54 rfl Tryz.results54 Tryz.ntmps54 (by simp) ?_
  refine WC.seq_k fun K1 hK2 => ?_
  refine WC.region ?_
  refine wU (gE rfl ?_)
  refine wOps.done ?_
  refine hK2 _ _ _ ?_
  clear hK2 K1
  refine WC.seq_k fun K3 hK4 => ?_
  refine WC.seq_k fun K5 hK6 => ?_
  refine WC.region ?_
  refine wU (gE rfl ?_)
  refine wOps.done ?_
  refine hK6 _ _ _ ?_
  clear hK6 K5
  refine WC.block ?_
  refine WC.loopI (α := Nat) (fun i => [(0, .fslice (lcs a) a.length), (1, .fslice (lcs b) b.length), (5, .int .i64 i)]) (fun _ => []) (fun i => a.length - i) (fun i => i ≤ a.length ∧ i ≤ b.length ∧ cmpL a b = cmpL (a.drop i) (b.drop i)) 0 ?_ ?_ ?_ ?_
  · exact sub_cons rfl (sub_cons rfl (sub_cons rfl (sub_nil _)))
  · exact Ent.refl _ _
  · exact ⟨by simp, by simp, by simp⟩
  rintro i ⟨hia, hib, hc⟩
  refine WC.seq_k fun K7 hK8 => ?_
  refine WC.seq_k fun K9 hK10 => ?_
  refine WC.region ?_
  refine wU (gE rfl ?_)
  refine wU (gE rfl ?_)
  refine wU (gLen rfl rfl (by rw [lenFits, tslice22]; rfl) ?_)
  refine wU (gE rfl ?_)
  refine wU (gE rfl ?_)
  refine wG rfl rfl rfl rfl (by decide) (fun c11 => ?_) (fun c11 => ?_)
  · skip
    refine gE rfl ?_
    refine wY rfl (gE rfl ?_)
    refine wY rfl (gLen rfl rfl (by rw [lenFits, tslice22]; rfl) ?_)
    refine wY rfl (gE rfl ?_)
    refine wU (gE rfl ?_)
    refine wOps.done ?_
    refine hK10 _ _ _ ?_
    clear hK10 K9
    refine WC.cond rfl (fun c12 => ?_) (fun c12 => ?_)
    · skip
      refine WC.skip ?_
      refine hK8 _ _ _ ?_
      clear hK8 K7
      refine WC.seq_k fun K13 hK14 => ?_
      refine WC.block ?_
      refine WC.seq_k fun K15 hK16 => ?_
      refine WC.seq_k fun K17 hK18 => ?_
      refine WC.region_draw mixed ?_
      refine wA.val 0 rfl rfl rfl (fun _ _ hK => gE rfl hK) (by kernel_rfl) ?_
      refine wA.val 1 rfl rfl rfl (fun _ _ hK => gE rfl hK) (by kernel_rfl) ?_
      have h1 : i < a.length := by simpa using c11
      have h2 : i < b.length := by simpa using c12
      refine wA.val 2 rfl rfl rfl (fun _ _ hK => gIdxF tslice22 tsz51 rfl rfl (by omega) (by omega) hK) (by kernel_rfl) ?_
      refine wA.val 3 rfl rfl rfl (fun _ _ hK => gFieldF tfld51_0 tsz9 rfl hK) (by kernel_rfl) ?_
      refine wA.val 4 rfl rfl rfl (fun _ _ hK => gLoadF tagg9 rfl (lcs_fst h1) hK) (by kernel_rfl) ?_
      refine wA.val 5 rfl rfl rfl (fun _ _ hK => gE rfl hK) (by kernel_rfl) ?_
      refine wA.val 6 rfl rfl rfl (fun _ _ hK => gE rfl hK) (by kernel_rfl) ?_
      refine wA.val 7 rfl rfl rfl (fun _ _ hK => gIdxF tslice22 tsz51 rfl rfl (by omega) (by omega) hK) (by kernel_rfl) ?_
      refine wA.val 8 rfl rfl rfl (fun _ _ hK => gFieldF tfld51_0 tsz9 rfl hK) (by kernel_rfl) ?_
      refine wA.val 9 rfl rfl rfl (fun _ _ hK => gLoadF tagg9 rfl (lcs_fst h2) hK) (by kernel_rfl) ?_
      refine wA.val 10 rfl rfl rfl (fun _ _ hK => by refine gPure rfl isGo60 (text_tri _ _) ?_; exact hK) (by kernel_rfl) ?_
      refine wA.val 11 rfl rfl rfl (fun _ _ hK => gE rfl hK) (by kernel_rfl) ?_
      refine wA.done (by kernel_rfl) ?_
      refine hK18 _ _ _ ?_
      clear hK18 K17
      refine WC.seq_k fun K19 hK20 => ?_
      refine WC.region ?_
      refine wU (gE rfl ?_)
      refine wU (gE rfl ?_)
      refine wOps.done ?_
      refine hK20 _ _ _ ?_
      clear hK20 K19
      refine WC.cond rfl (fun c21 => ?_) (fun c21 => ?_)
      · skip
        refine WC.seq_k fun K22 hK23 => ?_
        refine WC.region ?_
        refine wU (gE rfl ?_)
        refine wU (gE rfl ?_)
        refine wOps.done ?_
        refine hK23 _ _ _ ?_
        clear hK23 K22
        refine WC.ret ?_
        refine ⟨_, rfl, congrArg (V.int .i64) ?_, rfl⟩
        rw [hc, cmpL_step h1 h2]
        simp_all
      · skip
        refine WC.skip ?_
        refine hK16 _ _ _ ?_
        clear hK16 K15
        refine WC.seq_k fun K24 hK25 => ?_
        refine WC.region_draw mixed ?_
        refine wA.val 0 rfl rfl rfl (fun _ _ hK => gE rfl hK) (by kernel_rfl) ?_
        refine wA.val 1 rfl rfl rfl (fun _ _ hK => gE rfl hK) (by kernel_rfl) ?_
        refine wA.val 2 rfl rfl rfl (fun _ _ hK => gIdxF tslice22 tsz51 rfl rfl (by omega) (by omega) hK) (by kernel_rfl) ?_
        refine wA.val 3 rfl rfl rfl (fun _ _ hK => gFieldF tfld51_1 tsz9 rfl hK) (by kernel_rfl) ?_
        refine wA.val 4 rfl rfl rfl (fun _ _ hK => gLoadF tagg9 rfl (lcs_snd h1) hK) (by kernel_rfl) ?_
        refine wA.val 5 rfl rfl rfl (fun _ _ hK => gE rfl hK) (by kernel_rfl) ?_
        refine wA.val 6 rfl rfl rfl (fun _ _ hK => gE rfl hK) (by kernel_rfl) ?_
        refine wA.val 7 rfl rfl rfl (fun _ _ hK => gIdxF tslice22 tsz51 rfl rfl (by omega) (by omega) hK) (by kernel_rfl) ?_
        refine wA.val 8 rfl rfl rfl (fun _ _ hK => gFieldF tfld51_1 tsz9 rfl hK) (by kernel_rfl) ?_
        refine wA.val 9 rfl rfl rfl (fun _ _ hK => gLoadF tagg9 rfl (lcs_snd h2) hK) (by kernel_rfl) ?_
        refine wA.val 10 rfl rfl rfl (fun _ _ hK => by refine gPure rfl isGo60 (text_tri _ _) ?_; exact hK) (by kernel_rfl) ?_
        refine wA.val 11 rfl rfl rfl (fun _ _ hK => gE rfl hK) (by kernel_rfl) ?_
        refine wA.done (by kernel_rfl) ?_
        refine hK25 _ _ _ ?_
        clear hK25 K24
        refine WC.seq_k fun K26 hK27 => ?_
        refine WC.region ?_
        refine wU (gE rfl ?_)
        refine wU (gE rfl ?_)
        refine wOps.done ?_
        refine hK27 _ _ _ ?_
        clear hK27 K26
        refine WC.cond rfl (fun c28 => ?_) (fun c28 => ?_)
        · skip
          refine WC.seq_k fun K29 hK30 => ?_
          refine WC.region ?_
          refine wU (gE rfl ?_)
          refine wU (gE rfl ?_)
          refine wOps.done ?_
          refine hK30 _ _ _ ?_
          clear hK30 K29
          refine WC.ret ?_
          refine ⟨_, rfl, congrArg (V.int .i64) ?_, rfl⟩
          rw [hc, cmpL_step h1 h2]
          simp_all
        · skip
          refine WC.skip ?_
          refine hK14 _ _ _ ?_
          clear hK14 K13
          refine WC.region ?_
          refine wU (gE rfl ?_)
          refine wU (gE rfl ?_)
          refine wU (gE rfl ?_)
          refine wOps.done ?_
          exact ⟨i + 1, rfl, by omega, ⟨by omega, by omega, by rw [hc, cmpL_step h1 h2]; simp_all⟩, Ent.sub (sub_cons rfl (sub_cons rfl (sub_cons (int_fit (by omega) (by omega) (by omega)) (sub_nil _))))⟩
    · skip
      refine WC.exit ?_
      refine hK4 _ _ _ ?_
      clear hK8 K7 hK4 K3
      refine WC.seq_k fun K31 hK32 => ?_
      refine WC.seq_k fun K33 hK34 => ?_
      refine WC.region ?_
      refine wU (gE rfl ?_)
      refine wU (gLen rfl rfl (by rw [lenFits, tslice22]; rfl) ?_)
      refine wU (gE rfl ?_)
      refine wU (gLen rfl rfl (by rw [lenFits, tslice22]; rfl) ?_)
      refine wU (gE rfl ?_)
      refine wOps.done ?_
      refine hK34 _ _ _ ?_
      clear hK34 K33
      refine WC.cond rfl (fun c35 => ?_) (fun c35 => ?_)
      · skip
        refine WC.seq_k fun K36 hK37 => ?_
        refine WC.region ?_
        refine wU (gE rfl ?_)
        refine wOps.done ?_
        refine hK37 _ _ _ ?_
        clear hK37 K36
        refine WC.ret ?_
        refine ⟨_, rfl, congrArg (V.int .i64) ?_, rfl⟩
        rw [hc, cmpL_end hia hib (by simp_all <;> omega)]
        simp_all <;> omega
      · skip
        refine WC.skip ?_
        refine hK32 _ _ _ ?_
        clear hK32 K31
        refine WC.seq_k fun K38 hK39 => ?_
        refine WC.seq_k fun K40 hK41 => ?_
        refine WC.region ?_
        refine wU (gE rfl ?_)
        refine wU (gLen rfl rfl (by rw [lenFits, tslice22]; rfl) ?_)
        refine wU (gE rfl ?_)
        refine wU (gLen rfl rfl (by rw [lenFits, tslice22]; rfl) ?_)
        refine wU (gE rfl ?_)
        refine wOps.done ?_
        refine hK41 _ _ _ ?_
        clear hK41 K40
        refine WC.cond rfl (fun c42 => ?_) (fun c42 => ?_)
        · skip
          refine WC.seq_k fun K43 hK44 => ?_
          refine WC.region ?_
          refine wU (gE rfl ?_)
          refine wOps.done ?_
          refine hK44 _ _ _ ?_
          clear hK44 K43
          refine WC.ret ?_
          refine ⟨_, rfl, congrArg (V.int .i64) ?_, rfl⟩
          rw [hc, cmpL_end hia hib (by simp_all <;> omega)]
          simp_all <;> omega
        · skip
          refine WC.skip ?_
          refine hK39 _ _ _ ?_
          clear hK39 K38
          refine WC.seq_k fun K45 hK46 => ?_
          refine WC.region ?_
          refine wU (gE rfl ?_)
          refine wOps.done ?_
          refine hK46 _ _ _ ?_
          clear hK46 K45
          refine WC.ret ?_
          refine ⟨_, rfl, congrArg (V.int .i64) ?_, rfl⟩
          rw [hc, cmpL_end hia hib (by simp_all <;> omega)]
          simp_all <;> omega
  · skip
    refine wN rfl ?_
    refine wN rfl ?_
    refine wN rfl ?_
    refine wU (gE rfl ?_)
    refine wOps.done ?_
    refine hK10 _ _ _ ?_
    clear hK10 K9
    first | refine WC.cond (b := false) rfl (fun hh => by simp at hh) (fun _ => ?_) | refine WC.cond rfl (fun hh => by simp_all) (fun _ => ?_)
    refine WC.exit ?_
    refine hK4 _ _ _ ?_
    clear hK8 K7 hK4 K3
    refine WC.seq_k fun K47 hK48 => ?_
    refine WC.seq_k fun K49 hK50 => ?_
    refine WC.region ?_
    refine wU (gE rfl ?_)
    refine wU (gLen rfl rfl (by rw [lenFits, tslice22]; rfl) ?_)
    refine wU (gE rfl ?_)
    refine wU (gLen rfl rfl (by rw [lenFits, tslice22]; rfl) ?_)
    refine wU (gE rfl ?_)
    refine wOps.done ?_
    refine hK50 _ _ _ ?_
    clear hK50 K49
    refine WC.cond rfl (fun c51 => ?_) (fun c51 => ?_)
    · skip
      refine WC.seq_k fun K52 hK53 => ?_
      refine WC.region ?_
      refine wU (gE rfl ?_)
      refine wOps.done ?_
      refine hK53 _ _ _ ?_
      clear hK53 K52
      refine WC.ret ?_
      refine ⟨_, rfl, congrArg (V.int .i64) ?_, rfl⟩
      rw [hc, cmpL_end hia hib (by simp_all <;> omega)]
      simp_all <;> omega
    · skip
      refine WC.skip ?_
      refine hK48 _ _ _ ?_
      clear hK48 K47
      refine WC.seq_k fun K54 hK55 => ?_
      refine WC.seq_k fun K56 hK57 => ?_
      refine WC.region ?_
      refine wU (gE rfl ?_)
      refine wU (gLen rfl rfl (by rw [lenFits, tslice22]; rfl) ?_)
      refine wU (gE rfl ?_)
      refine wU (gLen rfl rfl (by rw [lenFits, tslice22]; rfl) ?_)
      refine wU (gE rfl ?_)
      refine wOps.done ?_
      refine hK57 _ _ _ ?_
      clear hK57 K56
      refine WC.cond rfl (fun c58 => ?_) (fun c58 => ?_)
      · skip
        refine WC.seq_k fun K59 hK60 => ?_
        refine WC.region ?_
        refine wU (gE rfl ?_)
        refine wOps.done ?_
        refine hK60 _ _ _ ?_
        clear hK60 K59
        refine WC.ret ?_
        refine ⟨_, rfl, congrArg (V.int .i64) ?_, rfl⟩
        rw [hc, cmpL_end hia hib (by simp_all <;> omega)]
        simp_all <;> omega
      · skip
        refine WC.skip ?_
        refine hK55 _ _ _ ?_
        clear hK55 K54
        refine WC.seq_k fun K61 hK62 => ?_
        refine WC.region ?_
        refine wU (gE rfl ?_)
        refine wOps.done ?_
        refine hK62 _ _ _ ?_
        clear hK62 K61
        refine WC.ret ?_
        refine ⟨_, rfl, congrArg (V.int .i64) ?_, rfl⟩
        rw [hc, cmpL_end hia hib (by simp_all <;> omega)]
        simp_all <;> omega
end Go.Proofs.YtfdmdcpopmcmcaaGreatDoor
end

section
namespace Go.Proofs.YtfdmdcpopmcmcaaGreatDoor
open Go.Fw
variable [Gl]
theorem isGo54 : isGo Tryz.prog 54 = true := by kernel_rfl
theorem isGo126 : isGo Tryz.prog 126 = true := by kernel_rfl
theorem tisstr9 : tisstr Tryz.prog 9 = true := by kernel_rfl
theorem tslice31 : tslice Tryz.prog 31 = some 9 := by kernel_rfl
def idxG (x : By) (i : Nat) : List By → Int
  | [] => -1
  | y :: r => if x == y then i else idxG x (i + 1) r
theorem idxG_step {x : By} {l : List By} {i : Nat} (h : i < l.length) : idxG x i (l.drop i) = if x == l[i] then (i : Int) else idxG x (i + 1) (l.drop (i + 1)) := by
  rw [List.drop_eq_getElem_cons h]; rfl
theorem idxG_contains (x : By) : ∀ (l : List By) (i : Nat), 0 ≤ idxG x i l ↔ x ∈ l
  | [], i => by simp [idxG]
  | y :: r, i => by
    have := idxG_contains x r (i + 1)
    simp only [idxG, List.mem_cons]
    by_cases h : x = y
    · subst h; simp
    · have h2 : (x == y) = false := by simpa using h
      simp [h2, h, this]
theorem idx_tri (l : List By) (x : By) (hl : l.length ≤ 4294967295) : PTri Tryz.prog 126 [ssl l, .str x] (.int .i64 (idxG x 0 l)) := by
  unfold ssl
  refine Tri.of_wc Tryz.func126 rfl Tryz.results126 Tryz.ntmps126 (by simp) ?_
  refine WC.seq_k fun K1 hK2 => ?_
  refine WC.region ?_
  refine wU (gE rfl ?_)
  refine wOps.done ?_
  refine hK2 _ _ _ ?_
  clear hK2 K1
  refine WC.seq_k fun K3 hK4 => ?_
  refine WC.seq_k fun K5 hK6 => ?_
  refine WC.region ?_
  refine wU (gE rfl ?_)
  refine wU (gLen rfl rfl (by rw [lenFits, tslice31]; rfl) ?_)
  refine wU (gE rfl ?_)
  refine wOps.done ?_
  refine hK6 _ _ _ ?_
  clear hK6 K5
  refine WC.block ?_
  refine WC.loopI (α := Nat) (fun i => [(0, .fslice (scs l) l.length), (1, .str x), (7, .int .i64 l.length), (8, .int .i64 i)]) (fun _ => []) (fun i => l.length - i) (fun i => i ≤ l.length ∧ idxG x 0 l = idxG x i (l.drop i)) 0 ?_ ?_ ?_ ?_
  · exact sub_cons rfl (sub_cons rfl (sub_cons rfl (sub_cons rfl (sub_nil _))))
  · exact Ent.refl _ _
  · exact ⟨by simp, by simp⟩
  rintro i ⟨hil, hc⟩
  refine WC.seq_k fun K7 hK8 => ?_
  refine WC.region ?_
  refine wU (gE rfl ?_)
  refine wOps.done ?_
  refine hK8 _ _ _ ?_
  clear hK8 K7
  refine WC.seq_k fun K9 hK10 => ?_
  refine WC.cond rfl (fun c11 => ?_) (fun c11 => ?_)
  · skip
    refine WC.skip ?_
    refine hK10 _ _ _ ?_
    clear hK10 K9
    refine WC.seq_k fun K12 hK13 => ?_
    refine WC.block ?_
    refine WC.seq_k fun K14 hK15 => ?_
    refine WC.region ?_
    refine wU (gE rfl ?_)
    refine wU (gE rfl ?_)
    refine wOps.done ?_
    refine hK15 _ _ _ ?_
    clear hK15 K14
    refine WC.seq_k fun K16 hK17 => ?_
    refine WC.region ?_
    refine wU (gE rfl ?_)
    refine wU (gE rfl ?_)
    refine wU (gE rfl ?_)
    have hi : i < l.length := by simpa using c11
    refine wU (gIdxF tslice31 tsz9 rfl rfl (by omega) (by omega) ?_)
    refine wU (gLoadF tagg9 rfl (scs_get hi) ?_)
    refine wU (gE rfl ?_)
    refine wOps.done ?_
    refine hK17 _ _ _ ?_
    clear hK17 K16
    refine WC.cond rfl (fun c18 => ?_) (fun c18 => ?_)
    · skip
      refine WC.seq_k fun K19 hK20 => ?_
      refine WC.region ?_
      refine wU (gE rfl ?_)
      refine wU (gE rfl ?_)
      refine wOps.done ?_
      refine hK20 _ _ _ ?_
      clear hK20 K19
      refine WC.ret ?_
      refine ⟨_, rfl, congrArg (V.int .i64) ?_, rfl⟩
      rw [hc, idxG_step hi]; simp_all
    · skip
      refine WC.skip ?_
      refine hK13 _ _ _ ?_
      clear hK13 K12
      refine WC.region ?_
      refine wU (gE rfl ?_)
      refine wU (gE rfl ?_)
      refine wOps.done ?_
      exact ⟨i + 1, rfl, by omega, ⟨by omega, by rw [hc, idxG_step hi]; simp_all⟩, Ent.sub (sub_cons rfl (sub_cons rfl (sub_cons rfl (sub_cons (int_fit (by omega) (by omega) (by omega)) (sub_nil _)))))⟩
  · skip
    refine WC.exit ?_
    refine hK4 _ _ _ ?_
    clear hK10 K9 hK4 K3
    refine WC.seq_k fun K21 hK22 => ?_
    refine WC.region ?_
    refine wU (gE rfl ?_)
    refine wOps.done ?_
    refine hK22 _ _ _ ?_
    clear hK22 K21
    refine WC.ret ?_
    refine ⟨_, rfl, congrArg (V.int .i64) ?_, rfl⟩
    rw [hc, List.drop_of_length_le (by have := of_decide_eq_false c11; omega)]; rfl
theorem has_tri (l : List By) (x : By) (hl : l.length ≤ 4294967295) : PTri Tryz.prog 95 [ssl l, .str x] (.bool (l.contains x)) := by
  refine Tri.of_wc Tryz.func95 rfl Tryz.results95 Tryz.ntmps95 (by simp) ?_
  refine WC.seq_k fun K1 hK2 => ?_
  refine WC.region ?_
  refine wU (gE rfl ?_)
  refine wOps.done ?_
  refine hK2 _ _ _ ?_
  clear hK2 K1
  refine WC.seq_k fun K3 hK4 => ?_
  refine WC.region ?_
  refine wU (gE rfl ?_)
  refine wU (gE rfl ?_)
  refine wU (gPure rfl isGo126 (idx_tri _ _ hl) ?_)
  refine wU (gE rfl ?_)
  refine wU (gE rfl ?_)
  refine wOps.done ?_
  refine hK4 _ _ _ ?_
  clear hK4 K3
  refine WC.ret ?_
  exact ⟨_, rfl, by simp [idxG_contains], rfl⟩
def bigL (p : Lb) : Bool := decide (61 < p.1.length) || decide (201 < p.2.length)
def greatL (l : List Lb) : Bool := l.any bigL || decide (17 < l.length)
theorem any_step {α : Type} {f : α → Bool} {l : List α} {i : Nat} (h : i < l.length) : (l.drop i).any f = (f l[i] || (l.drop (i + 1)).any f) := by
  rw [List.drop_eq_getElem_cons h]; rfl
theorem great_tri (l : List Lb) (hl : l.length ≤ 4294967295) : PTri Tryz.prog 8 [lsl l] (.bool (greatL l)) := by
  unfold lsl
  refine Tri.of_wc Tryz.func8 rfl Tryz.results8 Tryz.ntmps8 (by simp) ?_
  refine WC.seq_k fun K1 hK2 => ?_
  refine WC.region ?_
  refine wU (gE rfl ?_)
  refine wOps.done ?_
  refine hK2 _ _ _ ?_
  clear hK2 K1
  refine WC.seq_k fun K3 hK4 => ?_
  refine WC.seq_k fun K5 hK6 => ?_
  refine WC.region ?_
  refine wU (gE rfl ?_)
  refine wOps.done ?_
  refine hK6 _ _ _ ?_
  clear hK6 K5
  refine WC.block ?_
  refine WC.loopI (α := Nat) (fun i => [(0, .fslice (lcs l) l.length), (3, .int .i64 i)]) (fun _ => []) (fun i => l.length - i) (fun i => i ≤ l.length ∧ l.any bigL = (l.drop i).any bigL) 0 ?_ ?_ ?_ ?_
  · exact sub_cons rfl (sub_cons rfl (sub_nil _))
  · exact Ent.refl _ _
  · exact ⟨by simp, by simp⟩
  rintro i ⟨hil, hc⟩
  refine WC.seq_k fun K7 hK8 => ?_
  refine WC.seq_k fun K9 hK10 => ?_
  refine WC.region ?_
  refine wU (gE rfl ?_)
  refine wU (gE rfl ?_)
  refine wU (gLen rfl rfl (by rw [lenFits, tslice22]; rfl) ?_)
  refine wU (gE rfl ?_)
  refine wOps.done ?_
  refine hK10 _ _ _ ?_
  clear hK10 K9
  refine WC.cond rfl (fun c11 => ?_) (fun c11 => ?_)
  · skip
    refine WC.skip ?_
    refine hK8 _ _ _ ?_
    clear hK8 K7
    refine WC.seq_k fun K12 hK13 => ?_
    refine WC.block ?_
    refine WC.seq_k fun K14 hK15 => ?_
    refine WC.region ?_
    refine wU (gE rfl ?_)
    refine wU (gE rfl ?_)
    have hi : i < l.length := by simpa using c11
    refine wU (gIdxF tslice22 tsz51 rfl rfl (by omega) (by omega) ?_)
    refine wU (gFieldF tfld51_0 tsz9 rfl ?_)
    refine wU (gLoadF tagg9 rfl (lcs_fst hi) ?_)
    refine wU (gLen rfl rfl tisstr9 ?_)
    refine wU (gE rfl ?_)
    refine wU (gE rfl ?_)
    refine wG rfl rfl rfl rfl (by decide) (fun c16 => ?_) (fun c16 => ?_)
    · skip
      refine gE rfl ?_
      refine wY rfl (gE rfl ?_)
      refine wY rfl (gIdxF tslice22 tsz51 rfl rfl (by omega) (by omega) ?_)
      refine wY rfl (gFieldF tfld51_1 tsz9 rfl ?_)
      refine wY rfl (gLoadF tagg9 rfl (lcs_snd hi) ?_)
      refine wY rfl (gLen rfl rfl tisstr9 ?_)
      refine wY rfl (gE rfl ?_)
      refine wU (gE rfl ?_)
      refine wOps.done ?_
      refine hK15 _ _ _ ?_
      clear hK15 K14
      refine WC.cond rfl (fun c17 => ?_) (fun c17 => ?_)
      · skip
        refine WC.seq_k fun K18 hK19 => ?_
        refine WC.region ?_
        refine wU (gE rfl ?_)
        refine wOps.done ?_
        refine hK19 _ _ _ ?_
        clear hK19 K18
        refine WC.ret ?_
        refine ⟨_, rfl, congrArg V.bool ?_, rfl⟩
        simp only [greatL]; rw [hc, any_step hi]; simp_all [bigL] <;> omega
      · skip
        refine WC.skip ?_
        refine hK13 _ _ _ ?_
        clear hK13 K12
        refine WC.region ?_
        refine wU (gE rfl ?_)
        refine wU (gE rfl ?_)
        refine wU (gE rfl ?_)
        refine wOps.done ?_
        exact ⟨i + 1, rfl, by omega, ⟨by omega, by rw [hc, any_step hi]; simp_all [bigL] <;> omega⟩, Ent.sub (sub_cons rfl (sub_cons (int_fit (by omega) (by omega) (by omega)) (sub_nil _)))⟩
    · skip
      refine wN rfl ?_
      refine wN rfl ?_
      refine wN rfl ?_
      refine wN rfl ?_
      refine wN rfl ?_
      refine wN rfl ?_
      refine wU (gE rfl ?_)
      refine wOps.done ?_
      refine hK15 _ _ _ ?_
      clear hK15 K14
      first | refine WC.cond (b := true) rfl (fun _ => ?_) (fun hh => by simp at hh) | refine WC.cond rfl (fun _ => ?_) (fun hh => by simp_all)
      refine WC.seq_k fun K20 hK21 => ?_
      refine WC.region ?_
      refine wU (gE rfl ?_)
      refine wOps.done ?_
      refine hK21 _ _ _ ?_
      clear hK21 K20
      refine WC.ret ?_
      refine ⟨_, rfl, congrArg V.bool ?_, rfl⟩
      simp only [greatL]; rw [hc, any_step hi]; simp_all [bigL] <;> omega
  · skip
    refine WC.exit ?_
    refine hK4 _ _ _ ?_
    clear hK8 K7 hK4 K3
    refine WC.seq_k fun K22 hK23 => ?_
    refine WC.region ?_
    refine wU (gE rfl ?_)
    refine wU (gLen rfl rfl (by rw [lenFits, tslice22]; rfl) ?_)
    refine wU (gE rfl ?_)
    refine wU (gE rfl ?_)
    refine wOps.done ?_
    refine hK23 _ _ _ ?_
    clear hK23 K22
    refine WC.ret ?_
    refine ⟨_, rfl, congrArg V.bool ?_, rfl⟩
    simp only [greatL]; rw [hc, List.drop_of_length_le (by have := of_decide_eq_false c11; omega)]; simp; omega
theorem same_tri (a b : List Lb) (hl : a.length ≤ 4294967295) : PTri Tryz.prog 17 [lsl a, lsl b] (.bool (cmpL a b == 0)) := by
  refine Tri.of_wc Tryz.func17 rfl Tryz.results17 Tryz.ntmps17 (by simp) ?_
  refine WC.seq_k fun K1 hK2 => ?_
  refine WC.region ?_
  refine wU (gE rfl ?_)
  refine wOps.done ?_
  refine hK2 _ _ _ ?_
  clear hK2 K1
  refine WC.seq_k fun K3 hK4 => ?_
  refine WC.region ?_
  refine wU (gE rfl ?_)
  refine wU (gE rfl ?_)
  refine wU (gPure rfl isGo54 (cmpL_tri _ _ hl) ?_)
  refine wU (gE rfl ?_)
  refine wU (gE rfl ?_)
  refine wOps.done ?_
  refine hK4 _ _ _ ?_
  clear hK4 K3
  refine WC.ret ?_
  exact ⟨_, rfl, rfl, rfl⟩
theorem beq_step {a b : List By} {i : Nat} (h1 : i < a.length) (h2 : i < b.length) : (a.drop i == b.drop i) = ((a[i] == b[i]) && (a.drop (i + 1) == b.drop (i + 1))) := by
  rw [List.drop_eq_getElem_cons h1, List.drop_eq_getElem_cons h2]; rfl
theorem sameS_tri (a b : List By) (hl : a.length ≤ 4294967295) : PTri Tryz.prog 14 [ssl a, ssl b] (.bool (a == b)) := by
  unfold ssl
  refine Tri.of_wc Tryz.func14 rfl Tryz.results14 Tryz.ntmps14 (by simp) ?_
  refine WC.seq_k fun K1 hK2 => ?_
  refine WC.region ?_
  refine wU (gE rfl ?_)
  refine wOps.done ?_
  refine hK2 _ _ _ ?_
  clear hK2 K1
  refine WC.seq_k fun K3 hK4 => ?_
  refine WC.seq_k fun K5 hK6 => ?_
  refine WC.region ?_
  refine wU (gE rfl ?_)
  refine wU (gLen rfl rfl (by rw [lenFits, tslice31]; rfl) ?_)
  refine wU (gE rfl ?_)
  refine wU (gLen rfl rfl (by rw [lenFits, tslice31]; rfl) ?_)
  refine wU (gE rfl ?_)
  refine wOps.done ?_
  refine hK6 _ _ _ ?_
  clear hK6 K5
  refine WC.cond rfl (fun c7 => ?_) (fun c7 => ?_)
  · skip
    refine WC.seq_k fun K8 hK9 => ?_
    refine WC.region ?_
    refine wU (gE rfl ?_)
    refine wOps.done ?_
    refine hK9 _ _ _ ?_
    clear hK9 K8
    refine WC.ret ?_
    refine ⟨_, rfl, congrArg V.bool ?_, rfl⟩
    first | (rw [hc, List.drop_of_length_le (by have := of_decide_eq_false c7; omega), List.drop_of_length_le (by have := of_decide_eq_false c7; omega)]; rfl) | (have hne : a ≠ b := (by rintro rfl; simp at c7); simp [hne])
  · skip
    refine WC.skip ?_
    refine hK4 _ _ _ ?_
    clear hK4 K3
    refine WC.seq_k fun K10 hK11 => ?_
    refine WC.seq_k fun K12 hK13 => ?_
    refine WC.region ?_
    refine wU (gE rfl ?_)
    refine wOps.done ?_
    refine hK13 _ _ _ ?_
    clear hK13 K12
    refine WC.block ?_
    have hab : a.length = b.length := by have := of_decide_eq_true (by simpa using c7 : decide ((a.length : Int) = b.length) = true); omega
    refine WC.loopI (α := Nat) (fun i => [(0, .fslice (scs a) a.length), (1, .fslice (scs b) b.length), (5, .int .i64 i)]) (fun _ => []) (fun i => a.length - i) (fun i => i ≤ a.length ∧ (a == b) = (a.drop i == b.drop i)) 0 ?_ ?_ ?_ ?_
    · exact sub_cons rfl (sub_cons rfl (sub_cons rfl (sub_nil _)))
    · exact Ent.refl _ _
    · exact ⟨by simp, by simp⟩
    rintro i ⟨hil, hc⟩
    refine WC.seq_k fun K14 hK15 => ?_
    refine WC.seq_k fun K16 hK17 => ?_
    refine WC.region ?_
    refine wU (gE rfl ?_)
    refine wU (gE rfl ?_)
    refine wU (gLen rfl rfl (by rw [lenFits, tslice31]; rfl) ?_)
    refine wU (gE rfl ?_)
    refine wOps.done ?_
    refine hK17 _ _ _ ?_
    clear hK17 K16
    refine WC.cond rfl (fun c18 => ?_) (fun c18 => ?_)
    · skip
      refine WC.skip ?_
      refine hK15 _ _ _ ?_
      clear hK15 K14
      refine WC.seq_k fun K19 hK20 => ?_
      refine WC.block ?_
      refine WC.seq_k fun K21 hK22 => ?_
      refine WC.region_draw mixed ?_
      refine wA.val 0 rfl rfl rfl (fun _ _ hK => gE rfl hK) (by kernel_rfl) ?_
      refine wA.val 1 rfl rfl rfl (fun _ _ hK => gE rfl hK) (by kernel_rfl) ?_
      have h1 : i < a.length := by simpa using c18
      have h2 : i < b.length := by omega
      refine wA.val 2 rfl rfl rfl (fun _ _ hK => gIdxF tslice31 tsz9 rfl rfl (by omega) (by omega) hK) (by kernel_rfl) ?_
      refine wA.val 3 rfl rfl rfl (fun _ _ hK => gLoadF tagg9 rfl (scs_get h1) hK) (by kernel_rfl) ?_
      refine wA.val 4 rfl rfl rfl (fun _ _ hK => gE rfl hK) (by kernel_rfl) ?_
      refine wA.val 5 rfl rfl rfl (fun _ _ hK => gE rfl hK) (by kernel_rfl) ?_
      refine wA.val 6 rfl rfl rfl (fun _ _ hK => gIdxF tslice31 tsz9 rfl rfl (by omega) (by omega) hK) (by kernel_rfl) ?_
      refine wA.val 7 rfl rfl rfl (fun _ _ hK => gLoadF tagg9 rfl (scs_get h2) hK) (by kernel_rfl) ?_
      refine wA.val 8 rfl rfl rfl (fun _ _ hK => gE rfl hK) (by kernel_rfl) ?_
      refine wA.done (by kernel_rfl) ?_
      refine hK22 _ _ _ ?_
      clear hK22 K21
      refine WC.cond rfl (fun c23 => ?_) (fun c23 => ?_)
      · skip
        refine WC.seq_k fun K24 hK25 => ?_
        refine WC.region ?_
        refine wU (gE rfl ?_)
        refine wOps.done ?_
        refine hK25 _ _ _ ?_
        clear hK25 K24
        refine WC.ret ?_
        refine ⟨_, rfl, congrArg V.bool ?_, rfl⟩
        rw [hc, beq_step h1 h2]; simp_all
      · skip
        refine WC.skip ?_
        refine hK20 _ _ _ ?_
        clear hK20 K19
        refine WC.region ?_
        refine wU (gE rfl ?_)
        refine wU (gE rfl ?_)
        refine wU (gE rfl ?_)
        refine wOps.done ?_
        exact ⟨i + 1, rfl, by omega, ⟨by omega, by rw [hc, beq_step h1 h2]; simp_all⟩, Ent.sub (sub_cons rfl (sub_cons rfl (sub_cons (int_fit (by omega) (by omega) (by omega)) (sub_nil _))))⟩
    · skip
      refine WC.exit ?_
      refine hK11 _ _ _ ?_
      clear hK15 K14 hK11 K10
      refine WC.seq_k fun K26 hK27 => ?_
      refine WC.region ?_
      refine wU (gE rfl ?_)
      refine wOps.done ?_
      refine hK27 _ _ _ ?_
      clear hK27 K26
      refine WC.ret ?_
      refine ⟨_, rfl, congrArg V.bool ?_, rfl⟩
      first | (rw [hc, List.drop_of_length_le (by have := of_decide_eq_false c18; omega), List.drop_of_length_le (by have := of_decide_eq_false c18; omega)]; rfl) | (have hne : a ≠ b := (by rintro rfl; simp at c18); simp [hne])
end Go.Proofs.YtfdmdcpopmcmcaaGreatDoor
end

section
namespace Go.Proofs.YtfdmdcpopmcmcaaGreatDoor
open Go.Fw
variable [Gl]
theorem isGo75 : isGo Tryz.prog 75 = true := by kernel_rfl
theorem isGo108 : isGo Tryz.prog 108 = true := by kernel_rfl
theorem tagg51 : tagg Tryz.prog 51 = some true := by kernel_rfl
theorem tzero51 : tzero Tryz.prog 51 = some [.str [], .str []] := by kernel_rfl
def isNB (c : Int) : Bool := (decide (97 ≤ c) && decide (c ≤ 122)) || (decide (65 ≤ c) && decide (c ≤ 90)) || (decide (48 ≤ c) && decide (c ≤ 57)) || c == 95
theorem isNB_tri (c : Int) : PTri Tryz.prog 108 [.int .u8 c] (.bool (isNB c)) := by
  refine Tri.of_wc Tryz.func108 rfl Tryz.results108 Tryz.ntmps108 (by simp) ?_
  refine WC.seq_k fun K1 hK2 => ?_
  refine WC.region ?_
  refine wU (gE rfl ?_)
  refine wOps.done ?_
  refine hK2 _ _ _ ?_
  clear hK2 K1
  refine WC.seq_k fun K3 hK4 => ?_
  refine WC.region ?_
  refine wU (gE rfl ?_)
  refine wU (gE rfl ?_)
  refine wU (gE rfl ?_)
  refine wG rfl rfl rfl rfl (by decide) (fun c5 => ?_) (fun c5 => ?_)
  · skip
    refine gE rfl ?_
    refine wY rfl (gE rfl ?_)
    refine wU (gE rfl ?_)
    refine wU (gE rfl ?_)
    refine wG rfl rfl rfl rfl (by decide) (fun c6 => ?_) (fun c6 => ?_)
    · skip
      refine gE rfl ?_
      refine wY rfl (gE rfl ?_)
      refine wY rfl (gE rfl ?_)
      refine wG rfl rfl rfl rfl (by decide) (fun c7 => ?_) (fun c7 => ?_)
      · skip
        refine gE rfl ?_
        refine wY rfl (gE rfl ?_)
        refine wY rfl (gE rfl ?_)
        refine wU (gE rfl ?_)
        refine wU (gE rfl ?_)
        refine wG rfl rfl rfl rfl (by decide) (fun c8 => ?_) (fun c8 => ?_)
        · skip
          refine gE rfl ?_
          refine wY rfl (gE rfl ?_)
          refine wY rfl (gE rfl ?_)
          refine wG rfl rfl rfl rfl (by decide) (fun c9 => ?_) (fun c9 => ?_)
          · skip
            refine gE rfl ?_
            refine wY rfl (gE rfl ?_)
            refine wY rfl (gE rfl ?_)
            refine wU (gE rfl ?_)
            refine wU (gE rfl ?_)
            refine wG rfl rfl rfl rfl (by decide) (fun c10 => ?_) (fun c10 => ?_)
            · skip
              refine gE rfl ?_
              refine wY rfl (gE rfl ?_)
              refine wU (gE rfl ?_)
              refine wU (gE rfl ?_)
              refine wOps.done ?_
              refine hK4 _ _ _ ?_
              clear hK4 K3
              refine WC.ret ?_
              exact ⟨_, rfl, by simp_all [isNB] <;> omega, rfl⟩
            · skip
              refine wN rfl ?_
              refine wU (gE rfl ?_)
              refine wU (gE rfl ?_)
              refine wOps.done ?_
              refine hK4 _ _ _ ?_
              clear hK4 K3
              refine WC.ret ?_
              exact ⟨_, rfl, by simp_all [isNB] <;> omega, rfl⟩
          · skip
            refine wN rfl ?_
            refine wY rfl (gE rfl ?_)
            refine wU (gE rfl ?_)
            refine wU (gE rfl ?_)
            refine wY rfl (gE rfl ?_)
            refine wY rfl (gE rfl ?_)
            refine wU (gE rfl ?_)
            refine wU (gE rfl ?_)
            refine wOps.done ?_
            refine hK4 _ _ _ ?_
            clear hK4 K3
            refine WC.ret ?_
            exact ⟨_, rfl, by simp_all [isNB] <;> omega, rfl⟩
        · skip
          refine wN rfl ?_
          refine wN rfl ?_
          refine wZ rfl ?_
          refine wZ rfl ?_
          refine wN rfl ?_
          refine wU (gE rfl ?_)
          refine wU (gE rfl ?_)
          refine wN rfl ?_
          refine wN rfl ?_
          refine wU (gE rfl ?_)
          refine wU (gE rfl ?_)
          refine wOps.done ?_
          refine hK4 _ _ _ ?_
          clear hK4 K3
          refine WC.ret ?_
          exact ⟨_, rfl, by simp_all [isNB] <;> omega, rfl⟩
      · skip
        refine wN rfl ?_
        refine wY rfl (gE rfl ?_)
        refine wU (gE rfl ?_)
        refine wU (gE rfl ?_)
        refine wY rfl (gE rfl ?_)
        refine wY rfl (gE rfl ?_)
        refine wY rfl (gE rfl ?_)
        refine wG rfl rfl rfl rfl (by decide) (fun c11 => ?_) (fun c11 => ?_)
        · skip
          refine gE rfl ?_
          refine wY rfl (gE rfl ?_)
          refine wY rfl (gE rfl ?_)
          refine wU (gE rfl ?_)
          refine wU (gE rfl ?_)
          refine wG rfl rfl rfl rfl (by decide) (fun c12 => ?_) (fun c12 => ?_)
          · skip
            refine gE rfl ?_
            refine wY rfl (gE rfl ?_)
            refine wU (gE rfl ?_)
            refine wU (gE rfl ?_)
            refine wOps.done ?_
            refine hK4 _ _ _ ?_
            clear hK4 K3
            refine WC.ret ?_
            exact ⟨_, rfl, by simp_all [isNB] <;> omega, rfl⟩
          · skip
            refine wN rfl ?_
            refine wU (gE rfl ?_)
            refine wU (gE rfl ?_)
            refine wOps.done ?_
            refine hK4 _ _ _ ?_
            clear hK4 K3
            refine WC.ret ?_
            exact ⟨_, rfl, by simp_all [isNB] <;> omega, rfl⟩
        · skip
          refine wN rfl ?_
          refine wY rfl (gE rfl ?_)
          refine wU (gE rfl ?_)
          refine wU (gE rfl ?_)
          refine wY rfl (gE rfl ?_)
          refine wY rfl (gE rfl ?_)
          refine wU (gE rfl ?_)
          refine wU (gE rfl ?_)
          refine wOps.done ?_
          refine hK4 _ _ _ ?_
          clear hK4 K3
          refine WC.ret ?_
          exact ⟨_, rfl, by simp_all [isNB] <;> omega, rfl⟩
    · skip
      refine wN rfl ?_
      refine wN rfl ?_
      refine wZ rfl ?_
      refine wZ rfl ?_
      refine wN rfl ?_
      refine wU (gE rfl ?_)
      refine wU (gE rfl ?_)
      refine wN rfl ?_
      refine wN rfl ?_
      refine wN rfl ?_
      refine wZ rfl ?_
      refine wZ rfl ?_
      refine wN rfl ?_
      refine wU (gE rfl ?_)
      refine wU (gE rfl ?_)
      refine wN rfl ?_
      refine wN rfl ?_
      refine wU (gE rfl ?_)
      refine wU (gE rfl ?_)
      refine wOps.done ?_
      refine hK4 _ _ _ ?_
      clear hK4 K3
      refine WC.ret ?_
      exact ⟨_, rfl, by simp_all [isNB] <;> omega, rfl⟩
  · skip
    refine wN rfl ?_
    refine wU (gE rfl ?_)
    refine wU (gE rfl ?_)
    refine wY rfl (gE rfl ?_)
    refine wY rfl (gE rfl ?_)
    refine wY rfl (gE rfl ?_)
    refine wG rfl rfl rfl rfl (by decide) (fun c13 => ?_) (fun c13 => ?_)
    · skip
      refine gE rfl ?_
      refine wY rfl (gE rfl ?_)
      refine wY rfl (gE rfl ?_)
      refine wU (gE rfl ?_)
      refine wU (gE rfl ?_)
      refine wG rfl rfl rfl rfl (by decide) (fun c14 => ?_) (fun c14 => ?_)
      · skip
        refine gE rfl ?_
        refine wY rfl (gE rfl ?_)
        refine wY rfl (gE rfl ?_)
        refine wG rfl rfl rfl rfl (by decide) (fun c15 => ?_) (fun c15 => ?_)
        · skip
          refine gE rfl ?_
          refine wY rfl (gE rfl ?_)
          refine wY rfl (gE rfl ?_)
          refine wU (gE rfl ?_)
          refine wU (gE rfl ?_)
          refine wG rfl rfl rfl rfl (by decide) (fun c16 => ?_) (fun c16 => ?_)
          · skip
            refine gE rfl ?_
            refine wY rfl (gE rfl ?_)
            refine wU (gE rfl ?_)
            refine wU (gE rfl ?_)
            refine wOps.done ?_
            refine hK4 _ _ _ ?_
            clear hK4 K3
            refine WC.ret ?_
            exact ⟨_, rfl, by simp_all [isNB] <;> omega, rfl⟩
          · skip
            refine wN rfl ?_
            refine wU (gE rfl ?_)
            refine wU (gE rfl ?_)
            refine wOps.done ?_
            refine hK4 _ _ _ ?_
            clear hK4 K3
            refine WC.ret ?_
            exact ⟨_, rfl, by simp_all [isNB] <;> omega, rfl⟩
        · skip
          refine wN rfl ?_
          refine wY rfl (gE rfl ?_)
          refine wU (gE rfl ?_)
          refine wU (gE rfl ?_)
          refine wY rfl (gE rfl ?_)
          refine wY rfl (gE rfl ?_)
          refine wU (gE rfl ?_)
          refine wU (gE rfl ?_)
          refine wOps.done ?_
          refine hK4 _ _ _ ?_
          clear hK4 K3
          refine WC.ret ?_
          exact ⟨_, rfl, by simp_all [isNB] <;> omega, rfl⟩
      · skip
        refine wN rfl ?_
        refine wN rfl ?_
        refine wZ rfl ?_
        refine wZ rfl ?_
        refine wN rfl ?_
        refine wU (gE rfl ?_)
        refine wU (gE rfl ?_)
        refine wN rfl ?_
        refine wN rfl ?_
        refine wU (gE rfl ?_)
        refine wU (gE rfl ?_)
        refine wOps.done ?_
        refine hK4 _ _ _ ?_
        clear hK4 K3
        refine WC.ret ?_
        exact ⟨_, rfl, by simp_all [isNB] <;> omega, rfl⟩
    · skip
      refine wN rfl ?_
      refine wY rfl (gE rfl ?_)
      refine wU (gE rfl ?_)
      refine wU (gE rfl ?_)
      refine wY rfl (gE rfl ?_)
      refine wY rfl (gE rfl ?_)
      refine wY rfl (gE rfl ?_)
      refine wG rfl rfl rfl rfl (by decide) (fun c17 => ?_) (fun c17 => ?_)
      · skip
        refine gE rfl ?_
        refine wY rfl (gE rfl ?_)
        refine wY rfl (gE rfl ?_)
        refine wU (gE rfl ?_)
        refine wU (gE rfl ?_)
        refine wG rfl rfl rfl rfl (by decide) (fun c18 => ?_) (fun c18 => ?_)
        · skip
          refine gE rfl ?_
          refine wY rfl (gE rfl ?_)
          refine wU (gE rfl ?_)
          refine wU (gE rfl ?_)
          refine wOps.done ?_
          refine hK4 _ _ _ ?_
          clear hK4 K3
          refine WC.ret ?_
          exact ⟨_, rfl, by simp_all [isNB] <;> omega, rfl⟩
        · skip
          refine wN rfl ?_
          refine wU (gE rfl ?_)
          refine wU (gE rfl ?_)
          refine wOps.done ?_
          refine hK4 _ _ _ ?_
          clear hK4 K3
          refine WC.ret ?_
          exact ⟨_, rfl, by simp_all [isNB] <;> omega, rfl⟩
      · skip
        refine wN rfl ?_
        refine wY rfl (gE rfl ?_)
        refine wU (gE rfl ?_)
        refine wU (gE rfl ?_)
        refine wY rfl (gE rfl ?_)
        refine wY rfl (gE rfl ?_)
        refine wU (gE rfl ?_)
        refine wU (gE rfl ?_)
        refine wOps.done ?_
        refine hK4 _ _ _ ?_
        clear hK4 K3
        refine WC.ret ?_
        exact ⟨_, rfl, by simp_all [isNB] <;> omega, rfl⟩
def isNm (s : List UInt8) : Bool := decide (1 ≤ s.length) && decide (s.length ≤ 60) && !(match s with | [] => false | c :: _ => decide (48 ≤ (c.toNat : Int)) && decide ((c.toNat : Int) ≤ 57)) && s.all fun c => isNB c.toNat
theorem isNm_tri (s : List UInt8) : PTri Tryz.prog 75 [.str s] (.bool (isNm s)) := by
  refine Tri.of_wc Tryz.func75 rfl Tryz.results75 Tryz.ntmps75 (by simp) ?_
  refine WC.seq_k fun K1 hK2 => ?_
  refine WC.region ?_
  refine wU (gE rfl ?_)
  refine wOps.done ?_
  refine hK2 _ _ _ ?_
  clear hK2 K1
  refine WC.seq_cut (α := Unit) (fun _ => [(0, .str s)]) (fun _ => []) (fun _ => 1 ≤ s.length ∧ s.length ≤ 60 ∧ (match s with | [] => false | c :: _ => decide (48 ≤ (c.toNat : Int)) && decide ((c.toNat : Int) ≤ 57)) = false) ?_ ?_
  · skip
    refine WC.seq_k fun K3 hK4 => ?_
    refine WC.region ?_
    refine wU (gE rfl ?_)
    refine wU (gLen rfl rfl tisstr9 ?_)
    refine wU (gE rfl ?_)
    refine wU (gE rfl ?_)
    refine wG rfl rfl rfl rfl (by decide) (fun c5 => ?_) (fun c5 => ?_)
    · skip
      refine gE rfl ?_
      refine wY rfl (gLen rfl rfl tisstr9 ?_)
      refine wY rfl (gE rfl ?_)
      refine wU (gE rfl ?_)
      refine wU (gE rfl ?_)
      refine wG rfl rfl rfl rfl (by decide) (fun c6 => ?_) (fun c6 => ?_)
      · skip
        refine gE rfl ?_
        obtain ⟨c, r, rfl⟩ : ∃ c r, s = c :: r := by cases s with | nil => simp_all | cons c r => exact ⟨c, r, rfl⟩
        refine wY rfl (gIdxStr tisstr9 rfl rfl (by omega) rfl ?_)
        refine wY rfl (gE rfl ?_)
        refine wY rfl (gE rfl ?_)
        refine wG rfl rfl rfl rfl (by decide) (fun c7 => ?_) (fun c7 => ?_)
        · skip
          refine gE rfl ?_
          refine wY rfl (gIdxStr tisstr9 rfl rfl (by omega) rfl ?_)
          refine wY rfl (gE rfl ?_)
          refine wY rfl (gE rfl ?_)
          refine wU (gE rfl ?_)
          refine wOps.done ?_
          refine hK4 _ _ _ ?_
          clear hK4 K3
          refine WC.cond rfl (fun c8 => ?_) (fun c8 => ?_)
          · skip
            refine WC.seq_k fun K9 hK10 => ?_
            refine WC.region ?_
            refine wU (gE rfl ?_)
            refine wOps.done ?_
            refine hK10 _ _ _ ?_
            clear hK10 K9
            refine WC.ret ?_
            refine ⟨_, rfl, congrArg V.bool ?_, rfl⟩
            simp_all [isNm] <;> omega
          · skip
            refine WC.skip ?_
            exact ⟨(), rfl, by simp_all <;> omega, Ent.sub (sub_cons rfl (sub_nil _))⟩
        · skip
          refine wN rfl ?_
          refine wN rfl ?_
          refine wY rfl (gE rfl ?_)
          refine wU (gE rfl ?_)
          refine wOps.done ?_
          refine hK4 _ _ _ ?_
          clear hK4 K3
          first | refine WC.cond (b := false) rfl (fun hh => by simp at hh) (fun _ => ?_) | refine WC.cond rfl (fun hh => by simp_all) (fun _ => ?_)
          refine WC.skip ?_
          exact ⟨(), rfl, by simp_all <;> omega, Ent.sub (sub_cons rfl (sub_nil _))⟩
      · skip
        refine wN rfl ?_
        refine wN rfl ?_
        refine wN rfl ?_
        refine wZ rfl ?_
        refine wZ rfl ?_
        refine wZ rfl ?_
        refine wN rfl ?_
        refine wU (gE rfl ?_)
        refine wOps.done ?_
        refine hK4 _ _ _ ?_
        clear hK4 K3
        first | refine WC.cond (b := true) rfl (fun _ => ?_) (fun hh => by simp at hh) | refine WC.cond rfl (fun _ => ?_) (fun hh => by simp_all)
        refine WC.seq_k fun K11 hK12 => ?_
        refine WC.region ?_
        refine wU (gE rfl ?_)
        refine wOps.done ?_
        refine hK12 _ _ _ ?_
        clear hK12 K11
        refine WC.ret ?_
        refine ⟨_, rfl, congrArg V.bool ?_, rfl⟩
        simp_all [isNm] <;> omega
    · skip
      refine wN rfl ?_
      refine wN rfl ?_
      refine wU (gE rfl ?_)
      refine wU (gE rfl ?_)
      refine wN rfl ?_
      refine wN rfl ?_
      refine wN rfl ?_
      refine wN rfl ?_
      refine wZ rfl ?_
      refine wZ rfl ?_
      refine wZ rfl ?_
      refine wN rfl ?_
      refine wU (gE rfl ?_)
      refine wOps.done ?_
      refine hK4 _ _ _ ?_
      clear hK4 K3
      first | refine WC.cond (b := true) rfl (fun _ => ?_) (fun hh => by simp at hh) | refine WC.cond rfl (fun _ => ?_) (fun hh => by simp_all)
      refine WC.seq_k fun K13 hK14 => ?_
      refine WC.region ?_
      refine wU (gE rfl ?_)
      refine wOps.done ?_
      refine hK14 _ _ _ ?_
      clear hK14 K13
      refine WC.ret ?_
      refine ⟨_, rfl, congrArg V.bool ?_, rfl⟩
      simp_all [isNm] <;> omega
  rintro ⟨⟩ ⟨hs1, hs2, hs3⟩
  refine WC.seq_k fun K15 hK16 => ?_
  refine WC.seq_k fun K17 hK18 => ?_
  refine WC.region ?_
  refine wU (gE rfl ?_)
  refine wOps.done ?_
  refine hK18 _ _ _ ?_
  clear hK18 K17
  refine WC.block ?_
  refine WC.loopI (fun k : Nat => [(0, .str s), (3, .int .i64 k)]) (fun _ => []) (fun k => s.length - k) (fun k => k ≤ s.length ∧ s.length ≤ 60 ∧ (s.take k).all (fun c => isNB c.toNat) = true) 0 ?_ ?_ ?_ ?_
  · exact sub_cons rfl (sub_cons rfl (sub_nil _))
  · exact Ent.refl _ _
  · exact ⟨Nat.zero_le _, hs2, by simp⟩
  rintro k ⟨hk1, hk2, hk4⟩
  refine WC.seq_k fun K19 hK20 => ?_
  refine WC.seq_k fun K21 hK22 => ?_
  refine WC.region ?_
  refine wU (gE rfl ?_)
  refine wU (gE rfl ?_)
  refine wU (gLen rfl rfl tisstr9 ?_)
  refine wU (gE rfl ?_)
  refine wOps.done ?_
  refine hK22 _ _ _ ?_
  clear hK22 K21
  refine WC.cond rfl (fun c23 => ?_) (fun c23 => ?_)
  · skip
    refine WC.skip ?_
    refine hK20 _ _ _ ?_
    clear hK20 K19
    refine WC.seq_k fun K24 hK25 => ?_
    refine WC.block ?_
    refine WC.seq_k fun K26 hK27 => ?_
    refine WC.region ?_
    refine wU (gE rfl ?_)
    refine wU (gE rfl ?_)
    have hk3 : k < s.length := by simpa using c23
    refine wU (gIdxStr tisstr9 rfl rfl (by omega) (str_at hk3) ?_)
    refine wU (gPure rfl isGo108 (isNB_tri _) ?_)
    refine wU (gE rfl ?_)
    refine wOps.done ?_
    refine hK27 _ _ _ ?_
    clear hK27 K26
    refine WC.cond rfl (fun c28 => ?_) (fun c28 => ?_)
    · skip
      refine WC.seq_k fun K29 hK30 => ?_
      refine WC.region ?_
      refine wU (gE rfl ?_)
      refine wOps.done ?_
      refine hK30 _ _ _ ?_
      clear hK30 K29
      refine WC.ret ?_
      refine ⟨_, rfl, congrArg V.bool ?_, rfl⟩
      symm
      simp only [isNm, Bool.and_eq_false_iff]; right; rw [List.all_eq_false]; exact ⟨s[k], List.getElem_mem _, by simpa using c28⟩
    · skip
      refine WC.skip ?_
      refine hK25 _ _ _ ?_
      clear hK25 K24
      refine WC.region ?_
      refine wU (gE rfl ?_)
      refine wU (gE rfl ?_)
      refine wU (gE rfl ?_)
      refine wOps.done ?_
      have hx : isNB (s[k].toNat) = true := by simpa using c28
      exact ⟨k + 1, rfl, by omega, ⟨by omega, hs2, by rw [List.take_succ_eq_append_getElem hk3, List.all_append, hk4]; simpa using hx⟩, Ent.sub (sub_cons rfl (sub_cons (int_fit (by omega) (by omega) (by omega)) (sub_nil _)))⟩
  · skip
    refine WC.exit ?_
    refine hK16 _ _ _ ?_
    clear hK20 K19 hK16 K15
    refine WC.seq_k fun K31 hK32 => ?_
    refine WC.region ?_
    refine wU (gE rfl ?_)
    refine wOps.done ?_
    refine hK32 _ _ _ ?_
    clear hK32 K31
    refine WC.ret ?_
    refine ⟨_, rfl, congrArg V.bool ?_, rfl⟩
    have hx : k = s.length := by have := of_decide_eq_false c23; omega
    rw [hx, List.take_length] at hk4
    simp only [isNm, hk4, hs3]; simp [hs1, hs2]
theorem lcs_pair {l : List Lb} {i : Nat} (h : i < l.length) : ((lcs l).drop (((i : Nat) : Int).toNat * 2)).take 2 = [.str l[i].1, .str l[i].2] := by
  have h1 := (lcs_at l i h).1
  have h2 := (lcs_at l i h).2
  simp only [Int.toNat_natCast]
  rw [List.getElem?_eq_some_iff] at h1 h2
  obtain ⟨h1, e1⟩ := h1
  obtain ⟨h2, e2⟩ := h2
  rw [List.drop_eq_getElem_cons h1, List.drop_eq_getElem_cons h2, e1, e2]
  rfl
theorem lcs_length : ∀ l : List Lb, (lcs l).length = l.length * 2
  | [] => rfl
  | p :: l => by simp only [lcs, List.length_cons, lcs_length l]; omega
def lateB (prev : Option By) (x : By) : Bool := match prev with
  | some q => Op.bytesLess x q || x == q
  | none => false
/-- What labels.Check answers. -/
def chkG : Option By → List Lb → Int
  | _, [] => 0
  | prev, p :: r => if isNm p.1 = false then 5 else if p.2 = [] then 1 else if 200 < p.2.length then 4 else if lateB prev p.1 = true then 9 else chkG (some p.1) r
def chkL (l : List Lb) : Int := if 16 < l.length then 4 else chkG none l
def prv (l : List Lb) (i : Nat) : Option By := if i = 0 then none else (l[i - 1]?).map (·.1)
theorem chkG_step {l : List Lb} {i : Nat} (h : i < l.length) : chkG (prv l i) (l.drop i) = if isNm l[i].1 = false then 5 else if l[i].2 = [] then 1 else if 200 < l[i].2.length then 4 else if lateB (prv l i) l[i].1 = true then 9 else chkG (prv l (i + 1)) (l.drop (i + 1)) := by
  have e : prv l (i + 1) = some l[i].1 := by simp [prv, h]
  rw [List.drop_eq_getElem_cons h, e]
  rfl
theorem chk_tri (l : List Lb) (hl : l.length ≤ 4294967295) : PTri Tryz.prog 42 [lsl l] (.int .i64 (chkL l)) := by
  unfold lsl
  refine PTri.any (Tri.of_wc Tryz.func42 rfl Tryz.results42 Tryz.ntmps42 (by simp) ?_)
  refine WC.seq_k fun K1 hK2 => ?_
  refine WC.region ?_
  refine wU (gE rfl ?_)
  refine wOps.done ?_
  refine hK2 _ _ _ ?_
  clear hK2 K1
  refine WC.seq_k fun K3 hK4 => ?_
  refine WC.seq_k fun K5 hK6 => ?_
  refine WC.region ?_
  refine wU (gE rfl ?_)
  refine wU (gLen rfl rfl (by rw [lenFits, tslice22]; rfl) ?_)
  refine wU (gE rfl ?_)
  refine wOps.done ?_
  refine hK6 _ _ _ ?_
  clear hK6 K5
  refine WC.cond rfl (fun c7 => ?_) (fun c7 => ?_)
  · skip
    refine WC.seq_k fun K8 hK9 => ?_
    refine WC.region ?_
    refine wU (gE rfl ?_)
    refine wOps.done ?_
    refine hK9 _ _ _ ?_
    clear hK9 K8
    refine WC.ret ?_
    refine ⟨_, rfl, congrArg (V.int .i64) ?_⟩
    simp only [chkL]; rw [if_pos (by have := of_decide_eq_true c7; omega)]
  · skip
    refine WC.skip ?_
    refine hK4 _ _ _ ?_
    clear hK4 K3
    refine WC.seq_k fun K10 hK11 => ?_
    refine WC.seq_k fun K12 hK13 => ?_
    refine WC.region ?_
    refine wU (gE rfl ?_)
    refine wU (gLen rfl rfl (by rw [lenFits, tslice22]; rfl) ?_)
    refine wU (gE rfl ?_)
    refine wOps.done ?_
    refine hK13 _ _ _ ?_
    clear hK13 K12
    refine WC.block ?_
    have h16 : ¬ 16 < l.length := by have := of_decide_eq_false c7; omega
    refine WC.loopI (α := Nat) (fun i => [(0, .fslice (lcs l) l.length), (8, .fslice (lcs l) l.length), (9, .int .i64 l.length), (10, .int .i64 i)]) (fun _ => []) (fun i => l.length - i) (fun i => i ≤ l.length ∧ chkG none l = chkG (prv l i) (l.drop i)) 0 ?_ ?_ ?_ ?_
    · exact sub_cons rfl (sub_cons rfl (sub_cons rfl (sub_cons rfl (sub_nil _))))
    · exact Ent.refl _ _
    · exact ⟨by simp, by simp [prv]⟩
    rintro i ⟨hil, hc⟩
    refine WC.seq_k fun K14 hK15 => ?_
    refine WC.region ?_
    refine wU (gE rfl ?_)
    refine wOps.done ?_
    refine hK15 _ _ _ ?_
    clear hK15 K14
    refine WC.seq_k fun K16 hK17 => ?_
    refine WC.cond rfl (fun c18 => ?_) (fun c18 => ?_)
    · skip
      refine WC.skip ?_
      refine hK17 _ _ _ ?_
      clear hK17 K16
      refine WC.seq_k fun K19 hK20 => ?_
      refine WC.block ?_
      refine WC.seq_k fun K21 hK22 => ?_
      refine WC.region ?_
      refine wU (gE rfl ?_)
      have hi : i < l.length := by simpa using c18
      refine wU (gIdxF tslice22 tsz51 rfl rfl (by omega) (by omega) ?_)
      refine wU (gLoadAF tagg51 tsz51 rfl (by rw [lcs_length]; omega) (lcs_pair hi) ?_)
      refine wU (gAlloc tzero51 fun b23 hb23 => ?_)
      refine wU (gE rfl ?_)
      refine wU (gStore rfl rfl (by simp only [hget, ↓reduceIte] <;> rfl) tsz51 (by simp [vcells]) (by simp [vcells, leafV]) ?_)
      simp only [hset, stL, vcells, List.set_cons_zero, List.set_cons_succ, ↓reduceIte]
      refine wOps.done ?_
      refine hK22 _ _ _ ?_
      clear hK22 K21
      refine WC.block ?_
      refine WC.seq_k fun K24 hK25 => ?_
      refine WC.region ?_
      refine wU (gField tfld51_0 tsz9 rfl ?_)
      refine wU (gLoad tagg9 rfl (by simp only [hget, ↓reduceIte] <;> rfl) rfl ?_)
      refine wU (gPure rfl isGo75 (isNm_tri _) ?_)
      refine wU (gE rfl ?_)
      refine wU (gE rfl ?_)
      refine wOps.done ?_
      refine hK25 _ _ _ ?_
      clear hK25 K24
      refine WC.cond rfl (fun c26 => ?_) (fun c26 => ?_)
      · skip
        refine WC.seq_k fun K27 hK28 => ?_
        refine WC.region ?_
        refine wU (gE rfl ?_)
        refine wOps.done ?_
        refine hK28 _ _ _ ?_
        clear hK28 K27
        refine WC.ret ?_
        refine ⟨_, rfl, congrArg (V.int .i64) ?_⟩
        simp only [chkL]; rw [if_neg h16, hc]
        rw [chkG_step hi]; simp_all <;> omega
      · skip
        refine WC.seq_k fun K29 hK30 => ?_
        refine WC.region ?_
        refine wU (gField tfld51_1 tsz9 rfl ?_)
        refine wU (gLoad tagg9 rfl (by simp only [hget, ↓reduceIte] <;> rfl) rfl ?_)
        refine wU (gE rfl ?_)
        refine wU (gE rfl ?_)
        refine wOps.done ?_
        refine hK30 _ _ _ ?_
        clear hK30 K29
        refine WC.cond rfl (fun c31 => ?_) (fun c31 => ?_)
        · skip
          refine WC.seq_k fun K32 hK33 => ?_
          refine WC.region ?_
          refine wU (gE rfl ?_)
          refine wOps.done ?_
          refine hK33 _ _ _ ?_
          clear hK33 K32
          refine WC.ret ?_
          refine ⟨_, rfl, congrArg (V.int .i64) ?_⟩
          simp only [chkL]; rw [if_neg h16, hc]
          rw [chkG_step hi]; simp_all <;> omega
        · skip
          refine WC.seq_k fun K34 hK35 => ?_
          refine WC.region ?_
          refine wU (gField tfld51_1 tsz9 rfl ?_)
          refine wU (gLoad tagg9 rfl (by simp only [hget, ↓reduceIte] <;> rfl) rfl ?_)
          refine wU (gLen rfl rfl tisstr9 ?_)
          refine wU (gE rfl ?_)
          refine wU (gE rfl ?_)
          refine wOps.done ?_
          refine hK35 _ _ _ ?_
          clear hK35 K34
          refine WC.cond rfl (fun c36 => ?_) (fun c36 => ?_)
          · skip
            refine WC.seq_k fun K37 hK38 => ?_
            refine WC.region ?_
            refine wU (gE rfl ?_)
            refine wOps.done ?_
            refine hK38 _ _ _ ?_
            clear hK38 K37
            refine WC.ret ?_
            refine ⟨_, rfl, congrArg (V.int .i64) ?_⟩
            simp only [chkL]; rw [if_neg h16, hc]
            rw [chkG_step hi]; simp_all <;> omega
          · skip
            refine WC.seq_k fun K39 hK40 => ?_
            refine WC.region_draw mixed ?_
            refine wA.val 0 rfl rfl rfl (fun _ _ hK => gE rfl hK) (by kernel_rfl) ?_
            refine wA.val 1 rfl rfl rfl (fun _ _ hK => gE rfl hK) (by kernel_rfl) ?_
            refine wA.val 2 rfl rfl rfl (fun _ _ hK => gE rfl hK) (by kernel_rfl) ?_
            refine wA.split (e := 32) true rfl (fun c41 => ?_) (fun c41 => ?_)
            · skip
              refine wA.val 3 rfl rfl rfl (fun _ _ hK => gField tfld51_0 tsz9 rfl hK) (by kernel_rfl) ?_
              refine wA.val 5 rfl rfl rfl (fun _ _ hK => gE rfl hK) (by kernel_rfl) ?_
              refine wA.val 6 rfl rfl rfl (fun _ _ hK => gE rfl hK) (by kernel_rfl) ?_
              have h0 : 0 < i := by have := of_decide_eq_true c41; omega
              have hj : i - 1 < l.length := by omega
              refine wA.val 7 rfl rfl rfl (fun _ _ hK => gE (int_fit (b := ((i - 1 : Nat) : Int)) (by omega) (by omega) (by omega)) hK) (by kernel_rfl) ?_
              refine wA.val 8 rfl rfl rfl (fun _ _ hK => gIdxF tslice22 tsz51 rfl rfl (by omega) (by omega) hK) (by kernel_rfl) ?_
              refine wA.val 9 rfl rfl rfl (fun _ _ hK => gFieldF tfld51_0 tsz9 rfl hK) (by kernel_rfl) ?_
              refine wA.val 10 rfl rfl rfl (fun _ _ hK => gLoadF tagg9 rfl (lcs_fst hj) hK) (by kernel_rfl) ?_
              refine wA.ld 4 rfl rfl rfl (fun _ hle _ hK => gLoad tagg9 rfl (hle _ _ (by simp only [hget, ↓reduceIte] <;> rfl)) rfl hK) (by kernel_rfl) ?_
              refine wA.val 11 rfl rfl rfl (fun _ _ hK => gE rfl hK) (by kernel_rfl) ?_
              refine wA.val 12 rfl rfl rfl (fun _ _ hK => gE rfl hK) (by kernel_rfl) ?_
              refine wA.val 13 rfl rfl rfl (fun _ _ hK => gE rfl hK) (by kernel_rfl) ?_
              refine wA.done (by kernel_rfl) ?_
              refine hK40 _ _ _ ?_
              clear hK40 K39
              refine WC.cond rfl (fun c42 => ?_) (fun c42 => ?_)
              · skip
                refine WC.seq_k fun K43 hK44 => ?_
                refine WC.region ?_
                refine wU (gE rfl ?_)
                refine wOps.done ?_
                refine hK44 _ _ _ ?_
                clear hK44 K43
                refine WC.ret ?_
                refine ⟨_, rfl, congrArg (V.int .i64) ?_⟩
                simp only [chkL]; rw [if_neg h16, hc]
                have hp : prv l i = some l[i - 1].1 := by simp [prv, Nat.ne_of_gt h0, hj]
                rw [chkG_step hi]; simp_all [lateB] <;> omega
              · skip
                refine WC.skip ?_
                refine hK20 _ _ _ ?_
                clear hK20 K19
                refine WC.region ?_
                refine wU (gE rfl ?_)
                refine wU (gE rfl ?_)
                refine wOps.done ?_
                have hp : lateB (prv l i) l[i].1 = false := by simp [prv, Nat.ne_of_gt h0, hj, lateB]; simp_all
                exact ⟨i + 1, rfl, by omega, ⟨by omega, by rw [hc, chkG_step hi]; simp_all <;> (intro hh; omega)⟩, (Ent.sub (sub_cons rfl (sub_cons rfl (sub_cons rfl (sub_cons (int_fit (by omega) (by omega) (by omega)) (sub_nil _)))))).trans (Ent.drop (List.nil_sublist _))⟩
            · skip
              refine wA.skip 3 rfl rfl rfl (by kernel_rfl) ?_
              refine wA.skip 4 rfl rfl rfl (by kernel_rfl) ?_
              refine wA.skip 5 rfl rfl rfl (by kernel_rfl) ?_
              refine wA.skip 6 rfl rfl rfl (by kernel_rfl) ?_
              refine wA.skip 7 rfl rfl rfl (by kernel_rfl) ?_
              refine wA.skip 8 rfl rfl rfl (by kernel_rfl) ?_
              refine wA.skip 9 rfl rfl rfl (by kernel_rfl) ?_
              refine wA.skip 10 rfl rfl rfl (by kernel_rfl) ?_
              refine wA.skip 11 rfl rfl rfl (by kernel_rfl) ?_
              refine wA.val 12 rfl rfl rfl (fun _ _ hK => gE rfl hK) (by kernel_rfl) ?_
              refine wA.val 13 rfl rfl rfl (fun _ _ hK => gE rfl hK) (by kernel_rfl) ?_
              refine wA.done (by kernel_rfl) ?_
              refine hK40 _ _ _ ?_
              clear hK40 K39
              first | refine WC.cond (b := false) rfl (fun hh => by simp at hh) (fun _ => ?_) | refine WC.cond rfl (fun hh => by simp_all) (fun _ => ?_)
              refine WC.skip ?_
              refine hK20 _ _ _ ?_
              clear hK20 K19
              refine WC.region ?_
              refine wU (gE rfl ?_)
              refine wU (gE rfl ?_)
              refine wOps.done ?_
              have hp : lateB (prv l i) l[i].1 = false := by have h0 : i = 0 := (by simp at c41; omega); simp [prv, h0, lateB]
              exact ⟨i + 1, rfl, by omega, ⟨by omega, by rw [hc, chkG_step hi]; simp_all <;> (intro hh; omega)⟩, (Ent.sub (sub_cons rfl (sub_cons rfl (sub_cons rfl (sub_cons (int_fit (by omega) (by omega) (by omega)) (sub_nil _)))))).trans (Ent.drop (List.nil_sublist _))⟩
    · skip
      refine WC.exit ?_
      refine hK11 _ _ _ ?_
      clear hK17 K16 hK11 K10
      refine WC.seq_k fun K45 hK46 => ?_
      refine WC.region ?_
      refine wU (gE rfl ?_)
      refine wOps.done ?_
      refine hK46 _ _ _ ?_
      clear hK46 K45
      refine WC.ret ?_
      refine ⟨_, rfl, congrArg (V.int .i64) ?_⟩
      simp only [chkL]; rw [if_neg h16, hc]
      rw [List.drop_of_length_le (by have := of_decide_eq_false c18; omega)]; simp [chkG]
end Go.Proofs.YtfdmdcpopmcmcaaGreatDoor
end

section
namespace Go.Proofs.YtfdmdcpopmcmcaaGreatDoor
open Go.Fw
variable [Gl]
theorem tagg5 : tagg Tryz.prog 5 = some false := by kernel_rfl
theorem tagg73 : tagg Tryz.prog 73 = some false := by kernel_rfl
theorem tint5 : tint Tryz.prog 5 = some .u8 := by kernel_rfl
theorem tisstr66 : tisstr Tryz.prog 66 = false := by kernel_rfl
theorem tslice66 : tslice Tryz.prog 66 = some 5 := by kernel_rfl
theorem tsz5 : tsz Tryz.prog 5 = some 1 := by kernel_rfl
/-- The words of a text: the longest runs of bytes that p takes. -/
def wordsG (p : UInt8 → Bool) (acc : List UInt8) : List UInt8 → List (List UInt8)
  | [] => if acc = [] then [] else [acc]
  | c :: r => if p c = true then wordsG p (acc ++ [c]) r else (if acc = [] then [] else [acc]) ++ wordsG p [] r
theorem wordsG_step {p : UInt8 → Bool} {s : List UInt8} {i j : Nat} (hij : i ≤ j) (hj : j < s.length) (hp : p s[j] = true) : wordsG p ((s.drop i).take (j - i)) (s.drop j) = wordsG p ((s.drop i).take (j + 1 - i)) (s.drop (j + 1)) := by
  rw [List.drop_eq_getElem_cons hj]
  simp only [wordsG, hp, if_true]
  congr 1
  have : j + 1 - i = (j - i) + 1 := by omega
  rw [this, List.take_succ_eq_append_getElem (by simp; omega)]
  congr 2
  simp
  congr 1
  omega
theorem wordsG_stop {p : UInt8 → Bool} {s : List UInt8} {i j : Nat} (hij : i ≤ j) (hj : j ≤ s.length) (hp : ∀ h : j < s.length, p s[j] = false) : wordsG p ((s.drop i).take (j - i)) (s.drop j) = (if j = i then [] else [(s.drop i).take (j - i)]) ++ wordsG p [] (s.drop (j + 1)) := by
  have e : ((s.drop i).take (j - i) = []) ↔ j = i := by
    rw [← List.length_eq_zero_iff]; simp; omega
  by_cases h : j < s.length
  · rw [List.drop_eq_getElem_cons h]
    simp only [wordsG, hp h, Bool.false_eq_true, if_false, e]
  · have : j = s.length := by omega
    have e1 : s.drop j = [] := List.drop_of_length_le (by omega)
    have e2 : s.drop (j + 1) = [] := List.drop_of_length_le (by omega)
    rw [e1, e2]
    simp only [wordsG, e, if_true, List.append_nil]
theorem YieldS.b {P : Program} {l : Nat} {us : List V} {h : Hp} {A B : Hp → Prop} {K : V → Hp → Prop} (hy : YieldS P l us h fun v h' => (v = .bool true ∧ A h') ∨ (v = .bool false ∧ B h')) (hk : ∀ b h', (b = true → A h') → (b = false → B h') → K (.bool b) h') : YieldS P l us h K :=
  hy.mono fun v h' hh => by
    rcases hh with ⟨rfl, ha⟩ | ⟨rfl, hb⟩
    · exact hk true h' (fun _ => ha) (fun e => by simp at e)
    · exact hk false h' (fun e => by simp at e) (fun _ => hb)
theorem words1_iter (p : FuncId) (pf : UInt8 → Bool) (hgo : isGo Tryz.prog p = true) (hp : ∀ c : UInt8, PTri Tryz.prog p [.int .u8 c.toNat] (.bool (pf c))) (s : List UInt8) (hsz : s.length ≤ 9223372036854775806) :
    IterC Tryz.prog 78 [.fptr [.str s] 0, .fptr [.clo p []] 0] ((wordsG pf [] s).map fun w => [.str w]) := by
  intro l J S hy h0 hJ0
  generalize hxs : ((wordsG pf [] s).map fun w => [V.str w]) = xs at hy ⊢
  refine Tri.of_wc Tryz.func78 rfl Tryz.results78 Tryz.ntmps78 (by simp) ?_
  refine WC.seq_k fun K1 hK2 => ?_
  refine WC.region ?_
  refine wU (gE rfl ?_)
  refine wOps.done ?_
  refine hK2 _ _ _ ?_
  clear hK2 K1
  refine WC.block ?_
  refine WC.loopI (α := Nat × Nat × Hp) (fun a => [(0, .yield l), (1, .fptr [.str s] 0), (2, .fptr [.clo p []] 0), (4, .int .i64 a.1)]) (fun a => a.2.2) (fun a => s.length + 1 - a.1) (fun a => a.1 ≤ s.length + 1 ∧ a.2.1 ≤ xs.length ∧ ((wordsG pf [] (s.drop a.1)).map fun w => [V.str w]) = xs.drop a.2.1 ∧ J a.2.1 a.2.2) (0, 0, h0) ?_ ?_ ?_ ?_
  · exact sub_cons rfl (sub_cons rfl (sub_cons rfl (sub_cons rfl (sub_nil _))))
  · exact Ent.refl _ _
  · exact ⟨by simp, by simp, by simpa using hxs, hJ0⟩
  rintro ⟨i, k, h⟩ ⟨hi, hkx, hw, hJ⟩
  simp only at hi hkx hw hJ ⊢
  refine WC.seq_k fun K3 hK4 => ?_
  refine WC.seq_k fun K5 hK6 => ?_
  refine WC.region ?_
  refine wU (gE rfl ?_)
  refine wU (gLoadF tagg9 rfl rfl ?_)
  refine wU (gLen rfl rfl tisstr9 ?_)
  refine wU (gE rfl ?_)
  refine wOps.done ?_
  refine hK6 _ _ _ ?_
  clear hK6 K5
  refine WC.cond rfl (fun c7 => ?_) (fun c7 => ?_)
  · skip
    refine WC.skip ?_
    refine hK4 _ _ _ ?_
    clear hK4 K3
    refine WC.block ?_
    refine WC.seq_k fun K8 hK9 => ?_
    refine WC.region ?_
    refine wU (gE rfl ?_)
    refine wU (gE rfl ?_)
    refine wOps.done ?_
    refine hK9 _ _ _ ?_
    clear hK9 K8
    refine WC.seq_k fun K10 hK11 => ?_
    refine WC.block ?_
    refine WC.loopI (α := Nat) (fun j => [(0, .yield l), (1, .fptr [.str s] 0), (2, .fptr [.clo p []] 0), (4, .int .i64 i), (5, .int .i64 j)]) (fun _ => h) (fun j => s.length - j) (fun j => i ≤ j ∧ j ≤ s.length ∧ wordsG pf [] (s.drop i) = wordsG pf ((s.drop i).take (j - i)) (s.drop j)) i ?_ ?_ ?_ ?_
    · exact sub_cons rfl (sub_cons rfl (sub_cons rfl (sub_cons rfl (sub_cons rfl (sub_nil _)))))
    · exact Ent.refl _ _
    · exact ⟨Nat.le_refl _, by simp_all; omega, by simp⟩
    rintro j ⟨hij, hjs, hwj⟩
    refine WC.seq_k fun K12 hK13 => ?_
    refine WC.seq_k fun K14 hK15 => ?_
    refine WC.region_draw mixed ?_
    refine wA.val 0 rfl rfl rfl (fun _ _ hK => gE rfl hK) (by kernel_rfl) ?_
    refine wA.val 1 rfl rfl rfl (fun _ _ hK => gLoadF tagg9 rfl rfl hK) (by kernel_rfl) ?_
    refine wA.val 2 rfl rfl rfl (fun _ _ hK => gLen rfl rfl tisstr9 hK) (by kernel_rfl) ?_
    refine wA.val 3 rfl rfl rfl (fun _ _ hK => gE rfl hK) (by kernel_rfl) ?_
    refine wA.val 4 rfl rfl rfl (fun _ _ hK => gE rfl hK) (by kernel_rfl) ?_
    refine wA.split (e := 15) true rfl (fun c16 => ?_) (fun c16 => ?_)
    · skip
      refine wA.val 5 rfl rfl rfl (fun _ _ hK => gLoadF tagg73 rfl rfl hK) (by kernel_rfl) ?_
      refine wA.val 6 rfl rfl rfl (fun _ _ hK => gLoadF tagg9 rfl rfl hK) (by kernel_rfl) ?_
      refine wA.val 7 rfl rfl rfl (fun _ _ hK => gE rfl hK) (by kernel_rfl) ?_
      have hj : j < s.length := by simpa using c16
      refine wA.val 8 rfl rfl rfl (fun _ _ hK => gIdxStr tisstr9 rfl rfl (by omega) (str_at hj) hK) (by kernel_rfl) ?_
      refine wA.val 9 rfl rfl rfl (fun _ _ hK => by refine gPureV rfl rfl hgo (hp (s[j]'hj)) ?_; exact hK) (by kernel_rfl) ?_
      refine wA.val 10 rfl rfl rfl (fun _ _ hK => gE rfl hK) (by kernel_rfl) ?_
      refine wA.done (by kernel_rfl) ?_
      refine hK15 _ _ _ ?_
      clear hK15 K14
      refine WC.cond rfl (fun c17 => ?_) (fun c17 => ?_)
      · skip
        refine WC.skip ?_
        refine hK13 _ _ _ ?_
        clear hK13 K12
        refine WC.block ?_
        refine WC.region ?_
        refine wU (gE rfl ?_)
        refine wU (gE rfl ?_)
        refine wU (gE rfl ?_)
        refine wOps.done ?_
        exact ⟨j + 1, rfl, by omega, ⟨by omega, by omega, by rw [hwj, wordsG_step hij hj (by simpa using c17)]⟩, Ent.sub (sub_cons rfl (sub_cons rfl (sub_cons rfl (sub_cons rfl (sub_cons (int_fit (by omega) (by omega) (by omega)) (sub_nil _))))))⟩
      · skip
        refine WC.exit ?_
        refine hK11 _ _ _ ?_
        clear hK13 K12 hK11 K10
        refine WC.seq_k fun K18 hK19 => ?_
        refine WC.seq_k fun K20 hK21 => ?_
        refine WC.region ?_
        refine wU (gE rfl ?_)
        refine wU (gE rfl ?_)
        refine wU (gE rfl ?_)
        refine wU (gE rfl ?_)
        refine wG rfl rfl rfl rfl (by decide) (fun c22 => ?_) (fun c22 => ?_)
        · skip
          refine gE rfl ?_
          refine wY rfl (gLoadF tagg9 rfl rfl ?_)
          refine wY rfl (gE rfl ?_)
          refine wY rfl (gE rfl ?_)
          refine wY rfl (gSliceStr tisstr9 rfl rfl rfl (by simp; omega) (by simp; omega) ?_)
          have hstop := wordsG_stop (p := pf) hij hjs (fun hx => by first | (exfalso; have := of_decide_eq_false c16; omega) | simpa using c17)
          have hst2 : (if j = i then [] else [[V.str ((s.drop i).take (j - i))]]) ++ (wordsG pf [] (s.drop (j + 1))).map (fun w => [V.str w]) = xs.drop k := by rw [← hw, hwj, hstop]; split <;> simp
          have hji : j ≠ i := by have := of_decide_eq_true c22; omega
          rw [if_neg hji] at hst2
          have hk : k < xs.length := by have := congrArg List.length hst2; simp at this; omega
          have hxk : xs[k] = [.str ((s.drop i).take (j - i))] := by have := congrArg (·[0]?) hst2; simpa [hk] using this.symm
          have hyk := hy k hk h hJ
          rw [hxk] at hyk
          refine wY rfl (gYield rfl rfl (YieldS.b hyk fun b h1 hb1 hb2 => ?_))
          refine wY rfl (gE rfl ?_)
          refine wU (gE rfl ?_)
          refine wOps.done ?_
          refine hK21 _ _ _ ?_
          clear hK21 K20
          refine WC.cond rfl (fun c23 => ?_) (fun c23 => ?_)
          · skip
            refine WC.ret ?_
            exact ⟨_, rfl, .inr (hb2 (by simpa using c23))⟩
          · skip
            refine WC.skip ?_
            refine hK19 _ _ _ ?_
            clear hK19 K18
            refine WC.region ?_
            refine wU (gE rfl ?_)
            refine wU (gE rfl ?_)
            refine wU (gE rfl ?_)
            refine wOps.done ?_
            exact ⟨(j + 1, k + 1, h1), rfl, by simp only; omega, ⟨by simp only; omega, by simp only; omega, by have := congrArg List.tail hst2; simpa using this, hb1 (by simpa using c23)⟩, Ent.sub (sub_cons rfl (sub_cons rfl (sub_cons rfl (sub_cons (int_fit (by omega) (by omega) (by omega)) (sub_nil _)))))⟩
        · skip
          refine wN rfl ?_
          refine wN rfl ?_
          refine wN rfl ?_
          refine wN rfl ?_
          refine wN rfl ?_
          refine wN rfl ?_
          refine wU (gE rfl ?_)
          refine wOps.done ?_
          refine hK21 _ _ _ ?_
          clear hK21 K20
          first | refine WC.cond (b := false) rfl (fun hh => by simp at hh) (fun _ => ?_) | refine WC.cond rfl (fun hh => by simp_all) (fun _ => ?_)
          refine WC.skip ?_
          refine hK19 _ _ _ ?_
          clear hK19 K18
          refine WC.region ?_
          refine wU (gE rfl ?_)
          refine wU (gE rfl ?_)
          refine wU (gE rfl ?_)
          refine wOps.done ?_
          have hstop := wordsG_stop (p := pf) hij hjs (fun hx => by first | (exfalso; have := of_decide_eq_false c16; omega) | simpa using c17)
          have hst2 : (if j = i then [] else [[V.str ((s.drop i).take (j - i))]]) ++ (wordsG pf [] (s.drop (j + 1))).map (fun w => [V.str w]) = xs.drop k := by rw [← hw, hwj, hstop]; split <;> simp
          have hji : j = i := by have := of_decide_eq_false c22; omega
          rw [if_pos hji] at hst2
          exact ⟨(j + 1, k, h), rfl, by simp only; omega, ⟨by simp only; omega, hkx, by simpa using hst2, hJ⟩, Ent.sub (sub_cons rfl (sub_cons rfl (sub_cons rfl (sub_cons (int_fit (by omega) (by omega) (by omega)) (sub_nil _)))))⟩
    · skip
      refine wA.skip 5 rfl rfl rfl (by kernel_rfl) ?_
      refine wA.skip 6 rfl rfl rfl (by kernel_rfl) ?_
      refine wA.skip 7 rfl rfl rfl (by kernel_rfl) ?_
      refine wA.skip 8 rfl rfl rfl (by kernel_rfl) ?_
      refine wA.skip 9 rfl rfl rfl (by kernel_rfl) ?_
      refine wA.val 10 rfl rfl rfl (fun _ _ hK => gE rfl hK) (by kernel_rfl) ?_
      refine wA.done (by kernel_rfl) ?_
      refine hK15 _ _ _ ?_
      clear hK15 K14
      first | refine WC.cond (b := false) rfl (fun hh => by simp at hh) (fun _ => ?_) | refine WC.cond rfl (fun hh => by simp_all) (fun _ => ?_)
      refine WC.exit ?_
      refine hK11 _ _ _ ?_
      clear hK13 K12 hK11 K10
      refine WC.seq_k fun K24 hK25 => ?_
      refine WC.seq_k fun K26 hK27 => ?_
      refine WC.region ?_
      refine wU (gE rfl ?_)
      refine wU (gE rfl ?_)
      refine wU (gE rfl ?_)
      refine wU (gE rfl ?_)
      refine wG rfl rfl rfl rfl (by decide) (fun c28 => ?_) (fun c28 => ?_)
      · skip
        refine gE rfl ?_
        refine wY rfl (gLoadF tagg9 rfl rfl ?_)
        refine wY rfl (gE rfl ?_)
        refine wY rfl (gE rfl ?_)
        refine wY rfl (gSliceStr tisstr9 rfl rfl rfl (by simp; omega) (by simp; omega) ?_)
        have hstop := wordsG_stop (p := pf) hij hjs (fun hx => by first | (exfalso; have := of_decide_eq_false c16; omega) | simpa using c16)
        have hst2 : (if j = i then [] else [[V.str ((s.drop i).take (j - i))]]) ++ (wordsG pf [] (s.drop (j + 1))).map (fun w => [V.str w]) = xs.drop k := by rw [← hw, hwj, hstop]; split <;> simp
        have hji : j ≠ i := by have := of_decide_eq_true c28; omega
        rw [if_neg hji] at hst2
        have hk : k < xs.length := by have := congrArg List.length hst2; simp at this; omega
        have hxk : xs[k] = [.str ((s.drop i).take (j - i))] := by have := congrArg (·[0]?) hst2; simpa [hk] using this.symm
        have hyk := hy k hk h hJ
        rw [hxk] at hyk
        refine wY rfl (gYield rfl rfl (YieldS.b hyk fun b h1 hb1 hb2 => ?_))
        refine wY rfl (gE rfl ?_)
        refine wU (gE rfl ?_)
        refine wOps.done ?_
        refine hK27 _ _ _ ?_
        clear hK27 K26
        refine WC.cond rfl (fun c29 => ?_) (fun c29 => ?_)
        · skip
          refine WC.ret ?_
          exact ⟨_, rfl, .inr (hb2 (by simpa using c29))⟩
        · skip
          refine WC.skip ?_
          refine hK25 _ _ _ ?_
          clear hK25 K24
          refine WC.region ?_
          refine wU (gE rfl ?_)
          refine wU (gE rfl ?_)
          refine wU (gE rfl ?_)
          refine wOps.done ?_
          exact ⟨(j + 1, k + 1, h1), rfl, by simp only; omega, ⟨by simp only; omega, by simp only; omega, by have := congrArg List.tail hst2; simpa using this, hb1 (by simpa using c29)⟩, Ent.sub (sub_cons rfl (sub_cons rfl (sub_cons rfl (sub_cons (int_fit (by omega) (by omega) (by omega)) (sub_nil _)))))⟩
      · skip
        refine wN rfl ?_
        refine wN rfl ?_
        refine wN rfl ?_
        refine wN rfl ?_
        refine wN rfl ?_
        refine wN rfl ?_
        refine wU (gE rfl ?_)
        refine wOps.done ?_
        refine hK27 _ _ _ ?_
        clear hK27 K26
        first | refine WC.cond (b := false) rfl (fun hh => by simp at hh) (fun _ => ?_) | refine WC.cond rfl (fun hh => by simp_all) (fun _ => ?_)
        refine WC.skip ?_
        refine hK25 _ _ _ ?_
        clear hK25 K24
        refine WC.region ?_
        refine wU (gE rfl ?_)
        refine wU (gE rfl ?_)
        refine wU (gE rfl ?_)
        refine wOps.done ?_
        have hstop := wordsG_stop (p := pf) hij hjs (fun hx => by first | (exfalso; have := of_decide_eq_false c16; omega) | simpa using c16)
        have hst2 : (if j = i then [] else [[V.str ((s.drop i).take (j - i))]]) ++ (wordsG pf [] (s.drop (j + 1))).map (fun w => [V.str w]) = xs.drop k := by rw [← hw, hwj, hstop]; split <;> simp
        have hji : j = i := by have := of_decide_eq_false c28; omega
        rw [if_pos hji] at hst2
        exact ⟨(j + 1, k, h), rfl, by simp only; omega, ⟨by simp only; omega, hkx, by simpa using hst2, hJ⟩, Ent.sub (sub_cons rfl (sub_cons rfl (sub_cons rfl (sub_cons (int_fit (by omega) (by omega) (by omega)) (sub_nil _)))))⟩
  · skip
    refine WC.exit ?_
    have hk : k = xs.length := by rw [List.drop_of_length_le (by have := of_decide_eq_false c7; omega)] at hw; have := congrArg List.length hw; simp [wordsG] at this; omega
    exact ⟨_, rfl, .inl (hk ▸ hJ)⟩
theorem words_tri (s : By) (p : FuncId) : PTri Tryz.prog 47 [.str s, .clo p []] (.clo 78 [.fptr [.str s] 0, .fptr [.clo p []] 0]) := by
  have ht : Tri Tryz.prog 47 [.str s, .clo p []] [] fun v h' => ∃ b1 b2, v = .clo 78 [.ptr b1 0, .ptr b2 0] ∧ h' = [(b2, .cells 73 [.clo p []] 1), (b1, .cells 9 [.str s] 1)] ∧ ¬ b2 = b1 := by
    refine Tri.of_wc Tryz.func47 rfl Tryz.results47 Tryz.ntmps47 (by simp) ?_
    refine WC.seq_k fun K1 hK2 => ?_
    refine WC.region ?_
    refine wU (gBox rfl fun b3 hb3 => ?_)
    refine wU (gBox rfl fun b4 hb4 => ?_)
    simp only [Hp.ns_cons, Hp.ns_nil, List.mem_cons, List.not_mem_nil, or_false, not_or] at hb4
    refine wU (gE rfl ?_)
    refine wOps.done ?_
    refine hK2 _ _ _ ?_
    clear hK2 K1
    refine WC.seq_k fun K5 hK6 => ?_
    refine WC.region ?_
    refine wU (gE rfl ?_)
    refine wU (gE rfl ?_)
    refine wOps.done ?_
    refine hK6 _ _ _ ?_
    clear hK6 K5
    refine WC.ret ?_
    exact ⟨_, rfl, _, _, rfl, rfl, by simp_all⟩
  refine Tri.vent ht ?_
  rintro v h' ⟨b1, b2, rfl, rfl, hne⟩
  refine ⟨_, _, .freeze b2 (by simp [hget]; exact ⟨rfl, rfl, rfl⟩) (.freeze b1 (by simp [frzH, hdel, hget, frzO, frzL, frzV, hne]; exact ⟨rfl, rfl, rfl⟩) (.refl _ _)), ?_, ?_⟩
  · simp [frzV, frzL, hne, Ne.symm hne]
  · simp [frzH, hdel]
def lowB (c : UInt8) : UInt8 := if 65 ≤ c.toNat ∧ c.toNat ≤ 90 then c + 32 else c
theorem lowB_u8 {c : UInt8} (h1 : 65 ≤ (c.toNat : Int)) (h2 : (c.toNat : Int) ≤ 90) : (IntKind.u8.wrap (IntKind.u8.wrap ((c.toNat : Int) - 65) + 97)) = ((lowB c).toNat : Int) ∧ (IntKind.u8.wrap (IntKind.u8.wrap ((c.toNat : Int) + 97) - 65)) = ((lowB c).toNat : Int) := by
  have e : lowB c = c + 32 := by unfold lowB; rw [if_pos (by omega)]
  have e2 : (c + 32).toNat = c.toNat + 32 := by rw [UInt8.toNat_add]; simp; omega
  rw [e, e2]
  simp only [IntKind.wrap, IntKind.bits, IntKind.signed]
  constructor <;> simp <;> omega
theorem lowB_no {c : UInt8} (h : ¬ (65 ≤ (c.toNat : Int) ∧ (c.toNat : Int) ≤ 90)) : lowB c = c := by unfold lowB; rw [if_neg (by omega)]
theorem low_tri (s : By) (hs : s.length ≤ 4294967295) : PTri Tryz.prog 49 [.str s] (.str (s.map lowB)) := by
  refine PTri.any (Tri.of_wc Tryz.func49 rfl Tryz.results49 Tryz.ntmps49 (by simp) ?_)
  refine WC.seq_k fun K1 hK2 => ?_
  refine WC.region ?_
  refine wU (gE rfl ?_)
  refine wOps.done ?_
  refine hK2 _ _ _ ?_
  clear hK2 K1
  refine WC.seq_k fun K3 hK4 => ?_
  refine WC.region ?_
  refine wU (gE rfl ?_)
  refine wU (gToBytes tisstr9 tisstr66 tslice66 tint5 rfl fun q N hq hN => ?_)
  refine wU (gE rfl ?_)
  refine wOps.done ?_
  refine hK4 _ _ _ ?_
  clear hK4 K3
  refine WC.seq_k fun K5 hK6 => ?_
  refine WC.seq_k fun K7 hK8 => ?_
  refine WC.region ?_
  refine wU (gE rfl ?_)
  refine wU (gLen rfl rfl (by rw [lenFits, tslice66]; rfl) ?_)
  refine wU (gE rfl ?_)
  refine wOps.done ?_
  refine hK8 _ _ _ ?_
  clear hK8 K7
  refine WC.block ?_
  refine WC.loopI (α := Nat) (fun i => [(0, .str s), (3, .slice q 0 s.length N), (8, .slice q 0 s.length N), (9, .int .i64 s.length), (10, .int .i64 i)]) (fun i => [(q, .cells 5 (byteCells ((s.take i).map lowB ++ s.drop i)) N)]) (fun i => s.length - i) (fun i => i ≤ s.length) 0 ?_ ?_ ?_ ?_
  · exact sub_cons rfl (sub_cons rfl (sub_cons rfl (sub_cons rfl (sub_cons rfl (sub_nil _)))))
  · exact Ent.refl _ _
  · exact Nat.zero_le _
  intro i hil
  refine WC.seq_k fun K9 hK10 => ?_
  refine WC.region ?_
  refine wU (gE rfl ?_)
  refine wOps.done ?_
  refine hK10 _ _ _ ?_
  clear hK10 K9
  refine WC.seq_k fun K11 hK12 => ?_
  refine WC.cond rfl (fun c13 => ?_) (fun c13 => ?_)
  · skip
    refine WC.skip ?_
    refine hK12 _ _ _ ?_
    clear hK12 K11
    refine WC.seq_k fun K14 hK15 => ?_
    refine WC.block ?_
    refine WC.seq_k fun K16 hK17 => ?_
    refine WC.region ?_
    refine wU (gE rfl ?_)
    have hi : i < s.length := by simpa using c13
    refine wU (gIdxS tslice66 tsz5 rfl rfl (by omega) (by omega) ?_)
    refine wU (gLoad tagg5 rfl (by simp only [hget, ↓reduceIte] <;> rfl) (mapUp_get hi) ?_)
    refine wU (gE rfl ?_)
    refine wU (gE rfl ?_)
    refine wOps.done ?_
    refine hK17 _ _ _ ?_
    clear hK17 K16
    refine WC.seq_k fun K18 hK19 => ?_
    refine WC.region ?_
    refine wU (gE rfl ?_)
    refine wU (gE rfl ?_)
    refine wU (gE rfl ?_)
    refine wG rfl rfl rfl rfl (by decide) (fun c20 => ?_) (fun c20 => ?_)
    · skip
      refine gE rfl ?_
      refine wY rfl (gE rfl ?_)
      refine wU (gE rfl ?_)
      refine wOps.done ?_
      refine hK19 _ _ _ ?_
      clear hK19 K18
      refine WC.cond rfl (fun c21 => ?_) (fun c21 => ?_)
      · skip
        refine WC.region ?_
        refine wU (gE rfl ?_)
        refine wU (gE rfl ?_)
        refine wU (gE rfl ?_)
        refine wU (gE rfl ?_)
        refine wU (gE rfl ?_)
        refine wU (gIdxS tslice66 tsz5 rfl rfl (by omega) (by omega) ?_)
        have hlow := lowB_u8 (c := s[i]) (by have := of_decide_eq_true c20; omega) (by have := of_decide_eq_true c21; omega)
        refine wU (gStore rfl rfl (by simp only [hget, ↓reduceIte] <;> rfl) tsz5 (by rw [byteCells_length]; simp [vcells]; omega) (by simp [vcells, leafV]) ?_)
        simp only [hset, stL, vcells, ↓reduceIte, hlow, mapUp_set hi]
        refine wOps.done ?_
        refine hK15 _ _ _ ?_
        clear hK15 K14
        refine WC.region ?_
        refine wU (gE rfl ?_)
        refine wU (gE rfl ?_)
        refine wOps.done ?_
        exact ⟨i + 1, rfl, by omega, by omega, (Ent.sub (sub_cons rfl (sub_cons rfl (sub_cons rfl (sub_cons rfl (sub_cons (int_fit (by omega) (by omega) (by omega)) (sub_nil _)))))))⟩
      · skip
        refine WC.skip ?_
        refine hK15 _ _ _ ?_
        clear hK15 K14
        refine WC.region ?_
        refine wU (gE rfl ?_)
        refine wU (gE rfl ?_)
        refine wOps.done ?_
        have hno : lowB s[i] = s[i] := lowB_no (by intro hh; simp_all <;> omega)
        rw [mapUp_same hi hno]
        exact ⟨i + 1, rfl, by omega, by omega, (Ent.sub (sub_cons rfl (sub_cons rfl (sub_cons rfl (sub_cons rfl (sub_cons (int_fit (by omega) (by omega) (by omega)) (sub_nil _)))))))⟩
    · skip
      refine wN rfl ?_
      refine wU (gE rfl ?_)
      refine wOps.done ?_
      refine hK19 _ _ _ ?_
      clear hK19 K18
      first | refine WC.cond (b := false) rfl (fun hh => by simp at hh) (fun _ => ?_) | refine WC.cond rfl (fun hh => by simp_all) (fun _ => ?_)
      refine WC.skip ?_
      refine hK15 _ _ _ ?_
      clear hK15 K14
      refine WC.region ?_
      refine wU (gE rfl ?_)
      refine wU (gE rfl ?_)
      refine wOps.done ?_
      have hno : lowB s[i] = s[i] := lowB_no (by intro hh; simp_all <;> omega)
      rw [mapUp_same hi hno]
      exact ⟨i + 1, rfl, by omega, by omega, (Ent.sub (sub_cons rfl (sub_cons rfl (sub_cons rfl (sub_cons rfl (sub_cons (int_fit (by omega) (by omega) (by omega)) (sub_nil _)))))))⟩
  · skip
    refine WC.exit ?_
    refine hK6 _ _ _ ?_
    clear hK12 K11 hK6 K5
    refine WC.seq_k fun K22 hK23 => ?_
    refine WC.region ?_
    refine wU (gE rfl ?_)
    refine wU (gOfBytes tslice66 tint5 tisstr9 rfl (by simp only [hget, ↓reduceIte] <;> rfl) (by simp; omega) ?_)
    refine wU (gE rfl ?_)
    refine wOps.done ?_
    refine hK23 _ _ _ ?_
    clear hK23 K22
    refine WC.ret ?_
    have he : i = s.length := by have := of_decide_eq_false c13; omega
    exact ⟨_, rfl, by rw [he]; simp⟩
end Go.Proofs.YtfdmdcpopmcmcaaGreatDoor
end

section
namespace Go.Proofs.YtfdmdcpopmcmcaaGreatDoor
open Go.Fw
/-! ### What the functions of fields answer -/
/-- The value at the beginning of a text, without the mark that ends it, and the number of bytes with the mark. -/
def unq : By → By → Nat → By × Nat × Bool
  | [], _, _ => ([], 0, false)
  | c :: [], acc, i => if c = 34 then (acc, i + 1, true) else ([], 0, false)
  | c :: d :: r, acc, i =>
    if c = 34 then (acc, i + 1, true)
    else if c = 92 then
      if d = 110 then unq r (acc ++ [10]) (i + 2) else if d = 92 ∨ d = 34 then unq r (acc ++ [d]) (i + 2) else ([], 0, false)
    else unq (d :: r) (acc ++ [c]) (i + 1)
def fieldL (s : By) : Lb × Nat × Bool :=
  let w := s.takeWhile (· != 32)
  let nm := w.takeWhile (· != 61)
  if ¬ (61 ∈ w ∧ isNm nm = true) then (([], []), w.length, true)
  else if (w.drop (nm.length + 1)).head? = some 34 then
    let u := unq (s.drop (nm.length + 2)) [] 0
    let size := u.2.1 + (nm.length + 2)
    if u.2.2 = false ∨ (size < s.length ∧ s[size]? ≠ some 32) then (([], []), 0, false) else ((nm, u.1), size, true)
  else ((nm, w.drop (nm.length + 1)), w.length, true)
def trimL (s : By) : By := s.dropWhile (· == 32)
def fieldsF : Nat → By → List (Lb × Bool)
  | 0, _ => []
  | f + 1, rest => if rest = [] then [] else
    if (fieldL rest).2.2 = false then [(([], []), false)]
    else (if (fieldL rest).1.1 ≠ [] then [((fieldL rest).1, true)] else []) ++ fieldsF f (trimL (rest.drop (fieldL rest).2.1))
def fieldsL (s : By) : List (Lb × Bool) := fieldsF (trimL s).length (trimL s)
def escB (c : UInt8) : By := if c = 92 ∨ c = 34 then [92, c] else if c = 10 then [92, 110] else [c]
def plainV (s : By) : Bool := !(s.any fun c => c == 32 || c == 10) && !(s.head? == some 34)
def quoteV (s : By) : By := if plainV s = true then s else 34 :: (s.flatMap escB ++ [34])
def fmtG : Bool → List Lb → By
  | _, [] => []
  | first, x :: r => (if first then [] else [32]) ++ (x.1 ++ 61 :: (quoteV x.2 ++ fmtG false r))
def fmtL (l : List Lb) : By × Int := if chkL l ≠ 0 then ([], chkL l) else if 1000 < (fmtG true l).length then ([], 4) else (fmtG true l, 0)
end Go.Proofs.YtfdmdcpopmcmcaaGreatDoor
end

section
namespace Go.Proofs.YtfdmdcpopmcmcaaGreatDoor
open Go.Fw
/-! ### Cut at one byte -/
theorem index1 (c : UInt8) : ∀ s : By, Lib.index s [c] = if c ∈ s then ((s.takeWhile (· != c)).length : Int) else -1
  | [] => by simp [Lib.index]
  | b :: s => by
    have ih := index1 c s
    show (if List.isPrefixOf [c] (b :: s) = true then (0 : Int) else if (Lib.index s [c] == -1) = true then -1 else Lib.index s [c] + 1) = _
    by_cases h : c = b
    · subst h; simp
    · have h' : ¬ b = c := fun e => h e.symm
      have e1 : List.isPrefixOf [c] (b :: s) = false := by show ((c == b) && List.isPrefixOf [] s) = false; simp [h]
      rw [e1, ih]
      simp only [List.mem_cons, h, false_or, Bool.false_eq_true, if_false]
      by_cases hm : c ∈ s
      · have hne : ¬ (((s.takeWhile (· != c)).length : Int) == -1) = true := by simp
        rw [if_pos hm, if_pos hm, if_neg hne]
        simp [List.takeWhile_cons, h']
      · simp [hm]
theorem tw_none {c : UInt8} : ∀ {s : By}, c ∉ s → s.takeWhile (· != c) = s
  | [], _ => rfl
  | b :: s, h => by
    simp only [List.mem_cons, not_or] at h
    have hb : ¬ b = c := fun e => h.1 e.symm
    simp [List.takeWhile_cons, hb, tw_none h.2]
theorem tw_take (p : UInt8 → Bool) : ∀ s : By, s.take (s.takeWhile p).length = s.takeWhile p
  | [] => rfl
  | b :: s => by
    simp only [List.takeWhile_cons]
    split
    · simp [tw_take p s]
    · simp
theorem tw_le (p : UInt8 → Bool) : ∀ s : By, (s.takeWhile p).length ≤ s.length
  | [] => by simp
  | b :: s => by
    simp only [List.takeWhile_cons]
    split
    · simp [tw_le p s]
    · simp
theorem cut1 (c : UInt8) (s : By) : Lib.cut s [c] = if c ∈ s then (s.takeWhile (· != c), s.drop ((s.takeWhile (· != c)).length + 1), true) else (s, [], false) := by
  unfold Lib.cut
  rw [index1]
  by_cases h : c ∈ s
  · simp only [h, if_true]
    rw [if_pos (by omega)]
    simp [tw_take]
  · simp [h]
theorem cut1_fst (c : UInt8) (s : By) : (Lib.cut s [c]).1 = s.takeWhile (· != c) := by
  rw [cut1]
  split
  · rfl
  · rename_i h; exact (tw_none h).symm
theorem cut1_found (c : UInt8) (s : By) : (Lib.cut s [c]).2.2 = decide (c ∈ s) := by rw [cut1]; split <;> simp_all
theorem cut1_snd {c : UInt8} {s : By} (h : c ∈ s) : (Lib.cut s [c]).2.1 = s.drop ((s.takeWhile (· != c)).length + 1) := by rw [cut1, if_pos h]
theorem pre1 (c : UInt8) (s : By) : Lib.hasPrefix s [c] = (s.head? == some c) := by
  cases s with
  | nil => rfl
  | cons b s =>
    simp only [Lib.hasPrefix, List.isPrefixOf, List.head?_cons, Bool.and_true]
    rw [Bool.eq_iff_iff, beq_iff_eq, beq_iff_eq, Option.some.injEq]
    exact ⟨fun e => e.symm, fun e => e.symm⟩
theorem trim1 (s : By) : Lib.trimLeftB s 32 = trimL s := rfl
theorem head_len {s : By} {k : Nat} {c : UInt8} (h : (s.drop (k + 1)).head? = some c) : k + 2 ≤ s.length := by
  by_cases hk : k + 1 < s.length
  · omega
  · rw [List.drop_of_length_le (by omega)] at h; simp at h
theorem unq_size : ∀ (t acc : By) (i : Nat), ((unq t acc i).2.2 = true → i + 1 ≤ (unq t acc i).2.1) ∧ (unq t acc i).2.1 ≤ i + t.length
  | [], acc, i => by simp [unq]
  | [c], acc, i => by
    simp only [unq]
    split <;> simp
  | c :: d :: r, acc, i => by
    simp only [unq]
    split
    · simp
    · split
      · split
        · have := unq_size r (acc ++ [10]) (i + 2); simp; exact ⟨fun h => by have := this.1 h; omega, by omega⟩
        · split
          · have := unq_size r (acc ++ [d]) (i + 2); simp; exact ⟨fun h => by have := this.1 h; omega, by omega⟩
          · simp
      · have := unq_size (d :: r) (acc ++ [c]) (i + 1); simp at this ⊢; exact ⟨fun h => by have := this.1 h; omega, by omega⟩
theorem fieldL_size (s : By) : (fieldL s).2.1 ≤ s.length ∧ ((fieldL s).2.2 = true → s ≠ [] → s.head? ≠ some 32 → 1 ≤ (fieldL s).2.1) := by
  unfold fieldL
  have hw := tw_le (· != 32) s
  have hw1 : s ≠ [] → s.head? ≠ some 32 → 1 ≤ (s.takeWhile (· != 32)).length := by
    cases s with
    | nil => simp
    | cons c r => intro _ h; have h : c ≠ 32 := by simpa using h
                  simp [List.takeWhile_cons, h]
  generalize s.takeWhile (· != 32) = w at hw hw1
  simp only
  split
  · exact ⟨hw, fun _ a b => hw1 a b⟩
  · split
    · rename_i h
      have hk := head_len h
      have hu := unq_size (s.drop ((w.takeWhile (· != 61)).length + 2)) [] 0
      rw [List.length_drop] at hu
      split
      · simp
      · exact ⟨by simp only; omega, fun _ _ _ => by simp only; omega⟩
    · exact ⟨hw, fun _ a b => hw1 a b⟩
theorem trimL_head (s : By) : (trimL s).head? ≠ some 32 := by
  unfold trimL
  induction s with
  | nil => simp
  | cons c r ih =>
    rw [List.dropWhile_cons]
    split
    · exact ih
    · rename_i h; simpa using h
theorem trimL_le (s : By) : (trimL s).length ≤ s.length := by
  unfold trimL
  induction s with
  | nil => simp
  | cons c r ih =>
    rw [List.dropWhile_cons]
    split
    · simp; omega
    · exact Nat.le_refl _
theorem fieldsF_nil (f : Nat) : fieldsF f [] = [] := by cases f <;> simp [fieldsF]
end Go.Proofs.YtfdmdcpopmcmcaaGreatDoor
end

section
namespace Go.Proofs.YtfdmdcpopmcmcaaGreatDoor
open Go.Fw
variable [Gl]
theorem isGo42 : isGo Tryz.prog 42 = true := by kernel_rfl
theorem tzero5 : tzero Tryz.prog 5 = some [.int .u8 0] := by kernel_rfl
set_option maxRecDepth 20000
theorem appT66 : appT Tryz.prog 66 = true := by kernel_rfl
theorem appT9 : appT Tryz.prog 9 = true := by kernel_rfl
theorem el66 : ElemOk Tryz.prog 66 5 1 1 [.int .u8 0] := ⟨tslice66, tsz5, by kernel_rfl, tzero5, rfl, by decide, by decide⟩
theorem chk_nm (s : By) : (chkL [(s, [120])] == 0) = isNm s := by
  unfold chkL chkG chkG lateB
  cases isNm s <;> simp
theorem isNm_tri2 (s : By) : PTri Tryz.prog 92 [.str s] (.bool (isNm s)) := by
  refine PTri.any (Tri.of_wc Tryz.func92 rfl Tryz.results92 Tryz.ntmps92 (by simp) ?_)
  refine WC.seq_k fun K1 hK2 => ?_
  refine WC.region ?_
  refine wU (gE rfl ?_)
  refine wOps.done ?_
  refine hK2 _ _ _ ?_
  clear hK2 K1
  refine WC.seq_k fun K3 hK4 => ?_
  refine WC.region ?_
  refine wU (gE rfl ?_)
  refine wU (gBuild rfl rfl ?_)
  refine wU (gBuildSlice (cs := [.str s, .str [120]]) tslice22 tsz51 tzero51 rfl (by simp [evFill, putL, zcells, vcells]) (by decide) (by decide) fun b5 hb5 => ?_)
  have hm := Tri.lend (b := b5) (us := [.slice b5 0 1 1]) (T := 51) (cs := [.str s, .str [120]]) (nn := 2) (chk_tri [(s, [120])] (by simp)) (by simp [lsl, lcs, frzV]) rfl
  refine wU (gCall (by rfl) (@CallS.mono _ Tryz.prog 42 _ _ _ _ (@CallS.of_tri _ Tryz.prog 42 _ _ _ isGo42 hm) ?_))
  rintro v h1 ⟨rfl, rfl⟩
  refine wU (gE rfl ?_)
  refine wU (gE rfl ?_)
  refine wOps.done ?_
  refine hK4 _ _ _ ?_
  clear hK4 K3
  refine WC.ret ?_
  exact ⟨_, rfl, congrArg V.bool (chk_nm s)⟩
/-- Where reading stands: what is still to come. -/
def unqAt (s acc : By) (i : Nat) : By × Nat × Bool := unq (s.drop i) acc i
theorem unq_nil (s acc : By) {i : Nat} (h : s.length ≤ i) : unqAt s acc i = ([], 0, false) := by unfold unqAt; rw [List.drop_of_length_le h]; rfl
theorem unq_end {s : By} (acc : By) {i : Nat} (h : i < s.length) (hc : s[i] = 34) : unqAt s acc i = (acc, i + 1, true) := by
  unfold unqAt
  rw [List.drop_eq_getElem_cons h]
  cases s.drop (i + 1) <;> simp [unq, hc]
theorem unq_step {s : By} (acc : By) {i : Nat} (h : i < s.length) (hc : s[i] ≠ 34) (hc2 : s[i] ≠ 92) : unqAt s acc i = unqAt s (acc ++ [s[i]]) (i + 1) := by
  unfold unqAt
  rw [List.drop_eq_getElem_cons h]
  cases s.drop (i + 1) <;> simp [unq, hc, hc2]
theorem unq_cut {s : By} (acc : By) {i : Nat} (h : i < s.length) (hc2 : s[i] = 92) (h2 : s.length = i + 1) : unqAt s acc i = ([], 0, false) := by
  unfold unqAt
  rw [List.drop_eq_getElem_cons h, List.drop_of_length_le (by omega : s.length ≤ i + 1)]
  simp [unq, hc2]
theorem unq_esc {s : By} (acc : By) {i : Nat} (h : i < s.length) (hc2 : s[i] = 92) (h2 : i + 1 < s.length) : unqAt s acc i = if s[i + 1] = 110 then unqAt s (acc ++ [10]) (i + 2) else if s[i + 1] = 92 ∨ s[i + 1] = 34 then unqAt s (acc ++ [s[i + 1]]) (i + 2) else ([], 0, false) := by
  unfold unqAt
  rw [List.drop_eq_getElem_cons h, List.drop_eq_getElem_cons h2]
  simp [unq, hc2]
theorem u8_eq (c : UInt8) (k : Nat) (hk : k < 256) : ((c.toNat : Int) = k) ↔ c = UInt8.ofNat k := by
  constructor
  · intro h
    apply UInt8.toNat_inj.1
    rw [UInt8.toNat_ofNat']
    omega
  · rintro rfl
    rw [UInt8.toNat_ofNat']
    omega
theorem u8_34 {c : UInt8} : ((c.toNat : Int) = 34) ↔ c = 34 := u8_eq c 34 (by decide)
theorem u8_92 {c : UInt8} : ((c.toNat : Int) = 92) ↔ c = 92 := u8_eq c 92 (by decide)
theorem u8_110 {c : UInt8} : ((c.toNat : Int) = 110) ↔ c = 110 := u8_eq c 110 (by decide)
theorem u8_10 {c : UInt8} : ((c.toNat : Int) = 10) ↔ c = 10 := u8_eq c 10 (by decide)
theorem u8_32 {c : UInt8} : ((c.toNat : Int) = 32) ↔ c = 32 := u8_eq c 32 (by decide)
theorem unq_tri (s : By) (hs : s.length ≤ 4294967295) : PTri Tryz.prog 93 [.str s] (.tup [.str (unq s [] 0).1, .int .i64 (unq s [] 0).2.1, .bool (unq s [] 0).2.2]) := by
  have e0 : unq s [] 0 = unqAt s [] 0 := by unfold unqAt; simp
  rw [e0]
  refine PTri.any (Tri.of_wc Tryz.func93 rfl Tryz.results93 Tryz.ntmps93 (by simp) ?_)
  refine WC.seq_k fun K1 hK2 => ?_
  refine WC.region ?_
  refine wU (gE rfl ?_)
  refine wU (gE rfl ?_)
  refine wU (gE rfl ?_)
  refine wOps.done ?_
  refine hK2 _ _ _ ?_
  clear hK2 K1
  refine WC.seq_k fun K3 hK4 => ?_
  refine WC.region ?_
  refine wU (gE rfl ?_)
  refine wOps.done ?_
  refine hK4 _ _ _ ?_
  clear hK4 K3
  refine WC.seq_k fun K5 hK6 => ?_
  refine WC.seq_k fun K7 hK8 => ?_
  refine WC.region ?_
  refine wU (gE rfl ?_)
  refine wOps.done ?_
  refine hK8 _ _ _ ?_
  clear hK8 K7
  refine WC.block ?_
  refine WC.loopI (α := Nat × By × BS) (fun a => [(0, .str s), (5, bsV a.2.2 a.2.1), (6, .int .i64 a.1)]) (fun a => bsH 5 a.2.2 a.2.1) (fun a => s.length - a.1) (fun a => a.1 ≤ s.length ∧ a.2.1.length ≤ a.1 ∧ (a.2.2 = none → a.2.1 = []) ∧ unqAt s [] 0 = unqAt s a.2.1 a.1) (0, [], none) ?_ ?_ ?_ ?_
  · exact sub_cons rfl (sub_cons rfl (sub_cons rfl (sub_nil _)))
  · exact Ent.refl _ _
  · exact ⟨by simp, by simp, by simp, rfl⟩
  rintro ⟨i, acc, o⟩ ⟨his, hai, ho, hu⟩
  simp only at his hai ho hu ⊢
  refine WC.seq_k fun K9 hK10 => ?_
  refine WC.seq_k fun K11 hK12 => ?_
  refine WC.region ?_
  refine wU (gE rfl ?_)
  refine wU (gE rfl ?_)
  refine wU (gLen rfl rfl tisstr9 ?_)
  refine wU (gE rfl ?_)
  refine wOps.done ?_
  refine hK12 _ _ _ ?_
  clear hK12 K11
  refine WC.cond rfl (fun c13 => ?_) (fun c13 => ?_)
  · skip
    refine WC.skip ?_
    refine hK10 _ _ _ ?_
    clear hK10 K9
    refine WC.seq_k fun K14 hK15 => ?_
    refine WC.block ?_
    refine WC.seq_k fun K16 hK17 => ?_
    refine WC.region ?_
    refine wU (gE rfl ?_)
    refine wU (gE rfl ?_)
    have hi : i < s.length := by simpa using c13
    refine wU (gIdxStr tisstr9 rfl rfl (by omega) (str_at hi) ?_)
    refine wU (gE rfl ?_)
    refine wOps.done ?_
    refine hK17 _ _ _ ?_
    clear hK17 K16
    refine WC.seq_k fun K18 hK19 => ?_
    refine WC.seq_k fun K20 hK21 => ?_
    refine WC.region ?_
    refine wU (gE rfl ?_)
    refine wU (gE rfl ?_)
    refine wOps.done ?_
    refine hK21 _ _ _ ?_
    clear hK21 K20
    refine WC.cond rfl (fun c22 => ?_) (fun c22 => ?_)
    · skip
      refine WC.seq_k fun K23 hK24 => ?_
      refine WC.region ?_
      refine wU (gE rfl ?_)
      refine wU (gOfBs (s := o) (acc := acc) (hx := []) tslice66 tint5 tisstr9 rfl rfl (fun _ _ _ => by simp) ho ?_)
      refine wU (gE rfl ?_)
      refine wU (gE rfl ?_)
      refine wU (gE rfl ?_)
      refine wU (gE rfl ?_)
      refine wU (gE rfl ?_)
      refine wOps.done ?_
      refine hK24 _ _ _ ?_
      clear hK24 K23
      refine WC.ret ?_
      rw [hu, unq_end acc hi (by simpa [u8_34, u8_92, u8_110] using c22)]
      exact ⟨_, rfl, by rw [wrap64_fit (by omega) (by omega)]; rfl⟩
    · skip
      refine WC.skip ?_
      refine hK19 _ _ _ ?_
      clear hK19 K18
      refine WC.seq_cut (α := Nat × UInt8) (fun a => [(0, .str s), (5, bsV o acc), (6, .int .i64 a.1), (7, .int .u8 a.2.toNat)]) (fun _ => bsH 5 o acc) (fun a => i ≤ a.1 ∧ a.1 < s.length ∧ unqAt s [] 0 = unqAt s (acc ++ [a.2]) (a.1 + 1)) ?_ ?_
      · skip
        refine WC.seq_k fun K25 hK26 => ?_
        refine WC.region ?_
        refine wU (gE rfl ?_)
        refine wU (gE rfl ?_)
        refine wOps.done ?_
        refine hK26 _ _ _ ?_
        clear hK26 K25
        refine WC.cond rfl (fun c27 => ?_) (fun c27 => ?_)
        · skip
          refine WC.seq_k fun K28 hK29 => ?_
          refine WC.region ?_
          refine wU (gE rfl ?_)
          refine wU (gE (v := .int .i64 ((i + 1 : Nat) : Int)) (int_fit (by omega) (by omega) (by omega)) ?_)
          refine wU (gE rfl ?_)
          refine wOps.done ?_
          refine hK29 _ _ _ ?_
          clear hK29 K28
          refine WC.seq_k fun K30 hK31 => ?_
          refine WC.seq_k fun K32 hK33 => ?_
          refine WC.region ?_
          refine wU (gE rfl ?_)
          refine wU (gE rfl ?_)
          refine wU (gLen rfl rfl tisstr9 ?_)
          refine wU (gE rfl ?_)
          refine wOps.done ?_
          refine hK33 _ _ _ ?_
          clear hK33 K32
          refine WC.cond rfl (fun c34 => ?_) (fun c34 => ?_)
          · skip
            refine WC.seq_k fun K35 hK36 => ?_
            refine WC.region ?_
            refine wU (gE rfl ?_)
            refine wU (gE rfl ?_)
            refine wU (gE rfl ?_)
            refine wOps.done ?_
            refine hK36 _ _ _ ?_
            clear hK36 K35
            refine WC.ret ?_
            rw [hu, unq_cut acc hi (by simpa [u8_34, u8_92, u8_110] using c27) (by have := of_decide_eq_true c34; omega)]
            exact ⟨_, rfl, rfl⟩
          · skip
            refine WC.skip ?_
            refine hK31 _ _ _ ?_
            clear hK31 K30
            refine WC.seq_k fun K37 hK38 => ?_
            refine WC.region ?_
            refine wU (gE rfl ?_)
            refine wU (gE rfl ?_)
            have hi2 : i + 1 < s.length := by have := of_decide_eq_false c34; omega
            refine wU (gIdxStr tisstr9 rfl rfl (by omega) (str_at hi2) ?_)
            refine wU (gE rfl ?_)
            refine wOps.done ?_
            refine hK38 _ _ _ ?_
            clear hK38 K37
            refine WC.seq_k fun K39 hK40 => ?_
            refine WC.region ?_
            refine wU (gE rfl ?_)
            refine wOps.done ?_
            refine hK40 _ _ _ ?_
            clear hK40 K39
            refine WC.block ?_
            refine WC.seq_k fun K41 hK42 => ?_
            refine WC.region ?_
            refine wU (gE rfl ?_)
            refine wU (gE rfl ?_)
            refine wOps.done ?_
            refine hK42 _ _ _ ?_
            clear hK42 K41
            refine WC.cond rfl (fun c43 => ?_) (fun c43 => ?_)
            · skip
              refine WC.region ?_
              refine wU (gE rfl ?_)
              refine wOps.done ?_
              exact ⟨(i + 1, 10), rfl, ⟨by simp, hi2, by rw [hu, unq_esc acc hi (by simpa [u8_34, u8_92, u8_110] using c27) hi2, if_pos (by simpa [u8_34, u8_92, u8_110] using c43)]⟩, Ent.sub (sub_cons rfl (sub_cons rfl (sub_cons rfl (sub_cons rfl (sub_nil _)))))⟩
            · skip
              refine WC.seq_k fun K44 hK45 => ?_
              refine WC.seq_k fun K46 hK47 => ?_
              refine WC.region ?_
              refine wU (gE rfl ?_)
              refine wU (gE rfl ?_)
              refine wOps.done ?_
              refine hK47 _ _ _ ?_
              clear hK47 K46
              refine WC.cond rfl (fun c48 => ?_) (fun c48 => ?_)
              · skip
                refine WC.skip ?_
                refine hK45 _ _ _ ?_
                clear hK45 K44
                first | refine WC.cond (b := true) rfl (fun _ => ?_) (fun hh => by simp at hh) | refine WC.cond rfl (fun _ => ?_) (fun hh => by simp_all)
                refine WC.skip ?_
                exact ⟨(i + 1, s[i + 1]), rfl, ⟨by simp, hi2, by rw [hu, unq_esc acc hi (by simpa [u8_34, u8_92, u8_110] using c27) hi2, if_neg (by intro e; simp [e] at c43), if_pos (by simp_all [u8_34, u8_92, u8_110])]⟩, Ent.sub (sub_cons rfl (sub_cons rfl (sub_cons rfl (sub_cons rfl (sub_nil _)))))⟩
              · skip
                refine WC.region ?_
                refine wU (gE rfl ?_)
                refine wU (gE rfl ?_)
                refine wOps.done ?_
                refine hK45 _ _ _ ?_
                clear hK45 K44
                refine WC.cond rfl (fun c49 => ?_) (fun c49 => ?_)
                · skip
                  refine WC.skip ?_
                  exact ⟨(i + 1, s[i + 1]), rfl, ⟨by simp, hi2, by rw [hu, unq_esc acc hi (by simpa [u8_34, u8_92, u8_110] using c27) hi2, if_neg (by intro e; simp [e] at c43), if_pos (by simp_all [u8_34, u8_92, u8_110])]⟩, Ent.sub (sub_cons rfl (sub_cons rfl (sub_cons rfl (sub_cons rfl (sub_nil _)))))⟩
                · skip
                  refine WC.seq_k fun K50 hK51 => ?_
                  refine WC.region ?_
                  refine wU (gE rfl ?_)
                  refine wU (gE rfl ?_)
                  refine wU (gE rfl ?_)
                  refine wOps.done ?_
                  refine hK51 _ _ _ ?_
                  clear hK51 K50
                  refine WC.ret ?_
                  rw [hu, unq_esc acc hi (by simpa [u8_34, u8_92, u8_110] using c27) hi2, if_neg (by intro e; simp [e] at c43), if_neg (by rintro (e | e) <;> simp [e] at *)]
                  exact ⟨_, rfl, rfl⟩
        · skip
          refine WC.skip ?_
          exact ⟨(i, s[i]), rfl, ⟨Nat.le_refl _, hi, by rw [hu, unq_step acc hi (by intro e; simp [e] at c22) (by intro e; simp [e] at c27)]⟩, Ent.sub (sub_cons rfl (sub_cons rfl (sub_cons rfl (sub_cons rfl (sub_nil _)))))⟩
      clear hu
      rintro ⟨j, c⟩ ⟨hij, hj, hu⟩
      simp only at hij hj hu ⊢
      refine WC.region ?_
      refine wU (gE rfl ?_)
      refine wU (gE rfl ?_)
      refine wU (gBuildSlice (cs := [.int .u8 c.toNat]) tslice66 tsz5 tzero5 rfl (by simp [evFill, putL, zcells, vcells]) (by decide) (by decide) fun b52 hb52 => ?_)
      refine wU (gOp (OpS.appBs (s := o) (acc := acc) (bs := [c]) (hx := [(b52, .cells 5 [.int .u8 c.toNat] 1)]) ⟨rfl⟩ el66 appT66 rfl rfl rfl (fun q N e => by subst e; simp [bsH] at hb52; simp; exact fun e => hb52 e.symm) ho (by simp [evSrc, hget, byteCells]) (by simp only [List.length_cons, List.length_nil]; omega) fun o2 ho2 ho3 => ?_) rfl)
      refine wU (gE rfl ?_)
      refine wOps.done ?_
      refine hK15 _ _ _ ?_
      clear hK15 K14
      refine WC.region ?_
      refine wU (gE rfl ?_)
      refine wU (gE rfl ?_)
      refine wU (gE rfl ?_)
      refine wOps.done ?_
      exact ⟨(j + 1, acc ++ [c], o2), rfl, by simp only; omega, ⟨by simp only; omega, by simp; omega, ho3, hu⟩, (Ent.sub (sub_cons rfl (sub_cons rfl (sub_cons (int_fit (by omega) (by omega) (by omega)) (sub_nil _))))).trans (Ent.drop (List.sublist_append_left _ _))⟩
  · skip
    refine WC.exit ?_
    refine hK6 _ _ _ ?_
    clear hK10 K9 hK6 K5
    refine WC.seq_k fun K53 hK54 => ?_
    refine WC.region ?_
    refine wU (gE rfl ?_)
    refine wU (gE rfl ?_)
    refine wU (gE rfl ?_)
    refine wOps.done ?_
    refine hK54 _ _ _ ?_
    clear hK54 K53
    refine WC.ret ?_
    rw [hu, unq_nil s acc (by have := of_decide_eq_false c13; omega)]
    exact ⟨_, rfl, rfl⟩
end Go.Proofs.YtfdmdcpopmcmcaaGreatDoor
end
